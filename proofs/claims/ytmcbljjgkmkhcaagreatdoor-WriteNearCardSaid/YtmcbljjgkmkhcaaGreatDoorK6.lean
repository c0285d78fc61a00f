import Derived.Test.YtmcbljjgkmkhcaaGreatDoorK5
set_option linter.unusedSimpArgs false
set_option linter.unusedVariables false
namespace Go.Proofs.YtmcbljjgkmkhcaaGreatDoor
open Go.RowKit Ax
noncomputable def tr_padd (x:Els [(false,.sl (.int .u32)),(false,.sl (.int .u32))]):T Av:=
 .need (True) (.need ((0:El (Cd.int .i64))≤(0:Int)∧(0:Int)≤(↑(Max.max (List.length (x.1)) (List.length x.2.1)):El (Cd.int .i64))+(1:El (Cd.int .i64))∧((0:El (Cd.int .u64))<(0:Int)→(0:Int)≤(↑(Max.max (List.length (x.1)) (List.length x.2.1)):El (Cd.int .i64)))∧List.length (x.1)≤(1000000:Nat)∧List.length x.2.1≤(1000000:Nat)∧Words (x.1)∧Words x.2.1∧(0:El (Cd.int .u64))≤(0:Int)∧(0:Int)<(4294967296:El (Cd.int .u64))) (.need ((0:Int)=(0:El (Cd.int .i64))) (.ite (decide (adW (List.drop (Int.toNat (0:Int)) (x.1)) (List.drop (Int.toNat (0:Int)) x.2.1) (0:Int)=[]))
     (.need (lenOk (List.length ([]:List Int))) (.ret (.one (.ds (Cd.int .u32) (trimmed [])))))
     (.up ((0:Nat)) (fun v0 =>
      .need (List.length (adW (List.drop (Int.toNat (0:Int)) (x.1)) (List.drop (Int.toNat (0:Int)) x.2.1) (0:Int))≤List.length (adW (List.drop (Int.toNat (0:Int)) (x.1)) (List.drop (Int.toNat (0:Int)) x.2.1) (0:Int))) (.need (lenOk (List.length (List.take (List.length (adW (List.drop (Int.toNat (0:Int)) (x.1)) (List.drop (Int.toNat (0:Int)) x.2.1) (0:Int))) (adW (List.drop (Int.toNat (0:Int)) (x.1)) (List.drop (Int.toNat (0:Int)) x.2.1) (0:Int))))) (.ret (.one (.ds (Cd.int .u32) (trimmed (List.take (List.length (adW (List.drop (Int.toNat (0:Int)) (x.1)) (List.drop (Int.toNat (0:Int)) x.2.1) (0:Int))) (adW (List.drop (Int.toNat (0:Int)) (x.1)) (List.drop (Int.toNat (0:Int)) x.2.1) (0:Int)))))))))))))
theorem tr_padd_eq (x:Els [(false,.sl (.int .u32)),(false,.sl (.int .u32))]):fnP E25a lpAdd Tryz.f132 (encs [(false,.sl (.int .u32)),(false,.sl (.int .u32))] x)=tr_padd x:=by kernel_rfl
noncomputable def tr_psub (x:Els [(false,.sl (.int .u32)),(false,.sl (.int .u32))]):T Av:=
 .need (True) (.need ((0:El (Cd.int .i64))≤(0:Int)∧(0:Int)≤(↑(List.length (x.1)):Int)∧List.length (x.1)≤(1000000:Nat)∧List.length x.2.1≤(1000000:Nat)∧Words (x.1)∧Words x.2.1∧((0:Int)=(0:El (Cd.int .i64))∨(0:Int)=(1:El (Cd.int .i64)))) (.need ((0:Int)=(0:El (Cd.int .i64))) (.ite (decide (sbW (List.drop (Int.toNat (0:Int)) (x.1)) (List.drop (Int.toNat (0:Int)) x.2.1) (0:Int)=[]))
     (.need (lenOk (List.length ([]:List Int))) (.ret (.one (.ds (Cd.int .u32) (trimmed [])))))
     (.up ((0:Nat)) (fun v0 =>
      .need (List.length (sbW (List.drop (Int.toNat (0:Int)) (x.1)) (List.drop (Int.toNat (0:Int)) x.2.1) (0:Int))≤List.length (sbW (List.drop (Int.toNat (0:Int)) (x.1)) (List.drop (Int.toNat (0:Int)) x.2.1) (0:Int))) (.need (lenOk (List.length (List.take (List.length (sbW (List.drop (Int.toNat (0:Int)) (x.1)) (List.drop (Int.toNat (0:Int)) x.2.1) (0:Int))) (sbW (List.drop (Int.toNat (0:Int)) (x.1)) (List.drop (Int.toNat (0:Int)) x.2.1) (0:Int))))) (.ret (.one (.ds (Cd.int .u32) (trimmed (List.take (List.length (sbW (List.drop (Int.toNat (0:Int)) (x.1)) (List.drop (Int.toNat (0:Int)) x.2.1) (0:Int))) (sbW (List.drop (Int.toNat (0:Int)) (x.1)) (List.drop (Int.toNat (0:Int)) x.2.1) (0:Int)))))))))))))
theorem tr_psub_eq (x:Els [(false,.sl (.int .u32)),(false,.sl (.int .u32))]):fnP E25s lpSub Tryz.f133 (encs [(false,.sl (.int .u32)),(false,.sl (.int .u32))] x)=tr_psub x:=by kernel_rfl
noncomputable def tr_pcmp (x:Els [(false,.sl (.int .u32)),(false,.sl (.int .u32))]):T Av:=
 .ite ((↑(List.length (x.1)):Int) != (↑(List.length x.2.1):Int))
  (.ite (decide ((↑(List.length (x.1)):Int)<(↑(List.length x.2.1):Int)))
   (.ret (.one (.v (.int .i64 ((-1:Int))))))
   (.ret (.one (.v (.int .i64 ((1:Int)))))))
  (.need ((-1:El (Cd.int .i64))≤IntKind.wrap .i64 ((↑(List.length (x.1)):Int)-(1:Int))∧IntKind.wrap .i64 ((↑(List.length (x.1)):Int)-(1:Int))<(↑(List.length (x.1)):Int)∧IntKind.wrap .i64 ((↑(List.length (x.1)):Int)-(1:Int))<(↑(List.length x.2.1):Int)∧List.length (x.1)≤(1000000:Nat)) (.ite (decide (cmW (x.1) x.2.1 (Int.toNat (IntKind.wrap .i64 ((↑(List.length (x.1)):Int)-(1:Int))+(1:El (Cd.int .i64))))=(0:Int)))
    (.ret (.one (.v (.int .i64 ((0:Int))))))
    (.ret (.one (.v (.int .i64 (cmW (x.1) x.2.1 (Int.toNat (IntKind.wrap .i64 ((↑(List.length (x.1)):Int)-(1:Int))+(1:El (Cd.int .i64)))))))))))
theorem tr_pcmp_eq (x:Els [(false,.sl (.int .u32)),(false,.sl (.int .u32))]):fnP E25 lpCmp Tryz.f86 (encs [(false,.sl (.int .u32)),(false,.sl (.int .u32))] x)=tr_pcmp x:=by kernel_rfl
noncomputable def tr_pbits (x:Els [(false,.sl (.int .u32))]):T Av:=
 .ite ((↑(List.length (x.1)):Int)==(0:Int))
  (.ret (.one (.v (.int .i64 ((0:Int))))))
  (.get (x.1) (IntKind.wrap .i64 ((↑(List.length (x.1)):Int)-(1:Int))) (fun v0 =>
   .need ((0:El (Cd.int .i64))≤IntKind.wrap .i64 ((32:Int)*IntKind.wrap .i64 ((↑(List.length (x.1)):Int)-(1:Int)))∧IntKind.wrap .i64 ((32:Int)*IntKind.wrap .i64 ((↑(List.length (x.1)):Int)-(1:Int)))+(↑(Pq.bitn (Int.toNat v0)):El (Cd.int .i64))≤(1000000000:El (Cd.int .i64))∧(0:El (Cd.int .u32))≤v0) (.ret (.one (.v (.int .i64 (IntKind.wrap .i64 ((32:Int)*IntKind.wrap .i64 ((↑(List.length (x.1)):Int)-(1:Int)))+(↑(Pq.bitn (Int.toNat v0)):Int))))))))
theorem tr_pbits_eq (x:Els [(false,.sl (.int .u32))]):fnP E25 lpBits Tryz.f114 (encs [(false,.sl (.int .u32))] x)=tr_pbits x:=by kernel_rfl
noncomputable def tr_pshl (x:Els [(false,.sl (.int .u32)),(false,.int .i64)]):T Av:=
 .ite ((↑(List.length (x.1)):Int)==(0:Int))
  (.ret (.one (.v (Go.Value.slice Option.none (0:Nat) (0:Nat)))))
  (.need ((32:Int)≠(0:Int)) (.need ((0:Int)≤IntKind.wrap .i64 (IntKind.wrap .i64 ((↑(List.length (x.1)):Int)+IntKind.wrap .i64 (Int.tdiv x.2.1 (32:Int)))+(1:Int))∧IntKind.wrap .i64 (IntKind.wrap .i64 ((↑(List.length (x.1)):Int)+IntKind.wrap .i64 (Int.tdiv x.2.1 (32:Int)))+(1:Int))=IntKind.wrap .i64 (IntKind.wrap .i64 ((↑(List.length (x.1)):Int)+IntKind.wrap .i64 (Int.tdiv x.2.1 (32:Int)))+(1:Int))∧(nat_lit 3+(1:Nat))*Int.toNat (IntKind.wrap .i64 (IntKind.wrap .i64 ((↑(List.length (x.1)):Int)+IntKind.wrap .i64 (Int.tdiv x.2.1 (32:Int)))+(1:Int)))≤(281474976710656:Nat)∧Int.toNat (IntKind.wrap .i64 (IntKind.wrap .i64 ((↑(List.length (x.1)):Int)+IntKind.wrap .i64 (Int.tdiv x.2.1 (32:Int)))+(1:Int)))≤Go.maxLen) (.need (Int.toNat (IntKind.wrap .i64 (IntKind.wrap .i64 ((↑(List.length (x.1)):Int)+IntKind.wrap .i64 (Int.tdiv x.2.1 (32:Int)))+(1:Int)))=List.length (List.replicate (Int.toNat (IntKind.wrap .i64 (IntKind.wrap .i64 ((↑(List.length (x.1)):Int)+IntKind.wrap .i64 (Int.tdiv x.2.1 (32:Int)))+(1:Int)))) (0:Int))∧Int.toNat (IntKind.wrap .i64 (IntKind.wrap .i64 ((↑(List.length (x.1)):Int)+IntKind.wrap .i64 (Int.tdiv x.2.1 (32:Int)))+(1:Int)))=Int.toNat (IntKind.wrap .i64 (IntKind.wrap .i64 ((↑(List.length (x.1)):Int)+IntKind.wrap .i64 (Int.tdiv x.2.1 (32:Int)))+(1:Int)))) (.need ((0:El (Cd.int .i64))≤(0:Int)∧(0:Int)≤(↑(List.length (x.1)):Int)∧List.length (x.1)≤(1000000:Nat)∧(0:El (Cd.int .i64))≤x.2.1∧x.2.1≤(100000000:El (Cd.int .i64))∧Words (x.1)∧List.replicate (Int.toNat (IntKind.wrap .i64 (IntKind.wrap .i64 ((↑(List.length (x.1)):Int)+IntKind.wrap .i64 (Int.tdiv x.2.1 (32:Int)))+(1:Int)))) (0:Int)=rw' (List.length (x.1)+Int.toNat x.2.1/(32:Nat)+(1:Nat)) (valL (List.take (Int.toNat (0:Int)) (x.1))*(2:Nat)^(Int.toNat x.2.1%(32:Nat))*Pq.bp (Int.toNat x.2.1/(32:Nat)))) (.need (List.length (rw' (List.length (x.1)+Int.toNat x.2.1/(32:Nat)+(1:Nat)) (valL (x.1)*(2:Nat)^(Int.toNat x.2.1%(32:Nat))*Pq.bp (Int.toNat x.2.1/(32:Nat))))≤List.length (rw' (List.length (x.1)+Int.toNat x.2.1/(32:Nat)+(1:Nat)) (valL (x.1)*(2:Nat)^(Int.toNat x.2.1%(32:Nat))*Pq.bp (Int.toNat x.2.1/(32:Nat))))) (.need (lenOk (List.length (List.take (List.length (rw' (List.length (x.1)+Int.toNat x.2.1/(32:Nat)+(1:Nat)) (valL (x.1)*(2:Nat)^(Int.toNat x.2.1%(32:Nat))*Pq.bp (Int.toNat x.2.1/(32:Nat))))) (rw' (List.length (x.1)+Int.toNat x.2.1/(32:Nat)+(1:Nat)) (valL (x.1)*(2:Nat)^(Int.toNat x.2.1%(32:Nat))*Pq.bp (Int.toNat x.2.1/(32:Nat))))))) (.ret (.one (.ds (Cd.int .u32) (trimmed (List.take (List.length (rw' (List.length (x.1)+Int.toNat x.2.1/(32:Nat)+(1:Nat)) (valL (x.1)*(2:Nat)^(Int.toNat x.2.1%(32:Nat))*Pq.bp (Int.toNat x.2.1/(32:Nat))))) (rw' (List.length (x.1)+Int.toNat x.2.1/(32:Nat)+(1:Nat)) (valL (x.1)*(2:Nat)^(Int.toNat x.2.1%(32:Nat))*Pq.bp (Int.toNat x.2.1/(32:Nat)))))))))))))))
theorem tr_pshl_eq (x:Els [(false,.sl (.int .u32)),(false,.int .i64)]):fnP E25h lpShl Tryz.f153 (encs [(false,.sl (.int .u32)),(false,.int .i64)] x)=tr_pshl x:=by kernel_rfl
noncomputable def tr_pcommon (x:Els [(false,.int .i64),(false,.int .i64)]):T Av:=
 .lt (if IntKind.wrap .i64 ((0:Int)-x.1)>x.1 then IntKind.wrap .i64 ((0:Int)-x.1) else x.1) (fun v0 =>
  .lt (if IntKind.wrap .i64 ((0:Int)-x.2.1)>x.2.1 then IntKind.wrap .i64 ((0:Int)-x.2.1) else x.2.1) (fun v1 =>
   .need ((0:El (Cd.int .i64))≤v0∧(0:El (Cd.int .i64))≤v1) (.ret (.one (.v (.int .i64 ((↑(Nat.gcd (Int.toNat v0) (Int.toNat v1)):Int))))))))
theorem tr_pcommon_eq (x:Els [(false,.int .i64),(false,.int .i64)]):fnP E25 lpComm Tryz.f131 (encs [(false,.int .i64),(false,.int .i64)] x)=tr_pcommon x:=by kernel_rfl
noncomputable def con_padd:Con Tryz.prog:=⟨132,[],_,cf_padd,val_con (E:=E25a) (L:=lpAdd) mixed Tryz.func132 (many_loops (by kernel_rfl) (by simp) (fun i p hp=>by
    match i,hp with
    | 0,hp=>cases hp;exact paddL_ok
    | i+1,hp=>simp at hp)) [(false,.sl (.int .u32)),(false,.sl (.int .u32))] (fun x=>List.length x.1≤1000000∧List.length x.2.1≤1000000∧Words x.1∧Words x.2.1) (fun x=>.one (.ds (.int .u32) (mg (valL x.1+valL x.2.1)))) fun x hx=>by
  rw[tr_padd_eq]
  obtain ⟨a,b,u⟩:=x
  revert a b
  intro (a:List Int) (b:List Int) (hx:a.length≤1000000∧b.length≤1000000∧Words a∧Words b)
  obtain ⟨l1,l2,wa,wb⟩:=hx
  unfold tr_padd
  simp only[T.wp]
  dsimp only [El]
  obtain ⟨h1,h2,h3⟩:=adW_spec a b 0 wa wb (by omega) (by omega)
  simp only[Int.toNat_zero,List.drop_zero,List.take_length]
  have e:valL (adW a b 0)=valL a+valL b:=by omega
  refine ⟨trivial,⟨by omega,by omega,by omega,l1,l2,wa,wb,by omega,by omega⟩,trivial,fun hz=>⟨by unfold lenOk;simp,?_⟩,fun _ k _=>⟨Nat.le_refl _,by unfold lenOk;omega,?_⟩⟩
  · have hz:=of_decide_eq_true hz
    rw[hz]at e
    rw[←e,val_nil,mg_zero];rfl
  · rw[trimmed_mg h1,e]⟩
noncomputable def con_psub:Con Tryz.prog:=⟨133,[],_,cf_psub,val_con (E:=E25s) (L:=lpSub) mixed Tryz.func133 (many_loops (by kernel_rfl) (by simp) (fun i p hp=>by
    match i,hp with
    | 0,hp=>cases hp;exact psubL_ok
    | i+1,hp=>simp at hp)) [(false,.sl (.int .u32)),(false,.sl (.int .u32))] (fun x=>(x.1:List Int)=mg (valL x.1)∧(x.2.1:List Int)=mg (valL x.2.1)∧List.length x.1≤1000000∧valL x.2.1≤valL x.1) (fun x=>.one (.ds (.int .u32) (mg (valL x.1-valL x.2.1)))) fun x hx=>by
  rw[tr_psub_eq]
  obtain ⟨a,b,u⟩:=x
  revert a b
  intro (a:List Int) (b:List Int) (hx:a=mg (valL a)∧b=mg (valL b)∧a.length≤1000000∧valL b≤valL a)
  obtain ⟨ma,mb,l1,hle⟩:=hx
  have wa:Words a:=by rw[ma];exact mg_words _
  have wb:Words b:=by rw[mb];exact mg_words _
  have l2:b.length≤a.length:=by
    have h:=mg_len.1 (Nat.lt_of_le_of_lt hle (val_words wa))
    rw[←mb]at h
    exact h
  unfold tr_psub
  simp only[T.wp]
  dsimp only [El]
  obtain ⟨h1,h2,-⟩:=sbW_spec a b 0 wa wb (.inl rfl) l2
  have e:=sbW_val wa wb l2 hle
  simp only[Int.toNat_zero,List.drop_zero,List.take_length]
  refine ⟨trivial,⟨by omega,by omega,l1,by omega,wa,wb,by simp⟩,trivial,fun hz=>⟨by unfold lenOk;simp,?_⟩,fun _ k _=>⟨Nat.le_refl _,by unfold lenOk;omega,?_⟩⟩
  · have hz:=of_decide_eq_true hz
    rw[hz]at e
    rw[←e,val_nil,mg_zero];rfl
  · rw[trimmed_mg h1,e]⟩
theorem mg_lt_len {a b:Nat} (h:(mg a).length<(mg b).length):a<b:=by
  have h1:a<Pq.bp (mg a).length:=mg_len.2 (Nat.le_refl _)
  have h2:¬ b<Pq.bp (mg a).length:=fun h'=>by have:=mg_len.1 h';omega
  omega
noncomputable def con_pcmp:Con Tryz.prog:=⟨86,[],_,cf_pcmp,val_con (E:=E25) (L:=lpCmp) mixed Tryz.func86 (one_loop pcmpL_ok (by kernel_rfl)) [(false,.sl (.int .u32)),(false,.sl (.int .u32))] (fun x=>(x.1:List Int)=mg (valL x.1)∧(x.2.1:List Int)=mg (valL x.2.1)∧List.length x.1≤1000000∧List.length x.2.1≤1000000) (fun x=>aI .i64 (Pq.cz (valL x.1) (valL x.2.1))) fun x hx=>by
  rw[tr_pcmp_eq]
  obtain ⟨a,b,u⟩:=x
  revert a b
  intro (a:List Int) (b:List Int) (hx:a=mg (valL a)∧b=mg (valL b)∧a.length≤1000000∧b.length≤1000000)
  obtain ⟨ma,mb,l1,l2⟩:=hx
  have wa:Words a:=by rw[ma];exact mg_words _
  have wb:Words b:=by rw[mb];exact mg_words _
  unfold tr_pcmp
  simp only[T.wp]
  dsimp only [El]
  have e1:IntKind.i64.wrap ((a.length:Int)-1)=(a.length:Int)-1:=IntWalk.i64_in _ (by omega)
  rw[e1,show ((a.length:Int)-1+1).toNat=a.length by omega]
  have hab:a.length<b.length→valL a<valL b:=fun h=>mg_lt_len (by rw[←ma,←mb];exact h)
  have hba:b.length<a.length→valL b<valL a:=fun h=>mg_lt_len (by rw[←ma,←mb];exact h)
  refine ⟨fun hne=>⟨fun hlt=>?_,fun hge=>?_⟩,fun heq=>?_⟩
  · have hlt:=of_decide_eq_true hlt
    rw[Pq.cz_lt (by have:=hab (by omega);omega)];rfl
  · have hge:=of_decide_eq_false hge
    have hne:(a.length:Int)≠b.length:=by simpa using hne
    rw[Pq.cz_gt (by have:=hba (by omega);omega)];rfl
  · have heq : a.length = b.length := by have h : (a.length : Int) = b.length := by simpa using heq
                                         omega
    have hs:=cmW_spec wa wb a.length (Nat.le_refl _) (by omega)
    rw[List.take_length,show b.take a.length=b by rw[heq,List.take_length]]at hs
    rw[hs]
    refine ⟨⟨by omega,by omega,by omega,l1⟩,fun hz=>?_,fun _=>rfl⟩
    rw[of_decide_eq_true hz];rfl⟩
noncomputable def con_pbits:Con Tryz.prog:=⟨114,[],_,cf_pbits,val_con (E:=E25) (L:=lpBits) mixed Tryz.func114 (one_loop pbitsL_ok (by kernel_rfl)) [(false,.sl (.int .u32))] (fun x=>(x.1:List Int)=mg (valL x.1)∧List.length x.1≤1000000) (fun x=>aI .i64 (Pq.bitn (valL x.1))) fun x hx=>by
  rw[tr_pbits_eq]
  obtain ⟨a,u⟩:=x
  revert a
  intro (a:List Int) (hx:a=mg (valL a)∧a.length≤1000000)
  obtain ⟨ma,l1⟩:=hx
  have wa:Words a:=by rw[ma];exact mg_words _
  unfold tr_pbits
  simp only[T.wp]
  dsimp only [El]
  refine ⟨fun h0=>?_,fun h0=>?_⟩
  · have h0:a=[]:=List.length_eq_zero_iff.1 (by simpa using h0)
    subst h0;rfl
  · have h0:a.length≠0:=by simpa using h0
    have e1:IntKind.i64.wrap ((a.length:Int)-1)=(a.length:Int)-1:=IntWalk.i64_in _ (by omega)
    have e2:IntKind.i64.wrap (32*((a.length:Int)-1))=32*((a.length:Int)-1):=IntWalk.i64_in _ (by omega)
    obtain ⟨u,hu⟩:=elem_at (l:=a) (i:=(a.length:Int)-1) (by omega) (by omega)
    obtain ⟨u0,u1⟩:=wa u (List.mem_of_getElem? hu)
    have eu:a.getD (a.length-1) 0=u:=by rw[List.getD_eq_getElem?_getD,show a.length-1=((a.length:Int)-1).toNat by omega,hu];rfl
    have et:=take_val (a:=a) (n:=a.length-1) (by omega)
    rw[show a.length-1+1=a.length by omega,List.take_length,eu]at et
    have hV:=val_words (take_words wa (a.length-1))
    rw[List.length_take,Nat.min_eq_left (by omega)]at hV
    have hu0:u.toNat≠0:=fun hz=>by
      rw[hz,Nat.mul_zero,Nat.add_zero]at et
      rw[←et]at hV
      have:=mg_len.1 hV
      rw[←ma]at this
      omega
    have eb:Pq.bitn (valL a)=32*(a.length-1)+Pq.bitn u.toNat:=by
      rw[et,bp_pow]
      rw[bp_pow]at hV
      exact bitn_add hV hu0
    have hb:Pq.bitn u.toNat≤32:=Pq.bitn_le.2 (by show u.toNat<4294967296;omega)
    rw[e1,e2]
    refine ⟨u,by omega,hu,⟨by omega,by omega,u0⟩,?_⟩
    rw[eb,show ((32*(a.length-1)+Pq.bitn u.toNat:Nat):Int)=32*((a.length:Int)-1)+Pq.bitn u.toNat by omega];rfl⟩
noncomputable def con_pshl:Con Tryz.prog:=⟨153,[],_,cf_pshl,val_con (E:=E25h) (L:=lpShl) mixed Tryz.func153 (many_loops (by kernel_rfl) (by simp) (fun i p hp=>by
    match i,hp with
    | 0,hp=>cases hp;exact pshlL_ok
    | i+1,hp=>simp at hp)) [(false,.sl (.int .u32)),(false,.int .i64)] (fun x=>Words x.1∧0<List.length x.1∧List.length x.1≤1000000∧0≤x.2.1∧x.2.1≤100000000) (fun x=>.one (.ds (.int .u32) (mg (valL x.1*2^x.2.1.toNat)))) fun x hx=>by
  rw[tr_pshl_eq]
  obtain ⟨a,n,u⟩:=x
  revert a n
  intro (a:List Int) (n:Int) (hx:Words a∧0<a.length∧a.length≤1000000∧0≤n∧n≤100000000)
  obtain ⟨wa,l0,l1,n0,n1⟩:=hx
  unfold tr_pshl
  simp only[T.wp]
  dsimp only [El]
  have e1:IntKind.i64.wrap (IntKind.i64.wrap ((a.length:Int)+IntKind.i64.wrap (Int.tdiv n 32))+1)=((a.length+n.toNat/32+1:Nat):Int):=by
    rw[Int.tdiv_eq_ediv_of_nonneg n0,IntWalk.i64_in (n/32) (by omega),IntWalk.i64_in ((a.length:Int)+n/32) (by omega),IntWalk.i64_in _ (by omega)];omega
  have etk : ∀ Q,List.take (a.length+n.toNat/32+1) (rw' (a.length+n.toNat/32+1) Q)=rw' (a.length+n.toNat/32+1) Q:=fun Q=>List.take_of_length_le (by rw[rw_len];exact Nat.le_refl _)
  simp only[e1,Int.toNat_natCast,List.length_replicate,Int.toNat_zero,List.take_zero,rw_len,etk]
  have ev:valL a*2^(n.toNat%32)*Pq.bp (n.toNat/32)=valL a*2^n.toNat:=by
    rw[bp_pow,Nat.mul_assoc,←Nat.pow_add,show n.toNat%32+32*(n.toNat/32)=n.toNat by omega]
  have hb:valL a*2^n.toNat<Pq.bp (a.length+n.toNat/32+1):=by
    have h1:=val_words wa
    rw[←ev]
    have h2:=(shl_lt (i:=a.length) (k:=n.toNat/32) (s:=n.toNat%32) h1 (by omega)).2
    exact h2
  rw[show valL []=0 from rfl,Nat.zero_mul,Nat.zero_mul,rw_zero,ev]
  refine ⟨fun h=>by simp at h;subst h;simp at l0,fun _=>⟨by decide,⟨by omega,trivial,by omega,by unfold Go.maxLen;omega⟩,⟨trivial,trivial⟩,⟨by omega,by omega,l1,n0,n1,wa,rfl⟩,Nat.le_refl _,by unfold lenOk;omega,?_⟩⟩
  rw[trimmed_mg (rw_words _ _),rw_val hb]⟩
noncomputable def con_pcommon:Con Tryz.prog:=⟨131,[],_,cf_pcommon,val_con (E:=E25) (L:=lpComm) mixed Tryz.func131 (one_loop pcommL_ok (by kernel_rfl)) [(false,.int .i64),(false,.int .i64)] (fun x => -9223372036854775808<x.1∧x.1<9223372036854775808 ∧ -9223372036854775808<x.2.1∧x.2.1<9223372036854775808) (fun x=>aI .i64 (Nat.gcd x.1.natAbs x.2.1.natAbs:Nat)) fun x hx=>by
  rw[tr_pcommon_eq]
  obtain ⟨a,b,u⟩:=x
  revert a b
  intro (a:Int) (b:Int) (hx : -9223372036854775808<a∧a<9223372036854775808 ∧ -9223372036854775808<b∧b<9223372036854775808)
  obtain ⟨a0,a1,b0,b1⟩:=hx
  unfold tr_pcommon
  simp only[T.wp]
  dsimp only [El]
  rw[IntWalk.i64_in (0-a) (by omega),IntWalk.i64_in (0-b) (by omega)]
  have ea:(if 0-a>a then 0-a else a)=(a.natAbs:Int):=by split <;> omega
  have eb:(if 0-b>b then 0-b else b)=(b.natAbs:Int):=by split <;> omega
  rw[ea,eb]
  exact ⟨⟨by omega,by omega⟩,rfl⟩⟩
noncomputable def tr_pneg (x:Els [(true,cW)]):T Av:=
 .ite x.1.1
  (.ret (.one (.v (.bool (decide ((↑(List.length (mg x.1.2.1)):Int)>(0:Int)))))))
  (.ret (.one (.v (.bool (false)))))
theorem tr_pneg_eq (x:Els [(true,cW)]):fnP E25 (fun _=>none) Tryz.f67 (encs [(true,cW)] x)=tr_pneg x:=by kernel_rfl
noncomputable def tr_pmulI (x:RSpec.X spMulI×RSpec.Y spMulI×(List (El (RSpec.c spMulI))×Nat)):T (RRd spMulI):=
 .ite (decide (x.1.2.2.2.2.1<(↑(List.length x.1.2.1):Int)))
  (.get x.1.1 x.1.2.2.1 (fun v0 =>
   .get x.1.2.1 x.1.2.2.2.2.1 (fun v1 =>
    .need ((0:Int)≤IntKind.wrap .i64 (x.1.2.2.1+x.1.2.2.2.2.1)∧IntKind.wrap .i64 (x.1.2.2.1+x.1.2.2.2.2.1)<(↑(List.length x.2.2.1):Int)) (.get x.2.2.1 (IntKind.wrap .i64 (x.1.2.2.1+x.1.2.2.2.2.1)) (fun v2 =>
      .need ((0:Int)≤IntKind.wrap .i64 (x.1.2.2.1+x.1.2.2.2.2.1)∧IntKind.wrap .i64 (x.1.2.2.1+x.1.2.2.2.2.1)<(↑(List.length x.2.2.1):Int)) (.need (IntKind.wrap .i64 (x.1.2.2.1+x.1.2.2.2.2.1)<(↑(List.length x.2.2.1):Int)) (.need (List.length x.2.2.1=List.length (List.set x.2.2.1 (Int.toNat (IntKind.wrap .i64 (x.1.2.2.1+x.1.2.2.2.2.1))) (IntKind.wrap .u32 (IntKind.wrap .u64 (IntKind.wrap .u64 (x.1.2.2.2.1+IntKind.wrap .u64 (IntKind.wrap .u64 v0*IntKind.wrap .u64 v1))+IntKind.wrap .u64 v2))))∧x.2.2.2=x.2.2.2) (.ret (.again (x.1.1,(x.1.2.1,(x.1.2.2.1,(Int.fdiv (IntKind.wrap .u64 (IntKind.wrap .u64 (x.1.2.2.2.1+IntKind.wrap .u64 (IntKind.wrap .u64 v0*IntKind.wrap .u64 v1))+IntKind.wrap .u64 v2)) ((2:Int)^Min.min (Int.toNat (32:Int)) (IntKind.bits .u64)),(IntKind.wrap .i64 (x.1.2.2.2.2.1+(1:Int)),()))))) () (some ((List.set x.2.2.1 (Int.toNat (IntKind.wrap .i64 (x.1.2.2.1+x.1.2.2.2.2.1))) (IntKind.wrap .u32 (IntKind.wrap .u64 (IntKind.wrap .u64 (x.1.2.2.2.1+IntKind.wrap .u64 (IntKind.wrap .u64 v0*IntKind.wrap .u64 v1))+IntKind.wrap .u64 v2))),x.2.2.2))))))))))))
  (.need (List.length x.2.2.1=List.length x.2.2.1∧x.2.2.2=x.2.2.2) (.ret (.out (Go.Exit.exit (2:Nat)) [(.one (.ds (Cd.int .u32) x.1.1)),(.one (.ds (Cd.int .u32) x.1.2.1)),(.one (.v (.int .i64 x.1.2.2.1))),(.one (.v (.int .u64 x.1.2.2.2.1)))] () (some x.2.2))))
theorem tr_pmulI_eq (x:RSpec.X spMulI×RSpec.Y spMulI×(List (El (RSpec.c spMulI))×Nat)):RSpec.round spMulI E25 (fun _=>none) (innerOf (bodyOf Tryz.f83 0) 0) x.1 x.2.1 (some x.2.2)=tr_pmulI x:=by kernel_rfl
noncomputable def con_pneg:Con Tryz.prog:=⟨67,[],_,cf_pneg,tot_con (E:=E25) mixed Tryz.func67 no_loops [(true,cW)] (fun x=>aB (x.1.1&&decide (x.1.2.1≠0))) fun x=>by
  rw[tr_pneg_eq]
  obtain ⟨⟨b,a⟩,u⟩:=x
  revert b a
  intro (b:Bool) (a:Amt)
  unfold tr_pneg
  simp only[T.wp]
  refine ⟨fun h=>?_,fun h=>?_⟩
  · have h:b=true:=h
    subst h
    have:decide (((mg a.1).length:Int)>0)=decide (a.1≠0):=by
      rw[decide_eq_decide]
      constructor
      · intro hl h0;rw[h0,mg_zero]at hl;simp at hl
      · intro h0
        rcases Nat.eq_zero_or_pos (mg a.1).length with h'|h'
        · exact absurd (mg_nil.1 (List.length_eq_zero_iff.1 h')) h0
        · omega
    rw[this];rfl
  · have h:b=false:=h
    subst h;rfl⟩
def outMulI (x:RSpec.X spMulI) (y:RSpec.Y spMulI) (g:RSpec.G spMulI):T (Exit×List Av×RSpec.Y spMulI×RSpec.G spMulI):=
  match g with
  | none=>.fail
  | some r=>.need (0≤x.2.2.2.2.1∧x.2.2.2.2.1≤x.2.1.length∧0≤x.2.2.1∧x.2.2.1<x.1.length∧x.2.2.1+x.2.1.length<r.1.length∧lenOk r.1.length∧Words x.1∧Words x.2.1∧Words r.1∧0≤x.2.2.2.1∧x.2.2.2.1<4294967296)
      (.lt (inW ((x.1:List Int).getD x.2.2.1.toNat 0) ((x.2.1:List Int).drop x.2.2.2.2.1.toNat) (x.2.2.1.toNat+x.2.2.2.2.1.toNat) x.2.2.2.1 r.1) fun o =>
        .ret (.exit 2,[.one (.ds (.int .u32) x.1),.one (.ds (.int .u32) x.2.1),aI .i64 x.2.2.1,aI .u64 o.1],y,some (o.2,r.2)))
theorem pmulI_core (a b : List Int) (i c k : Int) (y : RSpec.Y spMulI) (xs : List Int) (cap : Nat) (Q : Exit × List Av × RSpec.Y spMulI × RSpec.G spMulI → Prop) (h : (outMulI (a, b, i, c, k, ()) y (some (xs, cap))).wp Q) : (tr_pmulI ((a, b, i, c, k, ()), y, (xs, cap))).wp fun r => match r with
      | .again x' y' g'=>(x'.2.1.length-x'.2.2.2.2.1).toNat<(b.length-k).toNat∧(outMulI x' y' g').wp Q
      | .out e avs y' g'=>Q (e,avs,y',g'):=by
  unfold tr_pmulI
  unfold outMulI at h ⊢
  simp only[T.wp]at h ⊢
  dsimp only [El,vts,spMulI]at h ⊢
  obtain ⟨⟨k0,k1,i0,i1,hl,hlen,ha,hb,hx,c0,c1⟩,hq⟩:=h
  unfold lenOk at hlen
  refine ⟨fun hlt=>?_,fun hge=>?_⟩
  · have hlt:=of_decide_eq_true hlt
    obtain ⟨u,hu⟩:=elem_at (l:=a) i0 i1
    obtain ⟨v,hv⟩:=elem_at (l:=b) k0 hlt
    obtain ⟨w,hw⟩:=elem_at (l:=xs) (i:=i+k) (by omega) (by omega)
    have hd:=drop_at k0 hv
    obtain ⟨u0,u1⟩:=ha u (List.mem_of_getElem? hu)
    obtain ⟨v0,v1⟩:=hb v (List.mem_of_getElem? hv)
    obtain ⟨o0,o1⟩:=hx w (List.mem_of_getElem? hw)
    have hm0:0≤u*v:=Int.mul_nonneg u0 v0
    have hm1:u*v≤4294967295*4294967295:=Int.mul_le_mul (by omega) (by omega) v0 (by omega)
    have eu:a.getD i.toNat 0=u:=by rw[List.getD_eq_getElem?_getD,hu];rfl
    have ew:xs.getD (i.toNat+k.toNat) 0=w:=by rw[List.getD_eq_getElem?_getD,show i.toNat+k.toNat=(i+k).toNat by omega,hw];rfl
    have e1:IntKind.i64.wrap (i+k)=i+k:=IntWalk.i64_in _ (by omega)
    have e2:IntKind.i64.wrap (k+1)=k+1:=IntWalk.i64_in _ (by omega)
    have e3:IntKind.u64.wrap (IntKind.u64.wrap (c+IntKind.u64.wrap (IntKind.u64.wrap u*IntKind.u64.wrap v))+IntKind.u64.wrap w)=c+u*v+w:=by
      rw[w_u64 (z:=u) (by omega),w_u64 (z:=v) (by omega),w_u64 (z:=u*v) (by omega),w_u64 (z:=w) (by omega),w_u64 (z:=c+u*v) (by omega),w_u64 (by omega)]
    have p32:(2:Int)^min (Int.toNat 32) (IntKind.bits .u64)=4294967296:=by decide
    have e4:IntKind.u32.wrap (c+u*v+w)=(c+u*v+w)%4294967296:=by rw[IntKind.wrap_u32]
    have e5:Int.fdiv (c+u*v+w) 4294967296=(c+u*v+w)/4294967296:=Int.fdiv_eq_ediv_of_nonneg _ (by decide)
    rw[hd,inW,eu,ew]at hq
    refine ⟨u,i0,hu,v,k0,hv,?_⟩
    rw[e1]
    refine ⟨⟨by omega,by omega⟩,w,by omega,hw,⟨by omega,by omega⟩,by omega,?_⟩
    rw[e3,p32,e4,e5,e2]
    refine ⟨⟨by rw[List.length_set],trivial⟩,by omega,⟨by omega,by omega,i0,i1,by rw[List.length_set];exact hl,by rw[List.length_set];exact hlen,ha,hb,words_set hx (by omega) (by omega),by omega,by omega⟩,?_⟩
    rw[show (i+k).toNat=i.toNat+k.toNat by omega,show (k+1).toNat=k.toNat+1 by omega,←Nat.add_assoc,eu]
    rw[show (k+1).toNat=k.toNat+1 by omega]at hq
    exact hq
  · have hge:=of_decide_eq_false hge
    rw[drop_end (by omega),inW]at hq
    exact ⟨⟨trivial,trivial⟩,hq⟩
theorem pmulI_ok (n:Nat) (hn:n≤1):LoopOk Tryz.prog n (innerOf (bodyOf Tryz.f83 0) 0) (spMulI.run outMulI):=
  loopR_ok (E:=E25) (L:=fun _=>none) mixed n (loops_none _ _ _) spMulI hn outMulI (fun x _ _=>((List.length x.2.1:Int)-x.2.2.2.2.1).toNat) (by
    rintro ⟨a,b,i,c,k,⟨⟩⟩ y g Q h
    match g,h with
    | some (xs,cap),h =>
      rw[tr_pmulI_eq ((a,b,i,c,k,()),y,(xs,cap))]
      exact pmulI_core a b i c k y xs cap Q h
    | none,h=>exact h.elim)
noncomputable def lpMulI:Loops:=manyL [(7,spMulI.run outMulI)]
noncomputable def E26:Env Tryz.prog:=E25.add [con_pneg]
noncomputable def tr_pmulO (x:RSpec.X spMulO×RSpec.Y spMulO×(List (El (RSpec.c spMulO))×Nat)):T (RRd spMulO):=
 .ite (decide (x.1.2.2.1<(↑(List.length x.1.1):Int)))
  (.need (List.length x.2.2.1=List.length x.2.2.1∧x.2.2.2=x.2.2.2) (.need ((0:El (Cd.int .i64))≤(0:Int)∧(0:Int)≤(↑(List.length x.1.2.1):El (Cd.int .i64))∧(0:El (Cd.int .i64))≤x.1.2.2.1∧x.1.2.2.1<(↑(List.length x.1.1):El (Cd.int .i64))∧x.1.2.2.1+(↑(List.length x.1.2.1):El (Cd.int .i64))<(↑(List.length x.2.2.1):El (Cd.int .i64))∧lenOk (List.length x.2.2.1)∧Words x.1.1∧Words x.1.2.1∧Words x.2.2.1∧(0:El (Cd.int .u64))≤(0:Int)∧(0:Int)<(4294967296:El (Cd.int .u64))) (.lt (inW (List.getD x.1.1 (Int.toNat x.1.2.2.1) (0:El (Cd.int .u32))) (List.drop (Int.toNat (0:Int)) x.1.2.1) (Int.toNat x.1.2.2.1+Int.toNat (0:Int)) (0:Int) x.2.2.1) (fun v0 =>
     .need ((0:Int)≤IntKind.wrap .i64 (x.1.2.2.1+(↑(List.length x.1.2.1):Int))∧IntKind.wrap .i64 (x.1.2.2.1+(↑(List.length x.1.2.1):Int))<(↑(List.length v0.2):Int)) (.need (IntKind.wrap .i64 (x.1.2.2.1+(↑(List.length x.1.2.1):Int))<(↑(List.length v0.2):Int)) (.need (List.length v0.2=List.length (List.set v0.2 (Int.toNat (IntKind.wrap .i64 (x.1.2.2.1+(↑(List.length x.1.2.1):Int)))) (IntKind.wrap .u32 v0.1))∧x.2.2.2=x.2.2.2) (.ret (.again (x.1.1,(x.1.2.1,(IntKind.wrap .i64 (x.1.2.2.1+(1:Int)),()))) () (some ((List.set v0.2 (Int.toNat (IntKind.wrap .i64 (x.1.2.2.1+(↑(List.length x.1.2.1):Int)))) (IntKind.wrap .u32 v0.1),x.2.2.2)))))))))))
  (.need (List.length x.2.2.1=List.length x.2.2.1∧x.2.2.2=x.2.2.2) (.ret (.out (Go.Exit.exit (0:Nat)) [] () (some x.2.2))))
theorem tr_pmulO_eq (x:RSpec.X spMulO×RSpec.Y spMulO×(List (El (RSpec.c spMulO))×Nat)):RSpec.round spMulO E26 lpMulI (bodyOf Tryz.f83 0) x.1 x.2.1 (some x.2.2)=tr_pmulO x:=by kernel_rfl
def outMulO (x:RSpec.X spMulO) (y:RSpec.Y spMulO) (g:RSpec.G spMulO):T (Exit×List Av×RSpec.Y spMulO×RSpec.G spMulO):=
  match g with
  | none=>.fail
  | some r=>.need (0≤x.2.2.1∧x.2.2.1≤x.1.length∧r.1.length=x.1.length+x.2.1.length∧lenOk r.1.length∧Words x.1∧Words x.2.1∧Words r.1 ∧ ∀ j,x.2.2.1.toNat+x.2.1.length≤j→j<r.1.length→(r.1:List Int)[j]?=some 0)
      (.lt (mulW x.2.1 ((x.1:List Int).drop x.2.2.1.toNat) x.2.2.1.toNat r.1) fun o=>.ret (.exit 0,[],y,some (o,r.2)))
theorem pmulO_core (a b : List Int) (i : Int) (y : RSpec.Y spMulO) (xs : List Int) (cap : Nat) (Q : Exit × List Av × RSpec.Y spMulO × RSpec.G spMulO → Prop) (h : (outMulO (a, b, i, ()) y (some (xs, cap))).wp Q) : (tr_pmulO ((a, b, i, ()), y, (xs, cap))).wp fun r => match r with
      | .again x' y' g'=>(x'.1.length-x'.2.2.1).toNat<(a.length-i).toNat∧(outMulO x' y' g').wp Q
      | .out e avs y' g'=>Q (e,avs,y',g'):=by
  unfold tr_pmulO
  unfold outMulO at h ⊢
  simp only[T.wp]at h ⊢
  dsimp only [El,vts,spMulO]at h ⊢
  obtain ⟨⟨i0,i1,hl,hlen,ha,hb,hx,hz⟩,hq⟩:=h
  have hlen':=hlen
  unfold lenOk at hlen
  refine ⟨fun hlt=>?_,fun hge=>?_⟩
  · have hlt:=of_decide_eq_true hlt
    obtain ⟨u,hu⟩:=elem_at (l:=a) i0 hlt
    have hd:=drop_at i0 hu
    have eu:a.getD i.toNat 0=u:=by rw[List.getD_eq_getElem?_getD,hu];rfl
    have hu2:=ha u (List.mem_of_getElem? hu)
    obtain ⟨r1,r2,r3,r4⟩:=mulW_round (n:=a.length-i.toNat-1) hu2 hb hx (by omega) hz
    obtain ⟨s1,s2,s3,s4,s5,s6⟩:=inW_spec hu2 b i.toNat 0 xs hb hx (by omega) (by omega) (by omega)
    rw[hd,mulW]at hq
    rw[eu,Int.toNat_zero,List.drop_zero,Nat.add_zero]
    have e1:IntKind.i64.wrap (i+(b.length:Int))=i+b.length:=IntWalk.i64_in _ (by omega)
    have e2:IntKind.i64.wrap (i+1)=i+1:=IntWalk.i64_in _ (by omega)
    have e3:IntKind.u32.wrap (inW u b i.toNat 0 xs).1=(inW u b i.toNat 0 xs).1:=by rw[IntKind.wrap_u32];omega
    rw[e1,e2,e3,show (i+(b.length:Int)).toNat=i.toNat+b.length by omega]
    have e4:(i+1).toNat=i.toNat+1:=by omega
    refine ⟨⟨trivial,trivial⟩,⟨by omega,by omega,i0,by omega,by omega,hlen',ha,hb,hx,by omega,by omega⟩,⟨by omega,by omega⟩,by omega,⟨by rw[List.length_set],trivial⟩,by omega,⟨by omega,by omega,by rw[r2];exact hl,by rw[r2];exact hlen',ha,hb,r1,?_⟩,?_⟩
    · intro j hj hjl
      rw[e4]at hj
      rw[r2]at hjl
      exact r3 j hj hjl
    · rw[e4]
      rw[e4]at hq
      exact hq
  · have hge:=of_decide_eq_false hge
    rw[drop_end (by omega),mulW]at hq
    exact ⟨⟨trivial,trivial⟩,hq⟩
theorem pmulO_ok:LoopOk Tryz.prog 0 (bodyOf Tryz.f83 0) (spMulO.run outMulO):=
  loopR_ok (E:=E26) (L:=lpMulI) mixed 0 (inner_one (by kernel_rfl) (pmulI_ok 0 (by decide))) spMulO (Nat.zero_le _) outMulO (fun x _ _=>((List.length x.1:Int)-x.2.2.1).toNat) (by
    rintro ⟨a,b,i,⟨⟩⟩ y g Q h
    match g,h with
    | some (xs,cap),h =>
      rw[tr_pmulO_eq ((a,b,i,()),y,(xs,cap))]
      exact pmulO_core a b i y xs cap Q h
    | none,h=>exact h.elim)
noncomputable def lpMul:Loops:=manyL [(3,spMulO.run outMulO)]
noncomputable def E27:Env Tryz.prog:=E26.add []
noncomputable def E27m:Env Tryz.prog:=E27.fz [(13,[5])]
noncomputable def tr_pmul (x:Els [(false,.sl (.int .u32)),(false,.sl (.int .u32))]):T Av:=
 .need ((0:Int)≤IntKind.wrap .i64 ((↑(List.length (x.1)):Int)+(↑(List.length x.2.1):Int))∧IntKind.wrap .i64 ((↑(List.length (x.1)):Int)+(↑(List.length x.2.1):Int))=IntKind.wrap .i64 ((↑(List.length (x.1)):Int)+(↑(List.length x.2.1):Int))∧(nat_lit 3+(1:Nat))*Int.toNat (IntKind.wrap .i64 ((↑(List.length (x.1)):Int)+(↑(List.length x.2.1):Int)))≤(281474976710656:Nat)∧Int.toNat (IntKind.wrap .i64 ((↑(List.length (x.1)):Int)+(↑(List.length x.2.1):Int)))≤Go.maxLen) (.need (Int.toNat (IntKind.wrap .i64 ((↑(List.length (x.1)):Int)+(↑(List.length x.2.1):Int)))=List.length (List.replicate (Int.toNat (IntKind.wrap .i64 ((↑(List.length (x.1)):Int)+(↑(List.length x.2.1):Int)))) (0:Int))∧Int.toNat (IntKind.wrap .i64 ((↑(List.length (x.1)):Int)+(↑(List.length x.2.1):Int)))=Int.toNat (IntKind.wrap .i64 ((↑(List.length (x.1)):Int)+(↑(List.length x.2.1):Int)))) (.need ((0:El (Cd.int .i64))≤(0:Int)∧(0:Int)≤(↑(List.length (x.1)):El (Cd.int .i64))∧List.length (List.replicate (Int.toNat (IntKind.wrap .i64 ((↑(List.length (x.1)):Int)+(↑(List.length x.2.1):Int)))) (0:Int))=List.length (x.1)+List.length x.2.1∧lenOk (List.length (List.replicate (Int.toNat (IntKind.wrap .i64 ((↑(List.length (x.1)):Int)+(↑(List.length x.2.1):Int)))) (0:Int)))∧Words (x.1)∧Words x.2.1∧Words (List.replicate (Int.toNat (IntKind.wrap .i64 ((↑(List.length (x.1)):Int)+(↑(List.length x.2.1):Int)))) (0:Int)) ∧ ∀ (j:Nat),Int.toNat (0:Int)+List.length x.2.1≤j→j<List.length (List.replicate (Int.toNat (IntKind.wrap .i64 ((↑(List.length (x.1)):Int)+(↑(List.length x.2.1):Int)))) (0:Int))→(List.replicate (Int.toNat (IntKind.wrap .i64 ((↑(List.length (x.1)):Int)+(↑(List.length x.2.1):Int)))) (0:Int))[j]?=Option.some (0:El (RSpec.c spMulO))) (.lt (mulW x.2.1 (List.drop (Int.toNat (0:Int)) (x.1)) (Int.toNat (0:Int)) (List.replicate (Int.toNat (IntKind.wrap .i64 ((↑(List.length (x.1)):Int)+(↑(List.length x.2.1):Int)))) (0:Int))) (fun v0 =>
     .need (List.length v0≤List.length v0) (.need (lenOk (List.length (List.take (List.length v0) v0))) (.ret (.one (.ds (Cd.int .u32) (trimmed (List.take (List.length v0) v0))))))))))
theorem tr_pmul_eq (x:Els [(false,.sl (.int .u32)),(false,.sl (.int .u32))]):fnP E27m lpMul Tryz.f83 (encs [(false,.sl (.int .u32)),(false,.sl (.int .u32))] x)=tr_pmul x:=by kernel_rfl
noncomputable def con_pmul:Con Tryz.prog:=⟨83,[],_,cf_pmul,val_con (E:=E27m) (L:=lpMul) mixed Tryz.func83 (many_loops (by kernel_rfl) (by simp) (fun i p hp=>by
    match i,hp with
    | 0,hp=>cases hp;exact pmulO_ok
    | i+1,hp=>simp at hp)) [(false,.sl (.int .u32)),(false,.sl (.int .u32))] (fun x=>List.length x.1≤1000000∧List.length x.2.1≤1000000∧Words x.1∧Words x.2.1) (fun x=>.one (.ds (.int .u32) (mg (valL x.1*valL x.2.1)))) fun x hx=>by
  rw[tr_pmul_eq]
  obtain ⟨a,b,u⟩:=x
  revert a b
  intro (a:List Int) (b:List Int) (hx:a.length≤1000000∧b.length≤1000000∧Words a∧Words b)
  obtain ⟨l1,l2,wa,wb⟩:=hx
  unfold tr_pmul
  simp only[T.wp]
  dsimp only [El]
  have e1:IntKind.i64.wrap ((a.length:Int)+b.length)=((a.length+b.length:Nat):Int):=by rw[IntWalk.i64_in _ (by omega)];omega
  simp only[e1,Int.toNat_natCast,List.length_replicate,Go.maxLen,Int.toNat_zero,List.drop_zero]
  obtain ⟨h1,h2,h3⟩:=mulW_spec wb a 0 (List.replicate (a.length+b.length) 0) wa (words_zero _) (by simp) (fun j hj hjl=>by simp at hjl;simp[hjl])
  rw[val_zero,Pq.bp_zero]at h3
  have ht:List.take (mulW b a 0 (List.replicate (a.length+b.length) 0)).length (mulW b a 0 (List.replicate (a.length+b.length) 0))=mulW b a 0 (List.replicate (a.length+b.length) 0):=List.take_length
  rw[List.length_replicate]at h2
  have hz : ∀ j,0+b.length≤j→j<a.length+b.length→(List.replicate (a.length+b.length) (0:Int))[j]?=some 0:=fun j _ hj=>by simp[hj]
  generalize mulW b a 0 (List.replicate (a.length+b.length) 0)=o at *
  refine ⟨⟨by omega,trivial,by omega,by omega⟩,⟨trivial,trivial⟩,⟨by omega,by omega,trivial,by unfold lenOk;omega,wa,wb,words_zero _,hz⟩,Nat.le_refl _,by rw[ht];unfold lenOk;omega,?_⟩
  have e2:valL o=valL a*valL b:=by
    have:(valL o:Int)=((valL a*valL b:Nat):Int):=by rw[h3,Int.natCast_mul];omega
    omega
  rw[ht,trimmed_mg h1,e2]⟩
noncomputable def E28:Env Tryz.prog:=E27.add [con_pmul]
noncomputable def tr_pMul (x:Els [(true,cW),(true,cW)]):T Av:=
 .need (List.length (mg x.1.2.1)≤(1000000:Nat)∧List.length (mg x.2.1.2.1)≤(1000000:Nat)∧Words (mg x.1.2.1)∧Words (mg x.2.1.2.1)) (.need (lenOk (List.length (mg (valL (mg x.1.2.1)*valL (mg x.2.1.2.1))))∧Words (mg (valL (mg x.1.2.1)*valL (mg x.2.1.2.1)))) (.ite (decide (List.length (trimmed (mg (valL (mg x.1.2.1)*valL (mg x.2.1.2.1))))≤(32:Nat)))
    (.lt (pW (!(x.1.1&&decide (x.1.2.1≠(0:Nat)))==(x.2.1.1&&decide (x.2.1.2.1≠(0:Nat)))) (trimmed (mg (valL (mg x.1.2.1)*valL (mg x.2.1.2.1))))) (fun v0 =>
     .ret (.tup [(.agg [.v (.bool v0.1),.w v0.2]),(.one (.v (.bool (true))))])))
    (.ret (.tup [(.agg [.v (.bool w0.1),.w w0.2]),(.one (.v (.bool (false))))]))))
theorem tr_pMul_eq (x:Els [(true,cW),(true,cW)]):fnP E28 (fun _=>none) Tryz.f44 (encs [(true,cW),(true,cW)] x)=tr_pMul x:=by kernel_rfl
theorem trimmed_self (x:Nat):trimmed (mg x)=mg x:=by rw[trimmed_mg (mg_words x),val_mg]
theorem zv_mul (a b:W):zW a*zW b=Pq.zv (!((a.1&&decide (a.2.1≠0))==(b.1&&decide (b.2.1≠0)))) (a.2.1*b.2.1):=by
  obtain ⟨s,x,hx⟩:=a
  obtain ⟨t,y,hy⟩:=b
  show Pq.zv s x*Pq.zv t y=Pq.zv (!((s&&decide (x≠0))==(t&&decide (y≠0)))) (x*y)
  by_cases h0:x=0
  · subst h0
    cases s <;> cases t <;> cases decide (y≠0) <;> simp[Pq.zv]
  · by_cases h1:y=0
    · subst h1
      cases s <;> cases t <;> cases decide (x≠0) <;> simp[Pq.zv]
    · rw[decide_eq_true (show x≠0 from h0),decide_eq_true (show y≠0 from h1)]
      cases s <;> cases t <;> simp[Pq.zv,Int.neg_mul,Int.mul_neg]
theorem wOf_zv {n:Bool} {x:Nat} (h:x<Pq.bp 32):wOf (Pq.zv n x)=(n&&decide (x≠0),⟨x,h⟩):=by
  have ha:(Pq.zv n x).natAbs=x:=Pq.zv_abs n x
  unfold wOf
  rw[dif_pos (by rw[ha];exact h)]
  refine Prod.ext ?_ (Subtype.ext ha)
  cases n with
  | false=>simp[Pq.zv]
  | true =>
    simp only[Pq.zv,if_true,Bool.true_and]
    rw[decide_eq_decide]
    omega
noncomputable def con_pMul:Con Tryz.prog:=⟨44,[],_,cf_pMul,tot_con (E:=E28) mixed Tryz.func44 no_loops [(true,cW),(true,cW)] (fun x=>rW (zW x.1*zW x.2.1)) fun x=>by
  rw[tr_pMul_eq]
  obtain ⟨a,b,u⟩:=x
  revert a b
  intro (a:W) (b:W)
  unfold tr_pMul
  simp only[T.wp]
  try dsimp only [El]
  simp only[val_mg,trimmed_self]
  have la:=mg_len.1 a.2.2
  have lb:=mg_len.1 b.2.2
  have lab:(mg (a.2.1*b.2.1)).length≤64:=by
    refine mg_len.1 ?_
    have e:Pq.bp 64=Pq.bp 32*Pq.bp 32:=by unfold Pq.bp;rw[←Nat.pow_add]
    rw[e];exact Nat.mul_lt_mul'' a.2.2 b.2.2
  refine ⟨⟨by omega,by omega,mg_words _,mg_words _⟩,⟨by unfold lenOk;omega,mg_words _⟩,fun h=>?_,fun h=>?_⟩
  · have hb:=mg_len.2 (of_decide_eq_true h)
    rw[pW_mg hb]
    unfold rW
    rw[zv_mul,wOf_zv hb]
    have hf:Pq.fits (Pq.zv (!((a.1&&decide (a.2.1≠0))==(b.1&&decide (b.2.1≠0)))) (a.2.1*b.2.1))=true:=by
      unfold Pq.fits
      rw[Pq.zv_abs];exact decide_eq_true hb
    rw[hf];rfl
  · have hb:¬ a.2.1*b.2.1<Pq.bp 32:=fun h'=>of_decide_eq_false h (mg_len.1 h')
    have hn:¬ (zW a*zW b).natAbs<Pq.bp 32:=by rw[zv_mul,Pq.zv_abs];exact hb
    unfold rW
    have e1:wOf (zW a*zW b)=w0:=by unfold wOf;rw[dif_neg hn]
    have e2:Pq.fits (zW a*zW b)=false:=by unfold Pq.fits;exact decide_eq_false hn
    rw[e1,e2];rfl⟩
noncomputable def E29:Env Tryz.prog:=E28.add [con_pMul]
end Go.Proofs.YtmcbljjgkmkhcaaGreatDoor
namespace Ax
open Go Go.RowKit
end Ax
namespace Go.Proofs.YtmcbljjgkmkhcaaGreatDoor
open Go.RowKit Ax
noncomputable def E30:Env Tryz.prog:=E29.add []
noncomputable def E31:Env Tryz.prog:=E30.add [con_padd,con_psub,con_pcmp,con_pbits,con_pshl,con_pcommon]
noncomputable def E31d:Env Tryz.prog:=E31.fz [(13,[7])]
noncomputable def tr_pdivL (x:RSpec.X spDiv×RSpec.Y spDiv×(List (El (RSpec.c spDiv))×Nat)):T (RRd spDiv):=
 .ite (decide (x.1.2.2.1≥(0:Int)))
  (.need (Words x.1.1∧(0:Nat)<List.length x.1.1∧List.length x.1.1≤(1000000:Nat)∧(0:El (Cd.int .i64))≤x.1.2.2.1∧x.1.2.2.1≤(100000000:El (Cd.int .i64))) (.need (x.1.2.1=mg (valL x.1.2.1)∧mg (valL x.1.1*(2:Nat)^Int.toNat x.1.2.2.1)=mg (valL (mg (valL x.1.1*(2:Nat)^Int.toNat x.1.2.2.1)))∧List.length x.1.2.1≤(1000000:Nat)∧List.length (mg (valL x.1.1*(2:Nat)^Int.toNat x.1.2.2.1))≤(1000000:Nat)) (.ite (decide (Pq.cz (↑(valL x.1.2.1):Int) (↑(valL (mg (valL x.1.1*(2:Nat)^Int.toNat x.1.2.2.1))):Int)≥(0:Int)))
     (.need (x.1.2.1 = mg (valL x.1.2.1) ∧ mg (valL x.1.1 * (2 : Nat) ^ Int.toNat x.1.2.2.1) = mg (valL (mg (valL x.1.1 * (2 : Nat) ^ Int.toNat x.1.2.2.1))) ∧ List.length x.1.2.1 ≤ (1000000 : Nat) ∧ valL (mg (valL x.1.1 * (2 : Nat) ^ Int.toNat x.1.2.2.1)) ≤ valL x.1.2.1) (.need ((32 : Int) ≠ (0 : Int)) (.need ((32 : Int) ≠ (0 : Int)) (.need ((0 : Int) ≤ IntKind.wrap .i64 (Int.tdiv x.1.2.2.1 (32 : Int)) ∧ IntKind.wrap .i64 (Int.tdiv x.1.2.2.1 (32 : Int)) < (↑(List.length x.2.2.1) : Int)) (.get x.2.2.1 (IntKind.wrap .i64 (Int.tdiv x.1.2.2.1 (32 : Int))) (fun v0 =>
          .need ((32:Int)≠(0:Int)) (.need ((0:Int)≤IntKind.wrap .u64 (Int.tmod x.1.2.2.1 (32:Int))) (.need ((0:Int)≤IntKind.wrap .i64 (Int.tdiv x.1.2.2.1 (32:Int))∧IntKind.wrap .i64 (Int.tdiv x.1.2.2.1 (32:Int))<(↑(List.length x.2.2.1):Int)) (.need (IntKind.wrap .i64 (Int.tdiv x.1.2.2.1 (32:Int))<(↑(List.length x.2.2.1):Int)) (.need (List.length x.2.2.1=List.length (List.set x.2.2.1 (Int.toNat (IntKind.wrap .i64 (Int.tdiv x.1.2.2.1 (32:Int)))) (IntKind.wrap .u32 (↑(BitVec.toNat (BitVec.ofInt (IntKind.bits .u32) v0 ||| BitVec.ofInt (IntKind.bits .u32) (IntKind.wrap .u32 ((1:Int)*(2:Int)^Min.min (Int.toNat (IntKind.wrap .u64 (Int.tmod x.1.2.2.1 (32:Int)))) (IntKind.bits .u32))))):Int)))∧x.2.2.2=x.2.2.2) (.ret (.again (x.1.1,(mg (valL x.1.2.1-valL (mg (valL x.1.1*(2:Nat)^Int.toNat x.1.2.2.1))),(IntKind.wrap .i64 (x.1.2.2.1-(1:Int)),()))) () (some ((List.set x.2.2.1 (Int.toNat (IntKind.wrap .i64 (Int.tdiv x.1.2.2.1 (32:Int)))) (IntKind.wrap .u32 (↑(BitVec.toNat (BitVec.ofInt (IntKind.bits .u32) v0 ||| BitVec.ofInt (IntKind.bits .u32) (IntKind.wrap .u32 ((1:Int)*(2:Int)^Min.min (Int.toNat (IntKind.wrap .u64 (Int.tmod x.1.2.2.1 (32:Int)))) (IntKind.bits .u32))))):Int)),x.2.2.2)))))))))))))))
     (.need (List.length x.2.2.1=List.length x.2.2.1∧x.2.2.2=x.2.2.2) (.ret (.again (x.1.1,(x.1.2.1,(IntKind.wrap .i64 (x.1.2.2.1-(1:Int)),()))) () (some x.2.2)))))))
  (.need (List.length x.2.2.1=List.length x.2.2.1∧x.2.2.2=x.2.2.2) (.ret (.out (Go.Exit.exit (0:Nat)) [(.one (.ds (Cd.int .u32) x.1.2.1))] () (some x.2.2))))
theorem tr_pdivL_eq (x:RSpec.X spDiv×RSpec.Y spDiv×(List (El (RSpec.c spDiv))×Nat)):RSpec.round spDiv E31 (fun _=>none) (bodyOf Tryz.f116 0) x.1 x.2.1 (some x.2.2)=tr_pdivL x:=by kernel_rfl
theorem div_step {Q m L w:Nat} (hd:2^(m+1)∣Q) (hq:Q<Pq.bp L) (hm:m<32*L) (hw:Pq.wd Q (m/32)=w) :
    ((BitVec.ofInt (IntKind.bits .u32) (w:Int) ||| BitVec.ofInt (IntKind.bits .u32) ((2^(m%32):Nat):Int)).toNat=w+2^(m%32))∧w+2^(m%32)<4294967296∧2^(m%32)<4294967296∧(rw' L Q).set (m/32) ((w+2^(m%32):Nat):Int)=rw' L (Q+2^m):=by
  have hs:m%32<32:=Nat.mod_lt _ (by decide)
  have hmm:m=m%32+32*(m/32):=(Nat.mod_add_div m 32).symm
  have e2:2^m=2^(m%32)*Pq.bp (m/32):=by
    rw[bp_pow,←Nat.pow_add,←hmm]
  have hwl:w<4294967296:=by rw[←hw];exact Pq.wd_lt _ _
  have hwd:2^(m%32+1)∣w:=by
    obtain ⟨t,ht⟩:=hd
    have e3:Q=(2^(m%32+1)*t)*Pq.bp (m/32):=by
      rw[ht,Nat.pow_succ,e2,Nat.pow_succ]
      simp only[Nat.mul_assoc,Nat.mul_comm,Nat.mul_left_comm]
    have hp:4294967296=2^(m%32+1)*2^(31-m%32):=by rw[←Nat.pow_add,show m%32+1+(31-m%32)=32 by omega]
    have:w=2^(m%32+1)*(t%2^(31-m%32)):=by
      rw[←hw]
      unfold Pq.wd
      rw[e3,Nat.mul_div_cancel _ (Pq.bp_pos _),hp,Nat.mul_mod_mul_left]
    rw[this]
    exact Nat.dvd_mul_right _ _
  have hps:=Nat.two_pow_pos (m%32)
  have es:2^(m%32+1)=2*2^(m%32):=by rw[Nat.pow_succ,Nat.mul_comm]
  have hs31:2^(m%32)≤2147483648:=by
    rw[show 2147483648=2^31 from rfl];exact Nat.pow_le_pow_right (by decide) (by omega)
  have hsum:w+2^(m%32)<4294967296:=by
    obtain ⟨q,hq⟩:=hwd
    have hp:4294967296=2^(m%32+1)*2^(31-m%32):=by rw[←Nat.pow_add,show m%32+1+(31-m%32)=32 by omega]
    rw[hq,hp]at hwl
    have hql:=Nat.lt_of_mul_lt_mul_left hwl
    have:2^(m%32+1)*q+2^(m%32+1)≤2^(m%32+1)*2^(31-m%32):=by rw[←Nat.mul_succ];exact Nat.mul_le_mul_left _ hql
    rw[hq,hp]
    omega
  refine ⟨?_,hsum,by omega,?_⟩
  · obtain ⟨q,hq⟩:=hwd
    have c1:(BitVec.ofInt (IntKind.bits .u32) (w:Int)).toNat=w:=by
      rw[BitVec.toNat_ofInt]
      show ((w:Int)%4294967296).toNat=_
      omega
    have c2:(BitVec.ofInt (IntKind.bits .u32) ((2^(m%32):Nat):Int)).toNat=2^(m%32):=by
      rw[BitVec.toNat_ofInt]
      show (((2^(m%32):Nat):Int)%4294967296).toNat=_
      generalize 2^(m%32)=z at *
      omega
    rw[BitVec.toNat_or,c1,c2,hq,←Nat.two_pow_add_eq_or_of_lt (by omega) q]
  · refine rw_set hq (by omega) (by omega) (by omega) ?_
    rw[hw,e2]
    have:((w+2^(m%32):Nat):Int)-(w:Int)=((2^(m%32):Nat):Int):=by omega
    rw[this,Int.natCast_add,Int.natCast_mul (2^(m%32)),Int.mul_comm]
def outDiv (x:RSpec.X spDiv) (y:RSpec.Y spDiv) (g:RSpec.G spDiv):T (Exit×List Av×RSpec.Y spDiv×RSpec.G spDiv):=
  match g with
  | none=>.fail
  | some r=>.need (-1≤x.2.2.1∧x.2.2.1<32*(List.length r.1:Int)∧x.2.2.1≤10000000∧Words x.1∧0<List.length x.1∧List.length x.1≤500000∧(x.2.1:List Int)=mg (valL x.2.1)∧List.length x.2.1≤1000000∧valL x.2.1<valL x.1*2^(x.2.2.1+1).toNat∧2^(x.2.2.1+1).toNat∣valL r.1∧valL r.1+valL x.2.1/valL x.1<Pq.bp (List.length r.1)∧Words r.1)
      (.ret (.exit 0,[.one (.ds (.int .u32) (mg (valL x.2.1%valL x.1)))],y,some (rw' (List.length r.1) (valL r.1+valL x.2.1/valL x.1),r.2)))
theorem pdivL_core (b r : List Int) (i : Int) (y : RSpec.Y spDiv) (xs : List Int) (cap : Nat) (Q : Exit × List Av × RSpec.Y spDiv × RSpec.G spDiv → Prop) (h : (outDiv (b, r, i, ()) y (some (xs, cap))).wp Q) : (tr_pdivL ((b, r, i, ()), y, (xs, cap))).wp fun r' => match r' with
      | .again x' y' g'=>(x'.2.2.1+1).toNat<(i+1).toNat∧(outDiv x' y' g').wp Q
      | .out e avs y' g'=>Q (e,avs,y',g'):=by
  unfold tr_pdivL
  unfold outDiv at h ⊢
  simp only[T.wp]at h ⊢
  dsimp only [El,vts,spDiv]at h ⊢
  obtain ⟨⟨i0,iL,i1,wb,lb0,lb,mr,lr,hlt,hd,hfit,wx⟩,hq⟩:=h
  obtain ⟨L,hL⟩ : ∃ L,xs.length=L:=⟨_,rfl⟩
  obtain ⟨V,hV⟩ : ∃ V,valL xs=V:=⟨_,rfl⟩
  have hxs:xs=rw' L V:=rw_of wx hL hV
  rw[hL]at iL hfit hq
  rw[hV]at hd hfit hq
  have hVL:V<Pq.bp L:=Nat.lt_of_le_of_lt (Nat.le_add_right _ _) hfit
  have rv : ∀ {q:Nat},q<Pq.bp L→valL (rw' L q)=q:=fun h=>rw_val h
  subst hxs
  have hB:0<valL b:=Nat.pos_of_ne_zero fun h0=>by rw[h0,Nat.zero_mul]at hlt;omega
  refine ⟨fun hge=>?_,fun hge=>?_⟩
  · have hge:=of_decide_eq_true hge
    obtain ⟨m,hm⟩ : ∃ m:Nat,i=m:=⟨i.toNat,by omega⟩
    subst hm
    rw[show ((m:Int)+1).toNat=m+1 by omega]at hlt hd
    have e1:IntKind.i64.wrap ((m:Int)-1)=(m:Int)-1:=IntWalk.i64_in _ (by omega)
    have e2:((m:Int)-1+1).toNat=m:=by omega
    have e3:IntKind.i64.wrap (Int.tdiv (m:Int) 32)=((m/32:Nat):Int):=by
      rw[Int.tdiv_eq_ediv_of_nonneg (by omega),IntWalk.i64_in _ (by omega)];omega
    have e4:IntKind.u64.wrap (Int.tmod (m:Int) 32)=((m%32:Nat):Int):=by
      rw[Int.tmod_eq_emod_of_nonneg (by omega),w_u64 (by omega)];omega
    have e5:min (m%32) (IntKind.bits .u32)=m%32:=by
      show min (m%32) 32=m%32
      omega
    obtain ⟨o1,o2,o3,o4⟩:=div_step hd hVL (by omega) rfl
    have e6 : ∀ z:Nat,z<4294967296→IntKind.u32.wrap (z:Int)=z:=fun z hz=>by rw[w_32];omega
    have e7:IntKind.u32.wrap (1*2^(m%32))=((2^(m%32):Nat):Int):=by
      rw[Int.one_mul]
      have:(2:Int)^(m%32)=((2^(m%32):Nat):Int):=by rw[Int.natCast_pow];rfl
      rw[this,e6 _ o3]
    have hsl:(mg (valL b*2^m)).length≤1000000:=by
      have hb:=val_words wb
      have h2:=(shl_lt (i:=b.length) (k:=m/32) (s:=m%32) hb (by omega)).2
      rw[bp_pow (m/32),Nat.mul_assoc,←Nat.pow_add,show m%32+32*(m/32)=m by omega]at h2
      have:=mg_len.1 h2
      omega
    have hcz:decide (Pq.cz (valL r) (valL b*2^m:Nat)≥0)=decide (valL b*2^m≤valL r):=by
      rw[decide_eq_decide]
      unfold Pq.cz
      split
      · omega
      · split <;> omega
    simp only[Int.toNat_natCast,val_mg,hcz,e1,e2,e3,e4,e5,e7,rw_len,List.length_set]
    refine ⟨⟨wb,lb0,by omega,by omega,by omega⟩,⟨mr,trivial,lr,hsl⟩,fun hle=>?_,fun hgt=>?_⟩
    · have hle:=of_decide_eq_true hle
      refine ⟨⟨mr,trivial,lr,hle⟩,by decide,by decide,⟨by omega,by omega⟩,_,by omega,rw_get (by omega),by decide,by omega,⟨by omega,by omega⟩,by omega,⟨trivial,trivial⟩,?_⟩
      rw[o1,e6 _ o2,o4]
      have hdiv:valL r/valL b=2^m+(valL r-valL b*2^m)/valL b:=by
        conv=>lhs;rw[show valL r=(valL r-valL b*2^m)+valL b*2^m by omega]
        rw[Nat.add_mul_div_left _ _ hB,Nat.add_comm]
      have hmod:valL r%valL b=(valL r-valL b*2^m)%valL b:=by
        conv=>lhs;rw[show valL r=(valL r-valL b*2^m)+valL b*2^m by omega]
        rw[Nat.add_mul_mod_self_left]
      have hV2:V+2^m<Pq.bp L:=by
        rw[hdiv,←Nat.add_assoc]at hfit
        exact Nat.lt_of_le_of_lt (Nat.le_add_right _ _) hfit
      rw[rv hV2]
      rw[hdiv]at hfit hq
      rw[hmod,←Nat.add_assoc]at hq
      have hle2:valL r-valL b*2^m≤valL r:=Nat.sub_le _ _
      have hml:(mg (valL r-valL b*2^m)).length≤1000000:=by
        refine mg_len.1 (Nat.lt_of_le_of_lt hle2 ?_)
        rw[mg_len,←mr];exact lr
      rw[Nat.pow_succ,Nat.mul_comm (2^m) 2,Nat.mul_left_comm]at hlt
      refine ⟨by omega,⟨by omega,by omega,by omega,wb,lb0,lb,trivial,hml,by omega,?_,by rw[Nat.add_assoc];exact hfit,rw_words _ _⟩,hq⟩
      refine Nat.dvd_add ?_ (Nat.dvd_refl _)
      exact Nat.dvd_trans ⟨2,by rw[Nat.pow_succ]⟩ hd
    · have hgt:=of_decide_eq_false hgt
      rw[rv hVL]
      refine ⟨⟨trivial,trivial⟩,by omega,⟨by omega,by omega,by omega,wb,lb0,lb,mr,lr,by omega,?_,hfit,rw_words _ _⟩,hq⟩
      exact Nat.dvd_trans ⟨2,by rw[Nat.pow_succ]⟩ hd
  · have hge:=of_decide_eq_false hge
    rw[show (i+1).toNat=0 by omega,Nat.pow_zero,Nat.mul_one]at hlt
    rw[Nat.div_eq_of_lt hlt,Nat.mod_eq_of_lt hlt,Nat.add_zero,←mr]at hq
    exact ⟨⟨trivial,trivial⟩,hq⟩
theorem pdivL_ok:LoopOk Tryz.prog 0 (bodyOf Tryz.f116 0) (spDiv.run outDiv):=
  loopR_ok (E:=E31) (L:=fun _=>none) mixed 0 (loops_none _ _ _) spDiv (Nat.zero_le _) outDiv (fun x _ _=>(x.2.2.1+1).toNat) (by
    rintro ⟨b,r,i,⟨⟩⟩ y g Q h
    match g,h with
    | some (xs,cap),h =>
      rw[tr_pdivL_eq ((b,r,i,()),y,(xs,cap))]
      exact pdivL_core b r i y xs cap Q h
    | none,h=>exact h.elim)
noncomputable def lpDiv:Loops:=manyL [(7,spDiv.run outDiv)]
noncomputable def tr_pdivmod (x:Els [(false,.sl (.int .u32)),(false,.sl (.int .u32))]):T Av:=
 .need (x.1=mg (valL (x.1))∧List.length (x.1)≤(1000000:Nat)) (.need (x.2.1=mg (valL x.2.1)∧List.length x.2.1≤(1000000:Nat)) (.ite (decide (IntKind.wrap .i64 ((↑(Pq.bitn (valL (x.1))):Int)-(↑(Pq.bitn (valL x.2.1)):Int))<(0:Int)))
    (.ret (.tup [(.one (.v (Go.Value.slice Option.none (0:Nat) (0:Nat)))),(.one (.ds (Cd.int .u32) (x.1)))]))
    (.need ((32:Int)≠(0:Int)) (.need ((0:Int)≤IntKind.wrap .i64 (IntKind.wrap .i64 (Int.tdiv (IntKind.wrap .i64 ((↑(Pq.bitn (valL (x.1))):Int)-(↑(Pq.bitn (valL x.2.1)):Int))) (32:Int))+(1:Int))∧IntKind.wrap .i64 (IntKind.wrap .i64 (Int.tdiv (IntKind.wrap .i64 ((↑(Pq.bitn (valL (x.1))):Int)-(↑(Pq.bitn (valL x.2.1)):Int))) (32:Int))+(1:Int))=IntKind.wrap .i64 (IntKind.wrap .i64 (Int.tdiv (IntKind.wrap .i64 ((↑(Pq.bitn (valL (x.1))):Int)-(↑(Pq.bitn (valL x.2.1)):Int))) (32:Int))+(1:Int))∧(nat_lit 3+(1:Nat))*Int.toNat (IntKind.wrap .i64 (IntKind.wrap .i64 (Int.tdiv (IntKind.wrap .i64 ((↑(Pq.bitn (valL (x.1))):Int)-(↑(Pq.bitn (valL x.2.1)):Int))) (32:Int))+(1:Int)))≤(281474976710656:Nat)∧Int.toNat (IntKind.wrap .i64 (IntKind.wrap .i64 (Int.tdiv (IntKind.wrap .i64 ((↑(Pq.bitn (valL (x.1))):Int)-(↑(Pq.bitn (valL x.2.1)):Int))) (32:Int))+(1:Int)))≤Go.maxLen) (.need (Int.toNat (IntKind.wrap .i64 (IntKind.wrap .i64 (Int.tdiv (IntKind.wrap .i64 ((↑(Pq.bitn (valL (x.1))):Int)-(↑(Pq.bitn (valL x.2.1)):Int))) (32:Int))+(1:Int)))=List.length (List.replicate (Int.toNat (IntKind.wrap .i64 (IntKind.wrap .i64 (Int.tdiv (IntKind.wrap .i64 ((↑(Pq.bitn (valL (x.1))):Int)-(↑(Pq.bitn (valL x.2.1)):Int))) (32:Int))+(1:Int)))) (0:Int))∧Int.toNat (IntKind.wrap .i64 (IntKind.wrap .i64 (Int.tdiv (IntKind.wrap .i64 ((↑(Pq.bitn (valL (x.1))):Int)-(↑(Pq.bitn (valL x.2.1)):Int))) (32:Int))+(1:Int)))=Int.toNat (IntKind.wrap .i64 (IntKind.wrap .i64 (Int.tdiv (IntKind.wrap .i64 ((↑(Pq.bitn (valL (x.1))):Int)-(↑(Pq.bitn (valL x.2.1)):Int))) (32:Int))+(1:Int)))) (.need ((-1:El (Cd.int .i64))≤IntKind.wrap .i64 ((↑(Pq.bitn (valL (x.1))):Int)-(↑(Pq.bitn (valL x.2.1)):Int))∧IntKind.wrap .i64 ((↑(Pq.bitn (valL (x.1))):Int)-(↑(Pq.bitn (valL x.2.1)):Int))<(32:El (Cd.int .i64))*(↑(List.length (List.replicate (Int.toNat (IntKind.wrap .i64 (IntKind.wrap .i64 (Int.tdiv (IntKind.wrap .i64 ((↑(Pq.bitn (valL (x.1))):Int)-(↑(Pq.bitn (valL x.2.1)):Int))) (32:Int))+(1:Int)))) (0:Int))):Int)∧IntKind.wrap .i64 ((↑(Pq.bitn (valL (x.1))):Int)-(↑(Pq.bitn (valL x.2.1)):Int))≤(10000000:El (Cd.int .i64))∧Words x.2.1∧(0:Nat)<List.length x.2.1∧List.length x.2.1≤(500000:Nat)∧x.1=mg (valL (x.1))∧List.length (x.1)≤(1000000:Nat)∧valL (x.1)<valL x.2.1*(2:Nat)^Int.toNat (IntKind.wrap .i64 ((↑(Pq.bitn (valL (x.1))):Int)-(↑(Pq.bitn (valL x.2.1)):Int))+(1:El (Cd.int .i64)))∧(2:Nat)^Int.toNat (IntKind.wrap .i64 ((↑(Pq.bitn (valL (x.1))):Int)-(↑(Pq.bitn (valL x.2.1)):Int))+(1:El (Cd.int .i64)))∣valL (List.replicate (Int.toNat (IntKind.wrap .i64 (IntKind.wrap .i64 (Int.tdiv (IntKind.wrap .i64 ((↑(Pq.bitn (valL (x.1))):Int)-(↑(Pq.bitn (valL x.2.1)):Int))) (32:Int))+(1:Int)))) (0:Int))∧valL (List.replicate (Int.toNat (IntKind.wrap .i64 (IntKind.wrap .i64 (Int.tdiv (IntKind.wrap .i64 ((↑(Pq.bitn (valL (x.1))):Int)-(↑(Pq.bitn (valL x.2.1)):Int))) (32:Int))+(1:Int)))) (0:Int))+valL (x.1)/valL x.2.1<Pq.bp (List.length (List.replicate (Int.toNat (IntKind.wrap .i64 (IntKind.wrap .i64 (Int.tdiv (IntKind.wrap .i64 ((↑(Pq.bitn (valL (x.1))):Int)-(↑(Pq.bitn (valL x.2.1)):Int))) (32:Int))+(1:Int)))) (0:Int)))∧Words (List.replicate (Int.toNat (IntKind.wrap .i64 (IntKind.wrap .i64 (Int.tdiv (IntKind.wrap .i64 ((↑(Pq.bitn (valL (x.1))):Int)-(↑(Pq.bitn (valL x.2.1)):Int))) (32:Int))+(1:Int)))) (0:Int))) (.need (List.length (rw' (List.length (List.replicate (Int.toNat (IntKind.wrap .i64 (IntKind.wrap .i64 (Int.tdiv (IntKind.wrap .i64 ((↑(Pq.bitn (valL (x.1))):Int)-(↑(Pq.bitn (valL x.2.1)):Int))) (32:Int))+(1:Int)))) (0:Int))) (valL (List.replicate (Int.toNat (IntKind.wrap .i64 (IntKind.wrap .i64 (Int.tdiv (IntKind.wrap .i64 ((↑(Pq.bitn (valL (x.1))):Int)-(↑(Pq.bitn (valL x.2.1)):Int))) (32:Int))+(1:Int)))) (0:Int))+valL (x.1)/valL x.2.1))≤List.length (rw' (List.length (List.replicate (Int.toNat (IntKind.wrap .i64 (IntKind.wrap .i64 (Int.tdiv (IntKind.wrap .i64 ((↑(Pq.bitn (valL (x.1))):Int)-(↑(Pq.bitn (valL x.2.1)):Int))) (32:Int))+(1:Int)))) (0:Int))) (valL (List.replicate (Int.toNat (IntKind.wrap .i64 (IntKind.wrap .i64 (Int.tdiv (IntKind.wrap .i64 ((↑(Pq.bitn (valL (x.1))):Int)-(↑(Pq.bitn (valL x.2.1)):Int))) (32:Int))+(1:Int)))) (0:Int))+valL (x.1)/valL x.2.1))) (.need (lenOk (List.length (List.take (List.length (rw' (List.length (List.replicate (Int.toNat (IntKind.wrap .i64 (IntKind.wrap .i64 (Int.tdiv (IntKind.wrap .i64 ((↑(Pq.bitn (valL (x.1))):Int)-(↑(Pq.bitn (valL x.2.1)):Int))) (32:Int))+(1:Int)))) (0:Int))) (valL (List.replicate (Int.toNat (IntKind.wrap .i64 (IntKind.wrap .i64 (Int.tdiv (IntKind.wrap .i64 ((↑(Pq.bitn (valL (x.1))):Int)-(↑(Pq.bitn (valL x.2.1)):Int))) (32:Int))+(1:Int)))) (0:Int))+valL (x.1)/valL x.2.1))) (rw' (List.length (List.replicate (Int.toNat (IntKind.wrap .i64 (IntKind.wrap .i64 (Int.tdiv (IntKind.wrap .i64 ((↑(Pq.bitn (valL (x.1))):Int)-(↑(Pq.bitn (valL x.2.1)):Int))) (32:Int))+(1:Int)))) (0:Int))) (valL (List.replicate (Int.toNat (IntKind.wrap .i64 (IntKind.wrap .i64 (Int.tdiv (IntKind.wrap .i64 ((↑(Pq.bitn (valL (x.1))):Int)-(↑(Pq.bitn (valL x.2.1)):Int))) (32:Int))+(1:Int)))) (0:Int))+valL (x.1)/valL x.2.1))))) (.ret (.tup [(.one (.ds (Cd.int .u32) (trimmed (List.take (List.length (rw' (List.length (List.replicate (Int.toNat (IntKind.wrap .i64 (IntKind.wrap .i64 (Int.tdiv (IntKind.wrap .i64 ((↑(Pq.bitn (valL (x.1))):Int)-(↑(Pq.bitn (valL x.2.1)):Int))) (32:Int))+(1:Int)))) (0:Int))) (valL (List.replicate (Int.toNat (IntKind.wrap .i64 (IntKind.wrap .i64 (Int.tdiv (IntKind.wrap .i64 ((↑(Pq.bitn (valL (x.1))):Int)-(↑(Pq.bitn (valL x.2.1)):Int))) (32:Int))+(1:Int)))) (0:Int))+valL (x.1)/valL x.2.1))) (rw' (List.length (List.replicate (Int.toNat (IntKind.wrap .i64 (IntKind.wrap .i64 (Int.tdiv (IntKind.wrap .i64 ((↑(Pq.bitn (valL (x.1))):Int)-(↑(Pq.bitn (valL x.2.1)):Int))) (32:Int))+(1:Int)))) (0:Int))) (valL (List.replicate (Int.toNat (IntKind.wrap .i64 (IntKind.wrap .i64 (Int.tdiv (IntKind.wrap .i64 ((↑(Pq.bitn (valL (x.1))):Int)-(↑(Pq.bitn (valL x.2.1)):Int))) (32:Int))+(1:Int)))) (0:Int))+valL (x.1)/valL x.2.1)))))),(.one (.ds (Cd.int .u32) (mg (valL (x.1)%valL x.2.1))))]))))))))))
theorem tr_pdivmod_eq (x:Els [(false,.sl (.int .u32)),(false,.sl (.int .u32))]):fnP E31d lpDiv Tryz.f116 (encs [(false,.sl (.int .u32)),(false,.sl (.int .u32))] x)=tr_pdivmod x:=by kernel_rfl
theorem val_con_w {P:Program} {E:Env P} {L:Loops} {f:FuncId} {fn:Func} (hm:P.follows .mixedOrders=true) (hf:P.funcs[f]?=some fn) (hL : ∀ c,fn.body=some c→LoopsOk P 0 L c) (ts:List (Bool×Cd)) (pre:Els ts→Prop) (F:Els ts→Av)
    (h : ∀ x,pre x→(fnP E L fn (encs ts x)).wp (fun a => ∀ w R σ v,AvIs w R σ a v→AvIs w R σ (F x) v)):ConOk P f [] (pureRun' ts fun x=>.need (pre x) (.ret (F x))):=by
  refine con_weaken (con_ok (E:=E) (L:=L) hm hf hL ts (fun x=>fnP E L fn (encs ts x)) (fun x Q h=>h)) fun args m Q hq=>?_
  unfold pureRun' at hq ⊢
  split at hq
  · rw[T.wp_bind]at hq ⊢
    exact T.wp_mono (fun a ha=>⟨_,hq.2,ha⟩) (h _ hq.1)
  · exact hq.elim
theorem nil_av2 {w:World} {R:Nat→Prop} {σ:List Nat} {c:Cd} {a:Av} {v:Value} (h:AvIs w R σ (.tup [.one (.v (.slice none 0 0)),a]) v):AvIs w R σ (.tup [.one (.ds c []),a]) v:=by
  cases h with
  | tup us hl hi =>
    refine .tup us hl fun i x u hx hu=>?_
    match i,hx with
    | 0,rfl =>
      have:=hi 0 _ u rfl hu
      rw[val_of this rfl]
      exact .one rfl (.dn .nil)
    | i+1,hx=>exact hi (i+1) x u hx hu
theorem bitn_lt (x:Nat):x<2^Pq.bitn x:=Pq.bitn_le.1 (Nat.le_refl _)
theorem bitn_ge {x:Nat} (h:x≠0):2^(Pq.bitn x-1)≤x:=Nat.not_lt.1 fun h'=>by
  have:=Pq.bitn_le.2 h'
  have h0:Pq.bitn x≠0:=fun e=>h (Pq.bitn_eq0.1 e)
  omega
theorem bitn_mg {x n:Nat} (h:(mg x).length≤n):Pq.bitn x≤32*n:=by
  have:=mg_len.2 h
  rw[bp_pow]at this
  exact Pq.bitn_le.2 this
noncomputable def con_pdivmod:Con Tryz.prog:=⟨116,[],_,cf_pdivmod,val_con_w (E:=E31d) (L:=lpDiv) mixed Tryz.func116 (many_loops (by kernel_rfl) (by simp) (fun i p hp=>by
    match i,hp with
    | 0,hp=>cases hp;exact pdivL_ok
    | i+1,hp=>simp at hp)) [(false,.sl (.int .u32)),(false,.sl (.int .u32))] (fun x=>(x.1:List Int)=mg (valL x.1)∧(x.2.1:List Int)=mg (valL x.2.1)∧List.length x.1≤100000∧List.length x.2.1≤100000∧valL x.2.1≠0) (fun x=>.tup [.one (.ds (.int .u32) (mg (valL x.1/valL x.2.1))),.one (.ds (.int .u32) (mg (valL x.1%valL x.2.1)))]) fun x hx=>by
  rw[tr_pdivmod_eq]
  obtain ⟨a,b,u⟩:=x
  revert a b
  intro (a:List Int) (b:List Int) (hx:a=mg (valL a)∧b=mg (valL b)∧a.length≤100000∧b.length≤100000∧valL b≠0)
  obtain ⟨ma,mb,la,lb,hb⟩:=hx
  have wb:Words b:=by rw[mb];exact mg_words _
  have la':(mg (valL a)).length≤100000:=by rw[←ma];exact la
  have lb':(mg (valL b)).length≤100000:=by rw[←mb];exact lb
  have lb0:0<b.length:=Nat.pos_of_ne_zero fun h0=>hb (by
    have:b=[]:=List.length_eq_zero_iff.1 h0
    rw[this];rfl)
  have ba:=bitn_mg la'
  have bb:=bitn_mg lb'
  have a1:=bitn_lt (valL a)
  have b1:=bitn_ge hb
  have bb0:Pq.bitn (valL b)≠0:=fun e=>hb (Pq.bitn_eq0.1 e)
  unfold tr_pdivmod
  simp only[T.wp]
  dsimp only [El]
  rw[IntWalk.i64_in ((Pq.bitn (valL a):Int)-Pq.bitn (valL b)) (by omega)]
  refine ⟨⟨ma,by omega⟩,⟨mb,by omega⟩,fun hlt=>?_,fun hge=>?_⟩
  · have hlt:=of_decide_eq_true hlt
    have hab:valL a<valL b:=by
      refine Nat.lt_of_lt_of_le a1 (Nat.le_trans (Nat.pow_le_pow_right (by decide) ?_) b1)
      omega
    rw[Nat.div_eq_of_lt hab,Nat.mod_eq_of_lt hab,mg_zero,←ma]
    exact fun w R σ v hv=>nil_av2 hv
  · have hge:=of_decide_eq_false hge
    obtain ⟨n,hn⟩ : ∃ n:Nat,(Pq.bitn (valL a):Int)-Pq.bitn (valL b)=n:=⟨Pq.bitn (valL a)-Pq.bitn (valL b),by omega⟩
    simp only[hn]
    have e1:IntKind.i64.wrap (IntKind.i64.wrap (Int.tdiv (n:Int) 32)+1)=((n/32+1:Nat):Int):=by
      rw[Int.tdiv_eq_ediv_of_nonneg (by omega),IntWalk.i64_in ((n:Int)/32) (by omega),IntWalk.i64_in _ (by omega)];omega
    have etk : ∀ Q,List.take (n/32+1) (rw' (n/32+1) Q)=rw' (n/32+1) Q:=fun Q=>List.take_of_length_le (by rw[rw_len];exact Nat.le_refl _)
    have e2:((n:Int)+1).toNat=n+1:=by omega
    simp only[e1,Int.toNat_natCast,List.length_replicate,rw_len,etk,val_zero,Nat.zero_add,e2]
    have hlt:valL a<valL b*2^(n+1):=by
      refine Nat.lt_of_lt_of_le a1 (Nat.le_trans ?_ (Nat.mul_le_mul_right _ b1))
      rw[←Nat.pow_add]
      exact Nat.pow_le_pow_right (by decide) (by omega)
    have hq:valL a/valL b<Pq.bp (n/32+1):=by
      refine Nat.lt_of_lt_of_le ((Nat.div_lt_iff_lt_mul (Nat.pos_of_ne_zero hb)).2 (by rw[Nat.mul_comm];exact hlt)) ?_
      rw[bp_pow]
      exact Nat.pow_le_pow_right (by decide) (by omega)
    refine ⟨by decide,⟨by omega,trivial,by omega,by unfold Go.maxLen;omega⟩,⟨trivial,trivial⟩,⟨by omega,by omega,by omega,wb,lb0,by omega,ma,by omega,hlt,⟨0,by simp⟩,hq,words_zero _⟩,Nat.le_refl _,by unfold lenOk;omega,?_⟩
    rw[trimmed_mg (rw_words _ _),rw_val hq]
    exact fun w R σ v hv=>hv⟩
noncomputable def E32:Env Tryz.prog:=E31.add [con_pdivmod]
noncomputable def tr_pgcdL (x:LSpec.X spGcd×LSpec.Y spGcd):T (Rd spGcd):=
 .ite (decide ((↑(List.length x.1.2.1):Int)>(0:Int)))
  (.need (x.1.1=mg (valL x.1.1)∧x.1.2.1=mg (valL x.1.2.1)∧List.length x.1.1≤(100000:Nat)∧List.length x.1.2.1≤(100000:Nat)∧valL x.1.2.1≠(0:Nat)) (.ret (.again (x.1.2.1,(mg (valL x.1.1%valL x.1.2.1),())) ())))
  (.ret (.out (Go.Exit.exit (0:Nat)) [(.one (.ds (Cd.int .u32) x.1.1))] ()))
theorem tr_pgcdL_eq (x:LSpec.X spGcd×LSpec.Y spGcd):LSpec.round spGcd E32 (fun _=>none) (bodyOf Tryz.f115 0) x.1 x.2=tr_pgcdL x:=by kernel_rfl
noncomputable def tr_ptiny (x:Els [(true,cF)]):T Av:=
 .need ((0:El (Cd.int .i64))≤(1:Int)∧(1:Int)≤(32:El (Cd.int .i64))) (.ite (tz x.1.1.2.1 x.1.2.2.1 ((32:Nat)-Int.toNat (1:Int)))
   (.need ((0 : Int) ≤ (0 : Int) ∧ (0 : Int) < (↑(32 : Nat) : Int)) (.need ((0 : Int) < (32 : Int)) (.need ((0 : Int) ≤ (0 : Int) ∧ (0 : Int) < (↑(32 : Nat) : Int)) (.need ((0 : Int) < (32 : Int)) (.ite (decide (IntKind.wrap .i64 (↑(Pq.wd x.1.1.2.1 (Int.toNat (0 : Int))) : Int) ≥ (2147483648 : Int)))
        (.ret (.tup [(.one (.v (.int .i64 ((0:Int))))),(.one (.v (.int .i64 ((0:Int))))),(.one (.v (.bool (false))))]))
        (.ite (decide (IntKind.wrap .i64 (↑(Pq.wd x.1.2.2.1 (Int.toNat (0:Int))):Int)≥(2147483648:Int)))
         (.ret (.tup [(.one (.v (.int .i64 ((0:Int))))),(.one (.v (.int .i64 ((0:Int))))),(.one (.v (.bool (false))))]))
         (.ite (IntKind.wrap .i64 (↑(Pq.wd x.1.2.2.1 (Int.toNat (0:Int))):Int)==(0:Int))
          (.ret (.tup [(.one (.v (.int .i64 ((0:Int))))),(.one (.v (.int .i64 ((0:Int))))),(.one (.v (.bool (false))))]))
          (.ite x.1.2.1
           (.ret (.tup [(.one (.v (.int .i64 ((0:Int))))),(.one (.v (.int .i64 ((0:Int))))),(.one (.v (.bool (false))))]))
           (.ite x.1.1.1
            (.ite (IntKind.wrap .i64 (↑(Pq.wd x.1.1.2.1 (Int.toNat (0:Int))):Int)==(0:Int))
             (.ret (.tup [(.one (.v (.int .i64 ((0:Int))))),(.one (.v (.int .i64 ((0:Int))))),(.one (.v (.bool (false))))]))
             (.need ((-9223372036854775808:El (Cd.int .i64))<IntKind.wrap .i64 (↑(Pq.wd x.1.1.2.1 (Int.toNat (0:Int))):Int)∧IntKind.wrap .i64 (↑(Pq.wd x.1.1.2.1 (Int.toNat (0:Int))):Int)<(9223372036854775808:El (Cd.int .i64))∧(-9223372036854775808:El (Cd.int .i64))<IntKind.wrap .i64 (↑(Pq.wd x.1.2.2.1 (Int.toNat (0:Int))):Int)∧IntKind.wrap .i64 (↑(Pq.wd x.1.2.2.1 (Int.toNat (0:Int))):Int)<(9223372036854775808:El (Cd.int .i64))) (.ite ((↑(Nat.gcd (Int.natAbs (IntKind.wrap .i64 (↑(Pq.wd x.1.1.2.1 (Int.toNat (0:Int))):Int))) (Int.natAbs (IntKind.wrap .i64 (↑(Pq.wd x.1.2.2.1 (Int.toNat (0:Int))):Int)))):Int) != (1:Int))
               (.ret (.tup [(.one (.v (.int .i64 ((0:Int))))),(.one (.v (.int .i64 ((0:Int))))),(.one (.v (.bool (false))))]))
               (.ite x.1.1.1
                (.ret (.tup [(.one (.v (.int .i64 (IntKind.wrap .i64 ((0:Int)-IntKind.wrap .i64 (↑(Pq.wd x.1.1.2.1 (Int.toNat (0:Int))):Int)))))),(.one (.v (.int .i64 (IntKind.wrap .i64 (↑(Pq.wd x.1.2.2.1 (Int.toNat (0:Int))):Int))))),(.one (.v (.bool (true))))]))
                (.ret (.tup [(.one (.v (.int .i64 (IntKind.wrap .i64 (↑(Pq.wd x.1.1.2.1 (Int.toNat (0:Int))):Int))))),(.one (.v (.int .i64 (IntKind.wrap .i64 (↑(Pq.wd x.1.2.2.1 (Int.toNat (0:Int))):Int))))),(.one (.v (.bool (true))))]))))))
            (.need ((-9223372036854775808:El (Cd.int .i64))<IntKind.wrap .i64 (↑(Pq.wd x.1.1.2.1 (Int.toNat (0:Int))):Int)∧IntKind.wrap .i64 (↑(Pq.wd x.1.1.2.1 (Int.toNat (0:Int))):Int)<(9223372036854775808:El (Cd.int .i64))∧(-9223372036854775808:El (Cd.int .i64))<IntKind.wrap .i64 (↑(Pq.wd x.1.2.2.1 (Int.toNat (0:Int))):Int)∧IntKind.wrap .i64 (↑(Pq.wd x.1.2.2.1 (Int.toNat (0:Int))):Int)<(9223372036854775808:El (Cd.int .i64))) (.ite ((↑(Nat.gcd (Int.natAbs (IntKind.wrap .i64 (↑(Pq.wd x.1.1.2.1 (Int.toNat (0:Int))):Int))) (Int.natAbs (IntKind.wrap .i64 (↑(Pq.wd x.1.2.2.1 (Int.toNat (0:Int))):Int)))):Int) != (1:Int))
              (.ret (.tup [(.one (.v (.int .i64 ((0:Int))))),(.one (.v (.int .i64 ((0:Int))))),(.one (.v (.bool (false))))]))
              (.ite x.1.1.1
               (.ret (.tup [(.one (.v (.int .i64 (IntKind.wrap .i64 ((0:Int)-IntKind.wrap .i64 (↑(Pq.wd x.1.1.2.1 (Int.toNat (0:Int))):Int)))))),(.one (.v (.int .i64 (IntKind.wrap .i64 (↑(Pq.wd x.1.2.2.1 (Int.toNat (0:Int))):Int))))),(.one (.v (.bool (true))))]))
               (.ret (.tup [(.one (.v (.int .i64 (IntKind.wrap .i64 (↑(Pq.wd x.1.1.2.1 (Int.toNat (0:Int))):Int))))),(.one (.v (.int .i64 (IntKind.wrap .i64 (↑(Pq.wd x.1.2.2.1 (Int.toNat (0:Int))):Int))))),(.one (.v (.bool (true))))]))))))))))))))
   (.ret (.tup [(.one (.v (.int .i64 ((0:Int))))),(.one (.v (.int .i64 ((0:Int))))),(.one (.v (.bool (false))))])))
theorem tr_ptiny_eq (x:Els [(true,cF)]):fnP E32 lpTiny Tryz.f85 (encs [(true,cF)] x)=tr_ptiny x:=by kernel_rfl
def Tells (a b:Av):Prop := ∀ w R σ v,AvIs w R σ a v→AvIs w R σ b v
theorem tells_refl (a:Av):Tells a a:=fun _ _ _ _ h=>h
theorem tells_any (a:Av):Tells a .any:=fun _ _ _ _ _=>.any
theorem tells_kb {b:Bool}:Tells (.one (.v (.bool b))) (.one (.kb b)):=fun w R σ v h=>by
  rw[val_of h rfl];exact .one rfl (.kb .nil)
theorem tells_tup {l k:List Av} (hl:l.length=k.length) (h : ∀ (i:Nat) (a b:Av),l[i]?=some a→k[i]?=some b→Tells a b):Tells (.tup l) (.tup k):=fun w R σ v hv=>by
  cases hv with
  | tup us hl2 hi =>
    refine .tup us (by omega) fun i x u hx hu=>?_
    have hlt:i<k.length:=(List.getElem?_eq_some_iff.1 hx).1
    have ha:l[i]?=some (l[i]'(by omega)):=List.getElem?_eq_getElem _
    exact h i _ x ha hx _ _ _ _ (hi i _ u ha hu)
theorem fork_con {P:Program} {E:Env P} {L:Loops} {f:FuncId} {fn:Func} (hm:P.follows .mixedOrders=true) (hf:P.funcs[f]?=some fn) (hL : ∀ c,fn.body=some c→LoopsOk P 0 L c) (ts:List (Bool×Cd)) (b:Els ts→Bool) (F D:Els ts→Av)
    (h : ∀ x,(fnP E L fn (encs ts x)).wp (fun a=>(b x=true→Tells a (F x))∧(b x=false→Tells a (D x)))):ConOk P f [] (pureRun' ts fun x=>.ite (b x) (.ret (F x)) (.ret (D x))):=by
  refine con_weaken (con_ok (E:=E) (L:=L) hm hf hL ts (fun x=>fnP E L fn (encs ts x)) (fun x Q h=>h)) fun args m Q hq=>?_
  unfold pureRun' at hq ⊢
  split at hq
  · rw[T.wp_bind]at hq ⊢
    refine T.wp_mono (fun a ha=>?_) (h _)
    rename_i x _
    cases hb:b x with
    | true=>exact ⟨_,hq.1 hb,ha.1 hb⟩
    | false=>exact ⟨_,hq.2 hb,ha.2 hb⟩
  · exact hq.elim
def outGcd (x:LSpec.X spGcd) (y:LSpec.Y spGcd):T (Exit×List Av×LSpec.Y spGcd):=
  .need ((x.1:List Int)=mg (valL x.1)∧(x.2.1:List Int)=mg (valL x.2.1)∧List.length x.1≤100000∧List.length x.2.1≤100000) (.ret (.exit 0,[.one (.ds (.int .u32) (mg (Nat.gcd (valL x.1) (valL x.2.1))))],()))
theorem pgcdL_core (a b : List Int) (Q : Exit × List Av × LSpec.Y spGcd → Prop) (h : (outGcd (a, b, ()) ()).wp Q) : (tr_pgcdL ((a, b, ()), ())).wp fun r => match r with
      | .again x' y'=>valL x'.2.1<valL b∧(outGcd x' y').wp Q
      | .out e avs y'=>Q (e,avs,y'):=by
  unfold tr_pgcdL
  unfold outGcd at h ⊢
  simp only[T.wp]at h ⊢
  dsimp only [El,vts,spGcd]at h ⊢
  obtain ⟨⟨ma,mb,la,lb⟩,hq⟩:=h
  refine ⟨fun hgt=>?_,fun hle=>?_⟩
  · have hgt:=of_decide_eq_true hgt
    have h0:valL b≠0:=fun h0=>by rw[h0,mg_zero]at mb;rw[mb]at hgt;simp at hgt
    have hlt:valL a%valL b<valL b:=Nat.mod_lt _ (Nat.pos_of_ne_zero h0)
    rw[Nat.gcd_comm,Nat.gcd_rec,Nat.gcd_comm]at hq
    rw[val_mg]
    refine ⟨⟨ma,mb,la,lb,h0⟩,hlt,⟨mb,rfl,lb,?_⟩,hq⟩
    refine mg_len.1 (Nat.lt_trans hlt ?_)
    rw[mg_len,←mb];exact lb
  · have hle:=of_decide_eq_false hle
    have h0:b=[]:=List.length_eq_zero_iff.1 (by omega)
    subst h0
    rw[val_nil,Nat.gcd_zero_right,←ma]at hq
    exact hq
theorem pgcdL_ok:LoopOk Tryz.prog 0 (bodyOf Tryz.f115 0) (spGcd.run outGcd):=
  loop_ok (E:=E32) (L:=fun _=>none) mixed 0 (loops_none _ _ _) spGcd (Nat.zero_le _) outGcd (fun x _=>valL x.2.1) (by
    rintro ⟨a,b,⟨⟩⟩ ⟨⟩ Q h
    rw[tr_pgcdL_eq ((a,b,()),())]
    exact pgcdL_core a b Q h)
noncomputable def lpGcd:Loops:=oneL 2 (spGcd.run outGcd)
def TyF (x:F):Prop:=x.1.2.1<2147483648∧x.2.2.1<2147483648∧x.2.1=false∧x.2.2.1≠0∧¬ (x.1.1=true∧x.1.2.1=0)∧Nat.gcd x.1.2.1 x.2.2.1=1
instance (x:F):Decidable (TyF x):=by unfold TyF;infer_instance
def tyB (x:F):Bool:=decide (TyF x)
theorem ty_leaf {x:F} {a:Av} (h:¬ TyF x):(tyB x=true→Tells (.tup [aI .i64 0,aI .i64 0,aB false]) a)∧(tyB x=false→Tells (.tup [aI .i64 0,aI .i64 0,aB false]) (.tup [.any,.any,.one (.kb false)])):=by
  refine ⟨fun h'=>absurd (of_decide_eq_true h') h,fun _=>tells_tup rfl fun i a b ha hb=>?_⟩
  match i,ha,hb with
  | 0,_,rfl=>exact tells_any _
  | 1,_,rfl=>exact tells_any _
  | 2,rfl,rfl=>exact tells_kb
theorem ty_yes {x:F} (h:TyF x) {p q:Int} (hp:p=zW x.1) (hq:q=zW x.2):(tyB x=true→Tells (.tup [aI .i64 p,aI .i64 q,aB true]) (.tup [aI .i64 (zW x.1),aI .i64 (zW x.2),.one (.kb true)]))∧(tyB x=false→Tells (.tup [aI .i64 p,aI .i64 q,aB true]) (.tup [.any,.any,.one (.kb false)])):=by
  subst hp hq
  refine ⟨fun _=>tells_tup rfl fun i a b ha hb=>?_,fun h'=>absurd h (of_decide_eq_false h')⟩
  match i,ha,hb with
  | 0,rfl,rfl=>exact tells_refl _
  | 1,rfl,rfl=>exact tells_refl _
  | 2,rfl,rfl=>exact tells_kb
noncomputable def con_ptiny:Con Tryz.prog:=⟨85,[],_,cf_ptiny,fork_con (E:=E32) (L:=lpTiny) mixed Tryz.func85 (one_loop ptinyL_ok (by kernel_rfl)) [(true,cF)] (fun x=>tyB x.1) (fun x=>.tup [aI .i64 (zW x.1.1),aI .i64 (zW x.1.2),.one (.kb true)]) (fun x=>.tup [.any,.any,.one (.kb false)]) fun x=>by
  rw[tr_ptiny_eq]
  obtain ⟨⟨⟨s,n⟩,⟨t,d⟩⟩,u⟩:=x
  revert s n t d
  intro (s:Bool) (n:Amt) (t:Bool) (d:Amt)
  have ets:=tz_spec n.2 d.2 31 (by decide)
  rw[show Pq.bp (32-31)=4294967296 from rfl]at ets
  unfold tr_ptiny
  simp only[T.wp]
  refine ⟨by decide,fun htz=>?_,fun htz=>ty_leaf fun h=>?_⟩
  · have htz:=ets.1 htz
    have e0:Pq.wd n.1 (Int.toNat 0)=n.1:=Pq.wd_small htz.1
    have e1:Pq.wd d.1 (Int.toNat 0)=d.1:=Pq.wd_small htz.2
    have w0:IntKind.i64.wrap ((n.1:Nat):Int)=n.1:=IntWalk.i64_in _ (by omega)
    have w1:IntKind.i64.wrap ((d.1:Nat):Int)=d.1:=IntWalk.i64_in _ (by omega)
    simp only[e0,e1,w0,w1]
    have w2:n.1<2147483648→IntKind.i64.wrap (0-((n.1:Nat):Int)) = - n.1:=fun h=>by rw[IntWalk.i64_in _ (by omega)];omega
    have eg : ∀ a b:Nat,Nat.gcd (Int.natAbs (a:Int)) (Int.natAbs (b:Int))=Nat.gcd a b:=fun a b=>by rw[Int.natAbs_natCast,Int.natAbs_natCast]
    simp only[eg]
    have bnd:decide ((n.1:Int)≥2147483648)=false→decide ((d.1:Int)≥2147483648)=false→(-9223372036854775808:Int)<(n.1:Int)∧(n.1:Int)<9223372036854775808∧(-9223372036854775808:Int)<(d.1:Int)∧(d.1:Int)<9223372036854775808:=fun h1 h2=>by
      have h1:=of_decide_eq_false h1
      have h2:=of_decide_eq_false h2
      omega
    refine ⟨by decide,by decide,by decide,by decide,fun h1=>ty_leaf fun h=>?_,fun h1=>⟨fun h2=>ty_leaf fun h=>?_,fun h2=>⟨fun h3=>ty_leaf fun h=>?_,fun h3=>⟨fun h4=>ty_leaf fun h=>?_,fun h4=>⟨fun h5=>⟨fun h6=>ty_leaf fun h=>?_,fun h6=>⟨bnd h1 h2,fun h7=>ty_leaf fun h=>?_,fun h7=>⟨fun h8=>?_,fun h8=>?_⟩⟩⟩,fun h5=>⟨bnd h1 h2,fun h7=>ty_leaf fun h=>?_,fun h7=>⟨fun h8=>?_,fun h8=>?_⟩⟩⟩⟩⟩⟩⟩
    · have h1:=of_decide_eq_true h1
      have g1:n.1<2147483648:=h.1
      omega
    · have h2:=of_decide_eq_true h2
      have g1:d.1<2147483648:=h.2.1
      omega
    · exact h.2.2.2.1 (by simpa using h3)
    · have:=h.2.2.1
      dsimp only at this
      rw[this]at h4;cases h4
    · exact h.2.2.2.2.1 ⟨h5,by simpa using h6⟩
    · have:=h.2.2.2.2.2
      dsimp only at this
      rw[this]at h7
      simp at h7
    · have h1:=of_decide_eq_false h1
      have h2:=of_decide_eq_false h2
      have h4:t=false:=h4
      have h5:s=true:=h5
      subst h4 h5
      have g6:n.1≠0:=by simpa using h6
      have g7:¬ ((Nat.gcd n.1 d.1:Nat):Int)≠1:=by simpa using h7
      have g8:Nat.gcd n.1 d.1=1:=by omega
      have hT:TyF ((true,n),(false,d)):=⟨by show n.1<_;omega,by show d.1<_;omega,rfl,by simpa using h3,fun h=>g6 h.2,g8⟩
      exact ty_yes hT (by rw[w2 (by omega)];rfl) rfl
    · have h5:s=true:=h5
      rw[h5]at h8;cases h8
    · have:=h.2.2.2.2.2
      dsimp only at this
      rw[this]at h7
      simp at h7
    · have h5:s=false:=h5
      rw[h5]at h8;cases h8
    · have h1:=of_decide_eq_false h1
      have h2:=of_decide_eq_false h2
      have h4:t=false:=h4
      have h5:s=false:=h5
      subst h4 h5
      have g7:¬ ((Nat.gcd n.1 d.1:Nat):Int)≠1:=by simpa using h7
      have g8:Nat.gcd n.1 d.1=1:=by omega
      have hT:TyF ((false,n),(false,d)):=⟨by show n.1<_;omega,by show d.1<_;omega,rfl,by simpa using h3,fun h=>Bool.noConfusion h.1,g8⟩
      exact ty_yes hT rfl rfl
  · have g1:n.1<2147483648:=h.1
    have g2:d.1<2147483648:=h.2.1
    have:tz n.1 d.1 31=true:=ets.2 ⟨by omega,by omega⟩
    rw[show (32-Int.toNat 1)=31 from rfl]at htz
    rw[this]at htz;cases htz⟩
noncomputable def E33:Env Tryz.prog:=E32.add [con_ptiny]
theorem cf_pIs (xs:Array Value) (w:World):(callFunc 64 xs).run Tryz.prog w=.ok (.enter 64 xs) w:=by kernel_rfl
theorem cf_pBits (xs:Array Value) (w:World):(callFunc 65 xs).run Tryz.prog w=.ok (.enter 65 xs) w:=by kernel_rfl
theorem cf_pCmp (xs:Array Value) (w:World):(callFunc 45 xs).run Tryz.prog w=.ok (.enter 45 xs) w:=by kernel_rfl
theorem cf_pSign (xs:Array Value) (w:World):(callFunc 14 xs).run Tryz.prog w=.ok (.enter 14 xs) w:=by kernel_rfl
theorem cf_psum (xs:Array Value) (w:World):(callFunc 82 xs).run Tryz.prog w=.ok (.enter 82 xs) w:=by kernel_rfl
theorem cf_ptinies (xs:Array Value) (w:World):(callFunc 42 xs).run Tryz.prog w=.ok (.enter 42 xs) w:=by kernel_rfl
theorem cf_pquick (xs:Array Value) (w:World):(callFunc 81 xs).run Tryz.prog w=.ok (.enter 81 xs) w:=by kernel_rfl
theorem cf_prat (xs:Array Value) (w:World):(callFunc 66 xs).run Tryz.prog w=.ok (.enter 66 xs) w:=by kernel_rfl
theorem cf_pIsRat (xs:Array Value) (w:World):(callFunc 87 xs).run Tryz.prog w=.ok (.enter 87 xs) w:=by kernel_rfl
theorem cf_pSafe (xs:Array Value) (w:World):(callFunc 46 xs).run Tryz.prog w=.ok (.enter 46 xs) w:=by kernel_rfl
theorem cf_pboth (xs:Array Value) (w:World):(callFunc 43 xs).run Tryz.prog w=.ok (.enter 43 xs) w:=by kernel_rfl
theorem cf_pCmpRat (xs:Array Value) (w:World):(callFunc 15 xs).run Tryz.prog w=.ok (.enter 15 xs) w:=by kernel_rfl
theorem cf_pplus (xs:Array Value) (w:World):(callFunc 40 xs).run Tryz.prog w=.ok (.enter 40 xs) w:=by kernel_rfl
theorem cf_pSubRat (xs:Array Value) (w:World):(callFunc 13 xs).run Tryz.prog w=.ok (.enter 13 xs) w:=by kernel_rfl
noncomputable def tr_pgcd (x:Els [(false,.sl (.int .u32)),(false,.sl (.int .u32))]):T Av:=
 .need (x.1=mg (valL (x.1))∧x.2.1=mg (valL x.2.1)∧List.length (x.1)≤(100000:Nat)∧List.length x.2.1≤(100000:Nat)) (.ret (.one (.ds (Cd.int .u32) (mg (Nat.gcd (valL (x.1)) (valL x.2.1))))))
theorem tr_pgcd_eq (x:Els [(false,.sl (.int .u32)),(false,.sl (.int .u32))]):fnP E33 lpGcd Tryz.f115 (encs [(false,.sl (.int .u32)),(false,.sl (.int .u32))] x)=tr_pgcd x:=by kernel_rfl
noncomputable def tr_pIs (x:Els [(true,cW)]):T Av:=
 .ite (!x.1.1)
  (.ret (.one (.v (.bool (true)))))
  (.ret (.one (.v (.bool (decide ((↑(List.length (mg x.1.2.1)):Int)>(0:Int)))))))
theorem tr_pIs_eq (x:Els [(true,cW)]):fnP E33 (fun _=>none) Tryz.f64 (encs [(true,cW)] x)=tr_pIs x:=by kernel_rfl
noncomputable def tr_pBits (x:Els [(true,cW)]):T Av:=
 .need (mg x.1.2.1=mg (valL (mg x.1.2.1))∧List.length (mg x.1.2.1)≤(1000000:Nat)) (.ret (.one (.v (.int .i64 ((↑(Pq.bitn (valL (mg x.1.2.1))):Int))))))
theorem tr_pBits_eq (x:Els [(true,cW)]):fnP E33 (fun _=>none) Tryz.f65 (encs [(true,cW)] x)=tr_pBits x:=by kernel_rfl
noncomputable def tr_pCmp (x:Els [(true,cW),(true,cW)]):T Av:=
 .ite (x.1.1&&decide (x.1.2.1≠(0:Nat)))
  (.ite (!(x.2.1.1&&decide (x.2.1.2.1≠(0:Nat))))
   (.ret (.one (.v (.int .i64 ((-1:Int))))))
   (.ite (!(x.1.1&&decide (x.1.2.1≠(0:Nat))))
    (.ite (x.2.1.1&&decide (x.2.1.2.1≠(0:Nat)))
     (.ret (.one (.v (.int .i64 ((1:Int))))))
     (.ite (x.1.1&&decide (x.1.2.1≠(0:Nat)))
      (.need (mg x.2.1.2.1=mg (valL (mg x.2.1.2.1))∧mg x.1.2.1=mg (valL (mg x.1.2.1))∧List.length (mg x.2.1.2.1)≤(1000000:Nat)∧List.length (mg x.1.2.1)≤(1000000:Nat)) (.ret (.one (.v (.int .i64 (Pq.cz (↑(valL (mg x.2.1.2.1)):Int) (↑(valL (mg x.1.2.1)):Int)))))))
      (.need (mg x.1.2.1=mg (valL (mg x.1.2.1))∧mg x.2.1.2.1=mg (valL (mg x.2.1.2.1))∧List.length (mg x.1.2.1)≤(1000000:Nat)∧List.length (mg x.2.1.2.1)≤(1000000:Nat)) (.ret (.one (.v (.int .i64 (Pq.cz (↑(valL (mg x.1.2.1)):Int) (↑(valL (mg x.2.1.2.1)):Int)))))))))
    (.ite (x.1.1&&decide (x.1.2.1≠(0:Nat)))
     (.need (mg x.2.1.2.1=mg (valL (mg x.2.1.2.1))∧mg x.1.2.1=mg (valL (mg x.1.2.1))∧List.length (mg x.2.1.2.1)≤(1000000:Nat)∧List.length (mg x.1.2.1)≤(1000000:Nat)) (.ret (.one (.v (.int .i64 (Pq.cz (↑(valL (mg x.2.1.2.1)):Int) (↑(valL (mg x.1.2.1)):Int)))))))
     (.need (mg x.1.2.1=mg (valL (mg x.1.2.1))∧mg x.2.1.2.1=mg (valL (mg x.2.1.2.1))∧List.length (mg x.1.2.1)≤(1000000:Nat)∧List.length (mg x.2.1.2.1)≤(1000000:Nat)) (.ret (.one (.v (.int .i64 (Pq.cz (↑(valL (mg x.1.2.1)):Int) (↑(valL (mg x.2.1.2.1)):Int))))))))))
  (.ite (!(x.1.1&&decide (x.1.2.1≠(0:Nat))))
   (.ite (x.2.1.1&&decide (x.2.1.2.1≠(0:Nat)))
    (.ret (.one (.v (.int .i64 ((1:Int))))))
    (.ite (x.1.1&&decide (x.1.2.1≠(0:Nat)))
     (.need (mg x.2.1.2.1=mg (valL (mg x.2.1.2.1))∧mg x.1.2.1=mg (valL (mg x.1.2.1))∧List.length (mg x.2.1.2.1)≤(1000000:Nat)∧List.length (mg x.1.2.1)≤(1000000:Nat)) (.ret (.one (.v (.int .i64 (Pq.cz (↑(valL (mg x.2.1.2.1)):Int) (↑(valL (mg x.1.2.1)):Int)))))))
     (.need (mg x.1.2.1=mg (valL (mg x.1.2.1))∧mg x.2.1.2.1=mg (valL (mg x.2.1.2.1))∧List.length (mg x.1.2.1)≤(1000000:Nat)∧List.length (mg x.2.1.2.1)≤(1000000:Nat)) (.ret (.one (.v (.int .i64 (Pq.cz (↑(valL (mg x.1.2.1)):Int) (↑(valL (mg x.2.1.2.1)):Int)))))))))
   (.ite (x.1.1&&decide (x.1.2.1≠(0:Nat)))
    (.need (mg x.2.1.2.1=mg (valL (mg x.2.1.2.1))∧mg x.1.2.1=mg (valL (mg x.1.2.1))∧List.length (mg x.2.1.2.1)≤(1000000:Nat)∧List.length (mg x.1.2.1)≤(1000000:Nat)) (.ret (.one (.v (.int .i64 (Pq.cz (↑(valL (mg x.2.1.2.1)):Int) (↑(valL (mg x.1.2.1)):Int)))))))
    (.need (mg x.1.2.1=mg (valL (mg x.1.2.1))∧mg x.2.1.2.1=mg (valL (mg x.2.1.2.1))∧List.length (mg x.1.2.1)≤(1000000:Nat)∧List.length (mg x.2.1.2.1)≤(1000000:Nat)) (.ret (.one (.v (.int .i64 (Pq.cz (↑(valL (mg x.1.2.1)):Int) (↑(valL (mg x.2.1.2.1)):Int)))))))))
theorem tr_pCmp_eq (x:Els [(true,cW),(true,cW)]):fnP E33 (fun _=>none) Tryz.f45 (encs [(true,cW),(true,cW)] x)=tr_pCmp x:=by kernel_rfl
noncomputable def tr_pSign (x:Els [(true,cF)]):T Av:=
 .ite ((↑(List.length (mg x.1.1.2.1)):Int)==(0:Int))
  (.ret (.one (.v (.int .i64 ((0:Int))))))
  (.ite x.1.1.1
   (.ret (.one (.v (.int .i64 ((-1:Int))))))
   (.ret (.one (.v (.int .i64 ((1:Int)))))))
theorem tr_pSign_eq (x:Els [(true,cF)]):fnP E33 (fun _=>none) Tryz.f14 (encs [(true,cF)] x)=tr_pSign x:=by kernel_rfl
noncomputable def tr_psum (x:Els [(false,.bool),(false,.sl (.int .u32)),(false,.bool),(false,.sl (.int .u32))]):T Av:=
 .ite (x.1==x.2.2.1)
  (.need (List.length x.2.1≤(1000000:Nat)∧List.length x.2.2.2.1≤(1000000:Nat)∧Words x.2.1∧Words x.2.2.2.1) (.ret (.tup [(.one (.v (.bool (x.1)))),(.one (.ds (Cd.int .u32) (mg (valL x.2.1+valL x.2.2.2.1))))])))
  (.need (x.2.1=mg (valL x.2.1)∧x.2.2.2.1=mg (valL x.2.2.2.1)∧List.length x.2.1≤(1000000:Nat)∧List.length x.2.2.2.1≤(1000000:Nat)) (.ite (decide (Pq.cz (↑(valL x.2.1):Int) (↑(valL x.2.2.2.1):Int)≥(0:Int)))
    (.need (x.2.1=mg (valL x.2.1)∧x.2.2.2.1=mg (valL x.2.2.2.1)∧List.length x.2.1≤(1000000:Nat)∧valL x.2.2.2.1≤valL x.2.1) (.ret (.tup [(.one (.v (.bool (x.1)))),(.one (.ds (Cd.int .u32) (mg (valL x.2.1-valL x.2.2.2.1))))])))
    (.need (x.2.2.2.1=mg (valL x.2.2.2.1)∧x.2.1=mg (valL x.2.1)∧List.length x.2.2.2.1≤(1000000:Nat)∧valL x.2.1≤valL x.2.2.2.1) (.ret (.tup [(.one (.v (.bool x.2.2.1))),(.one (.ds (Cd.int .u32) (mg (valL x.2.2.2.1-valL x.2.1))))])))))
theorem tr_psum_eq (x:Els [(false,.bool),(false,.sl (.int .u32)),(false,.bool),(false,.sl (.int .u32))]):fnP E33 (fun _=>none) Tryz.f82 (encs [(false,.bool),(false,.sl (.int .u32)),(false,.bool),(false,.sl (.int .u32))] x)=tr_psum x:=by kernel_rfl
noncomputable def tr_ptinies (x:Els [(true,cF),(true,cF)]):T Av:=
 .ite (tyB (x.1))
  (.ite (tyB x.2.1)
   (.ret (.tup [(.one (.v (.int .i64 (zW x.1.1)))),(.one (.v (.int .i64 (zW x.1.2)))),(.one (.v (.int .i64 (zW x.2.1.1)))),(.one (.v (.int .i64 (zW x.2.1.2)))),(.one (.v (.bool (true))))]))
   (.ret (.tup [(.one (.v (.int .i64 (zW x.1.1)))),(.one (.v (.int .i64 (zW x.1.2)))),.any,.any,(.one (.v (.bool (false))))])))
  (.ite (tyB x.2.1)
   (.ret (.tup [.any,.any,(.one (.v (.int .i64 (zW x.2.1.1)))),(.one (.v (.int .i64 (zW x.2.1.2)))),(.one (.v (.bool (false))))]))
   (.ret (.tup [.any,.any,.any,.any,(.one (.v (.bool (false))))])))
theorem tr_ptinies_eq (x:Els [(true,cF),(true,cF)]):fnP E33 (fun _=>none) Tryz.f42 (encs [(true,cF),(true,cF)] x)=tr_ptinies x:=by kernel_rfl
noncomputable def con_pgcd:Con Tryz.prog:=⟨115,[],_,cf_pgcd,val_con (E:=E33) (L:=lpGcd) mixed Tryz.func115 (one_loop pgcdL_ok (by kernel_rfl)) [(false,.sl (.int .u32)),(false,.sl (.int .u32))] (fun x=>(x.1:List Int)=mg (valL x.1)∧(x.2.1:List Int)=mg (valL x.2.1)∧List.length x.1≤100000∧List.length x.2.1≤100000) (fun x=>.one (.ds (.int .u32) (mg (Nat.gcd (valL x.1) (valL x.2.1))))) fun x hx=>by
  rw[tr_pgcd_eq]
  exact ⟨hx,rfl⟩⟩
theorem mg_pos_iff (x:Nat):decide (((mg x).length:Int)>0)=decide (x≠0):=by
  rw[decide_eq_decide]
  constructor
  · intro hl h0;rw[h0,mg_zero]at hl;simp at hl
  · intro h0
    rcases Nat.eq_zero_or_pos (mg x).length with h'|h'
    · exact absurd (mg_nil.1 (List.length_eq_zero_iff.1 h')) h0
    · omega
theorem mg_w (w:W):(mg w.2.1).length≤32:=mg_len.1 w.2.2
noncomputable def con_pIs:Con Tryz.prog:=⟨64,[],_,cf_pIs,tot_con (E:=E33) mixed Tryz.func64 no_loops [(true,cW)] (fun x=>aB (isW x.1)) fun x=>by
  rw[tr_pIs_eq]
  obtain ⟨⟨s,n⟩,u⟩:=x
  revert s n
  intro (s:Bool) (n:Amt)
  unfold tr_pIs
  simp only[T.wp]
  rw[mg_pos_iff]
  cases s with
  | false=>exact ⟨fun _=>rfl,fun h=>Bool.noConfusion h⟩
  | true =>
    refine ⟨fun h=>Bool.noConfusion h,fun _=>?_⟩
    have:isW ((true,n):W)=decide (n.1≠0):=by
      rw[Bool.eq_iff_iff,isW_iff]
      simp
    rw[this];rfl⟩
noncomputable def con_pBits:Con Tryz.prog:=⟨65,[],_,cf_pBits,tot_con (E:=E33) mixed Tryz.func65 no_loops [(true,cW)] (fun x=>aI .i64 (Pq.bitn x.1.2.1)) fun x=>by
  rw[tr_pBits_eq]
  obtain ⟨w,u⟩:=x
  revert w
  intro (w:W)
  unfold tr_pBits
  simp only[T.wp]
  have:=mg_w w
  refine ⟨⟨by rw[val_mg],by omega⟩,?_⟩
  rw[val_mg];rfl⟩
noncomputable def con_pCmp:Con Tryz.prog:=⟨45,[],_,cf_pCmp,tot_con (E:=E33) mixed Tryz.func45 no_loops [(true,cW),(true,cW)] (fun x=>aI .i64 (Pq.cz (zW x.1) (zW x.2.1))) fun x=>by
  rw[tr_pCmp_eq]
  obtain ⟨a,b,u⟩:=x
  revert a b
  intro (a:W) (b:W)
  have la:=mg_w a
  have lb:=mg_w b
  unfold tr_pCmp
  simp only[T.wp]
  simp only[val_mg]
  have ez : ∀ w:W,zW w=if (w.1&&decide (w.2.1≠0))=true then -(w.2.1:Int) else w.2.1:=fun w=>by
    obtain ⟨s,n,hn⟩:=w
    show Pq.zv s n=if (s&&decide (n≠0))=true then -(n:Int) else n
    unfold Pq.zv
    cases s with
    | false=>simp
    | true =>
      by_cases h0:n=0
      · subst h0;simp
      · simp[h0]
  have hp : ∀ w:W,(w.1&&decide (w.2.1≠0))=true→0<w.2.1:=fun w h=>by
    rw[Bool.and_eq_true]at h
    have:=of_decide_eq_true h.2
    omega
  have ea:=ez a
  have eb:=ez b
  have pa:=hp a
  have pb:=hp b
  generalize (a.1&&decide (a.2.1≠0))=p at *
  generalize (b.1&&decide (b.2.1≠0))=q at *
  have key : ∀ c:Int,Pq.cz (zW a) (zW b)=c→Av.one (.v (.int .i64 c))=aI .i64 (Pq.cz (zW a) (zW b)):=fun c h=>by rw[h];rfl
  have na:mg a.2.1=mg a.2.1:=rfl
  cases p <;> cases q <;> simp only[Bool.not_true,Bool.not_false,reduceCtorEq,forall_const,false_implies,true_and,and_true,if_true,if_false,Bool.false_eq_true]at *
  · refine ⟨⟨by omega,by omega⟩,key _ ?_⟩
    rw[ea,eb]
  · refine key _ (Pq.cz_gt ?_)
    rw[ea,eb];omega
  · refine key _ (Pq.cz_lt ?_)
    rw[ea,eb];omega
  · refine ⟨⟨by omega,by omega⟩,key _ ?_⟩
    rw[ea,eb]
    unfold Pq.cz
    split <;> split <;> (try split) <;> omega⟩
noncomputable def con_pSign:Con Tryz.prog:=⟨14,[],_,cf_pSign,tot_con (E:=E33) mixed Tryz.func14 no_loops [(true,cF)] (fun x=>aI .i64 (Pq.cz (zW x.1.1) 0)) fun x=>by
  rw[tr_pSign_eq]
  obtain ⟨⟨⟨s,n⟩,d⟩,u⟩:=x
  revert s n d
  intro (d:W) (s:Bool) (n:Amt)
  unfold tr_pSign
  simp only[T.wp]
  have e:zW ((s,n):W)=Pq.zv s n.1:=rfl
  have el:((((mg n.1).length:Int)==0)=true)↔n.1=0:=by
    rw[beq_iff_eq]
    constructor
    · intro h
      exact mg_nil.1 (List.length_eq_zero_iff.1 (by omega))
    · intro h;rw[h,mg_zero];rfl
  refine ⟨fun h=>?_,fun h=>⟨fun hs=>?_,fun hs=>?_⟩⟩
  · have h:=el.1 h
    rw[e,h]
    cases s <;> rfl
  · have h0:n.1≠0:=fun h'=>by rw[el.2 h']at h;cases h
    have hs:s=true:=hs
    subst hs
    rw[e,Pq.cz_lt (by simp[Pq.zv];omega)];rfl
  · have h0:n.1≠0:=fun h'=>by rw[el.2 h']at h;cases h
    have hs:s=false:=hs
    subst hs
    rw[e,Pq.cz_gt (by simp[Pq.zv];omega)];rfl⟩
def sS (x:Bool) (a:Nat) (y:Bool) (b:Nat):Bool×Nat:=if x=y then (x,a+b) else if b≤a then (x,a-b) else (y,b-a)
theorem sS_zv (x:Bool) (a:Nat) (y:Bool) (b:Nat):Pq.zv (sS x a y b).1 (sS x a y b).2=Pq.zv x a+Pq.zv y b:=by
  unfold sS
  cases x <;> cases y <;> simp[Pq.zv]
  · split <;> simp <;> omega
  · split <;> simp <;> omega
  · omega
noncomputable def con_psum:Con Tryz.prog:=⟨82,[],_,cf_psum,val_con (E:=E33) mixed Tryz.func82 no_loops [(false,.bool),(false,.sl (.int .u32)),(false,.bool),(false,.sl (.int .u32))] (fun x=>(x.2.1:List Int)=mg (valL x.2.1)∧(x.2.2.2.1:List Int)=mg (valL x.2.2.2.1)∧List.length x.2.1≤1000000∧List.length x.2.2.2.1≤1000000) (fun x=>.tup [aB (sS x.1 (valL x.2.1) x.2.2.1 (valL x.2.2.2.1)).1,.one (.ds (.int .u32) (mg (sS x.1 (valL x.2.1) x.2.2.1 (valL x.2.2.2.1)).2))]) fun x hx=>by
  rw[tr_psum_eq]
  obtain ⟨s,a,t,b,u⟩:=x
  revert s a t b
  intro (s:Bool) (a:List Int) (t:Bool) (b:List Int) (hx:a=mg (valL a)∧b=mg (valL b)∧a.length≤1000000∧b.length≤1000000)
  obtain ⟨ma,mb,la,lb⟩:=hx
  have wa:Words a:=by rw[ma];exact mg_words _
  have wb:Words b:=by rw[mb];exact mg_words _
  unfold tr_psum
  simp only[T.wp]
  have hcz:decide (Pq.cz (valL a) (valL b)≥0)=decide (valL b≤valL a):=by
    rw[decide_eq_decide]
    unfold Pq.cz
    split
    · omega
    · split <;> omega
  rw[hcz]
  refine ⟨fun h=>⟨⟨la,lb,wa,wb⟩,?_⟩,fun h=>⟨⟨ma,mb,la,lb⟩,fun hle=>⟨⟨ma,mb,la,of_decide_eq_true hle⟩,?_⟩,fun hle=>⟨⟨mb,ma,lb,by have:=of_decide_eq_false hle;omega⟩,?_⟩⟩⟩
  · have h:s=t:=by simpa using h
    unfold sS
    rw[if_pos h];rfl
  · have h:¬ s=t:=by simpa using h
    unfold sS
    rw[if_neg h,if_pos (of_decide_eq_true hle)];rfl
  · have h:¬ s=t:=by simpa using h
    unfold sS
    rw[if_neg h,if_neg (of_decide_eq_false hle)];rfl⟩
noncomputable def con_ptinies:Con Tryz.prog:=⟨42,[],_,cf_ptinies,fork_con (E:=E33) mixed Tryz.func42 no_loops [(true,cF),(true,cF)] (fun x=>tyB x.1&&tyB x.2.1) (fun x=>.tup [aI .i64 (zW x.1.1),aI .i64 (zW x.1.2),aI .i64 (zW x.2.1.1),aI .i64 (zW x.2.1.2),.one (.kb true)]) (fun x=>.tup [.any,.any,.any,.any,.one (.kb false)]) fun x=>by
  rw[tr_ptinies_eq]
  obtain ⟨a,b,u⟩:=x
  revert a b
  intro (a:F) (b:F)
  unfold tr_ptinies
  simp only[T.wp]
  have yes:Tells (.tup [aI .i64 (zW a.1),aI .i64 (zW a.2),aI .i64 (zW b.1),aI .i64 (zW b.2),aB true]) (.tup [aI .i64 (zW a.1),aI .i64 (zW a.2),aI .i64 (zW b.1),aI .i64 (zW b.2),.one (.kb true)]):=tells_tup rfl fun i p q hp hq=>by
    match i,hp,hq with
    | 0,rfl,rfl=>exact tells_refl _
    | 1,rfl,rfl=>exact tells_refl _
    | 2,rfl,rfl=>exact tells_refl _
    | 3,rfl,rfl=>exact tells_refl _
    | 4,rfl,rfl=>exact tells_kb
  have no : ∀ p q r s:Av,Tells (.tup [p,q,r,s,aB false]) (.tup [.any,.any,.any,.any,.one (.kb false)]):=fun p q r s=>tells_tup rfl fun i x y hp hq=>by
    match i,hp,hq with
    | 0,_,rfl=>exact tells_any _
    | 1,_,rfl=>exact tells_any _
    | 2,_,rfl=>exact tells_any _
    | 3,_,rfl=>exact tells_any _
    | 4,rfl,rfl=>exact tells_kb
  refine ⟨fun ha=>⟨fun hb=>⟨fun _=>yes,fun h=>?_⟩,fun hb=>⟨fun h=>?_,fun _=>no _ _ _ _⟩⟩,fun ha=>⟨fun hb=>⟨fun h=>?_,fun _=>no _ _ _ _⟩,fun hb=>⟨fun h=>?_,fun _=>no _ _ _ _⟩⟩⟩
  · rw[ha,hb]at h;cases h
  · rw[ha,hb]at h;cases h
  · rw[ha]at h;cases h
  · rw[ha]at h;cases h⟩
noncomputable def E34:Env Tryz.prog:=E33.add [con_pgcd,con_pIs,con_pBits,con_pCmp,con_pSign,con_psum,con_ptinies]
noncomputable def tr_pquick (x:Els [(false,.int .i64),(false,.int .i64)]):T Av:=
 .need ((-9223372036854775808:El (Cd.int .i64))<x.1∧x.1<(9223372036854775808:El (Cd.int .i64))∧(-9223372036854775808:El (Cd.int .i64))<x.2.1∧x.2.1<(9223372036854775808:El (Cd.int .i64))) (.need ((↑(Nat.gcd (Int.natAbs (x.1)) (Int.natAbs x.2.1)):Int)≠(0:Int)) (.need ((↑(Nat.gcd (Int.natAbs (x.1)) (Int.natAbs x.2.1)):Int)≠(0:Int)) (.need (in64 (IntKind.wrap .i64 (Int.tdiv (x.1) (↑(Nat.gcd (Int.natAbs (x.1)) (Int.natAbs x.2.1)):Int)))) (.need (in64 (IntKind.wrap .i64 (Int.tdiv x.2.1 (↑(Nat.gcd (Int.natAbs (x.1)) (Int.natAbs x.2.1)):Int)))) (.ret (.agg [.v (.bool (wOf (IntKind.wrap .i64 (Int.tdiv (x.1) (↑(Nat.gcd (Int.natAbs (x.1)) (Int.natAbs x.2.1)):Int)))).1),.w (wOf (IntKind.wrap .i64 (Int.tdiv (x.1) (↑(Nat.gcd (Int.natAbs (x.1)) (Int.natAbs x.2.1)):Int)))).2,.v (.bool (wOf (IntKind.wrap .i64 (Int.tdiv x.2.1 (↑(Nat.gcd (Int.natAbs (x.1)) (Int.natAbs x.2.1)):Int)))).1),.w (wOf (IntKind.wrap .i64 (Int.tdiv x.2.1 (↑(Nat.gcd (Int.natAbs (x.1)) (Int.natAbs x.2.1)):Int)))).2]))))))
theorem tr_pquick_eq (x:Els [(false,.int .i64),(false,.int .i64)]):fnP E34 (fun _=>none) Tryz.f81 (encs [(false,.int .i64),(false,.int .i64)] x)=tr_pquick x:=by kernel_rfl
noncomputable def tr_prat (x:Els [(false,.bool),(false,.sl (.int .u32)),(false,.sl (.int .u32))]):T Av:=
 .need (x.2.1 = mg (valL x.2.1) ∧ x.2.2.1 = mg (valL x.2.2.1) ∧ List.length x.2.1 ≤ (100000 : Nat) ∧ List.length x.2.2.1 ≤ (100000 : Nat)) (.need (x.2.1 = mg (valL x.2.1) ∧ mg (Nat.gcd (valL x.2.1) (valL x.2.2.1)) = mg (valL (mg (Nat.gcd (valL x.2.1) (valL x.2.2.1)))) ∧ List.length x.2.1 ≤ (100000 : Nat) ∧ List.length (mg (Nat.gcd (valL x.2.1) (valL x.2.2.1))) ≤ (100000 : Nat) ∧ valL (mg (Nat.gcd (valL x.2.1) (valL x.2.2.1))) ≠ (0 : Nat)) (.need (x.2.2.1 = mg (valL x.2.2.1) ∧ mg (Nat.gcd (valL x.2.1) (valL x.2.2.1)) = mg (valL (mg (Nat.gcd (valL x.2.1) (valL x.2.2.1)))) ∧ List.length x.2.2.1 ≤ (100000 : Nat) ∧ List.length (mg (Nat.gcd (valL x.2.1) (valL x.2.2.1))) ≤ (100000 : Nat) ∧ valL (mg (Nat.gcd (valL x.2.1) (valL x.2.2.1))) ≠ (0 : Nat)) (.need (lenOk (List.length (mg (valL x.2.1 / valL (mg (Nat.gcd (valL x.2.1) (valL x.2.2.1)))))) ∧ Words (mg (valL x.2.1 / valL (mg (Nat.gcd (valL x.2.1) (valL x.2.2.1)))))) (.ite (decide (List.length (trimmed (mg (valL x.2.1 / valL (mg (Nat.gcd (valL x.2.1) (valL x.2.2.1)))))) ≤ (32 : Nat)))
      (.lt (pW (x.1) (trimmed (mg (valL x.2.1/valL (mg (Nat.gcd (valL x.2.1) (valL x.2.2.1))))))) (fun v0 =>
       .need (lenOk (List.length (mg (valL x.2.2.1/valL (mg (Nat.gcd (valL x.2.1) (valL x.2.2.1))))))∧Words (mg (valL x.2.2.1/valL (mg (Nat.gcd (valL x.2.1) (valL x.2.2.1)))))) (.ite (decide (List.length (trimmed (mg (valL x.2.2.1/valL (mg (Nat.gcd (valL x.2.1) (valL x.2.2.1))))))≤(32:Nat)))
         (.lt (pW false (trimmed (mg (valL x.2.2.1/valL (mg (Nat.gcd (valL x.2.1) (valL x.2.2.1))))))) (fun v1 =>
          .ret (.tup [(.agg [.v (.bool v0.1),.w v0.2,.v (.bool v1.1),.w v1.2]),(.one (.v (.bool (true))))])))
         (.ret (.tup [(.agg [.v (.bool v0.1),.w v0.2,.v (.bool w0.1),.w w0.2]),(.one (.v (.bool (false))))])))))
      (.need (lenOk (List.length (mg (valL x.2.2.1/valL (mg (Nat.gcd (valL x.2.1) (valL x.2.2.1))))))∧Words (mg (valL x.2.2.1/valL (mg (Nat.gcd (valL x.2.1) (valL x.2.2.1)))))) (.ite (decide (List.length (trimmed (mg (valL x.2.2.1/valL (mg (Nat.gcd (valL x.2.1) (valL x.2.2.1))))))≤(32:Nat)))
        (.lt (pW false (trimmed (mg (valL x.2.2.1/valL (mg (Nat.gcd (valL x.2.1) (valL x.2.2.1))))))) (fun v0 =>
         .ret (.tup [(.agg [.v (.bool w0.1),.w w0.2,.v (.bool v0.1),.w v0.2]),(.one (.v (.bool (false))))])))
        (.ret (.tup [(.agg [.v (.bool w0.1),.w w0.2,.v (.bool w0.1),.w w0.2]),(.one (.v (.bool (false))))]))))))))
theorem tr_prat_eq (x:Els [(false,.bool),(false,.sl (.int .u32)),(false,.sl (.int .u32))]):fnP E34 (fun _=>none) Tryz.f66 (encs [(false,.bool),(false,.sl (.int .u32)),(false,.sl (.int .u32))] x)=tr_prat x:=by kernel_rfl
noncomputable def tr_pIsRat (x:Els [(true,cF)]):T Av:=
 .ite (tyB (x.1))
  (.ret (.one (.v (.bool (true)))))
  (.ite (isW x.1.1)
   (.ite (isW x.1.2)
    (.ite (!x.1.2.1)
     (.ite (decide ((↑(Pq.bitn x.1.2.2.1):Int)>(0:Int)))
      (.and
       (.and
        (dup (.need (mg x.1.1.2.1=mg (valL (mg x.1.1.2.1))∧mg x.1.2.2.1=mg (valL (mg x.1.2.2.1))∧List.length (mg x.1.1.2.1)≤(100000:Nat)∧List.length (mg x.1.2.2.1)≤(100000:Nat)) (.need (mg (Nat.gcd (valL (mg x.1.1.2.1)) (valL (mg x.1.2.2.1)))=mg (valL (mg (Nat.gcd (valL (mg x.1.1.2.1)) (valL (mg x.1.2.2.1)))))∧[(1:Int)]=mg (valL [(1:Int)])∧List.length (mg (Nat.gcd (valL (mg x.1.1.2.1)) (valL (mg x.1.2.2.1))))≤(1000000:Nat)∧List.length [(1:Int)]≤(1000000:Nat)) (.ret (.one (.v (.bool (Pq.cz (↑(valL (mg (Nat.gcd (valL (mg x.1.1.2.1)) (valL (mg x.1.2.2.1))))):Int) (↑(valL [(1:Int)]):Int)==(0:Int)))))))))
        (.need (mg x.1.1.2.1=mg (valL (mg x.1.1.2.1))∧mg x.1.2.2.1=mg (valL (mg x.1.2.2.1))∧List.length (mg x.1.1.2.1)≤(100000:Nat)∧List.length (mg x.1.2.2.1)≤(100000:Nat)) (.need (mg (Nat.gcd (valL (mg x.1.1.2.1)) (valL (mg x.1.2.2.1)))=mg (valL (mg (Nat.gcd (valL (mg x.1.1.2.1)) (valL (mg x.1.2.2.1)))))∧[(1:Int)]=mg (valL [(1:Int)])∧List.length (mg (Nat.gcd (valL (mg x.1.1.2.1)) (valL (mg x.1.2.2.1))))≤(1000000:Nat)∧List.length [(1:Int)]≤(1000000:Nat)) (.ret (.one (.v (.bool (Pq.cz (↑(valL (mg (Nat.gcd (valL (mg x.1.1.2.1)) (valL (mg x.1.2.2.1))))):Int) (↑(valL [(1:Int)]):Int)==(0:Int)))))))))
       (.need (mg x.1.1.2.1=mg (valL (mg x.1.1.2.1))∧mg x.1.2.2.1=mg (valL (mg x.1.2.2.1))∧List.length (mg x.1.1.2.1)≤(100000:Nat)∧List.length (mg x.1.2.2.1)≤(100000:Nat)) (.need (mg (Nat.gcd (valL (mg x.1.1.2.1)) (valL (mg x.1.2.2.1)))=mg (valL (mg (Nat.gcd (valL (mg x.1.1.2.1)) (valL (mg x.1.2.2.1)))))∧[(1:Int)]=mg (valL [(1:Int)])∧List.length (mg (Nat.gcd (valL (mg x.1.1.2.1)) (valL (mg x.1.2.2.1))))≤(1000000:Nat)∧List.length [(1:Int)]≤(1000000:Nat)) (.ret (.one (.v (.bool (Pq.cz (↑(valL (mg (Nat.gcd (valL (mg x.1.1.2.1)) (valL (mg x.1.2.2.1))))):Int) (↑(valL [(1:Int)]):Int)==(0:Int)))))))))
      (.and
       (.and
        (dup (.ret (.one (.v (.bool (false))))))
        (.ret (.one (.v (.bool (false))))))
       (.ret (.one (.v (.bool (false)))))))
     (.and
      (.and
       (dup (.ret (.one (.v (.bool (false))))))
       (.ret (.one (.v (.bool (false))))))
      (.ret (.one (.v (.bool (false)))))))
    (.and
     (.and
      (dup (.ret (.one (.v (.bool (false))))))
      (.ret (.one (.v (.bool (false))))))
     (.ret (.one (.v (.bool (false)))))))
   (.and
    (.and
     (dup (.ret (.one (.v (.bool (false))))))
     (.ret (.one (.v (.bool (false))))))
    (.ret (.one (.v (.bool (false)))))))
theorem tr_pIsRat_eq (x:Els [(true,cF)]):fnP E34 (fun _=>none) Tryz.f87 (encs [(true,cF)] x)=tr_pIsRat x:=by kernel_rfl
theorem tdiv_b {a g:Int} (ha : -9223372036854775808<a∧a<9223372036854775808) : -9223372036854775808<a.tdiv g∧a.tdiv g<9223372036854775808:=by
  have h1:(a.tdiv g).natAbs≤a.natAbs:=by rw[Int.natAbs_tdiv];exact Nat.div_le_self _ _
  omega
noncomputable def con_pquick:Con Tryz.prog:=⟨81,[],_,cf_pquick,val_con (E:=E34) mixed Tryz.func81 no_loops [(false,.int .i64),(false,.int .i64)] (fun x => -9223372036854775808<x.1∧x.1<9223372036854775808∧0<x.2.1∧x.2.1<9223372036854775808) (fun x=>.agg (ck cF (rOf (Rat.divInt x.1 x.2.1)))) fun x hx=>by
  rw[tr_pquick_eq]
  obtain ⟨n,d,u⟩:=x
  revert n d
  intro (n:Int) (d:Int) (hx : -9223372036854775808<n∧n<9223372036854775808∧0<d∧d<9223372036854775808)
  obtain ⟨n0,n1,d0,d1⟩:=hx
  unfold tr_pquick
  simp only[T.wp]
  have hg:((Nat.gcd n.natAbs d.natAbs:Nat):Int)≠0:=by
    have:0<Nat.gcd n.natAbs d.natAbs:=Nat.gcd_pos_of_pos_right _ (by omega)
    omega
  have b1:=tdiv_b (a:=n) (g:=((Nat.gcd n.natAbs d.natAbs:Nat):Int)) ⟨n0,n1⟩
  have b2:=tdiv_b (a:=d) (g:=((Nat.gcd n.natAbs d.natAbs:Nat):Int)) ⟨by omega,d1⟩
  rw[IntWalk.i64_in (n.tdiv _) (by omega),IntWalk.i64_in (d.tdiv _) (by omega),rOf_div d0]
  exact ⟨⟨n0,n1,by show (-9223372036854775808:Int)<d;omega,d1⟩,hg,hg,⟨by omega,by omega⟩,⟨by omega,by omega⟩,rfl⟩⟩
theorem zv_tdiv (n:Bool) (a g:Nat):(Pq.zv n a).tdiv (g:Int)=Pq.zv n (a/g):=by
  unfold Pq.zv
  cases n with
  | false=>simp[Int.ofNat_tdiv]
  | true=>simp[Int.neg_tdiv,Int.ofNat_tdiv]
noncomputable def con_prat:Con Tryz.prog:=⟨66,[],_,cf_prat,val_con (E:=E34) mixed Tryz.func66 no_loops [(false,.bool),(false,.sl (.int .u32)),(false,.sl (.int .u32))] (fun x=>(x.2.1:List Int)=mg (valL x.2.1)∧(x.2.2.1:List Int)=mg (valL x.2.2.1)∧valL x.2.1<Pq.bp 32∧valL x.2.2.1<Pq.bp 32∧valL x.2.2.1≠0) (fun x=>.tup [.agg (ck cF (rOf (Rat.divInt (Pq.zv x.1 (valL x.2.1)) (valL x.2.2.1:Nat)))),aB true]) fun x hx=>by
  rw[tr_prat_eq]
  obtain ⟨n,a,d,u⟩:=x
  revert n a d
  intro (n:Bool) (a:List Int) (d:List Int) (hx:a=mg (valL a)∧d=mg (valL d)∧valL a<Pq.bp 32∧valL d<Pq.bp 32∧valL d≠0)
  obtain ⟨ma,md,la,ld,d0⟩:=hx
  have la':=mg_len.1 la
  have ld':=mg_len.1 ld
  rw[←ma]at la'
  rw[←md]at ld'
  unfold tr_prat
  simp only[T.wp]
  simp only[val_mg,trimmed_self]
  have hg:Nat.gcd (valL a) (valL d)≠0:=fun h=>by
    have:0<Nat.gcd (valL a) (valL d):=Nat.gcd_pos_of_pos_right _ (by omega)
    omega
  have lg:(mg (Nat.gcd (valL a) (valL d))).length≤32:=mg_len.1 (Nat.lt_of_le_of_lt (Nat.gcd_le_right _ (by omega)) ld)
  have lp:valL a/Nat.gcd (valL a) (valL d)<Pq.bp 32:=Nat.lt_of_le_of_lt (Nat.div_le_self _ _) la
  have lq:valL d/Nat.gcd (valL a) (valL d)<Pq.bp 32:=Nat.lt_of_le_of_lt (Nat.div_le_self _ _) ld
  have lp':=mg_len.1 lp
  have lq':=mg_len.1 lq
  have fin:rOf (Rat.divInt (Pq.zv n (valL a)) (valL d:Nat))=(wOf (Pq.zv n (valL a/Nat.gcd (valL a) (valL d))),wOf (Pq.zv false (valL d/Nat.gcd (valL a) (valL d)))):=by
    rw[rOf_div (by omega),Pq.zv_abs,Int.natAbs_natCast,zv_tdiv,←Int.ofNat_tdiv]
    rfl
  refine ⟨⟨ma,md,by omega,by omega⟩,⟨ma,trivial,by omega,by omega,hg⟩,⟨md,trivial,by omega,by omega,hg⟩,⟨by unfold lenOk;omega,mg_words _⟩,fun h1=>⟨⟨by unfold lenOk;omega,mg_words _⟩,fun h2=>?_,fun h2=>?_⟩,fun h1=>?_⟩
  · rw[pW_mg lp,pW_mg lq,fin,wOf_zv lp,wOf_zv lq];rfl
  · exact absurd lq' (of_decide_eq_false h2)
  · exact absurd lp' (of_decide_eq_false h1)⟩
theorem ty_ok {x:F} (h:tyB x=true):OkF x:=by
  obtain ⟨h1,h2,h3,h4,h5,h6⟩:=of_decide_eq_true h
  have e:zW x.2=x.2.2.1:=by
    unfold zW Pq.zv
    rw[h3];rfl
  refine ⟨h5,by rw[e];omega,?_⟩
  unfold zW
  rw[Pq.zv_abs,Pq.zv_abs]
  exact h6
noncomputable def con_pIsRat:Con Tryz.prog:=⟨87,[],_,cf_pIsRat,tot_con (E:=E34) mixed Tryz.func87 no_loops [(true,cF)] (fun x=>aB (okF x.1)) fun x=>by
  rw[tr_pIsRat_eq]
  obtain ⟨f,u⟩:=x
  revert f
  intro (f:F)
  unfold tr_pIsRat
  simp only[T.wp,dup_wp]
  have la:=mg_w f.1
  have lb:=mg_w f.2
  simp only[val_mg]
  have e1:valL [(1:Int)]=1:=rfl
  have e2:mg 1=[1]:=by rw[mg_pos (by decide),show 1/4294967296=0 from rfl,mg_zero];rfl
  have eok:okF f=(isW f.1 && !f.2.1&&decide (f.2.2.1≠0)&&decide (Nat.gcd f.1.2.1 f.2.2.1=1)):=by
    unfold okF
    rw[Bool.eq_iff_iff,decide_eq_true_iff]
    unfold OkF
    simp only[Bool.and_eq_true,decide_eq_true_iff,isW_iff,Bool.not_eq_true']
    have ez:0<zW f.2↔f.2.1=false∧f.2.2.1≠0:=by
      unfold zW Pq.zv
      cases f.2.1 with
      | false=>simp;omega
      | true=>simp
    have eg:Nat.gcd (zW f.1).natAbs (zW f.2).natAbs=Nat.gcd f.1.2.1 f.2.2.1:=by
      unfold zW
      rw[Pq.zv_abs,Pq.zv_abs]
    rw[ez,eg]
    constructor
    · rintro ⟨h1,⟨h2,h3⟩,h4⟩;exact ⟨⟨⟨h1,h2⟩,h3⟩,h4⟩
    · rintro ⟨⟨⟨h1,h2⟩,h3⟩,h4⟩;exact ⟨h1,⟨h2,h3⟩,h4⟩
  have hgb:Nat.gcd f.1.2.1 f.2.2.1<Pq.bp 32:=by
    rcases Nat.eq_zero_or_pos f.2.2.1 with h|h
    · rw[h,Nat.gcd_zero_right];exact f.1.2.2
    · exact Nat.lt_of_le_of_lt (Nat.gcd_le_right _ h) f.2.2.2
  have lg:=mg_len.1 hgb
  rw[e1,e2]
  have ecz:(Pq.cz ((Nat.gcd f.1.2.1 f.2.2.1:Nat):Int) ((1:Nat):Int)==0)=decide (Nat.gcd f.1.2.1 f.2.2.1=1):=by
    rw[Bool.eq_iff_iff,beq_iff_eq,decide_eq_true_iff,cz_eq]
    omega
  rw[ecz]
  have ebn:decide ((Pq.bitn f.2.2.1:Int)>0)=decide (f.2.2.1≠0):=by
    rw[decide_eq_decide]
    have:=Pq.bitn_eq0 (x:=f.2.2.1)
    omega
  rw[ebn]
  have g1:List.length [(1:Int)]≤1000000:=by decide
  have no : ∀ b:Bool,b=false→okF f=b→Av.one (Ck.v (.bool false))=aB (okF f):=fun b hb h=>by rw[h,hb];rfl
  refine ⟨fun h=>?_,fun _=>⟨fun h1=>⟨fun h2=>⟨fun h3=>⟨fun h4=>?_,fun h4=>?_⟩,fun h3=>?_⟩,fun h2=>?_⟩,fun h1=>?_⟩⟩
  · have:okF f=true:=decide_eq_true (ty_ok h)
    rw[this];rfl
  · have e:okF f=decide (Nat.gcd f.1.2.1 f.2.2.1=1):=by rw[eok,h1,h3,h4];simp
    rw[e]
    simp only[and_self,true_and]
    exact ⟨⟨by omega,by omega⟩,⟨by omega,g1⟩,rfl⟩
  · have e:okF f=false:=by rw[eok,h4];simp
    rw[e]
    exact ⟨⟨rfl,rfl⟩,rfl⟩
  · have e:okF f=false:=by rw[eok,h3];simp
    rw[e]
    exact ⟨⟨rfl,rfl⟩,rfl⟩
  · have e:okF f=false:=by
      cases hq:okF f with
      | false=>rfl
      | true =>
        have:=isW_pos (of_decide_eq_true hq).2.1
        rw[h2]at this;cases this
    rw[e]
    exact ⟨⟨rfl,rfl⟩,rfl⟩
  · have e:okF f=false:=by rw[eok,h1];simp
    rw[e]
    exact ⟨⟨rfl,rfl⟩,rfl⟩⟩
noncomputable def E35:Env Tryz.prog:=E34.add [con_pquick,con_prat,con_pIsRat]
noncomputable def tr_pSafe (x:Els [(true,cF),(false,.int .i64)]):T Av:=
 .ite (decide ((↑(Pq.bitn x.1.1.2.1):Int)≤x.2.1))
  (.ite (decide ((↑(Pq.bitn x.1.2.2.1):Int)≤x.2.1))
   (.ret (.one (.v (.bool (okF (x.1))))))
   (.ret (.one (.v (.bool (false))))))
  (.ret (.one (.v (.bool (false)))))
theorem tr_pSafe_eq (x:Els [(true,cF),(false,.int .i64)]):fnP E35 (fun _=>none) Tryz.f46 (encs [(true,cF),(false,.int .i64)] x)=tr_pSafe x:=by kernel_rfl
noncomputable def con_pSafe:Con Tryz.prog:=⟨46,[],_,cf_pSafe,tot_con (E:=E35) mixed Tryz.func46 no_loops [(true,cF),(false,.int .i64)] (fun x=>aB (safeF x.2.1 x.1)) fun x=>by
  rw[tr_pSafe_eq]
  obtain ⟨f,b,u⟩:=x
  revert f b
  intro (f:F) (b:Int)
  unfold tr_pSafe
  simp only[T.wp]
  have e1:(zW f.1).natAbs=f.1.2.1:=Pq.zv_abs _ _
  have e2:(zW f.2).natAbs=f.2.2.1:=Pq.zv_abs _ _
  have e:safeF b f=(decide ((Pq.bitn f.1.2.1:Int)≤b)&&decide ((Pq.bitn f.2.2.1:Int)≤b)&&okF f):=by
    unfold safeF okF
    rw[Bool.eq_iff_iff,decide_eq_true_iff]
    unfold SafeF
    simp only[Bool.and_eq_true,decide_eq_true_iff,e1,e2]
    exact ⟨fun h=>⟨⟨h.1,h.2.1⟩,h.2.2⟩,fun h=>⟨h.1.1,h.1.2,h.2⟩⟩
  rw[e]
  refine ⟨fun h=>⟨fun h2=>?_,fun h2=>?_⟩,fun h=>?_⟩
  · rw[h,h2];rfl
  · rw[h,h2];rfl
  · rw[h];rfl⟩
noncomputable def E36:Env Tryz.prog:=E35.add [con_pSafe]
noncomputable def tr_pboth (x:Els [(true,cF),(true,cF)]):T Av:=
 .ite (safeF (500:Int) (x.1))
  (.ret (.one (.v (.bool (safeF (500:Int) x.2.1)))))
  (.ret (.one (.v (.bool (false)))))
theorem tr_pboth_eq (x:Els [(true,cF),(true,cF)]):fnP E36 (fun _=>none) Tryz.f43 (encs [(true,cF),(true,cF)] x)=tr_pboth x:=by kernel_rfl
noncomputable def con_pboth:Con Tryz.prog:=⟨43,[],_,cf_pboth,tot_con (E:=E36) mixed Tryz.func43 no_loops [(true,cF),(true,cF)] (fun x=>aB (both x.1 x.2.1)) fun x=>by
  rw[tr_pboth_eq]
  obtain ⟨a,b,u⟩:=x
  revert a b
  intro (a:F) (b:F)
  unfold tr_pboth
  simp only[T.wp]
  unfold both
  refine ⟨fun h=>?_,fun h=>?_⟩
  · have h:safeF 500 a=true:=h
    rw[h];rfl
  · have h:safeF 500 a=false:=h
    rw[h];rfl⟩
noncomputable def E37:Env Tryz.prog:=E36.add [con_pboth]
noncomputable def tr_pCmpRat (x:Els [(true,cF),(true,cF)]):T Av:=
 .ite (tyB (x.1)&&tyB x.2.1)
  (.ite (decide (IntKind.wrap .i64 (zW x.1.1*zW x.2.1.2)<IntKind.wrap .i64 (zW x.2.1.1*zW x.1.2)))
   (.ret (.tup [(.one (.v (.int .i64 ((-1:Int))))),(.one (.v (.bool (true))))]))
   (.ite (decide (IntKind.wrap .i64 (zW x.1.1*zW x.2.1.2)>IntKind.wrap .i64 (zW x.2.1.1*zW x.1.2)))
    (.ret (.tup [(.one (.v (.int .i64 ((1:Int))))),(.one (.v (.bool (true))))]))
    (.ret (.tup [(.one (.v (.int .i64 ((0:Int))))),(.one (.v (.bool (true))))]))))
  (.ite (!both (x.1) x.2.1)
   (.ret (.tup [(.one (.v (.int .i64 ((0:Int))))),(.one (.v (.bool (false))))]))
   (.ret (.tup [(.one (.v (.int .i64 (Pq.cz (zW (wOf (zW x.1.1*zW x.2.1.2))) (zW (wOf (zW x.2.1.1*zW x.1.2))))))),(.one (.v (.bool (true))))])))
theorem tr_pCmpRat_eq (x:Els [(true,cF),(true,cF)]):fnP E37 (fun _=>none) Tryz.f15 (encs [(true,cF),(true,cF)] x)=tr_pCmpRat x:=by kernel_rfl
noncomputable def tr_pplus (x:Els [(true,cF),(true,cF),(false,.bool)]):T Av:=
 .ite (tyB (x.1)&&tyB x.2.1)
  (.ite x.2.2.1
   (.need ((-9223372036854775808:El (Cd.int .i64))<IntKind.wrap .i64 (IntKind.wrap .i64 (zW x.1.1*zW x.2.1.2)+IntKind.wrap .i64 (IntKind.wrap .i64 ((0:Int)-zW x.2.1.1)*zW x.1.2))∧IntKind.wrap .i64 (IntKind.wrap .i64 (zW x.1.1*zW x.2.1.2)+IntKind.wrap .i64 (IntKind.wrap .i64 ((0:Int)-zW x.2.1.1)*zW x.1.2))<(9223372036854775808:El (Cd.int .i64))∧(0:El (Cd.int .i64))<IntKind.wrap .i64 (zW x.1.2*zW x.2.1.2)∧IntKind.wrap .i64 (zW x.1.2*zW x.2.1.2)<(9223372036854775808:El (Cd.int .i64))) (.ret (.tup [(.agg [.v (.bool (rOf (Rat.divInt (IntKind.wrap .i64 (IntKind.wrap .i64 (zW x.1.1*zW x.2.1.2)+IntKind.wrap .i64 (IntKind.wrap .i64 ((0:Int)-zW x.2.1.1)*zW x.1.2))) (IntKind.wrap .i64 (zW x.1.2*zW x.2.1.2)))).1.1),.w (rOf (Rat.divInt (IntKind.wrap .i64 (IntKind.wrap .i64 (zW x.1.1*zW x.2.1.2)+IntKind.wrap .i64 (IntKind.wrap .i64 ((0:Int)-zW x.2.1.1)*zW x.1.2))) (IntKind.wrap .i64 (zW x.1.2*zW x.2.1.2)))).1.2,.v (.bool (rOf (Rat.divInt (IntKind.wrap .i64 (IntKind.wrap .i64 (zW x.1.1*zW x.2.1.2)+IntKind.wrap .i64 (IntKind.wrap .i64 ((0:Int)-zW x.2.1.1)*zW x.1.2))) (IntKind.wrap .i64 (zW x.1.2*zW x.2.1.2)))).2.1),.w (rOf (Rat.divInt (IntKind.wrap .i64 (IntKind.wrap .i64 (zW x.1.1*zW x.2.1.2)+IntKind.wrap .i64 (IntKind.wrap .i64 ((0:Int)-zW x.2.1.1)*zW x.1.2))) (IntKind.wrap .i64 (zW x.1.2*zW x.2.1.2)))).2.2]),(.one (.v (.bool (true))))])))
   (.need ((-9223372036854775808:El (Cd.int .i64))<IntKind.wrap .i64 (IntKind.wrap .i64 (zW x.1.1*zW x.2.1.2)+IntKind.wrap .i64 (zW x.2.1.1*zW x.1.2))∧IntKind.wrap .i64 (IntKind.wrap .i64 (zW x.1.1*zW x.2.1.2)+IntKind.wrap .i64 (zW x.2.1.1*zW x.1.2))<(9223372036854775808:El (Cd.int .i64))∧(0:El (Cd.int .i64))<IntKind.wrap .i64 (zW x.1.2*zW x.2.1.2)∧IntKind.wrap .i64 (zW x.1.2*zW x.2.1.2)<(9223372036854775808:El (Cd.int .i64))) (.ret (.tup [(.agg [.v (.bool (rOf (Rat.divInt (IntKind.wrap .i64 (IntKind.wrap .i64 (zW x.1.1*zW x.2.1.2)+IntKind.wrap .i64 (zW x.2.1.1*zW x.1.2))) (IntKind.wrap .i64 (zW x.1.2*zW x.2.1.2)))).1.1),.w (rOf (Rat.divInt (IntKind.wrap .i64 (IntKind.wrap .i64 (zW x.1.1*zW x.2.1.2)+IntKind.wrap .i64 (zW x.2.1.1*zW x.1.2))) (IntKind.wrap .i64 (zW x.1.2*zW x.2.1.2)))).1.2,.v (.bool (rOf (Rat.divInt (IntKind.wrap .i64 (IntKind.wrap .i64 (zW x.1.1*zW x.2.1.2)+IntKind.wrap .i64 (zW x.2.1.1*zW x.1.2))) (IntKind.wrap .i64 (zW x.1.2*zW x.2.1.2)))).2.1),.w (rOf (Rat.divInt (IntKind.wrap .i64 (IntKind.wrap .i64 (zW x.1.1*zW x.2.1.2)+IntKind.wrap .i64 (zW x.2.1.1*zW x.1.2))) (IntKind.wrap .i64 (zW x.1.2*zW x.2.1.2)))).2.2]),(.one (.v (.bool (true))))]))))
  (.ite (!both (x.1) x.2.1)
   (.ret (.tup [(.agg [.v (.bool w0.1),.w w0.2,.v (.bool w0.1),.w w0.2]),(.one (.v (.bool (false))))]))
   (.need (List.length (mg x.1.1.2.1)≤(1000000:Nat)∧List.length (mg x.2.1.2.2.1)≤(1000000:Nat)∧Words (mg x.1.1.2.1)∧Words (mg x.2.1.2.2.1)) (.need (List.length (mg x.2.1.1.2.1)≤(1000000:Nat)∧List.length (mg x.1.2.2.1)≤(1000000:Nat)∧Words (mg x.2.1.1.2.1)∧Words (mg x.1.2.2.1)) (.need (mg (valL (mg x.1.1.2.1)*valL (mg x.2.1.2.2.1))=mg (valL (mg (valL (mg x.1.1.2.1)*valL (mg x.2.1.2.2.1))))∧mg (valL (mg x.2.1.1.2.1)*valL (mg x.1.2.2.1))=mg (valL (mg (valL (mg x.2.1.1.2.1)*valL (mg x.1.2.2.1))))∧List.length (mg (valL (mg x.1.1.2.1)*valL (mg x.2.1.2.2.1)))≤(1000000:Nat)∧List.length (mg (valL (mg x.2.1.1.2.1)*valL (mg x.1.2.2.1)))≤(1000000:Nat)) (.need (List.length (mg x.1.2.2.1)≤(1000000:Nat)∧List.length (mg x.2.1.2.2.1)≤(1000000:Nat)∧Words (mg x.1.2.2.1)∧Words (mg x.2.1.2.2.1)) (.need (mg (sS (x.1.1.1&&decide (x.1.1.2.1≠(0:Nat))) (valL (mg (valL (mg x.1.1.2.1)*valL (mg x.2.1.2.2.1)))) (!(x.2.1.1.1&&decide (x.2.1.1.2.1≠(0:Nat)))==x.2.2.1) (valL (mg (valL (mg x.2.1.1.2.1)*valL (mg x.1.2.2.1))))).2=mg (valL (mg (sS (x.1.1.1&&decide (x.1.1.2.1≠(0:Nat))) (valL (mg (valL (mg x.1.1.2.1)*valL (mg x.2.1.2.2.1)))) (!(x.2.1.1.1&&decide (x.2.1.1.2.1≠(0:Nat)))==x.2.2.1) (valL (mg (valL (mg x.2.1.1.2.1)*valL (mg x.1.2.2.1))))).2))∧mg (valL (mg x.1.2.2.1)*valL (mg x.2.1.2.2.1))=mg (valL (mg (valL (mg x.1.2.2.1)*valL (mg x.2.1.2.2.1))))∧valL (mg (sS (x.1.1.1&&decide (x.1.1.2.1≠(0:Nat))) (valL (mg (valL (mg x.1.1.2.1)*valL (mg x.2.1.2.2.1)))) (!(x.2.1.1.1&&decide (x.2.1.1.2.1≠(0:Nat)))==x.2.2.1) (valL (mg (valL (mg x.2.1.1.2.1)*valL (mg x.1.2.2.1))))).2)<Pq.bp (32:Nat)∧valL (mg (valL (mg x.1.2.2.1)*valL (mg x.2.1.2.2.1)))<Pq.bp (32:Nat)∧valL (mg (valL (mg x.1.2.2.1)*valL (mg x.2.1.2.2.1)))≠(0:Nat)) (.ret (.tup [(.agg [.v (.bool (rOf (Rat.divInt (Pq.zv (sS (x.1.1.1&&decide (x.1.1.2.1≠(0:Nat))) (valL (mg (valL (mg x.1.1.2.1)*valL (mg x.2.1.2.2.1)))) (!(x.2.1.1.1&&decide (x.2.1.1.2.1≠(0:Nat)))==x.2.2.1) (valL (mg (valL (mg x.2.1.1.2.1)*valL (mg x.1.2.2.1))))).1 (valL (mg (sS (x.1.1.1&&decide (x.1.1.2.1≠(0:Nat))) (valL (mg (valL (mg x.1.1.2.1)*valL (mg x.2.1.2.2.1)))) (!(x.2.1.1.1&&decide (x.2.1.1.2.1≠(0:Nat)))==x.2.2.1) (valL (mg (valL (mg x.2.1.1.2.1)*valL (mg x.1.2.2.1))))).2))) (↑(valL (mg (valL (mg x.1.2.2.1)*valL (mg x.2.1.2.2.1)))):Int))).1.1),.w (rOf (Rat.divInt (Pq.zv (sS (x.1.1.1&&decide (x.1.1.2.1≠(0:Nat))) (valL (mg (valL (mg x.1.1.2.1)*valL (mg x.2.1.2.2.1)))) (!(x.2.1.1.1&&decide (x.2.1.1.2.1≠(0:Nat)))==x.2.2.1) (valL (mg (valL (mg x.2.1.1.2.1)*valL (mg x.1.2.2.1))))).1 (valL (mg (sS (x.1.1.1&&decide (x.1.1.2.1≠(0:Nat))) (valL (mg (valL (mg x.1.1.2.1)*valL (mg x.2.1.2.2.1)))) (!(x.2.1.1.1&&decide (x.2.1.1.2.1≠(0:Nat)))==x.2.2.1) (valL (mg (valL (mg x.2.1.1.2.1)*valL (mg x.1.2.2.1))))).2))) (↑(valL (mg (valL (mg x.1.2.2.1)*valL (mg x.2.1.2.2.1)))):Int))).1.2,.v (.bool (rOf (Rat.divInt (Pq.zv (sS (x.1.1.1&&decide (x.1.1.2.1≠(0:Nat))) (valL (mg (valL (mg x.1.1.2.1)*valL (mg x.2.1.2.2.1)))) (!(x.2.1.1.1&&decide (x.2.1.1.2.1≠(0:Nat)))==x.2.2.1) (valL (mg (valL (mg x.2.1.1.2.1)*valL (mg x.1.2.2.1))))).1 (valL (mg (sS (x.1.1.1&&decide (x.1.1.2.1≠(0:Nat))) (valL (mg (valL (mg x.1.1.2.1)*valL (mg x.2.1.2.2.1)))) (!(x.2.1.1.1&&decide (x.2.1.1.2.1≠(0:Nat)))==x.2.2.1) (valL (mg (valL (mg x.2.1.1.2.1)*valL (mg x.1.2.2.1))))).2))) (↑(valL (mg (valL (mg x.1.2.2.1)*valL (mg x.2.1.2.2.1)))):Int))).2.1),.w (rOf (Rat.divInt (Pq.zv (sS (x.1.1.1&&decide (x.1.1.2.1≠(0:Nat))) (valL (mg (valL (mg x.1.1.2.1)*valL (mg x.2.1.2.2.1)))) (!(x.2.1.1.1&&decide (x.2.1.1.2.1≠(0:Nat)))==x.2.2.1) (valL (mg (valL (mg x.2.1.1.2.1)*valL (mg x.1.2.2.1))))).1 (valL (mg (sS (x.1.1.1&&decide (x.1.1.2.1≠(0:Nat))) (valL (mg (valL (mg x.1.1.2.1)*valL (mg x.2.1.2.2.1)))) (!(x.2.1.1.1&&decide (x.2.1.1.2.1≠(0:Nat)))==x.2.2.1) (valL (mg (valL (mg x.2.1.1.2.1)*valL (mg x.1.2.2.1))))).2))) (↑(valL (mg (valL (mg x.1.2.2.1)*valL (mg x.2.1.2.2.1)))):Int))).2.2]),(.one (.v (.bool (true))))]))))))))
theorem tr_pplus_eq (x:Els [(true,cF),(true,cF),(false,.bool)]):fnP E37 (fun _=>none) Tryz.f40 (encs [(true,cF),(true,cF),(false,.bool)] x)=tr_pplus x:=by kernel_rfl
theorem ty_z {x:F} (h:tyB x=true):(zW x.1).natAbs<2147483648∧(zW x.2).natAbs<2147483648∧0<zW x.2:=by
  obtain ⟨h1,h2,h3,h4,h5,h6⟩:=of_decide_eq_true h
  have e:zW x.2=x.2.2.1:=by
    unfold zW Pq.zv
    rw[h3];rfl
  refine ⟨?_,?_,by rw[e];omega⟩
  · unfold zW;rw[Pq.zv_abs];exact h1
  · unfold zW;rw[Pq.zv_abs];exact h2
theorem ty_safe {x:F} (h:tyB x=true):SafeF 500 x:=by
  obtain ⟨h1,h2,h3⟩:=ty_z h
  have k : ∀ n:Nat,n<2147483648→Pq.bitn n≤31:=fun n hn=>Pq.bitn_le.2 (by simpa using hn)
  have:=k _ h1
  have:=k _ h2
  exact ⟨by omega,by omega,ty_ok h⟩
theorem ty_both {x y:F} (h:(tyB x&&tyB y)=true):both x y=true:=by
  rw[Bool.and_eq_true]at h
  exact both_iff.2 ⟨ty_safe h.1,ty_safe h.2⟩
theorem mul_t {a b:Int} (ha:a.natAbs<2147483648) (hb:b.natAbs<2147483648) : -4611686018427387904<a*b∧a*b<4611686018427387904:=by
  have h:(a*b).natAbs<4611686018427387904:=by
    rw[Int.natAbs_mul]
    exact Nat.mul_lt_mul'' ha hb
  omega
theorem mul_tw {a b:Int} (ha:a.natAbs<2147483648) (hb:b.natAbs<2147483648):IntKind.i64.wrap (a*b)=a*b:=IntWalk.i64_in _ (by have:=mul_t ha hb;omega)
theorem prod_b {v w:W} (hv:(zW v).natAbs<2^500) (hw:(zW w).natAbs<2^500):v.2.1*w.2.1<Pq.bp 32:=by
  have h:=(big_b (b_le (mul_b hv hw))).1
  rw[Int.natAbs_mul]at h
  unfold zW at h
  rw[Pq.zv_abs,Pq.zv_abs]at h
  exact h
theorem prod_l {v w:W} (hv:(zW v).natAbs<2^500) (hw:(zW w).natAbs<2^500):(mg (v.2.1*w.2.1)).length≤32:=mg_len.1 (prod_b hv hw)
theorem den_z {w:W} (h:0<zW w):zW w=(w.2.1:Int)∧w.2.1≠0:=by
  unfold zW Pq.zv at h ⊢
  cases hs:w.1 with
  | false=>rw[hs]at h;simp at h ⊢;omega
  | true=>rw[hs]at h;simp at h;omega
theorem zv_prod (w:W) (k:Nat):Pq.zv (w.1&&decide (w.2.1≠0)) (w.2.1*k)=zW w*k:=by
  unfold zW Pq.zv
  cases w.1 with
  | false=>simp
  | true =>
    by_cases h0:w.2.1=0
    · rw[h0];simp
    · simp[h0,Int.neg_mul]
theorem zv_not (s:Bool) (k:Nat):Pq.zv (!s) k = - Pq.zv s k:=by
  unfold Pq.zv
  cases s <;> simp
theorem nd {n d:Int} (hn : -9223372036854775808<n∧n<9223372036854775808) (hd:0<d∧d<9223372036854775808) : -9223372036854775808<n∧n<9223372036854775808∧0<d∧d<9223372036854775808:=⟨hn.1,hn.2,hd.1,hd.2⟩
noncomputable def con_pCmpRat:Con Tryz.prog:=⟨15,[],_,cf_pCmpRat,tot_con (E:=E37) mixed Tryz.func15 no_loops [(true,cF),(true,cF)] (fun x=>ansA false (.int .i64) (both x.1 x.2.1) (cq (qF x.1) (qF x.2.1)) (0:Int)) fun x=>by
  rw[tr_pCmpRat_eq]
  obtain ⟨a,b,u⟩:=x
  revert a b
  intro (a:F) (b:F)
  unfold tr_pCmpRat
  simp only[T.wp]
  refine ⟨fun h=>?_,fun h=>⟨fun hb=>?_,fun hb=>?_⟩⟩
  · have hbo:=ty_both h
    rw[Bool.and_eq_true]at h
    obtain ⟨a1,a2,a3⟩:=ty_z h.1
    obtain ⟨b1,b2,b3⟩:=ty_z h.2
    rw[hbo,mul_tw a1 b2,mul_tw b1 a2]
    have hc:=cz_q a3 b3
    unfold Pq.cz at hc
    show (_→_)∧(_→_)
    refine ⟨fun hlt=>?_,fun hge=>⟨fun hgt=>?_,fun hle=>?_⟩⟩
    · rw[if_pos (of_decide_eq_true hlt)]at hc
      rw[←hc];rfl
    · rw[if_neg (of_decide_eq_false hge),if_pos (of_decide_eq_true hgt)]at hc
      rw[←hc];rfl
    · rw[if_neg (of_decide_eq_false hge),if_neg (of_decide_eq_false hle)]at hc
      rw[←hc];rfl
  · rw[show both a b=false from by simpa using hb];rfl
  · have hbo:both a b=true:=by simpa using hb
    rw[hbo]
    obtain ⟨sa,sb⟩:=both_iff.1 hbo
    obtain ⟨a1,a2,a3⟩:=safe_b sa
    obtain ⟨b1,b2,b3⟩:=safe_b sb
    rw[zW_b (b_le (mul_b a1 b2)),zW_b (b_le (mul_b b1 a2)),cz_q a3 b3];rfl⟩
noncomputable def con_pplus:Con Tryz.prog:=⟨40,[],_,cf_pplus,tot_con (E:=E37) mixed Tryz.func40 no_loops [(true,cF),(true,cF),(false,.bool)] (fun x=>ansA true cF (both x.1 x.2.1) (if x.2.2.1=true then rOf (qF x.1-qF x.2.1) else rOf (qF x.1+qF x.2.1)) (w0,w0)) fun x=>by
  rw[tr_pplus_eq]
  obtain ⟨a,b,s,u⟩:=x
  revert a b s
  intro (a:F) (b:F) (s:Bool)
  unfold tr_pplus
  simp only[T.wp]
  refine ⟨fun h=>?_,fun h=>⟨fun hb=>?_,fun hb=>?_⟩⟩
  · have hbo:=ty_both h
    rw[Bool.and_eq_true]at h
    obtain ⟨a1,a2,a3⟩:=ty_z h.1
    obtain ⟨b1,b2,b3⟩:=ty_z h.2
    have h1:=mul_t a1 b2
    have h2:=mul_t b1 a2
    have h3:=mul_t a2 b2
    have h4:=Int.mul_pos a3 b3
    have e0:IntKind.i64.wrap (0-zW b.1) = -zW b.1:=by rw[IntWalk.i64_in _ (by omega)];omega
    have h5 : -zW b.1*zW a.2 = -(zW b.1*zW a.2):=Int.neg_mul _ _
    rw[hbo,e0,mul_tw a1 b2,mul_tw b1 a2,mul_tw a2 b2,mul_tw (by rw[Int.natAbs_neg];exact b1) a2,h5,IntWalk.i64_in (zW a.1*zW b.2 + -(zW b.1*zW a.2)) (by omega),IntWalk.i64_in (zW a.1*zW b.2+zW b.1*zW a.2) (by omega)]
    rw[add_q a3 b3,sub_q a3 b3,Int.sub_eq_add_neg]
    cases s with
    | true=>exact ⟨fun _=>⟨nd (by omega) (by omega),rfl⟩,fun h=>Bool.noConfusion h⟩
    | false=>exact ⟨fun h=>Bool.noConfusion h,fun _=>⟨nd (by omega) (by omega),rfl⟩⟩
  · rw[show both a b=false from by simpa using hb];rfl
  · have hbo:both a b=true:=by simpa using hb
    rw[hbo]
    obtain ⟨sa,sb⟩:=both_iff.1 hbo
    obtain ⟨a1,a2,a3⟩:=safe_b sa
    obtain ⟨b1,b2,b3⟩:=safe_b sb
    obtain ⟨za,na⟩:=den_z a3
    obtain ⟨zb,nb⟩:=den_z b3
    have l1:=mg_w a.1
    have l2:=mg_w a.2
    have l3:=mg_w b.1
    have l4:=mg_w b.2
    have l5:=prod_l a1 b2
    have l6:=prod_l b1 a2
    have l7:=prod_b a2 b2
    simp only[val_mg]
    have es:=sS_zv (a.1.1&&decide (a.1.2.1≠0)) (a.1.2.1*b.2.2.1) (!(b.1.1&&decide (b.1.2.1≠0))==s) (b.1.2.1*a.2.2.1)
    have hsgn:Pq.zv (!(b.1.1&&decide (b.1.2.1≠0))==s) (b.1.2.1*a.2.2.1)=if s=true then -(zW b.1*zW a.2) else zW b.1*zW a.2:=by
      have hp:=zv_prod b.1 a.2.2.1
      rw[←za]at hp
      cases s with
      | true =>
        have hx:(!(b.1.1&&decide (b.1.2.1≠0))==true) = !(b.1.1&&decide (b.1.2.1≠0)):=by cases (b.1.1&&decide (b.1.2.1≠0)) <;> rfl
        rw[hx,zv_not,hp,if_pos rfl]
      | false =>
        have hx:(!(b.1.1&&decide (b.1.2.1≠0))==false)=(b.1.1&&decide (b.1.2.1≠0)):=by cases (b.1.1&&decide (b.1.2.1≠0)) <;> rfl
        rw[hx,hp,if_neg (by decide)]
    rw[zv_prod,←zb,hsgn]at es
    have hden:((a.2.2.1*b.2.2.1:Nat):Int)=zW a.2*zW b.2:=by rw[za,zb];simp
    have hsb:(sS (a.1.1&&decide (a.1.2.1≠0)) (a.1.2.1*b.2.2.1) (!(b.1.1&&decide (b.1.2.1≠0))==s) (b.1.2.1*a.2.2.1)).2<Pq.bp 32:=by
      have hn:(zW a.1*zW b.2+if s=true then -(zW b.1*zW a.2) else zW b.1*zW a.2).natAbs<2^1001:=by
        refine add_b (mul_b a1 b2) ?_
        have:=mul_b b1 a2
        split
        · rw[Int.natAbs_neg];exact this
        · exact this
      rw[←es,Pq.zv_abs]at hn
      exact Nat.lt_of_lt_of_le hn (bp_ge (k:=1001) 1024 rfl (by decide))
    rw[es,hden]
    have hfin:rOf (Rat.divInt (zW a.1*zW b.2+if s=true then -(zW b.1*zW a.2) else zW b.1*zW a.2) (zW a.2*zW b.2))=if s=true then rOf (qF a-qF b) else rOf (qF a+qF b):=by
      rw[add_q a3 b3,sub_q a3 b3,Int.sub_eq_add_neg]
      cases s <;> rfl
    rw[hfin]
    exact ⟨⟨by omega,by omega,mg_words _,mg_words _⟩,⟨by omega,by omega,mg_words _,mg_words _⟩,⟨trivial,trivial,by omega,by omega⟩,⟨by omega,by omega,mg_words _,mg_words _⟩,⟨trivial,trivial,hsb,l7,Nat.mul_ne_zero na nb⟩,rfl⟩⟩
noncomputable def E38:Env Tryz.prog:=E37.add [con_pCmpRat,con_pplus]
noncomputable def tr_pSubRat (x:Els [(true,cF),(true,cF)]):T Av:=
 .ret (.tup [(.agg [.v (.bool (if both (x.1) x.2.1=true then if true=true then rOf (qF (x.1)-qF x.2.1) else rOf (qF (x.1)+qF x.2.1) else (w0,w0)).1.1),.w (if both (x.1) x.2.1=true then if true=true then rOf (qF (x.1)-qF x.2.1) else rOf (qF (x.1)+qF x.2.1) else (w0,w0)).1.2,.v (.bool (if both (x.1) x.2.1=true then if true=true then rOf (qF (x.1)-qF x.2.1) else rOf (qF (x.1)+qF x.2.1) else (w0,w0)).2.1),.w (if both (x.1) x.2.1=true then if true=true then rOf (qF (x.1)-qF x.2.1) else rOf (qF (x.1)+qF x.2.1) else (w0,w0)).2.2]),(.one (.v (.bool (both (x.1) x.2.1))))])
theorem tr_pSubRat_eq (x:Els [(true,cF),(true,cF)]):fnP E38 (fun _=>none) Tryz.f13 (encs [(true,cF),(true,cF)] x)=tr_pSubRat x:=by kernel_rfl
noncomputable def con_pSubRat:Con Tryz.prog:=⟨13,[],_,cf_pSubRat,tot_con (E:=E38) mixed Tryz.func13 no_loops [(true,cF),(true,cF)] (fun x=>ansA true cF (both x.1 x.2.1) (rOf (qF x.1-qF x.2.1)) (w0,w0)) fun x=>by
  rw[tr_pSubRat_eq]
  exact rfl⟩
noncomputable def con_rdecimal1:Con Tryz.prog:=⟨36,[],_,cf_rdecimal,tot_con (E:=E17) (L:=lpDec) mixed Tryz.func36 (one_loop decL_ok (by kernel_rfl)) [(true,cF),(false,.int .i64)] (fun x=>ansA false .str (safeF 500 x.1) (decS (qdec x.1 (clampD x.2.1)) (clampD x.2.1) (zW x.1.1)) ⟨#[]⟩) fun x=>by rw[tr_rdecimal_eq];exact rdecimal_ok x⟩
noncomputable def EZ:Env Tryz.prog:=E38.add [con_pSubRat,con_rdecimal1]
end Go.Proofs.YtmcbljjgkmkhcaaGreatDoor
namespace Ax
open Go Go.RowKit
theorem lib_con {P:Program} {f:FuncId} {X:Type} (dec:List Av→Option X) (sp:X→T Av)
    (h : ∀ (x:X) (args:List Av) (vs:List Value) (w:World) (R:Nat→Prop) (σ:List Nat) (Q:Av→Prop),dec args=some x→vs.length=args.length→(∀ (i:Nat) a v,args[i]?=some a→vs[i]?=some v→AvIs w R σ a v)→GlobAt w R→(sp x).wp Q →
      ∃ av,Q av∧Calls P f vs.toArray w fun e w' => ∃ v,e=.returned v∧Below w.heap.size w w'∧AvIs w' (fun b=>w.heap.size≤b∧b<w'.heap.size) [] av v) :
    ConOk P f [] (fun args m=>match dec args with|some x=>(sp x).bind fun av=>.ret (av,m)|none=>.fail):=by
  intro w φ σ m args vs Q hmem hlen hargs hrun
  dsimp only at hrun
  split at hrun
  · rename_i x hx
    rw[T.wp_bind]at hrun
    obtain ⟨av,hQ,hc⟩:=h x args vs w _ σ _ hx hlen hargs hmem.gl hrun
    refine hc.mono fun e w' hr=>?_
    obtain ⟨v,rfl,hb,hv⟩:=hr
    have hk:=Keep.of_below hb σ
    have hown : ∀ i b:Nat,σ[i]?=some b→w'.heap[b]?=w.heap[b]?:=fun i b hi=>hb.block b (hmem.lt (List.mem_of_getElem? hi))
    refine ⟨v,av,m,σ,rfl,hQ,Ext.refl _ _,hk,fun i b hi _=>hown i b hi,hv.ro (fun b hb'=>⟨hb'.2,fun hm=>?_,fun hm=>?_⟩) σ,hmem.stay hk (Ext.refl _ _) rfl hown⟩
    · have:=hmem.fo b hm;omega
    · have:=hmem.lt hm;omega
  · exact hrun.elim
theorem ds_strs {w:World} {R:Nat→Prop} {A cap:Nat} {l:List ByteArray} {t:TypeId} {fr:Nat×Nat} {cells:List Value} (hR:R A) (hcap:l.length≤cap) (hb:w.heap[A]?=some (.cells cells.toArray t fr)) (htk:cells.take l.length=l.map Value.string) :
    AvIs w R [] (.one (.ds .str l)) (.slice (some ⟨A,0,none⟩) l.length cap):=by
  refine .one rfl (.ds (c:=.str) (xs:=l) (fun i=>[.string (l.getD i ⟨#[]⟩)]) hcap hR (fun i x hx=>rfl) (fun i x hx=>?_) (fun i x hx=>?_) .nil)
  · have e:l.getD i ⟨#[]⟩=x:=by rw[List.getD_eq_getElem?_getD];rw[show l[i]?=some x from hx];rfl
    rw[e]
    exact .v rfl .nil
  · have e:l.getD i ⟨#[]⟩=x:=by rw[List.getD_eq_getElem?_getD];rw[show l[i]?=some x from hx];rfl
    rw[e]
    intro j v hj
    have hx':l[i]?=some x:=hx
    have hi:i<l.length:=(List.getElem?_eq_some_iff.1 hx').1
    rcases j with _|j
    · have hv:v=.string x:=by simpa using hj.symm
      subst hv
      have h1:(cells.take l.length)[i]?=some (.string x):=by rw[htk,List.getElem?_map,hx'];rfl
      rw[List.getElem?_take,if_pos hi]at h1
      have:=Pq.range_block hb i _ h1
      have e2:(0+i*csz .str+0:Nat)=0+i:=by show 0+i*1+0=0+i;omega
      rw[e2]
      exact this
    · simp at hj
def dec2s:List Av→Option (ByteArray×ByteArray)
  | [.one (.v (.string s)),.one (.v (.string t))]=>some (s,t)
  | _=>none
theorem dec2s_ok {w:World} {R:Nat→Prop} {σ:List Nat} {args:List Av} {vs:List Value} {x:ByteArray×ByteArray} (h:dec2s args=some x) (hl:vs.length=args.length) (ha : ∀ (i:Nat) a v,args[i]?=some a→vs[i]?=some v→AvIs w R σ a v):vs=[.string x.1,.string x.2]:=by
  unfold dec2s at h
  split at h
  · cases h
    match vs,hl with
    | [u,v],_ =>
      rw[is_str (ha 0 _ u rfl rfl),is_str (ha 1 _ v rfl rfl)]
  · cases h
def dec1s:List Av→Option ByteArray
  | [.one (.v (.string s))]=>some s
  | _=>none
theorem dec1s_ok {w:World} {R:Nat→Prop} {σ:List Nat} {args:List Av} {vs:List Value} {x:ByteArray} (h:dec1s args=some x) (hl:vs.length=args.length) (ha : ∀ (i:Nat) a v,args[i]?=some a→vs[i]?=some v→AvIs w R σ a v):vs=[.string x]:=by
  unfold dec1s at h
  split at h
  · cases h
    match vs,hl with
    | [u],_ =>
      rw[is_str (ha 0 _ u rfl rfl)]
  · cases h
def dec1i:List Av→Option Int
  | [.one (.v (.int .i64 n))]=>some n
  | _=>none
theorem dec1i_ok {w:World} {R:Nat→Prop} {σ:List Nat} {args:List Av} {vs:List Value} {x:Int} (h:dec1i args=some x) (hl:vs.length=args.length) (ha : ∀ (i:Nat) a v,args[i]?=some a→vs[i]?=some v→AvIs w R σ a v):vs=[.int .i64 x]:=by
  unfold dec1i at h
  split at h
  · cases h
    match vs,hl with
    | [u],_ =>
      rw[is_int (ha 0 _ u rfl rfl)]
  · cases h
end Ax
namespace Go.Proofs.YtmcbljjgkmkhcaaGreatDoor
open Go.RowKit Ax
theorem cf_split (xs:Array Value) (w:World):(callFunc 101 xs).run Tryz.prog w=.ok (.enter 101 xs) w:=by kernel_rfl
theorem cf_cutL (xs:Array Value) (w:World):(callFunc 102 xs).run Tryz.prog w=.ok (.enter 102 xs) w:=by kernel_rfl
theorem cf_trimp (xs:Array Value) (w:World):(callFunc 140 xs).run Tryz.prog w=.ok (.enter 140 xs) w:=by kernel_rfl
theorem cf_atoi (xs:Array Value) (w:World):(callFunc 139 xs).run Tryz.prog w=.ok (.enter 139 xs) w:=by kernel_rfl
theorem cf_itoa (xs:Array Value) (w:World):(callFunc 38 xs).run Tryz.prog w=.ok (.enter 38 xs) w:=by kernel_rfl
theorem g_cell {w:World} {R:Nat→Prop} (h:GlobAt w R) {nm:String} {p:Array Value→Prop} (hm:(nm,p)∈gfacts) {g:Nat} (hg:Tryz.prog.globalNamed nm=some g) : ∃ cs t z,w.heap[g]?=some (.cells cs t z)∧p cs:=(h (nm,p) hm g hg).2
theorem g_max {w:World} {R:Nat→Prop} (h:GlobAt w R) : ∃ m,w.cell? ⟨0,0,none⟩=some (.int .i64 m):=by
  obtain ⟨cs,t,z,h1,m,rfl⟩:=g_cell h (nm := "internal/bytealg.MaxLen") (by unfold gfacts;exact .tail _ (.tail _ (.head _))) (g:=0) (by kernel_rfl)
  refine ⟨m,?_⟩
  unfold World.cell?
  rw[show ((⟨0,0,none⟩:Addr).block)=0 from rfl,h1]
  rfl
theorem g_syn {w:World} {R:Nat→Prop} (h:GlobAt w R) : ∃ te pe,w.cell? ⟨3,0,none⟩=some (.iface te pe):=by
  obtain ⟨cs,t,z,h1,te,pe,rfl⟩:=g_cell h (nm := "strconv.ErrSyntax") (by unfold gfacts;exact .head _) (g:=3) (by kernel_rfl)
  refine ⟨te,pe,?_⟩
  unfold World.cell?
  rw[show ((⟨3,0,none⟩:Addr).block)=3 from rfl,h1]
  rfl
theorem g_ran {w:World} {R:Nat→Prop} (h:GlobAt w R) : ∃ te pe,w.cell? ⟨4,0,none⟩=some (.iface te pe):=by
  obtain ⟨cs,t,z,h1,te,pe,rfl⟩:=g_cell h (nm := "strconv.ErrRange") (by unfold gfacts;exact .tail _ (.head _)) (g:=4) (by kernel_rfl)
  refine ⟨te,pe,?_⟩
  unfold World.cell?
  rw[show ((⟨4,0,none⟩:Addr).block)=4 from rfl,h1]
  rfl
theorem g_pow {w:World} {R:Nat→Prop} (h:GlobAt w R):Lib.TabIs Tryz.prog w "internal/strconv.uint64pow10" .u64 Lib.pow10Tab:=by
  obtain ⟨cs,t,z,h1,rfl⟩:=g_cell h (nm := "internal/strconv.uint64pow10") (by unfold gfacts;exact .tail _ (.tail _ (.tail _ (.head _)))) (g:=2) (by kernel_rfl)
  unfold Lib.TabIs World.var?
  rw[show Tryz.prog.globalNamed "internal/strconv.uint64pow10" = some 2 by kernel_rfl]
  show (match w.heap[2]? with|some (.cells cs _ _)=>some cs|_=>none)=_
  rw[h1]
  rfl
def splitL (s sep:ByteArray):List ByteArray:=Lib.splitB sep 0 (Lib.countB s sep) s
noncomputable def con_split:Con Tryz.prog:=⟨101,[],_,cf_split,lib_con dec2s (fun x=>.need (1≤x.2.size∧x.1.size<4294967281) (.ret (.one (.ds .str (splitL x.1 x.2))))) fun x args vs w R σ Q hd hl ha hg hQ=>by
  obtain ⟨s,sep⟩:=x
  have hv:=dec2s_ok hd hl ha
  subst hv
  obtain ⟨⟨h1,h2⟩,hQ⟩:=hQ
  obtain ⟨m,hm⟩:=g_max hg
  have hlen:(splitL s sep).length=Lib.countB s sep+1:=Lib.splitB_all sep h1 0 _ s rfl
  refine ⟨_,hQ,(Tryz.strings_Split s sep m w h2 hm h1).mono fun e w' hr=>?_⟩
  obtain ⟨rfl,rfl⟩:=hr
  refine ⟨_,rfl,(keep_alloc w [] _).below,?_⟩
  rw[←hlen]
  refine ds_strs (R:=fun b=>w.heap.size≤b∧b<(w.alloc _).heap.size) ⟨Nat.le_refl _,by simp⟩ (Nat.le_refl _) (heap_alloc_new w _) ?_
  rw[List.take_of_length_le (by rw[List.length_map];exact Nat.le_refl _)]
  rfl⟩
noncomputable def con_trimp:Con Tryz.prog:=⟨140,[],_,cf_trimp,lib_con dec2s (fun x=>.ret (.one (.v (.string ⟨(Lib.trimPrefix x.1.data.toList x.2.data.toList).toArray⟩)))) fun x args vs w R σ Q hd hl ha hg hQ=>by
  obtain ⟨s,p⟩:=x
  have hv:=dec2s_ok hd hl ha
  subst hv
  refine ⟨_,hQ,(Tryz.strings_TrimPrefix s p w).mono fun e w' hr=>?_⟩
  obtain ⟨rfl,rfl⟩:=hr
  exact ⟨_,rfl,Below.refl _ _,.val rfl⟩⟩
noncomputable def con_cutL:Con Tryz.prog:=⟨102,[],_,cf_cutL,lib_con dec2s (fun x=>.need (x.1.size<4294967281) (.ret (.tup [.one (.v (.string ⟨(Lib.cut x.1.data.toList x.2.data.toList).1.toArray⟩)),.one (.v (.string ⟨(Lib.cut x.1.data.toList x.2.data.toList).2.1.toArray⟩)),.one (.v (.bool (Lib.cut x.1.data.toList x.2.data.toList).2.2))]))) fun x args vs w R σ Q hd hl ha hg hQ=>by
  obtain ⟨s,p⟩:=x
  have hv:=dec2s_ok hd hl ha
  subst hv
  obtain ⟨h2,hQ⟩:=hQ
  obtain ⟨m,hm⟩:=g_max hg
  refine ⟨_,hQ,(Tryz.strings_Cut s p m w h2 hm).mono fun e w' hr=>?_⟩
  obtain ⟨rfl,n,rfl⟩:=hr
  refine ⟨_,rfl,below_drewNg w n,.tup [_,_,_] rfl fun i a u hi hu=>?_⟩
  match i,hi,hu with
  | 0,rfl,rfl=>exact .val rfl
  | 1,rfl,rfl=>exact .val rfl
  | 2,rfl,rfl=>exact .val rfl⟩
open Go.Sort in
theorem below_grow (w:World) (os:Array Obj):Below w.heap.size w (grow w os):=⟨rfl,rfl,rfl,by simp[grow],fun k hk=>by
  show (w.heap++os)[k]?=w.heap[k]?
  exact Array.getElem?_append_left hk⟩
noncomputable def con_itoa:Con Tryz.prog:=⟨38,[],_,cf_itoa,lib_con dec1i (fun x=>.need (-9223372036854775808≤x∧x≤9223372036854775807) (.ret (.one (.v (.string ⟨(Lib.itoa x).toArray⟩))))) fun x args vs w R σ Q hd hl ha hg hQ=>by
  have hv:=dec1i_ok hd hl ha
  subst hv
  obtain ⟨⟨h1,h2⟩,hQ⟩:=hQ
  refine ⟨_,hQ,(Tryz.strconv_Itoa x h1 h2 w (g_pow hg)).mono fun e w' hr=>?_⟩
  obtain ⟨rfl,k,os,rfl⟩:=hr
  refine ⟨_,rfl,(below_drewNg w k).trans ?_,.val rfl⟩
  exact (below_grow (w.drewN k) os).mono (below_drewNg w k).size⟩
def atoiB (s:ByteArray):Bool:=match Lib.atoiAll s.data.toList with|.ok _=>true|_=>false
def atoiV (s:ByteArray):Int:=match Lib.atoiAll s.data.toList with|.ok v=>v|_=>0
theorem ni_tup {w:World} {R:Nat→Prop} {z:Int} {t:TypeId} {v:Value}:AvIs w R [] (.tup [.any,.one .ni]) (.tuple #[.int .i64 z,.iface t v]):=
  .tup [_,_] rfl fun i a u hi hu=>by
    match i,hi,hu with
    | 0,rfl,rfl=>exact .any
    | 1,rfl,rfl=>exact .one rfl (.ni t v .nil)
noncomputable def con_atoi:Con Tryz.prog:=⟨139,[],_,cf_atoi,lib_con dec1s (fun x=>.need (x.size≤281474976710656) (.ite (atoiB x) (.ret (.tup [.one (.v (.int .i64 (atoiV x))),.one (.v .nilIface)])) (.ret (.tup [.any,.one .ni])))) fun x args vs w R σ Q hd hl ha hg hQ=>by
  have hv:=dec1s_ok hd hl ha
  subst hv
  obtain ⟨h1,hQ⟩:=hQ
  unfold atoiB atoiV at hQ
  rcases hr:Lib.atoiAll x.data.toList with v|_|_
  · rw[hr]at hQ
    refine ⟨_,hQ.1 rfl,(Tryz.strconv_Atoi_ok x (by omega) v hr w).mono fun e w' h=>?_⟩
    obtain ⟨rfl,hw⟩:=h
    refine ⟨_,rfl,?_,.tup [_,_] rfl fun i a u hi hu=>?_⟩
    · rcases hw with rfl|⟨t,rfl⟩
      · exact Below.refl _ _
      · exact ⟨rfl,rfl,rfl,by rw[Lib.bytesWorld_size];omega,fun j hj=>Lib.bytesWorld_at_old w _ t j hj⟩
    · match i,hi,hu with
      | 0,rfl,rfl=>exact .val rfl
      | 1,rfl,rfl=>exact .val rfl
  · rw[hr]at hQ
    obtain ⟨te,pe,hc⟩:=g_syn hg
    refine ⟨_,hQ.2 rfl,(Tryz.strconv_Atoi_syntax x h1 hr _ w hc (.inr ⟨te,pe,rfl⟩)).mono fun e w' h=>?_⟩
    obtain ⟨N,rfl,_,_,hb⟩:=h
    exact ⟨_,rfl,hb,ni_tup⟩
  · rw[hr]at hQ
    obtain ⟨te,pe,hc⟩:=g_ran hg
    refine ⟨_,hQ.2 rfl,(Tryz.strconv_Atoi_range x h1 hr _ w hc (.inr ⟨te,pe,rfl⟩)).mono fun e w' h=>?_⟩
    obtain ⟨N,rfl,_,_,hb⟩:=h
    exact ⟨_,rfl,hb,ni_tup⟩⟩
noncomputable def L1:Env Tryz.prog:=⟨[con_atoi,con_itoa,con_trimp,con_split,con_cutL],[],[],fun _=>false,0,fun _=>[]⟩
theorem cf_lint (xs:Array Value) (w:World):(callFunc 95 xs).run Tryz.prog w=.ok (.enter 95 xs) w:=by kernel_rfl
theorem cf_lone (xs:Array Value) (w:World):(callFunc 105 xs).run Tryz.prog w=.ok (.enter 105 xs) w:=by kernel_rfl
theorem cf_lclo (xs:Array Value) (w:World):(callFunc 104 xs).run Tryz.prog w=.ok (.enter 104 xs) w:=by kernel_rfl
noncomputable def tr_lint (x:Els [(false,.str)]):T Av:=
 .need (ByteArray.size (x.1)≤(281474976710656:Nat)) (.ite (atoiB (x.1))
   (.ite (!true)
    (.ret (.tup [(.one (.v (.int .i64 ((0:Int))))),(.one (.v (.bool (false))))]))
    (.need ((-9223372036854775808:Int)≤atoiV (x.1)∧atoiV (x.1)≤(9223372036854775807:Int)) (.ite (!ByteArray.toList { data:=List.toArray (Go.Lib.itoa (atoiV (x.1))) }==ByteArray.toList (x.1))
      (.ret (.tup [(.one (.v (.int .i64 ((0:Int))))),(.one (.v (.bool (false))))]))
      (.ite (decide ((↑(ByteArray.size { data:=List.toArray (Go.Lib.trimPrefix (Array.toList (ByteArray.data (x.1))) (Array.toList (ByteArray.data { data := #[(45:UInt8)] }))) }):Int)>(9:Int)))
       (.ret (.tup [(.one (.v (.int .i64 ((0:Int))))),(.one (.v (.bool (false))))]))
       (.ret (.tup [(.one (.v (.int .i64 (atoiV (x.1))))),(.one (.v (.bool (true))))]))))))
   (.ret (.tup [(.one (.v (.int .i64 ((0:Int))))),(.one (.v (.bool (false))))])))
theorem tr_lint_eq (x:Els [(false,.str)]):fnP L1 (fun _=>none) Tryz.f95 (encs [(false,.str)] x)=tr_lint x:=by kernel_rfl
theorem mixedL:Tryz.prog.follows .mixedOrders=true:=by kernel_rfl
noncomputable def codR:Cod Tryz.prog:=⟨21,.int .i32,by kernel_rfl,⟨.int .i32 0,fun w=>by kernel_rfl⟩⟩
noncomputable def zeroR:Zero Tryz.prog:=⟨21,ck (.int .i32) (0:Int),[.int .i32 0],by kernel_rfl,fun w R σ=>.v rfl .nil⟩
noncomputable def L2:Env Tryz.prog:=⟨L1.con,[zeroR],[codR],L1.sure,L1.base,L1.frz⟩
abbrev spOne:LSpec:=⟨17,[(0,false,.int .i32),(7,false,.sl (.int .i32)),(8,false,.int .i64),(9,false,.int .i64)],[],[],fun e=>match e with|.ret=>[4]|_=>[]⟩
noncomputable def tr_loneL (x:LSpec.X spOne×LSpec.Y spOne):T (Rd spOne):=
 .ite (decide (x.1.2.2.2.1<x.1.2.2.1))
  (.get x.1.2.1 x.1.2.2.2.1 (fun v0 =>
   .ite (x.1.1==v0)
    (.ret (.out (Go.Exit.ret) [(.one (.v (.bool (true))))] ()))
    (.ret (.again (x.1.1,(x.1.2.1,(x.1.2.2.1,(IntKind.wrap .i64 (x.1.2.2.2.1+(1:Int)),())))) ()))))
  (.ret (.out (Go.Exit.exit (0:Nat)) [] ()))
theorem tr_loneL_eq (x:LSpec.X spOne×LSpec.Y spOne):LSpec.round spOne L2 (fun _=>none) (bodyOf Tryz.f105 0) x.1 x.2=tr_loneL x:=by kernel_rfl
def outOne (x:LSpec.X spOne) (y:LSpec.Y spOne):T (Exit×List Av×LSpec.Y spOne):=
  .need (0≤x.2.2.2.1∧x.2.2.1=(List.length x.2.1:Int)∧lenOk (List.length x.2.1)) (.ite (decide (x.1∈(x.2.1:List Int).drop x.2.2.2.1.toNat)) (.ret (.ret,[.one (.v (.bool true))],())) (.ret (.exit 0,[],())))
theorem loneL_core (c : Int) (l : List Int) (n i : Int) (Q : Exit × List Av × LSpec.Y spOne → Prop) (h : (outOne (c, l, n, i, ()) ()).wp Q) : (tr_loneL ((c, l, n, i, ()), ())).wp fun r => match r with
      | .again x' y'=>(x'.2.2.1-x'.2.2.2.1).toNat<(n-i).toNat∧(outOne x' y').wp Q
      | .out e avs y'=>Q (e,avs,y'):=by
  unfold tr_loneL
  unfold outOne at h ⊢
  simp only[T.wp]at h ⊢
  dsimp only [El,vts,spOne]at h ⊢
  obtain ⟨⟨i0,hn,hl⟩,hy,hz⟩:=h
  have hl':=hl
  unfold lenOk at hl'
  refine ⟨fun hlt=>?_,fun hge=>?_⟩
  · have hlt:=of_decide_eq_true hlt
    obtain ⟨u,hu⟩:=elem_at (l:=l) i0 (by omega)
    have hd:=drop_at i0 hu
    rw[hd]at hy hz
    refine ⟨u,i0,hu,fun heq=>?_,fun hne=>?_⟩
    · have heq:c=u:=by simpa using heq
      exact hy (by rw[heq];simp)
    · have hne:c≠u:=by simpa using hne
      rw[IntWalk.i64_in (i+1) (by omega)]
      have e:decide (c∈u::l.drop (i+1).toNat)=decide (c∈l.drop (i+1).toNat):=by
        rw[decide_eq_decide];simp[hne]
      rw[e]at hy hz
      exact ⟨by omega,⟨by omega,hn,hl⟩,hy,hz⟩
  · have hge:=of_decide_eq_false hge
    rw[drop_end (by omega)]at hz
    exact hz (by simp)
theorem loneL_ok:LoopOk Tryz.prog 0 (bodyOf Tryz.f105 0) (spOne.run outOne):=
  loop_ok (E:=L2) (L:=fun _=>none) mixedL 0 (loops_none _ _ _) spOne (Nat.zero_le _) outOne (fun x _=>(x.2.2.1-x.2.2.2.1).toNat) (by
    rintro ⟨c,l,n,i,⟨⟩⟩ ⟨⟩ Q h
    rw[tr_loneL_eq ((c,l,n,i,()),())]
    exact loneL_core c l n i Q h)
noncomputable def lpOne:Loops:=oneL 2 (spOne.run outOne)
noncomputable def tr_lone (x:Els [(false,.int .i32),(false,.sl (.int .i32))]):T Av:=
 .need ((0:El (Cd.int .i64))≤(0:Int)∧(↑(List.length x.2.1):Int)=(↑(List.length x.2.1):Int)∧lenOk (List.length x.2.1)) (.ite (decide (x.1∈List.drop (Int.toNat (0:Int)) x.2.1))
   (.ret (.one (.v (.bool (true)))))
   (.ret (.one (.v (.bool (false))))))
theorem tr_lone_eq (x:Els [(false,.int .i32),(false,.sl (.int .i32))]):fnP L2 lpOne Tryz.f105 (encs [(false,.int .i32),(false,.sl (.int .i32))] x)=tr_lone x:=by kernel_rfl
noncomputable def con_lone:Con Tryz.prog:=⟨105,[],_,cf_lone,val_con (E:=L2) (L:=lpOne) mixedL Tryz.func105 (one_loop loneL_ok (by kernel_rfl)) [(false,.int .i32),(false,.sl (.int .i32))] (fun x=>lenOk (List.length x.2.1)) (fun x=>.one (.v (.bool (decide (x.1∈(x.2.1:List Int)))))) fun x hx=>by
  rw[tr_lone_eq]
  obtain ⟨c,l,u⟩:=x
  revert c l
  intro (c:Int) (l:List Int) (hx:lenOk l.length)
  unfold tr_lone
  simp only[T.wp]
  refine ⟨⟨Int.le_refl 0,trivial,hx⟩,fun h=>?_,fun h=>?_⟩
  · have h:decide (c∈l)=true:=h
    rw[h]
  · have h:decide (c∈l)=false:=h
    rw[h]⟩
noncomputable def L3:Env Tryz.prog:=L2.add [con_lone]
noncomputable def tr_lclo (x:Els [(false,.int .i32)]):T Av:=
 .need (lenOk (List.length [(32:Int),(9:Int),(13:Int)])) (.ret (.one (.v (.bool (decide (x.1∈[(32:Int),(9:Int),(13:Int)]))))))
theorem tr_lclo_eq (x:Els [(false,.int .i32)]):fnP L3 (fun _=>none) Tryz.f104 (encs [(false,.int .i32)] x)=tr_lclo x:=by kernel_rfl
noncomputable def con_lclo:Con Tryz.prog:=⟨104,[],_,cf_lclo,val_con (E:=L3) mixedL Tryz.func104 no_loops [(false,.int .i32)] (fun x=>True) (fun x=>.one (.v (.bool (decide ((x.1:Int)∈([32,9,13]:List Int)))))) fun x hx=>by
  rw[tr_lclo_eq]
  obtain ⟨c,u⟩:=x
  revert c
  intro (c:Int)
  unfold tr_lclo
  simp only[T.wp]
  exact ⟨by show ((3:Nat):Int)≤4611686018427387904;omega,trivial⟩⟩
theorem glob_below {w W:World} {R:Nat→Prop} (hg:GlobAt w R) (hb:Below w.heap.size w W):GlobAt W (Ro W [] []):=fun f hf g h=>by
  obtain ⟨_,cs,t,z,h2,h3⟩:=hg f hf g h
  have hlt:=(Array.getElem?_eq_some_iff.1 h2).1
  exact ⟨⟨Nat.lt_of_lt_of_le hlt hb.size,by simp,by simp⟩,cs,t,z,(hb.block g hlt).trans h2,h3⟩
def blank (x:Nat):Bool:=decide (((x:Nat):Int)∈([32,9,13]:List Int))
theorem lclo_grows {w:World} {R:Nat→Prop} (hg:GlobAt w R):PredGrows Tryz.prog 104 #[] blank w:=fun W x hx hb=>by
  have hm:MemOk W [] [] []:=⟨rfl,by simp,by simp,glob_below hg hb,fun i t cs b h1 h2=>by simp at h1⟩
  have hc:=con_lclo.ok W [] [] [] [.one (.v (.int .i32 x))] [.int .i32 x] (fun r=>r=(.one (.v (.bool (blank x))),[])) hm rfl (fun i a v h1 h2=>by
    match i,h1,h2 with
    | 0,rfl,rfl=>exact .val rfl) (by
    show (T.need True (.ret _)).wp _
    exact ⟨trivial,rfl⟩)
  refine hc.mono fun e w' hr=>?_
  obtain ⟨v,av,m',σ',rfl,hQ,_,hk,_,hav,_⟩:=hr
  cases hQ
  rw[val_of hav rfl]
  exact ⟨rfl,hk.below⟩
def decF:List Av→Option ByteArray
  | [.one (.v (.string s)),.one (.v (.func (.func g) a b))]=>match decide (g=104)&&a.isEmpty&&b.isEmpty with
    | true=>some s
    | false=>none
  | _=>none
theorem decF_ok {w:World} {R:Nat→Prop} {σ:List Nat} {args:List Av} {vs:List Value} {x:ByteArray} (h:decF args=some x) (hl:vs.length=args.length) (ha : ∀ (i:Nat) a v,args[i]?=some a→vs[i]?=some v→AvIs w R σ a v):vs=[.string x,.func (.func 104) #[] #[]]:=by
  unfold decF at h
  split at h
  · split at h
    · rename_i hq
      cases h
      simp only[Bool.and_eq_true,decide_eq_true_eq,Array.isEmpty_iff]at hq
      obtain ⟨⟨rfl,rfl⟩,rfl⟩:=hq
      match vs,hl with
      | [u,v],_ =>
        rw[is_str (ha 0 _ u rfl rfl),val_of (ha 1 _ v rfl rfl) rfl]
    · cases h
  · cases h
theorem cf_fields (xs:Array Value) (w:World):(callFunc 103 xs).run Tryz.prog w=.ok (.enter 103 xs) w:=by kernel_rfl
noncomputable def con_fields:Con Tryz.prog:=⟨103,[],_,cf_fields,lib_con decF (fun x=>.need (x.size≤4294967296) (.ret (.one (.ds .str (Lib.goFieldsP blank x))))) fun x args vs w R σ Q hd hl ha hg hQ=>by
  have hv:=decF_ok hd hl ha
  subst hv
  obtain ⟨h1,hQ⟩:=hQ
  refine ⟨_,hQ,(Tryz.strings_FieldsFunc_grows 104 #[] cf_lclo blank x w h1 (lclo_grows hg)).mono fun e w' hr=>?_⟩
  obtain ⟨A,rfl,hA,ho,hb⟩:=hr
  refine ⟨_,rfl,hb,?_⟩
  obtain ⟨_,ho⟩:=ho
  rcases ho with ⟨hv,_⟩|⟨g,cap,cur,hv,hg1,hg2,hcap,_,_,htk⟩
  · cases hv
  · cases hv
    rw[Nat.mul_one]at htk
    have hlt:=(Array.getElem?_eq_some_iff.1 hg2).1
    exact ds_strs (cells:=cur.toList) (R:=fun b=>w.heap.size≤b∧b<w'.heap.size) ⟨hA,hlt⟩ (Nat.le_refl _) (by simpa using hg2) htk⟩
theorem atoiV_in (s:ByteArray) : -9223372036854775808≤atoiV s∧atoiV s≤9223372036854775807:=by
  unfold atoiV
  generalize s.data.toList=l
  unfold Lib.atoiAll
  split
  · rename_i v hv
    split at hv
    · cases hv
    · dsimp only at hv
      split at hv
      · cases hv
      · cases hv
      · rename_i c r u hu
        split at hv
        · cases hv
        · split at hv
          · cases hv
          · cases hv
            split <;> omega
  · omega
def itoaS (z:Int):ByteArray:=⟨(Lib.itoa z).toArray⟩
def trimM (s:ByteArray):ByteArray:=⟨(Lib.trimPrefix s.data.toList [45]).toArray⟩
def lintB (s:ByteArray):Bool:=atoiB s&&(itoaS (atoiV s)).toList==s.toList&&decide ((trimM s).size≤9)
noncomputable def con_lint:Con Tryz.prog:=⟨95,[],_,cf_lint,val_con (E:=L1) mixedL Tryz.func95 no_loops [(false,.str)] (fun x=>ByteArray.size x.1≤281474976710656) (fun x=>.tup [.one (.v (.int .i64 (if lintB x.1=true then atoiV x.1 else 0))),.one (.v (.bool (lintB x.1)))]) fun x hx=>by
  rw[tr_lint_eq]
  obtain ⟨s,u⟩:=x
  revert s
  intro (s:ByteArray) (hx:s.size≤281474976710656)
  unfold tr_lint
  simp only[T.wp]
  have hin:=atoiV_in s
  have eT:ByteArray.size ⟨List.toArray (Lib.trimPrefix (Array.toList (ByteArray.data s)) (Array.toList (ByteArray.data ⟨#[(45:UInt8)]⟩)))⟩=(trimM s).size:=rfl
  rw[eT]
  have no:lintB s=false→Av.tup [.one (.v (.int .i64 0)),.one (.v (.bool false))]=.tup [.one (.v (.int .i64 (if lintB s=true then atoiV s else 0))),.one (.v (.bool (lintB s)))]:=fun h=>by rw[h];rfl
  refine ⟨hx,fun h1=>⟨fun h=>Bool.noConfusion h,fun _=>⟨hin,fun h2=>no ?_,fun h2=>⟨fun h3=>no ?_,fun h3=>?_⟩⟩⟩,fun h1=>no ?_⟩
  · have h2:((itoaS (atoiV s)).toList==s.toList)=false:=by
      have h2:(!((itoaS (atoiV s)).toList==s.toList))=true:=h2
      generalize ((itoaS (atoiV s)).toList==s.toList)=q at h2 ⊢
      cases q with
      | false=>rfl
      | true=>cases h2
    unfold lintB;rw[h2];simp
  · have h3:=of_decide_eq_true h3
    unfold lintB;rw[decide_eq_false (by omega)];simp
  · have h2:((itoaS (atoiV s)).toList==s.toList)=true:=by
      have h2:(!((itoaS (atoiV s)).toList==s.toList))=false:=h2
      generalize ((itoaS (atoiV s)).toList==s.toList)=q at h2 ⊢
      cases q with
      | true=>rfl
      | false=>cases h2
    have h3:=of_decide_eq_false h3
    have e:lintB s=true:=by unfold lintB;rw[h1,h2,decide_eq_true (by omega)];rfl
    rw[e];rfl
  · unfold lintB;rw[h1];rfl⟩
theorem cf_llines (xs:Array Value) (w:World):(callFunc 55 xs).run Tryz.prog w=.ok (.enter 55 xs) w:=by kernel_rfl
abbrev cL:Cd:=.pair (.int .i64) (.sl .str)
noncomputable def codL:Cod Tryz.prog:=⟨47,cL,by kernel_rfl,⟨.agg #[.int .i64 0,.slice none 0 0],fun w=>by kernel_rfl⟩⟩
noncomputable def zeroL:Zero Tryz.prog:=⟨47,ck cL ((0:Int),[]),[.int .i64 0,.slice none 0 0],by kernel_rfl,fun w R σ=>.v rfl (.dn .nil)⟩
noncomputable def L4:Env Tryz.prog:=⟨con_lint::con_fields::con_lclo::L3.con,zeroL::L3.zero,codL::L3.cod,L3.sure,L3.base,L3.frz⟩
abbrev spLines:RSpec:=⟨35,[(8,false,.sl .str),(9,false,.int .i64),(10,false,.int .i64)],[],[],fun _=>[],3,47,cL,false,fun _=>3⟩
noncomputable def tr_llinesL (x:RSpec.X spLines×RSpec.Y spLines×(List (El (RSpec.c spLines))×Nat)):T (RRd spLines):=
 .ite (decide (x.1.2.2.1<x.1.2.1))
  (.get x.1.1 x.1.2.2.1 (fun v0 =>
   .need (ByteArray.size v0<(4294967281:Nat)) (.need (ByteArray.size { data:=List.toArray (Go.Lib.cut (Array.toList (ByteArray.data v0)) (Array.toList (ByteArray.data { data := #[(35:UInt8)] }))).1 }≤(4294967296:Nat)) (.ite (decide ((↑(List.length (Go.Lib.goFieldsP blank { data:=List.toArray (Go.Lib.cut (Array.toList (ByteArray.data v0)) (Array.toList (ByteArray.data { data := #[(35:UInt8)] }))).1 })):Int)>(0:Int)))
      (.need (List.length x.2.2.1=List.length x.2.2.1∧x.2.2.2=x.2.2.2∧(List.length x.2.2.1+List.length [(IntKind.wrap .i64 (x.1.2.2.1+(1:Int)),Go.Lib.goFieldsP blank { data:=List.toArray (Go.Lib.cut (Array.toList (ByteArray.data v0)) (Array.toList (ByteArray.data { data := #[(35:UInt8)] }))).1 })])*(nat_lit 31+(1:Nat))≤(140737488355328:Nat)∧List.length x.2.2.1+List.length [(IntKind.wrap .i64 (x.1.2.2.1+(1:Int)),Go.Lib.goFieldsP blank { data:=List.toArray (Go.Lib.cut (Array.toList (ByteArray.data v0)) (Array.toList (ByteArray.data { data := #[(35:UInt8)] }))).1 })]≤Go.maxLen) (.and
        (.need (List.length x.2.2.1+List.length [(IntKind.wrap .i64 (x.1.2.2.1+(1:Int)),Go.Lib.goFieldsP blank { data:=List.toArray (Go.Lib.cut (Array.toList (ByteArray.data v0)) (Array.toList (ByteArray.data { data := #[(35:UInt8)] }))).1 })]=List.length (x.2.2.1++[(IntKind.wrap .i64 (x.1.2.2.1+(1:Int)),Go.Lib.goFieldsP blank { data:=List.toArray (Go.Lib.cut (Array.toList (ByteArray.data v0)) (Array.toList (ByteArray.data { data := #[(35:UInt8)] }))).1 })])∧x.2.2.2=x.2.2.2) (.ret (.again (x.1.1,(x.1.2.1,(IntKind.wrap .i64 (x.1.2.2.1+(1:Int)),()))) () (some ((x.2.2.1++[(IntKind.wrap .i64 (x.1.2.2.1+(1:Int)),Go.Lib.goFieldsP blank { data:=List.toArray (Go.Lib.cut (Array.toList (ByteArray.data v0)) (Array.toList (ByteArray.data { data := #[(35:UInt8)] }))).1 })],x.2.2.2))))))
        (.up (List.length x.2.2.1+List.length [(IntKind.wrap .i64 (x.1.2.2.1+(1:Int)),Go.Lib.goFieldsP blank { data:=List.toArray (Go.Lib.cut (Array.toList (ByteArray.data v0)) (Array.toList (ByteArray.data { data := #[(35:UInt8)] }))).1 })]) (fun v1 =>
         .need (List.length x.2.2.1+List.length [(IntKind.wrap .i64 (x.1.2.2.1+(1:Int)),Go.Lib.goFieldsP blank { data:=List.toArray (Go.Lib.cut (Array.toList (ByteArray.data v0)) (Array.toList (ByteArray.data { data := #[(35:UInt8)] }))).1 })]=List.length (x.2.2.1++[(IntKind.wrap .i64 (x.1.2.2.1+(1:Int)),Go.Lib.goFieldsP blank { data:=List.toArray (Go.Lib.cut (Array.toList (ByteArray.data v0)) (Array.toList (ByteArray.data { data := #[(35:UInt8)] }))).1 })])∧v1=v1) (.ret (.again (x.1.1,(x.1.2.1,(IntKind.wrap .i64 (x.1.2.2.1+(1:Int)),()))) () (some ((x.2.2.1++[(IntKind.wrap .i64 (x.1.2.2.1+(1:Int)),Go.Lib.goFieldsP blank { data:=List.toArray (Go.Lib.cut (Array.toList (ByteArray.data v0)) (Array.toList (ByteArray.data { data := #[(35:UInt8)] }))).1 })],v1)))))))))
      (.need (List.length x.2.2.1=List.length x.2.2.1∧x.2.2.2=x.2.2.2) (.ret (.again (x.1.1,(x.1.2.1,(IntKind.wrap .i64 (x.1.2.2.1+(1:Int)),()))) () (some x.2.2))))))))
  (.need (List.length x.2.2.1=List.length x.2.2.1∧x.2.2.2=x.2.2.2) (.ret (.out (Go.Exit.exit (0:Nat)) [] () (some x.2.2))))
theorem tr_llinesL_eq (x:RSpec.X spLines×RSpec.Y spLines×(List (El (RSpec.c spLines))×Nat)):RSpec.round spLines L4 (fun _=>none) (bodyOf Tryz.f55 0) x.1 x.2.1 (some x.2.2)=tr_llinesL x:=by kernel_rfl
noncomputable def tr_llinesL0 (x:RSpec.X spLines×RSpec.Y spLines):T (RRd spLines):=
 .ite (decide (x.1.2.2.1<x.1.2.1))
  (.get x.1.1 x.1.2.2.1 (fun v0 =>
   .need (ByteArray.size v0<(4294967281:Nat)) (.need (ByteArray.size { data:=List.toArray (Go.Lib.cut (Array.toList (ByteArray.data v0)) (Array.toList (ByteArray.data { data := #[(35:UInt8)] }))).1 }≤(4294967296:Nat)) (.ite (decide ((↑(List.length (Go.Lib.goFieldsP blank { data:=List.toArray (Go.Lib.cut (Array.toList (ByteArray.data v0)) (Array.toList (ByteArray.data { data := #[(35:UInt8)] }))).1 })):Int)>(0:Int)))
      (.need (List.length [(IntKind.wrap .i64 (x.1.2.2.1+(1:Int)),Go.Lib.goFieldsP blank { data:=List.toArray (Go.Lib.cut (Array.toList (ByteArray.data v0)) (Array.toList (ByteArray.data { data := #[(35:UInt8)] }))).1 })]*(nat_lit 31+(1:Nat))≤(140737488355328:Nat)∧List.length [(IntKind.wrap .i64 (x.1.2.2.1+(1:Int)),Go.Lib.goFieldsP blank { data:=List.toArray (Go.Lib.cut (Array.toList (ByteArray.data v0)) (Array.toList (ByteArray.data { data := #[(35:UInt8)] }))).1 })]≤Go.maxLen) (.up (List.length [(IntKind.wrap .i64 (x.1.2.2.1+(1:Int)),Go.Lib.goFieldsP blank { data:=List.toArray (Go.Lib.cut (Array.toList (ByteArray.data v0)) (Array.toList (ByteArray.data { data := #[(35:UInt8)] }))).1 })]) (fun v1 =>
        .need (List.length [(IntKind.wrap .i64 (x.1.2.2.1+(1:Int)),Go.Lib.goFieldsP blank { data:=List.toArray (Go.Lib.cut (Array.toList (ByteArray.data v0)) (Array.toList (ByteArray.data { data := #[(35:UInt8)] }))).1 })]=List.length [(IntKind.wrap .i64 (x.1.2.2.1+(1:Int)),Go.Lib.goFieldsP blank { data:=List.toArray (Go.Lib.cut (Array.toList (ByteArray.data v0)) (Array.toList (ByteArray.data { data := #[(35:UInt8)] }))).1 })]∧v1=v1) (.ret (.again (x.1.1,(x.1.2.1,(IntKind.wrap .i64 (x.1.2.2.1+(1:Int)),()))) () (some (([(IntKind.wrap .i64 (x.1.2.2.1+(1:Int)),Go.Lib.goFieldsP blank { data:=List.toArray (Go.Lib.cut (Array.toList (ByteArray.data v0)) (Array.toList (ByteArray.data { data := #[(35:UInt8)] }))).1 })],v1))))))))
      (.need (True) (.ret (.again (x.1.1,(x.1.2.1,(IntKind.wrap .i64 (x.1.2.2.1+(1:Int)),()))) () none)))))))
  (.need (True) (.ret (.out (Go.Exit.exit (0:Nat)) [] () none)))
theorem tr_llinesL0_eq (x:RSpec.X spLines×RSpec.Y spLines):RSpec.round spLines L4 (fun _=>none) (bodyOf Tryz.f55 0) x.1 x.2 none=tr_llinesL0 x:=by kernel_rfl
def cutM (l:ByteArray):ByteArray:=⟨(Lib.cut l.data.toList [35]).1.toArray⟩
def wordsOf (l:ByteArray):List ByteArray:=Lib.goFieldsP blank (cutM l)
def linesFrom:List ByteArray→Int→List (Int×List ByteArray)
  | [],_=>[]
  | l::r,i=>if (wordsOf l).length>0 then (i+1,wordsOf l)::linesFrom r (i+1) else linesFrom r (i+1)
def outLines (x:RSpec.X spLines) (y:RSpec.Y spLines) (g:RSpec.G spLines):T (Exit×List Av×RSpec.Y spLines×RSpec.G spLines):=
  .need (0≤x.2.2.1∧x.2.1=(List.length x.1:Int)∧List.length x.1≤1000000 ∧ ∀ l∈(x.1:List ByteArray),l.size<4294967281∧(cutM l).size≤4294967296)
    (match g with
    | none=>.ite (decide (linesFrom ((x.1:List ByteArray).drop x.2.2.1.toNat) x.2.2.1=[])) (.ret (.exit 0,[],y,none)) (.up 0 fun k=>.ret (.exit 0,[],y,some (linesFrom ((x.1:List ByteArray).drop x.2.2.1.toNat) x.2.2.1,k)))
    | some r=>.need ((r.1.length:Int)≤x.2.2.1) (.up 0 fun k=>.ret (.exit 0,[],y,some ((r.1:List (Int×List ByteArray))++linesFrom ((x.1:List ByteArray).drop x.2.2.1.toNat) x.2.2.1,k))))
theorem llinesL_core (l : List ByteArray) (n i : Int) (y : RSpec.Y spLines) (xs : List (Int × List ByteArray)) (cap : Nat) (Q : Exit × List Av × RSpec.Y spLines × RSpec.G spLines → Prop) (h : (outLines (l, n, i, ()) y (some (xs, cap))).wp Q) : (tr_llinesL ((l, n, i, ()), y, (xs, cap))).wp fun r => match r with
      | .again x' y' g'=>(x'.2.1-x'.2.2.1).toNat<(n-i).toNat∧(outLines x' y' g').wp Q
      | .out e avs y' g'=>Q (e,avs,y',g'):=by
  unfold tr_llinesL
  unfold outLines at h ⊢
  simp only[T.wp]at h ⊢
  dsimp only [El,vts,spLines,cL]at h ⊢
  obtain ⟨⟨i0,hn,hl,hw⟩,hr,hq⟩:=h
  refine ⟨fun hlt=>?_,fun hge=>?_⟩
  · have hlt:=of_decide_eq_true hlt
    obtain ⟨u,hu⟩:=elem_at (l:=l) i0 (by omega)
    have hd:=drop_at i0 hu
    obtain ⟨w1,w2⟩:=hw u (List.mem_of_getElem? hu)
    rw[hd,linesFrom]at hq
    refine ⟨u,i0,hu,w1,w2,fun hp=>?_,fun hp=>?_⟩
    · have hp:(wordsOf u).length>0:=by have:=of_decide_eq_true hp;exact Int.ofNat_lt.1 this
      rw[if_pos hp]at hq
      rw[IntWalk.i64_in (i+1) (by omega)]
      simp only[List.length_append,List.length_cons,List.length_nil,Go.maxLen,List.append_assoc,List.singleton_append,List.cons_append,List.nil_append]at hq ⊢
      exact ⟨⟨trivial,trivial,by omega,by omega⟩,⟨⟨trivial,trivial⟩,by omega,⟨by omega,hn,hl,hw⟩,by omega,hq⟩,fun k hk=>⟨⟨trivial,trivial⟩,by omega,⟨by omega,hn,hl,hw⟩,by omega,hq⟩⟩
    · have hp:¬ (wordsOf u).length>0:=by have:=of_decide_eq_false hp;exact fun h'=>this (Int.ofNat_lt.2 h')
      rw[if_neg hp]at hq
      rw[IntWalk.i64_in (i+1) (by omega)]
      exact ⟨⟨trivial,trivial⟩,by omega,⟨by omega,hn,hl,hw⟩,by omega,hq⟩
  · have hge:=of_decide_eq_false hge
    rw[drop_end (by omega),linesFrom,List.append_nil]at hq
    exact ⟨⟨trivial,trivial⟩,hq cap (Nat.zero_le _)⟩
theorem llinesL_core0 (l : List ByteArray) (n i : Int) (y : RSpec.Y spLines) (Q : Exit × List Av × RSpec.Y spLines × RSpec.G spLines → Prop) (h : (outLines (l, n, i, ()) y none).wp Q) : (tr_llinesL0 ((l, n, i, ()), y)).wp fun r => match r with
      | .again x' y' g'=>(x'.2.1-x'.2.2.1).toNat<(n-i).toNat∧(outLines x' y' g').wp Q
      | .out e avs y' g'=>Q (e,avs,y',g'):=by
  unfold tr_llinesL0
  unfold outLines at h ⊢
  simp only[T.wp]at h ⊢
  dsimp only [El,vts,spLines,cL]at h ⊢
  obtain ⟨⟨i0,hn,hl,hw⟩,hz,hq⟩:=h
  refine ⟨fun hlt=>?_,fun hge=>?_⟩
  · have hlt:=of_decide_eq_true hlt
    obtain ⟨u,hu⟩:=elem_at (l:=l) i0 (by omega)
    have hd:=drop_at i0 hu
    obtain ⟨w1,w2⟩:=hw u (List.mem_of_getElem? hu)
    rw[hd,linesFrom]at hz hq
    refine ⟨u,i0,hu,w1,w2,fun hp=>?_,fun hp=>?_⟩
    · have hp:(wordsOf u).length>0:=by have:=of_decide_eq_true hp;exact Int.ofNat_lt.1 this
      rw[if_pos hp]at hq
      have hq:=hq (decide_eq_false (by simp))
      rw[IntWalk.i64_in (i+1) (by omega)]
      simp only[List.length_cons,List.length_nil,Go.maxLen,List.singleton_append,List.cons_append,List.nil_append]at hq ⊢
      exact ⟨⟨by omega,by omega⟩,fun k hk=>⟨⟨trivial,trivial⟩,by omega,⟨by omega,hn,hl,hw⟩,by omega,hq⟩⟩
    · have hp:¬ (wordsOf u).length>0:=by have:=of_decide_eq_false hp;exact fun h'=>this (Int.ofNat_lt.2 h')
      rw[if_neg hp]at hz hq
      rw[IntWalk.i64_in (i+1) (by omega)]
      exact ⟨trivial,by omega,⟨by omega,hn,hl,hw⟩,hz,hq⟩
  · have hge:=of_decide_eq_false hge
    rw[drop_end (by omega),linesFrom]at hz
    exact ⟨trivial,hz (decide_eq_true rfl)⟩
theorem llinesL_ok:LoopOk Tryz.prog 0 (bodyOf Tryz.f55 0) (spLines.run outLines):=
  loopR_ok (E:=L4) (L:=fun _=>none) mixedL 0 (loops_none _ _ _) spLines (Nat.zero_le _) outLines (fun x _ _=>(x.2.1-x.2.2.1).toNat) (by
    rintro ⟨l,n,i,⟨⟩⟩ y g Q h
    match g,h with
    | some (xs,cap),h =>
      rw[tr_llinesL_eq ((l,n,i,()),y,(xs,cap))]
      exact llinesL_core l n i y xs cap Q h
    | none,h =>
      rw[tr_llinesL0_eq ((l,n,i,()),y)]
      exact llinesL_core0 l n i y Q h)
noncomputable def lpLines:Loops:=manyL [(3,spLines.run outLines)]
noncomputable def L4f:Env Tryz.prog:=L4.fz [(10,[3])]
noncomputable def tr_llines (x:Els [(false,.str)]):T Av:=
 .need ((1:Nat)≤ByteArray.size { data := #[(10:UInt8)] }∧ByteArray.size (x.1)<(4294967281:Nat)) (.need (True) (.need ((0:El (Cd.int .i64))≤(0:Int)∧(↑(List.length (splitL (x.1) { data := #[(10:UInt8)] })):Int)=(↑(List.length (splitL (x.1) { data := #[(10:UInt8)] })):Int)∧List.length (splitL (x.1) { data := #[(10:UInt8)] })≤(1000000:Nat) ∧ ∀ (l:El Cd.str),l∈splitL (x.1) { data := #[(10:UInt8)] }→ByteArray.size l<(4294967281:Nat)∧ByteArray.size (cutM l)≤(4294967296:Nat)) (.ite (decide (linesFrom (List.drop (Int.toNat (0:Int)) (splitL (x.1) { data := #[(10:UInt8)] })) (0:Int)=[]))
     (.ret (.one (.v (Go.Value.slice Option.none (0:Nat) (0:Nat)))))
     (.up ((0:Nat)) (fun v0 =>
      .need (List.length (linesFrom (List.drop (Int.toNat (0:Int)) (splitL (x.1) { data := #[(10:UInt8)] })) (0:Int))≤List.length (linesFrom (List.drop (Int.toNat (0:Int)) (splitL (x.1) { data := #[(10:UInt8)] })) (0:Int))) (.ret (.one (.ds (Cd.pair (Cd.int .i64) (Cd.sl Cd.str)) (List.take (List.length (linesFrom (List.drop (Int.toNat (0:Int)) (splitL (x.1) { data := #[(10:UInt8)] })) (0:Int))) (linesFrom (List.drop (Int.toNat (0:Int)) (splitL (x.1) { data := #[(10:UInt8)] })) (0:Int)))))))))))
theorem tr_llines_eq (x:Els [(false,.str)]):fnP L4f lpLines Tryz.f55 (encs [(false,.str)] x)=tr_llines x:=by kernel_rfl
theorem val_con_wL {P:Program} {E:Env P} {L:Loops} {f:FuncId} {fn:Func} (hm:P.follows .mixedOrders=true) (hf:P.funcs[f]?=some fn) (hL : ∀ c,fn.body=some c→LoopsOk P 0 L c) (ts:List (Bool×Cd)) (pre:Els ts→Prop) (F:Els ts→Av)
    (h : ∀ x,pre x→(fnP E L fn (encs ts x)).wp (fun a => ∀ w R σ v,AvIs w R σ a v→AvIs w R σ (F x) v)):ConOk P f [] (pureRun' ts fun x=>.need (pre x) (.ret (F x))):=by
  refine con_weaken (con_ok (E:=E) (L:=L) hm hf hL ts (fun x=>fnP E L fn (encs ts x)) (fun x Q h=>h)) fun args m Q hq=>?_
  unfold pureRun' at hq ⊢
  split at hq
  · rw[T.wp_bind]at hq ⊢
    exact T.wp_mono (fun a ha=>⟨_,hq.2,ha⟩) (h _ hq.1)
  · exact hq.elim
theorem nil_av1 {w:World} {R:Nat→Prop} {σ:List Nat} {c:Cd} {v:Value} (h:AvIs w R σ (.one (.v (.slice none 0 0))) v):AvIs w R σ (.one (.ds c [])) v:=by
  rw[val_of h rfl]
  exact .one rfl (.dn .nil)
def nl:ByteArray:=⟨#[10]⟩
def linesOf (s:ByteArray):List (Int×List ByteArray):=linesFrom (splitL s nl) 0
def LinesFit (s:ByteArray):Prop:=s.size<4294967281∧(splitL s nl).length≤1000000 ∧ ∀ l∈splitL s nl,l.size<4294967281∧(cutM l).size≤4294967296
noncomputable def con_llines:Con Tryz.prog:=⟨55,[],_,cf_llines,val_con_wL (E:=L4f) (L:=lpLines) mixedL Tryz.func55 (many_loops (by kernel_rfl) (by simp) (fun i p hp=>by
    match i,hp with
    | 0,hp=>cases hp;exact llinesL_ok
    | i+1,hp=>simp at hp)) [(false,.str)] (fun x=>LinesFit x.1) (fun x=>.one (.ds cL (linesOf x.1))) fun x hx=>by
  rw[tr_llines_eq]
  obtain ⟨s,u⟩:=x
  revert s
  intro (s:ByteArray) (hx:LinesFit s)
  obtain ⟨h1,h2,h3⟩:=hx
  unfold tr_llines
  simp only[T.wp]
  refine ⟨⟨by decide,h1⟩,trivial,⟨Int.le_refl 0,trivial,h2,h3⟩,fun he=>?_,fun he k hk=>⟨Nat.le_refl _,?_⟩⟩
  · have he:linesOf s=[]:=of_decide_eq_true he
    rw[he]
    exact fun w R σ v hv=>nil_av1 hv
  · rw[List.take_length]
    exact fun w R σ v hv=>hv⟩
noncomputable def L5:Env Tryz.prog:=⟨con_llines::L4.con,L4.zero,L4.cod,L4.sure,L4.base,L4.frz⟩
def dgAll (l:List UInt8):Bool:=l.all fun c=>decide (48≤c.toNat)&&decide (c.toNat≤57)
def dgVal:Int→List UInt8→Int
  | n,[]=>n
  | n,c::r=>dgVal (n*10+((c.toNat:Int)-48)) r
theorem dgVal_app (a b:List UInt8) : ∀ n,dgVal n (a++b)=dgVal (dgVal n a) b:=by
  induction a with
  | nil=>intro n;rfl
  | cons c r ih=>intro n;exact ih _
theorem dgAll_app (a b:List UInt8):dgAll (a++b)=(dgAll a&&dgAll b):=List.all_append
theorem dgAll_cons (c:UInt8) (r:List UInt8):dgAll (c::r)=(decide (48≤c.toNat)&&decide (c.toNat≤57)&&dgAll r):=rfl
theorem dg_one {u:Nat} (h:u<10):(UInt8.ofNat (48+u)).toNat=48+u:=by
  rw[UInt8.toNat_ofNat'];omega
theorem dgAll_one {u:Nat} (h:u<10):dgAll [UInt8.ofNat (48+u)]=true:=by
  rw[dgAll_cons,dg_one h,decide_eq_true (by omega),decide_eq_true (by omega)];rfl
theorem dgVal_one {u:Nat} (h:u<10) (n:Int):dgVal n [UInt8.ofNat (48+u)]=n*10+u:=by
  rw[dgVal,dgVal,dg_one h];omega
theorem dec_small {n:Nat} (h:n<10):Lib.decDigits n=[UInt8.ofNat (48+n)]:=by rw[Lib.decDigits,dif_pos h]
theorem dec_big {n:Nat} (h:¬ n<10):Lib.decDigits n=Lib.decDigits (n/10)++[UInt8.ofNat (48+n%10)]:=by rw[Lib.decDigits,dif_neg h]
theorem dec_all (n:Nat):dgAll (Lib.decDigits n)=true:=by
  induction n using Nat.strongRecOn with
  | _ n ih =>
    by_cases h:n<10
    · rw[dec_small h];exact dgAll_one h
    · rw[dec_big h,dgAll_app,ih (n/10) (by omega),dgAll_one (by omega)];rfl
theorem dec_val (n:Nat):dgVal 0 (Lib.decDigits n)=n:=by
  induction n using Nat.strongRecOn with
  | _ n ih =>
    by_cases h:n<10
    · rw[dec_small h,dgVal_one h];omega
    · rw[dec_big h,dgVal_app,ih (n/10) (by omega),dgVal_one (by omega)];omega
theorem dec_head (n:Nat) : ∃ c r,Lib.decDigits n=c::r∧48≤c.toNat∧c.toNat≤57∧(c=48→n=0∧r=[]):=by
  induction n using Nat.strongRecOn with
  | _ n ih =>
    by_cases h:n<10
    · rw[dec_small h]
      refine ⟨_,[],rfl,by rw[dg_one h];omega,by rw[dg_one h];omega,fun e=>⟨?_,rfl⟩⟩
      have:=dg_one h
      rw[e]at this
      have e48:(48:UInt8).toNat=48:=rfl
      omega
    · obtain ⟨c,r,e,h1,h2,h3⟩:=ih (n/10) (by omega)
      rw[dec_big h,e]
      refine ⟨c,r++_,rfl,h1,h2,fun e=>?_⟩
      have:=(h3 e).1
      omega
theorem digit_of {c:UInt8} {r:List UInt8} (h:dgAll (c::r)=true):48≤c.toNat∧c.toNat≤57∧dgAll r=true:=by
  rw[dgAll_cons,Bool.and_eq_true,Bool.and_eq_true,decide_eq_true_eq,decide_eq_true_eq]at h
  exact ⟨h.1.1,h.1.2,h.2⟩
theorem parse_dg : ∀ (t:List UInt8) (acc:Nat),dgAll t=true→(acc+1)*10^t.length≤1000000000000000000 → ∃ u:Nat,Lib.parseUint10 acc t=.ok u∧(u:Int)=dgVal acc t∧u<(acc+1)*10^t.length
  | [],acc,_,h=>⟨acc,rfl,rfl,by simp⟩
  | c::r,acc,hd,h=>by
    obtain ⟨h1,h2,h3⟩:=digit_of hd
    rw[List.length_cons,Nat.pow_succ]at h
    have e:(acc+1)*(10^r.length*10)=(acc+1)*10*10^r.length:=by rw[Nat.mul_comm (10^r.length) 10,Nat.mul_assoc]
    rw[e]at h
    have hle:(acc*10+(c.toNat-48)+1)*10^r.length≤(acc+1)*10*10^r.length:=Nat.mul_le_mul_right _ (by omega)
    have hp:1≤10^r.length:=Nat.one_le_pow _ _ (by decide)
    have hb:(acc+1)*10≤(acc+1)*10*10^r.length:=Nat.le_mul_of_pos_right _ hp
    obtain ⟨u,g1,g2,g3⟩:=parse_dg r (acc*10+(c.toNat-48)) h3 (by omega)
    refine ⟨u,?_,?_,?_⟩
    · rw[Lib.parseUint10,if_pos ⟨h1,h2⟩,if_neg (by omega),if_neg (by omega)];exact g1
    · rw[g2,dgVal];congr 1;omega
    · rw[List.length_cons,Nat.pow_succ,e];omega
theorem byte_of {c:UInt8} {k:Nat} (h:c.toNat=k):c=UInt8.ofNat k:=by
  subst h;exact (UInt8.ofNat_toNat).symm
theorem dec_of : ∀ (k:Nat) (t:List UInt8),t.length=k→dgAll t=true→t≠[]→(t.head?=some 48→t.length=1) → ∃ u:Nat,(u:Int)=dgVal 0 t∧Lib.decDigits u=t∧(t.head?≠some 48→0<u)
  | k,t,hk,hd,h0,hz=>by
    rcases List.eq_nil_or_concat t with e|⟨t',c,e⟩
    · exact absurd e h0
    · rw[List.concat_eq_append]at e
      subst e
      rw[dgAll_app,Bool.and_eq_true]at hd
      obtain ⟨h1,h2,_⟩:=digit_of hd.2
      have ec:UInt8.ofNat (48+(c.toNat-48))=c:=(byte_of (by omega)).symm
      by_cases ht:t'=[]
      · subst ht
        refine ⟨c.toNat-48,?_,?_,fun hne=>?_⟩
        · rw[List.nil_append,dgVal,dgVal];omega
        · rw[dec_small (by omega),ec];rfl
        · have hc:c≠48:=fun e=>hne (by rw[e];rfl)
          have:c.toNat≠48:=fun e=>hc (byte_of e)
          omega
      · obtain ⟨a,r,rfl⟩ : ∃ a r,t'=a::r:=by
          cases t' with
          | nil=>exact absurd rfl ht
          | cons a r=>exact ⟨a,r,rfl⟩
        have hne:((a::r)++[c]).head?≠some 48:=fun e=>by have:=hz e;simp at this
        have hne':(a::r).head?≠some 48:=hne
        simp only[List.length_append,List.length_cons,List.length_nil]at hk
        obtain ⟨u,g1,g2,g3⟩:=dec_of (k-1) (a::r) (by simp only[List.length_cons];omega) hd.1 ht (fun e=>absurd e hne')
        have:=g3 hne'
        refine ⟨u*10+(c.toNat-48),?_,?_,fun _=>by omega⟩
        · rw[dgVal_app,←g1,dgVal,dgVal];omega
        · rw[dec_big (by omega),show (u*10+(c.toNat-48))/10=u by omega,show (u*10+(c.toNat-48))%10=c.toNat-48 by omega,g2,ec]
termination_by k=>k
decreasing_by
  simp only[List.length_append,List.length_cons,List.length_nil]at hk
  omega
def unm:List UInt8→List UInt8
  | []=>[]
  | c::r=>if c=45 then r else c::r
def numB (l:List UInt8):Bool:=decide (1≤(unm l).length)&&decide ((unm l).length≤9) && !(decide ((unm l).head?=some 48)&&decide (1<l.length))&&dgAll (unm l)
def numV (l:List UInt8):Int:=if (unm l).length<l.length then-dgVal 0 (unm l) else dgVal 0 (unm l)
theorem trimM_size (s:ByteArray):(trimM s).size=(unm s.data.toList).length:=by
  obtain ⟨⟨l⟩⟩:=s
  show (Lib.trimPrefix l [45]).length=(unm l).length
  cases l with
  | nil=>rfl
  | cons c r =>
    by_cases h:c=45
    · subst h
      have hu:unm (45::r)=r:=rfl
      unfold Lib.trimPrefix Lib.hasPrefix
      rw[hu];simp
    · have hu:unm (c::r)=c::r:=by rw[unm,if_neg h]
      have:([45].isPrefixOf (c::r))=false:=by
        show ((45==c)&&_)=false
        rw[beq_false_of_ne (Ne.symm h)];rfl
      unfold Lib.trimPrefix Lib.hasPrefix
      rw[this,hu];rfl
theorem itoa_num {v:Int} (h:(unm (Lib.itoa v)).length≤9):numB (Lib.itoa v)=true∧numV (Lib.itoa v)=v:=by
  unfold Lib.itoa at h ⊢
  by_cases hv:v<0
  · rw[if_pos hv]at h ⊢
    obtain ⟨c,r,e,h1,h2,h3⟩:=dec_head v.natAbs
    have hu:unm (45::Lib.decDigits v.natAbs)=Lib.decDigits v.natAbs:=rfl
    unfold numB numV
    rw[hu]at h ⊢
    refine ⟨?_,?_⟩
    · rw[dec_all,decide_eq_true h,e]
      have hc:c≠48:=fun e=>by have:=(h3 e).1;omega
      simp[hc]
    · rw[if_pos (by simp),dec_val];omega
  · rw[if_neg hv]at h ⊢
    obtain ⟨c,r,e,h1,h2,h3⟩:=dec_head v.toNat
    have hc:c≠45:=fun e=>by subst e;exact absurd h1 (by decide)
    have hu:unm (Lib.decDigits v.toNat)=Lib.decDigits v.toNat:=by rw[e,unm,if_neg hc]
    unfold numB numV
    rw[hu]at h ⊢
    refine ⟨?_,?_⟩
    · rw[dec_all,decide_eq_true h,e]
      by_cases h48:c=48
      · rw[(h3 h48).2];simp
      · simp[h48]
    · rw[if_neg (Nat.lt_irrefl _),dec_val];omega
theorem num_bnd {k:Nat} (h:k≤9):10^k≤1000000000:=by
  have:10^k≤10^9:=Nat.pow_le_pow_right (by decide) h
  exact this
theorem num_itoa {l:List UInt8} (h:numB l=true):Lib.atoiAll l=.ok (numV l)∧Lib.itoa (numV l)=l:=by
  unfold numB at h
  simp only[Bool.and_eq_true,decide_eq_true_eq,Bool.not_eq_true',Bool.and_eq_false_iff,decide_eq_false_iff_not]at h
  obtain ⟨⟨⟨h1,h2⟩,h3⟩,h4⟩:=h
  have hne:unm l≠[]:=fun e=>by rw[e]at h1;simp at h1
  have hp:=num_bnd h2
  obtain ⟨u,p1,p2,p3⟩:=parse_dg (unm l) 0 h4 (by omega)
  have hm:Lib.parseMag (unm l)=.ok u:=by unfold Lib.parseMag;rw[if_neg hne];exact p1
  cases l with
  | nil=>exact absurd rfl hne
  | cons c r =>
    by_cases hc:c=45
    · subst hc
      have hu:unm (45::r)=r:=rfl
      rw[hu]at hne h1 h2 h3 h4 hm p2 p3 hp
      have hl:1<(45::r:List UInt8).length:=by rw[List.length_cons];omega
      have h48:r.head?≠some 48:=fun e=>by rcases h3 with h|h;exact h e;exact h hl
      obtain ⟨u',q1,q2,q3⟩:=dec_of _ r rfl h4 hne (fun e=>absurd e h48)
      have e : u' = u := by have : (u' : Int) = u := by rw [q1, p2]; rfl
                            omega
      subst e
      have hpos:=q3 h48
      have hv:numV (45::r) = -(u':Int):=by unfold numV;rw[hu,if_pos (by simp),←q1]
      rw[hv]
      constructor
      · rw[Lib.atoiAll_minus,hm]
        unfold Lib.signed
        simp only[]
        rw[if_neg (by omega)]
      · unfold Lib.itoa
        rw[if_pos (by omega),Int.natAbs_neg,Int.natAbs_natCast,q2]
    · have hu:unm (c::r)=c::r:=by rw[unm,if_neg hc]
      rw[hu]at hne h1 h2 h3 h4 hm p2 p3 hp
      obtain ⟨d1,d2,_⟩:=digit_of h4
      obtain ⟨u',q1,q2,q3⟩:=dec_of _ (c::r) rfl h4 hne (fun e=>by rcases h3 with h|h;exact absurd e h;simp only[List.length_cons]at h ⊢;omega)
      have e : u' = u := by have : (u' : Int) = u := by rw [q1, p2]; rfl
                            omega
      subst e
      have hv:numV (c::r)=(u':Int):=by unfold numV;rw[hu,if_neg (Nat.lt_irrefl _),←q1]
      rw[hv]
      constructor
      · rw[Lib.atoiAll_plain c r (by omega) (by omega),hm]
        unfold Lib.signless
        simp only[]
        rw[if_neg (by omega)]
      · unfold Lib.itoa
        rw[if_neg (by omega),Int.toNat_natCast,q2]
theorem lint_num (s:ByteArray):lintB s=numB s.data.toList∧(lintB s=true→atoiV s=numV s.data.toList):=by
  have key:lintB s=true→numB s.data.toList=true∧atoiV s=numV s.data.toList:=fun h=>by
    unfold lintB at h
    simp only[Bool.and_eq_true,decide_eq_true_eq,beq_iff_eq]at h
    obtain ⟨⟨h1,h2⟩,h3⟩:=h
    rw[Lib.toList_data,Lib.toList_data]at h2
    have h2:Lib.itoa (atoiV s)=s.data.toList:=by rw[←h2];rfl
    rw[trimM_size,←h2]at h3
    have:=itoa_num h3
    rw[h2]at this
    exact ⟨this.1,this.2.symm⟩
  refine ⟨?_,fun h=>(key h).2⟩
  rw[Bool.eq_iff_iff]
  refine ⟨fun h=>(key h).1,fun h=>?_⟩
  obtain ⟨g1,g2⟩:=num_itoa h
  have hV:atoiV s=numV s.data.toList:=by unfold atoiV;rw[g1]
  have hB:atoiB s=true:=by unfold atoiB;rw[g1]
  have h9:(trimM s).size≤9:=by
    rw[trimM_size]
    unfold numB at h
    simp only[Bool.and_eq_true,decide_eq_true_eq]at h
    exact h.1.1.2
  unfold lintB
  rw[hB,decide_eq_true h9,Lib.toList_data,Lib.toList_data,hV,show (itoaS (numV s.data.toList)).data.toList=s.data.toList from g2]
  simp
def spl:List UInt8→List (List UInt8)
  | []=>[[]]
  | c::r=>if c=10 then []::spl r else match spl r with
    | h::t=>(c::h)::t
    | []=>[[c]]
theorem index_cons_ne {b c:UInt8} {l:List UInt8} (h:b≠c):Lib.index (b::l) [c]=if Lib.index l [c] == -1 then -1 else Lib.index l [c]+1:=by
  conv=>lhs;unfold Lib.index
  have e:([c].isPrefixOf (b::l))=false:=by
    show ((c==b)&&_)=false
    rw[beq_false_of_ne (Ne.symm h)];rfl
  rw[e];rfl
theorem index_cons_eq (c:UInt8) (l:List UInt8):Lib.index (c::l) [c]=0:=by
  unfold Lib.index
  have e:([c].isPrefixOf (c::l))=true:=by simp
  rw[e];rfl
theorem index_cases (s sub:List UInt8):Lib.index s sub = -1 ∨ ∃ i:Nat,Lib.index s sub=i:=by
  rcases Lib.index_spec s sub with h|⟨i,h,_⟩
  · exact .inl h.1
  · exact .inr ⟨i,h⟩
theorem splitK_spl : ∀ s:List UInt8,Lib.splitK [10] 0 (Lib.count s [10]) s=spl s
  | []=>rfl
  | c::r=>by
    have ih:=splitK_spl r
    by_cases hc:c=10
    · subst hc
      rw[Lib.count_cons_eq,Nat.add_comm,Lib.splitK,index_cons_eq,spl,if_pos rfl,←ih]
      rfl
    · rw[Lib.count_cons_ne c 10 r hc,spl,if_neg hc,←ih]
      rcases index_cases r [10] with h|⟨i,h⟩
      · rw[Lib.count_miss h];rfl
      · have hcount:=Lib.count_hit (s:=r) (sub:=[10]) (i:=i) (by simp) h
        rw[hcount,Nat.add_comm,Lib.splitK,Lib.splitK,index_cons_ne hc,h]
        have e1:((i:Int) == -1)=false:=by rw[beq_eq_false_iff_ne];omega
        have e2:((i:Int)+1 == -1)=false:=by rw[beq_eq_false_iff_ne];omega
        have e3:((i:Int)+1).toNat=i+1:=by omega
        simp only[e1,e2,e3,Bool.false_eq_true,if_false,Int.toNat_natCast,Nat.add_zero,List.take_succ_cons,List.length_cons,List.length_nil,List.drop_succ_cons]
theorem splitL_spl (s:ByteArray):(splitL s nl).map (·.data.toList)=spl s.data.toList:=by
  unfold splitL
  rw[Lib.splitB_data]
  exact splitK_spl _
theorem cut_while (c:UInt8) : ∀ l:List UInt8,(Lib.cut l [c]).1=l.takeWhile (· != c)
  | []=>rfl
  | b::r=>by
    have ih:=cut_while c r
    by_cases hb:b=c
    · subst hb
      unfold Lib.cut
      rw[index_cons_eq,if_pos (Int.le_refl 0)]
      simp
    · have hbe:(b != c)=true:=by simp[hb]
      rw[List.takeWhile_cons,hbe,if_pos rfl,←ih]
      unfold Lib.cut
      rw[index_cons_ne hb]
      rcases index_cases r [c] with h|⟨i,h⟩
      · rw[h];rfl
      · rw[h]
        have e1:((i:Int) == -1)=false:=by rw[beq_eq_false_iff_ne];omega
        have e3:((i:Int)+1).toNat=i+1:=by omega
        simp only[e1,Bool.false_eq_true,if_false]
        rw[if_pos (by omega),if_pos (by omega),e3]
        simp
def bl (c:UInt8):Bool:=blank c.toNat
def fgo:List UInt8→List UInt8→List (List UInt8)
  | cur,[]=>if cur=[] then [] else [cur]
  | cur,c::r=>if bl c=true then (if cur=[] then fgo [] r else cur::fgo [] r) else fgo (cur++[c]) r
theorem fgo_run : ∀ (l cur r:List UInt8),(∀ c∈l,bl c=false)→fgo cur (l++r)=fgo (cur++l) r
  | [],cur,r,_=>by simp
  | c::l,cur,r,h=>by
    rw[List.cons_append,fgo,if_neg (by rw[h c (by simp)];exact Bool.false_ne_true),fgo_run l (cur++[c]) r (fun d hd=>h d (by simp[hd]))]
    simp
theorem blank_small {x:Nat} (h:blank x=true):x<128:=by
  unfold blank at h
  have h:=of_decide_eq_true h
  simp only[List.mem_cons,List.not_mem_nil,or_false]at h
  omega
theorem get_list (s:ByteArray) (i:Nat) (h:i<s.size):s.data.toList[i]?=some (s.get! i):=by
  obtain ⟨⟨l⟩⟩:=s
  have h:i<l.length:=h
  show l[i]?=some (l.toArray[i]!)
  rw[getElem!_pos l.toArray i (by simpa using h)]
  simp[h]
theorem drop_take_get (s:ByteArray) (pos k:Nat) (h:pos+k≤s.size) : ∀ c∈(s.data.toList.drop pos).take k,∃ j,j<k∧c=s.get! (pos+j):=by
  intro c hc
  obtain ⟨j,hj⟩:=List.mem_iff_getElem?.1 hc
  rw[List.getElem?_take]at hj
  split at hj
  · rename_i hjk
    rw[List.getElem?_drop,get_list s (pos+j) (by omega)]at hj
    cases hj
    exact ⟨j,hjk,rfl⟩
  · cases hj
theorem decode_big (s:ByteArray) (pos:Nat) (hp:pos<s.size):((s.get! pos).toNat<128∧Utf8.decode s pos=((s.get! pos).toNat,1)) ∨
    (128≤(s.get! pos).toNat∧128≤(Utf8.decode s pos).1∧1≤(Utf8.decode s pos).2∧pos+(Utf8.decode s pos).2≤s.size ∧ ∀ j,j<(Utf8.decode s pos).2→128≤(s.get! (pos+j)).toNat):=by
  by_cases h:(s.get! pos).toNat<128
  · left
    refine ⟨h,?_⟩
    unfold Utf8.decode
    simp only[Nat.add_zero]
    rw[if_pos h]
  · right
    refine ⟨by omega,?_⟩
    have one : ∀ j,j<1→128≤(s.get! (pos+j)).toNat:=fun j hj=>by
      obtain rfl:j=0:=by omega
      exact Nat.not_lt.1 h
    unfold Utf8.decode
    simp only[Nat.add_zero]
    rw[if_neg h]
    have bad:128≤Utf8.runeError∧1≤1∧pos+1≤s.size ∧ ∀ j,j<1→128≤(s.get! (pos+j)).toNat:=⟨by decide,Nat.le_refl _,hp,one⟩
    split
    · rename_i h2
      split
      · rename_i h3
        simp only[Bool.and_eq_true,decide_eq_true_eq,beq_iff_eq]at h2
        refine ⟨h3,(by show 1≤2;decide),by simp only[];omega,fun j hj=>?_⟩
        simp only[]at hj
        match j,hj with
        | 0,_=>exact one 0 (by omega)
        | 1,_=>omega
      · exact bad
    · split
      · rename_i h2
        split
        · rename_i h3
          simp only[Bool.and_eq_true,decide_eq_true_eq,beq_iff_eq]at h2 h3
          refine ⟨by simp only[];omega,Nat.le_add_left 1 _,by simp only[];omega,fun j hj=>?_⟩
          simp only[]at hj
          match j,hj with
          | 0,_=>exact one 0 (by omega)
          | 1,_=>omega
          | 2,_=>omega
        · exact bad
      · split
        · rename_i h2
          split
          · rename_i h3
            simp only[Bool.and_eq_true,decide_eq_true_eq,beq_iff_eq]at h2 h3
            refine ⟨by simp only[];omega,Nat.le_add_left 1 _,by simp only[];omega,fun j hj=>?_⟩
            simp only[]at hj
            match j,hj with
            | 0,_=>exact one 0 (by omega)
            | 1,_=>omega
            | 2,_=>omega
            | 3,_=>omega
          · exact bad
        · exact bad
def openP (l:List UInt8) (st:Option Nat) (pos:Nat):List UInt8:=match st with|some a=>Lib.pieceU l a pos|none=>[]
theorem spans_fgo (s:ByteArray) : ∀ (f pos:Nat) (st:Option Nat) (acc:List (Nat×Nat)),s.size≤pos+f→pos≤s.size→(∀ a,st=some a→a<pos) →
    acc.map (fun p=>Lib.pieceU s.data.toList p.1 p.2)++fgo (openP s.data.toList st pos) (s.data.toList.drop pos)=(Lib.closeSpans s (Lib.spansFromP blank s f pos st acc)).map (fun p=>Lib.pieceU s.data.toList p.1 p.2):=by
  have fin : ∀ (f:Nat) (st:Option Nat) (acc:List (Nat×Nat)),(∀ a,st=some a→a<s.size) →
      acc.map (fun p=>Lib.pieceU s.data.toList p.1 p.2)++fgo (openP s.data.toList st s.size) (s.data.toList.drop s.size)=(Lib.closeSpans s (Lib.spansFromP blank s f s.size st acc)).map (fun p=>Lib.pieceU s.data.toList p.1 p.2):=fun f st acc hst=>by
    have hd:s.data.toList.drop s.size=[]:=List.drop_eq_nil_of_le (by rw[←Lib.size_eq];exact Nat.le_refl _)
    rw[hd,Lib.spansFromP_end blank s _ _ _ _ (Nat.lt_irrefl _)]
    cases st with
    | none=>simp[Lib.closeSpans,openP,fgo]
    | some a =>
      have:=Lib.pieceU_ne s.data.toList a s.size (hst a rfl) (by rw[←Lib.size_eq];exact Nat.le_refl _)
      simp[Lib.closeSpans,openP,fgo,this]
  intro f
  induction f with
  | zero =>
    intro pos st acc h hp hst
    obtain rfl:pos=s.size:=by omega
    exact fin 0 st acc hst
  | succ f ih =>
    intro pos st acc h hp hst
    by_cases hlt:pos<s.size
    · unfold Lib.spansFromP
      rw[if_pos hlt]
      have hd:s.data.toList.drop pos=s.get! pos::s.data.toList.drop (pos+1):=by
        have:=get_list s pos hlt
        rw[List.drop_eq_getElem?_toList_append,this];rfl
      rcases decode_big s pos hlt with ⟨hb,e⟩|⟨hb,hr,hw,hwn,hall⟩
      · rw[e]
        simp only[]
        cases hsp:blank (s.get! pos).toNat with
        | true =>
          rw[if_pos rfl,hd,fgo,if_pos (show bl (s.get! pos)=true from hsp)]
          cases st with
          | none =>
            have ih:=ih (pos+1) none acc (by omega) hlt (fun a h=>by cases h)
            simpa [openP] using ih
          | some a =>
            have hpn:=Lib.pieceU_ne s.data.toList a pos (hst a rfl) (by rw[←Lib.size_eq];omega)
            have ih:=ih (pos+1) none (acc++[(a,pos)]) (by omega) hlt (fun a h=>by cases h)
            simpa [openP,hpn] using ih
        | false =>
          have hbl:¬ bl (s.get! pos)=true:=by unfold bl;rw[hsp];exact Bool.false_ne_true
          rw[if_neg Bool.false_ne_true,hd,fgo,if_neg hbl]
          have e1:(s.data.toList.drop pos).take 1=[s.get! pos]:=by rw[hd];rfl
          cases st with
          | none =>
            have ih:=ih (pos+1) (some pos) acc (by omega) hlt (fun a h=>by cases h;omega)
            have e:([]:List UInt8)++[s.get! pos]=Lib.pieceU s.data.toList pos (pos+1):=by
              unfold Lib.pieceU
              rw[List.nil_append,Nat.add_sub_cancel_left,e1]
            simp only[openP]at ih ⊢
            rw[e]
            exact ih
          | some a =>
            have ih:=ih (pos+1) (some a) acc (by omega) hlt (fun b h=>by cases h;have:=hst a rfl;omega)
            simp only[openP]at ih ⊢
            rw[←e1,Lib.pieceU_grow _ _ _ _ (Nat.le_of_lt (hst a rfl))]
            exact ih
      · generalize Utf8.decode s pos=d at *
        obtain ⟨ru,k⟩:=d
        simp only[]at hr hw hwn hall ⊢
        have hnb:blank ru=false:=by
          rw[Bool.eq_false_iff];intro h;have:=blank_small h;omega
        rw[hnb,if_neg Bool.false_ne_true]
        have hsplit:s.data.toList.drop pos=(s.data.toList.drop pos).take k++s.data.toList.drop (pos+k):=by
          rw[←List.drop_drop,List.take_append_drop]
        have hcl : ∀ c∈(s.data.toList.drop pos).take k,bl c=false:=fun c hc=>by
          obtain ⟨j,hj,rfl⟩:=drop_take_get s pos k hwn c hc
          have:=hall j hj
          rw[Bool.eq_false_iff];intro h;have:=blank_small h;omega
        rw[hsplit,fgo_run _ _ _ hcl]
        cases st with
        | none =>
          have ih:=ih (pos+k) (some pos) acc (by omega) hwn (fun a h=>by cases h;omega)
          have e:([]:List UInt8)++(s.data.toList.drop pos).take k=Lib.pieceU s.data.toList pos (pos+k):=by
            unfold Lib.pieceU
            rw[List.nil_append,Nat.add_sub_cancel_left]
          simp only[openP]at ih ⊢
          rw[e]
          exact ih
        | some a =>
          have ih:=ih (pos+k) (some a) acc (by omega) hwn (fun b h=>by cases h;have:=hst a rfl;omega)
          simp only[openP]at ih ⊢
          rw[Lib.pieceU_grow _ _ _ _ (Nat.le_of_lt (hst a rfl))]
          exact ih
    · obtain rfl:pos=s.size:=by omega
      exact fin _ st acc hst
def mkB (l:List UInt8):ByteArray:=⟨l.toArray⟩
theorem mkB_data (s:ByteArray):mkB s.data.toList=s:=Lib.mk_data s
theorem fields_fgo (s:ByteArray):Lib.goFieldsP blank s=(fgo [] s.data.toList).map mkB:=by
  have h:=spans_fgo s s.size 0 none [] (by omega) (Nat.zero_le _) (fun a h=>by cases h)
  simp only[List.map_nil,List.nil_append,openP,List.drop_zero]at h
  rw[h]
  unfold Lib.goFieldsP Lib.spansOfP
  rw[List.map_map]
  refine List.map_congr_left fun p _=>?_
  show s.extract p.1 p.2=mkB (Lib.pieceU s.data.toList p.1 p.2)
  rw[Lib.extract_eq];rfl
def wordsB (l:List UInt8):List ByteArray:=(fgo [] (l.takeWhile (· != 35))).map mkB
theorem wordsOf_eq (u:ByteArray):wordsOf u=wordsB u.data.toList:=by
  unfold wordsOf wordsB cutM
  rw[fields_fgo]
  congr 2
  exact cut_while 35 _
def one1 (w:List UInt8) (n:Int):List (Int×List ByteArray):=if (wordsB w).length>0 then [(n+1,wordsB w)] else []
def lf:List UInt8→List UInt8→Int→List (Int×List ByteArray)
  | cur,[],n=>one1 cur n
  | cur,c::r,n=>if c=10 then one1 cur n++lf [] r (n+1) else lf (cur++[c]) r n
def lfrom:List (List UInt8)→Int→List (Int×List ByteArray)
  | [],_=>[]
  | l::r,i=>one1 l i++lfrom r (i+1)
theorem linesFrom_eq : ∀ (L:List ByteArray) (i:Int),linesFrom L i=lfrom (L.map (·.data.toList)) i
  | [],_=>rfl
  | l::r,i=>by
    rw[linesFrom,List.map_cons,lfrom,one1,←wordsOf_eq,linesFrom_eq r (i+1)]
    split <;> rfl
theorem spl_ne (l:List UInt8) : ∃ h t,spl l=h::t:=by
  cases l with
  | nil=>exact ⟨_,_,rfl⟩
  | cons c r =>
    unfold spl
    split
    · exact ⟨_,_,rfl⟩
    · split <;> exact ⟨_,_,rfl⟩
theorem lf_spl : ∀ (l cur:List UInt8) (n:Int),lf cur l n=match spl l with|h::t=>one1 (cur++h) n++lfrom t (n+1)|[]=>[]
  | [],cur,n=>by simp[lf,spl,lfrom]
  | c::r,cur,n=>by
    rw[lf,spl]
    by_cases hc:c=10
    · rw[if_pos hc,if_pos hc,lf_spl r [] (n+1)]
      obtain ⟨h,t,e⟩:=spl_ne r
      rw[e]
      simp[lfrom]
    · rw[if_neg hc,if_neg hc,lf_spl r (cur++[c]) n]
      obtain ⟨h,t,e⟩:=spl_ne r
      rw[e]
      simp
theorem linesOf_lf (s:ByteArray):linesOf s=lf [] s.data.toList 0:=by
  unfold linesOf
  rw[linesFrom_eq,splitL_spl,lf_spl]
  obtain ⟨h,t,e⟩:=spl_ne s.data.toList
  rw[e];rfl
theorem spl_length (l:List UInt8):(spl l).length≤l.length+1:=by
  induction l with
  | nil=>exact Nat.le_refl _
  | cons c r ih =>
    unfold spl
    split
    · simpa using ih
    · obtain ⟨h,t,e⟩:=spl_ne r
      rw[e]at ih ⊢
      simp only[List.length_cons]at ih ⊢;omega
theorem spl_mem : ∀ (l:List UInt8) (x:List UInt8),x∈spl l→x.length≤l.length
  | [],x,h=>by simp[spl]at h;subst h;exact Nat.le_refl _
  | c::r,x,h=>by
    unfold spl at h
    split at h
    · rcases List.mem_cons.1 h with rfl|h
      · exact Nat.zero_le _
      · have:=spl_mem r x h;simp only[List.length_cons];omega
    · obtain ⟨a,t,e⟩:=spl_ne r
      rw[e]at h
      rcases List.mem_cons.1 h with rfl|h
      · have:=spl_mem r a (by rw[e];simp);simp only[List.length_cons];omega
      · have:=spl_mem r x (by rw[e];simp[h]);simp only[List.length_cons];omega
theorem fit_of (s:ByteArray) (h:s.size≤900000):LinesFit s:=by
  have hl:(splitL s nl).length=(spl s.data.toList).length:=by rw[←splitL_spl,List.length_map]
  have hs:=spl_length s.data.toList
  rw[←Lib.size_eq]at hs
  have hm : ∀ l∈splitL s nl,l.size≤s.size:=fun l hl=>by
    have:l.data.toList∈spl s.data.toList:=by rw[←splitL_spl];exact List.mem_map.2 ⟨l,hl,rfl⟩
    have:=spl_mem _ _ this
    rw[←Lib.size_eq,←Lib.size_eq]at this
    exact this
  refine ⟨by omega,by omega,fun l hl=>⟨by have:=hm l hl;omega,?_⟩⟩
  have e:(cutM l).size≤l.size:=by
    show (Lib.cut l.data.toList [35]).1.length≤_
    rw[cut_while,Lib.size_eq]
    exact (List.takeWhile_prefix _).length_le
  have:=hm l hl
  omega
theorem cf_rwords (xs:Array Value) (w:World):(callFunc 39 xs).run Tryz.prog w=.ok (.enter 39 xs) w:=by kernel_rfl
theorem cf_rlines (xs:Array Value) (w:World):(callFunc 12 xs).run Tryz.prog w=.ok (.enter 12 xs) w:=by kernel_rfl
noncomputable def codS:Cod Tryz.prog:=⟨9,.str,by kernel_rfl,⟨.string ⟨#[]⟩,fun w=>by kernel_rfl⟩⟩
noncomputable def zeroSL:Zero Tryz.prog:=⟨9,ck .str ⟨#[]⟩,[.string ⟨#[]⟩],by kernel_rfl,fun w R σ=>.v rfl .nil⟩
noncomputable def codUL:Cod Tryz.prog:=⟨5,.int .u8,by kernel_rfl,⟨.int .u8 0,fun w=>by kernel_rfl⟩⟩
noncomputable def zeroUL:Zero Tryz.prog:=⟨5,ck (.int .u8) (0:Int),[.int .u8 0],by kernel_rfl,fun w R σ=>.v rfl .nil⟩
noncomputable def L6:Env Tryz.prog:=⟨L5.con,zeroSL::zeroUL::L5.zero,codS::codUL::L5.cod,L5.sure,L5.base,L5.frz⟩
abbrev spWords:RSpec:=⟨64,[(0,false,.str),(4,false,.int .i64),(5,false,.int .i64)],[],[],fun _=>[],3,9,.str,false,fun e=>match e with|.ret=>2|_=>3⟩
end Go.Proofs.YtmcbljjgkmkhcaaGreatDoor
namespace Ax
open Go Go.RowKit
abbrev Gr (α:Type):Type:=Option (List α×Nat)
def gx {α:Type}:Gr α→List α
  | none=>[]
  | some r=>r.1
def gl {α:Type}:Gr α→Nat
  | none=>0
  | some r=>r.1.length
theorem gl_eq {α:Type} (g:Gr α):gl g=(gx g).length:=by cases g <;> rfl
def gnd {α:Type} (n:Nat):Gr α→Prop
  | none=>True
  | some r=>n=r.1.length∧r.2=r.2
theorem gnd_gl {α:Type} (g:Gr α):gnd (gl g) g:=by
  cases g with
  | none=>trivial
  | some r=>exact ⟨rfl,rfl⟩
theorem gnd_app {α:Type} (g:Gr α) (v:α) (k:Nat):gnd (gl g+1) (some (gx g++[v],k)):=⟨by rw[List.length_append,gl_eq];rfl,rfl⟩
def appG {α β:Type} (b:Nat) (g:Gr α) (v:α) (K:Nat→Gr α→T β):T β:=match g with
  | none=>.need (List.length [v]*(b+1)≤140737488355328∧List.length [v]≤maxLen) (.up (List.length [v]) fun k=>K (List.length [v]) (some ([v],k)))
  | some r=>.need (List.length r.1=List.length r.1∧r.2=r.2∧(List.length r.1+List.length [v])*(b+1)≤140737488355328∧List.length r.1+List.length [v]≤maxLen) (.and (K (List.length r.1+List.length [v]) (some (r.1++[v],r.2))) (.up (List.length r.1+List.length [v]) fun k=>K (List.length r.1+List.length [v]) (some (r.1++[v],k))))
theorem appG_wp {α β:Type} {b:Nat} {g:Gr α} {v:α} {K:Nat→Gr α→T β} {R:β→Prop} (h1:(gl g+1)*(b+1)≤140737488355328) (h2:gl g+1≤maxLen)
    (h : ∀ k,(K (gl g+1) (some (gx g++[v],k))).wp R):(appG b g v K).wp R:=by
  cases g with
  | none =>
    have e:gl (none:Gr α)=0:=rfl
    rw[e]at h1 h2
    exact ⟨⟨h1,h2⟩,fun k _=>h k⟩
  | some r=>exact ⟨⟨rfl,rfl,h1,h2⟩,h r.2,fun k _=>h k⟩
def finG {α A B C:Type} (e:A) (avs:B) (y:C) (g:Gr α) (W:List α):T (A×B×C×Gr α):=match g with
  | none=>.ite W.isEmpty (.ret (e,avs,y,none)) (.up 0 fun k=>.ret (e,avs,y,some (W,k)))
  | some r=>.up 0 fun k=>.ret (e,avs,y,some (r.1++W,k))
theorem finG_nil {α A B C:Type} {e:A} {avs:B} {y:C} {g:Gr α} {Q:A×B×C×Gr α→Prop} (h:(finG e avs y g []).wp Q):Q (e,avs,y,g):=by
  cases g with
  | none=>exact h.1 rfl
  | some r =>
    have:=h r.2 (Nat.zero_le _)
    rw[List.append_nil]at this
    exact this
theorem finG_cons {α A B C:Type} {e:A} {avs:B} {y:C} {g:Gr α} {v:α} {W:List α} {Q:A×B×C×Gr α→Prop} (h:(finG e avs y g (v::W)).wp Q) (k:Nat):(finG e avs y (some (gx g++[v],k)) W).wp Q:=by
  cases g with
  | none=>exact h.2 rfl
  | some r =>
    intro j hj
    have:=h j hj
    show Q (e,avs,y,some ((r.1++[v])++W,j))
    rw[List.append_assoc]
    exact this
end Ax
namespace Go.Proofs.YtmcbljjgkmkhcaaGreatDoor
open Go.RowKit Ax
def wFin (s:ByteArray) (i:Int) (n:Nat) (g:Gr ByteArray):T (RRd spWords):=.need (gnd n g) (.ret (.again (s,(-1:Int),IntKind.wrap .i64 (i+(1:Int)),()) () g))
def wTail (s:ByteArray) (i:Int) (n:Nat) (g:Gr ByteArray):T (RRd spWords):=.ite (decide (i<(ByteArray.size s:Int)))
  (.get (Array.toList (ByteArray.data s)) i fun c=>.ite ((UInt8.toNat c:Int)==(35:Int)) (.need (gnd n g) (.ret (.out Exit.ret [] () g))) (wFin s i n g)) (wFin s i n g)
def wClo (s:ByteArray) (f i:Int) (n:Nat) (g:Gr ByteArray):T (RRd spWords):=.ite (decide (f≥(0:Int)))
  (.need ((0:Int)≤f∧f≤i∧i≤(ByteArray.size s:Int)) (.lt (ByteArray.extract s (Int.toNat f) (Int.toNat i)) fun v=>appG 15 g v (wTail s i))) (wTail s i n g)
def wOpn (s:ByteArray) (f i:Int) (n:Nat) (g:Gr ByteArray):T (RRd spWords):=.ite (decide (f<(0:Int)))
  (.need (gnd n g) (.ret (.again (s,i,IntKind.wrap .i64 (i+(1:Int)),()) () g))) (.need (gnd n g) (.ret (.again (s,f,IntKind.wrap .i64 (i+(1:Int)),()) () g)))
def wRound (s:ByteArray) (f i:Int) (g:Gr ByteArray):T (RRd spWords):=.ite (decide (i≤(ByteArray.size s:Int)))
  (.ite (i==(ByteArray.size s:Int)) (wClo s f i (gl g) g)
    (.get (Array.toList (ByteArray.data s)) i fun c=>.ite ((UInt8.toNat c:Int)==(35:Int)) (wClo s f i (gl g) g)
      (.get (Array.toList (ByteArray.data s)) i fun c=>.ite ((UInt8.toNat c:Int)==(32:Int)) (wClo s f i (gl g) g)
        (.get (Array.toList (ByteArray.data s)) i fun c=>.ite ((UInt8.toNat c:Int)==(9:Int)) (wClo s f i (gl g) g)
          (.get (Array.toList (ByteArray.data s)) i fun c=>.ite ((UInt8.toNat c:Int)==(13:Int)) (wClo s f i (gl g) g) (wOpn s f i (gl g) g))))))
  (.need (gnd (gl g) g) (.ret (.out (Exit.exit 0) [] () g)))
theorem tr_rwordsL_eq (s:ByteArray) (f i:Int) (xs:List ByteArray) (cap:Nat):RSpec.round spWords L6 (fun _=>none) (bodyOf Tryz.f39 0) (s,f,i,()) () (some (xs,cap))=wRound s f i (some (xs,cap)):=by kernel_rfl
theorem tr_rwordsL0_eq (s:ByteArray) (f i:Int):RSpec.round spWords L6 (fun _=>none) (bodyOf Tryz.f39 0) (s,f,i,()) () none=wRound s f i none:=by kernel_rfl
end Go.Proofs.YtmcbljjgkmkhcaaGreatDoor
