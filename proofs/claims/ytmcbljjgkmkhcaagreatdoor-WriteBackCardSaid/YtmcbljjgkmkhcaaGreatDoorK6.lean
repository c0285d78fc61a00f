import Derived.Lib.ItoaLen
import Derived.Test.YtmcbljjgkmkhcaaGreatDoorK5
set_option linter.unusedSimpArgs false
set_option linter.unusedVariables false
namespace Go.Proofs.YtmcbljjgkmkhcaaGreatDoor
open Go.RowKit Ax
theorem cf_pIs (xs:Array Value) (w:World):(callFunc 64 xs).run Tryz.prog w=.ok (.enter 64 xs) w:=by kernel_rfl
theorem cf_pBits (xs:Array Value) (w:World):(callFunc 65 xs).run Tryz.prog w=.ok (.enter 65 xs) w:=by kernel_rfl
theorem cf_prat (xs:Array Value) (w:World):(callFunc 66 xs).run Tryz.prog w=.ok (.enter 66 xs) w:=by kernel_rfl
theorem cf_pIsRat (xs:Array Value) (w:World):(callFunc 87 xs).run Tryz.prog w=.ok (.enter 87 xs) w:=by kernel_rfl
theorem cf_pSafe (xs:Array Value) (w:World):(callFunc 46 xs).run Tryz.prog w=.ok (.enter 46 xs) w:=by kernel_rfl
noncomputable def tr_pgcd (x:Els [(false,.sl (.int .u32)),(false,.sl (.int .u32))]):T Av:=
 .need (x.1=mg (valL (x.1))∧x.2.1=mg (valL x.2.1)∧List.length (x.1)≤(100000:Nat)∧List.length x.2.1≤(100000:Nat)) (.ret (.one (.ds (Cd.int .u32) (mg (Nat.gcd (valL (x.1)) (valL x.2.1))))))
theorem tr_pgcd_eq (x:Els [(false,.sl (.int .u32)),(false,.sl (.int .u32))]):fnP E33 lpGcd Tryz.f115 (encs [(false,.sl (.int .u32)),(false,.sl (.int .u32))] x)=tr_pgcd x:=by kernel_rfl
noncomputable def tr_pIs (x:Els [(true,cW)]):T Av:=
 .ite (!x.1.1)
  (.ret (.one (.v (.bool (true)))))
  (.ret (.one (.v (.bool (decide ((↑(List.length (mg x.1.2.1)):Int)>(0:Int)))))))
theorem tr_pIs_eq (x:Els [(true,cW)]):fnP E33 (fun _=>none) Tryz.f64 (encs [(true,cW)] x)=tr_pIs x:=by kernel_rfl
noncomputable def tr_pBits (x:Els [(true,cW)]):T Av:=
 .need (mg x.1.2.1=mg (valL (mg x.1.2.1))∧List.length (mg x.1.2.1)≤(1000000:Nat)) (.ret (.one (.v (.int .i64 ((↑(Pq.bitn (valL (mg x.1.2.1))):Int))))))
theorem tr_pBits_eq (x:Els [(true,cW)]):fnP E33 (fun _=>none) Tryz.f65 (encs [(true,cW)] x)=tr_pBits x:=by kernel_rfl
noncomputable def con_pgcd:Con Tryz.prog:=⟨115,[],_,cf_pgcd,val_con (E:=E33) (L:=lpGcd) mixed Tryz.func115 (one_loop pgcdL_ok (by kernel_rfl)) [(false,.sl (.int .u32)),(false,.sl (.int .u32))] (fun x=>(x.1:List Int)=mg (valL x.1)∧(x.2.1:List Int)=mg (valL x.2.1)∧List.length x.1≤100000∧List.length x.2.1≤100000) (fun x=>.one (.ds (.int .u32) (mg (Nat.gcd (valL x.1) (valL x.2.1))))) fun x hx=>by
  rw[tr_pgcd_eq]
  exact ⟨hx,rfl⟩⟩
theorem mg_pos_iff (x:Nat):decide (((mg x).length:Int)>0)=decide (x≠0):=by
  rw[decide_eq_decide]
  constructor
  · intro hl h0;rw[h0,mg_zero]at hl;simp at hl
  · intro h0
    rcases Nat.eq_zero_or_pos (mg x).length with h'|h'
    · exact absurd (mg_nil.1 (List.length_eq_zero_iff.1 h')) h0
    · omega
theorem mg_w (w:W):(mg w.2.1).length≤32:=mg_len.1 w.2.2
noncomputable def con_pIs:Con Tryz.prog:=⟨64,[],_,cf_pIs,tot_con (E:=E33) mixed Tryz.func64 no_loops [(true,cW)] (fun x=>aB (isW x.1)) fun x=>by
  rw[tr_pIs_eq]
  obtain ⟨⟨s,n⟩,u⟩:=x
  revert s n
  intro (s:Bool) (n:Amt)
  unfold tr_pIs
  simp only[T.wp]
  rw[mg_pos_iff]
  cases s with
  | false=>exact ⟨fun _=>rfl,fun h=>Bool.noConfusion h⟩
  | true =>
    refine ⟨fun h=>Bool.noConfusion h,fun _=>?_⟩
    have:isW ((true,n):W)=decide (n.1≠0):=by
      rw[Bool.eq_iff_iff,isW_iff]
      simp
    rw[this];rfl⟩
noncomputable def con_pBits:Con Tryz.prog:=⟨65,[],_,cf_pBits,tot_con (E:=E33) mixed Tryz.func65 no_loops [(true,cW)] (fun x=>aI .i64 (Pq.bitn x.1.2.1)) fun x=>by
  rw[tr_pBits_eq]
  obtain ⟨w,u⟩:=x
  revert w
  intro (w:W)
  unfold tr_pBits
  simp only[T.wp]
  have:=mg_w w
  refine ⟨⟨by rw[val_mg],by omega⟩,?_⟩
  rw[val_mg];rfl⟩
noncomputable def E34:Env Tryz.prog:=E33.add [con_pgcd,con_pIs,con_pBits]
noncomputable def tr_prat (x:Els [(false,.bool),(false,.sl (.int .u32)),(false,.sl (.int .u32))]):T Av:=
 .need (x.2.1 = mg (valL x.2.1) ∧ x.2.2.1 = mg (valL x.2.2.1) ∧ List.length x.2.1 ≤ (100000 : Nat) ∧ List.length x.2.2.1 ≤ (100000 : Nat)) (.need (x.2.1 = mg (valL x.2.1) ∧ mg (Nat.gcd (valL x.2.1) (valL x.2.2.1)) = mg (valL (mg (Nat.gcd (valL x.2.1) (valL x.2.2.1)))) ∧ List.length x.2.1 ≤ (100000 : Nat) ∧ List.length (mg (Nat.gcd (valL x.2.1) (valL x.2.2.1))) ≤ (100000 : Nat) ∧ valL (mg (Nat.gcd (valL x.2.1) (valL x.2.2.1))) ≠ (0 : Nat)) (.need (x.2.2.1 = mg (valL x.2.2.1) ∧ mg (Nat.gcd (valL x.2.1) (valL x.2.2.1)) = mg (valL (mg (Nat.gcd (valL x.2.1) (valL x.2.2.1)))) ∧ List.length x.2.2.1 ≤ (100000 : Nat) ∧ List.length (mg (Nat.gcd (valL x.2.1) (valL x.2.2.1))) ≤ (100000 : Nat) ∧ valL (mg (Nat.gcd (valL x.2.1) (valL x.2.2.1))) ≠ (0 : Nat)) (.need (lenOk (List.length (mg (valL x.2.1 / valL (mg (Nat.gcd (valL x.2.1) (valL x.2.2.1)))))) ∧ Words (mg (valL x.2.1 / valL (mg (Nat.gcd (valL x.2.1) (valL x.2.2.1)))))) (.ite (decide (List.length (trimmed (mg (valL x.2.1 / valL (mg (Nat.gcd (valL x.2.1) (valL x.2.2.1)))))) ≤ (32 : Nat)))
      (.lt (pW (x.1) (trimmed (mg (valL x.2.1/valL (mg (Nat.gcd (valL x.2.1) (valL x.2.2.1))))))) (fun v0 =>
       .need (lenOk (List.length (mg (valL x.2.2.1/valL (mg (Nat.gcd (valL x.2.1) (valL x.2.2.1))))))∧Words (mg (valL x.2.2.1/valL (mg (Nat.gcd (valL x.2.1) (valL x.2.2.1)))))) (.ite (decide (List.length (trimmed (mg (valL x.2.2.1/valL (mg (Nat.gcd (valL x.2.1) (valL x.2.2.1))))))≤(32:Nat)))
         (.lt (pW false (trimmed (mg (valL x.2.2.1/valL (mg (Nat.gcd (valL x.2.1) (valL x.2.2.1))))))) (fun v1 =>
          .ret (.tup [(.agg [.v (.bool v0.1),.w v0.2,.v (.bool v1.1),.w v1.2]),(.one (.v (.bool (true))))])))
         (.ret (.tup [(.agg [.v (.bool v0.1),.w v0.2,.v (.bool w0.1),.w w0.2]),(.one (.v (.bool (false))))])))))
      (.need (lenOk (List.length (mg (valL x.2.2.1/valL (mg (Nat.gcd (valL x.2.1) (valL x.2.2.1))))))∧Words (mg (valL x.2.2.1/valL (mg (Nat.gcd (valL x.2.1) (valL x.2.2.1)))))) (.ite (decide (List.length (trimmed (mg (valL x.2.2.1/valL (mg (Nat.gcd (valL x.2.1) (valL x.2.2.1))))))≤(32:Nat)))
        (.lt (pW false (trimmed (mg (valL x.2.2.1/valL (mg (Nat.gcd (valL x.2.1) (valL x.2.2.1))))))) (fun v0 =>
         .ret (.tup [(.agg [.v (.bool w0.1),.w w0.2,.v (.bool v0.1),.w v0.2]),(.one (.v (.bool (false))))])))
        (.ret (.tup [(.agg [.v (.bool w0.1),.w w0.2,.v (.bool w0.1),.w w0.2]),(.one (.v (.bool (false))))]))))))))
theorem tr_prat_eq (x:Els [(false,.bool),(false,.sl (.int .u32)),(false,.sl (.int .u32))]):fnP E34 (fun _=>none) Tryz.f66 (encs [(false,.bool),(false,.sl (.int .u32)),(false,.sl (.int .u32))] x)=tr_prat x:=by kernel_rfl
noncomputable def tr_pIsRat (x:Els [(true,cF)]):T Av:=
 .ite (tyB (x.1))
  (.ret (.one (.v (.bool (true)))))
  (.ite (isW x.1.1)
   (.ite (isW x.1.2)
    (.ite (!x.1.2.1)
     (.ite (decide ((↑(Pq.bitn x.1.2.2.1):Int)>(0:Int)))
      (.and
       (.and
        (dup (.need (mg x.1.1.2.1=mg (valL (mg x.1.1.2.1))∧mg x.1.2.2.1=mg (valL (mg x.1.2.2.1))∧List.length (mg x.1.1.2.1)≤(100000:Nat)∧List.length (mg x.1.2.2.1)≤(100000:Nat)) (.need (mg (Nat.gcd (valL (mg x.1.1.2.1)) (valL (mg x.1.2.2.1)))=mg (valL (mg (Nat.gcd (valL (mg x.1.1.2.1)) (valL (mg x.1.2.2.1)))))∧[(1:Int)]=mg (valL [(1:Int)])∧List.length (mg (Nat.gcd (valL (mg x.1.1.2.1)) (valL (mg x.1.2.2.1))))≤(1000000:Nat)∧List.length [(1:Int)]≤(1000000:Nat)) (.ret (.one (.v (.bool (Pq.cz (↑(valL (mg (Nat.gcd (valL (mg x.1.1.2.1)) (valL (mg x.1.2.2.1))))):Int) (↑(valL [(1:Int)]):Int)==(0:Int)))))))))
        (.need (mg x.1.1.2.1=mg (valL (mg x.1.1.2.1))∧mg x.1.2.2.1=mg (valL (mg x.1.2.2.1))∧List.length (mg x.1.1.2.1)≤(100000:Nat)∧List.length (mg x.1.2.2.1)≤(100000:Nat)) (.need (mg (Nat.gcd (valL (mg x.1.1.2.1)) (valL (mg x.1.2.2.1)))=mg (valL (mg (Nat.gcd (valL (mg x.1.1.2.1)) (valL (mg x.1.2.2.1)))))∧[(1:Int)]=mg (valL [(1:Int)])∧List.length (mg (Nat.gcd (valL (mg x.1.1.2.1)) (valL (mg x.1.2.2.1))))≤(1000000:Nat)∧List.length [(1:Int)]≤(1000000:Nat)) (.ret (.one (.v (.bool (Pq.cz (↑(valL (mg (Nat.gcd (valL (mg x.1.1.2.1)) (valL (mg x.1.2.2.1))))):Int) (↑(valL [(1:Int)]):Int)==(0:Int)))))))))
       (.need (mg x.1.1.2.1=mg (valL (mg x.1.1.2.1))∧mg x.1.2.2.1=mg (valL (mg x.1.2.2.1))∧List.length (mg x.1.1.2.1)≤(100000:Nat)∧List.length (mg x.1.2.2.1)≤(100000:Nat)) (.need (mg (Nat.gcd (valL (mg x.1.1.2.1)) (valL (mg x.1.2.2.1)))=mg (valL (mg (Nat.gcd (valL (mg x.1.1.2.1)) (valL (mg x.1.2.2.1)))))∧[(1:Int)]=mg (valL [(1:Int)])∧List.length (mg (Nat.gcd (valL (mg x.1.1.2.1)) (valL (mg x.1.2.2.1))))≤(1000000:Nat)∧List.length [(1:Int)]≤(1000000:Nat)) (.ret (.one (.v (.bool (Pq.cz (↑(valL (mg (Nat.gcd (valL (mg x.1.1.2.1)) (valL (mg x.1.2.2.1))))):Int) (↑(valL [(1:Int)]):Int)==(0:Int)))))))))
      (.and
       (.and
        (dup (.ret (.one (.v (.bool (false))))))
        (.ret (.one (.v (.bool (false))))))
       (.ret (.one (.v (.bool (false)))))))
     (.and
      (.and
       (dup (.ret (.one (.v (.bool (false))))))
       (.ret (.one (.v (.bool (false))))))
      (.ret (.one (.v (.bool (false)))))))
    (.and
     (.and
      (dup (.ret (.one (.v (.bool (false))))))
      (.ret (.one (.v (.bool (false))))))
     (.ret (.one (.v (.bool (false)))))))
   (.and
    (.and
     (dup (.ret (.one (.v (.bool (false))))))
     (.ret (.one (.v (.bool (false))))))
    (.ret (.one (.v (.bool (false)))))))
theorem tr_pIsRat_eq (x:Els [(true,cF)]):fnP E34 (fun _=>none) Tryz.f87 (encs [(true,cF)] x)=tr_pIsRat x:=by kernel_rfl
theorem zv_tdiv (n:Bool) (a g:Nat):(Pq.zv n a).tdiv (g:Int)=Pq.zv n (a/g):=by
  unfold Pq.zv
  cases n with
  | false=>simp[Int.ofNat_tdiv]
  | true=>simp[Int.neg_tdiv,Int.ofNat_tdiv]
noncomputable def con_prat:Con Tryz.prog:=⟨66,[],_,cf_prat,val_con (E:=E34) mixed Tryz.func66 no_loops [(false,.bool),(false,.sl (.int .u32)),(false,.sl (.int .u32))] (fun x=>(x.2.1:List Int)=mg (valL x.2.1)∧(x.2.2.1:List Int)=mg (valL x.2.2.1)∧valL x.2.1<Pq.bp 32∧valL x.2.2.1<Pq.bp 32∧valL x.2.2.1≠0) (fun x=>.tup [.agg (ck cF (rOf (Rat.divInt (Pq.zv x.1 (valL x.2.1)) (valL x.2.2.1:Nat)))),aB true]) fun x hx=>by
  rw[tr_prat_eq]
  obtain ⟨n,a,d,u⟩:=x
  revert n a d
  intro (n:Bool) (a:List Int) (d:List Int) (hx:a=mg (valL a)∧d=mg (valL d)∧valL a<Pq.bp 32∧valL d<Pq.bp 32∧valL d≠0)
  obtain ⟨ma,md,la,ld,d0⟩:=hx
  have la':=mg_len.1 la
  have ld':=mg_len.1 ld
  rw[←ma]at la'
  rw[←md]at ld'
  unfold tr_prat
  simp only[T.wp]
  simp only[val_mg,trimmed_self]
  have hg:Nat.gcd (valL a) (valL d)≠0:=fun h=>by
    have:0<Nat.gcd (valL a) (valL d):=Nat.gcd_pos_of_pos_right _ (by omega)
    omega
  have lg:(mg (Nat.gcd (valL a) (valL d))).length≤32:=mg_len.1 (Nat.lt_of_le_of_lt (Nat.gcd_le_right _ (by omega)) ld)
  have lp:valL a/Nat.gcd (valL a) (valL d)<Pq.bp 32:=Nat.lt_of_le_of_lt (Nat.div_le_self _ _) la
  have lq:valL d/Nat.gcd (valL a) (valL d)<Pq.bp 32:=Nat.lt_of_le_of_lt (Nat.div_le_self _ _) ld
  have lp':=mg_len.1 lp
  have lq':=mg_len.1 lq
  have fin:rOf (Rat.divInt (Pq.zv n (valL a)) (valL d:Nat))=(wOf (Pq.zv n (valL a/Nat.gcd (valL a) (valL d))),wOf (Pq.zv false (valL d/Nat.gcd (valL a) (valL d)))):=by
    rw[rOf_div (by omega),Pq.zv_abs,Int.natAbs_natCast,zv_tdiv,←Int.ofNat_tdiv]
    rfl
  refine ⟨⟨ma,md,by omega,by omega⟩,⟨ma,trivial,by omega,by omega,hg⟩,⟨md,trivial,by omega,by omega,hg⟩,⟨by unfold lenOk;omega,mg_words _⟩,fun h1=>⟨⟨by unfold lenOk;omega,mg_words _⟩,fun h2=>?_,fun h2=>?_⟩,fun h1=>?_⟩
  · rw[pW_mg lp,pW_mg lq,fin,wOf_zv lp,wOf_zv lq];rfl
  · exact absurd lq' (of_decide_eq_false h2)
  · exact absurd lp' (of_decide_eq_false h1)⟩
theorem ty_ok {x:F} (h:tyB x=true):OkF x:=by
  obtain ⟨h1,h2,h3,h4,h5,h6⟩:=of_decide_eq_true h
  have e:zW x.2=x.2.2.1:=by
    unfold zW Pq.zv
    rw[h3];rfl
  refine ⟨h5,by rw[e];omega,?_⟩
  unfold zW
  rw[Pq.zv_abs,Pq.zv_abs]
  exact h6
noncomputable def con_pIsRat:Con Tryz.prog:=⟨87,[],_,cf_pIsRat,tot_con (E:=E34) mixed Tryz.func87 no_loops [(true,cF)] (fun x=>aB (okF x.1)) fun x=>by
  rw[tr_pIsRat_eq]
  obtain ⟨f,u⟩:=x
  revert f
  intro (f:F)
  unfold tr_pIsRat
  simp only[T.wp,dup_wp]
  have la:=mg_w f.1
  have lb:=mg_w f.2
  simp only[val_mg]
  have e1:valL [(1:Int)]=1:=rfl
  have e2:mg 1=[1]:=by rw[mg_pos (by decide),show 1/4294967296=0 from rfl,mg_zero];rfl
  have eok:okF f=(isW f.1 && !f.2.1&&decide (f.2.2.1≠0)&&decide (Nat.gcd f.1.2.1 f.2.2.1=1)):=by
    unfold okF
    rw[Bool.eq_iff_iff,decide_eq_true_iff]
    unfold OkF
    simp only[Bool.and_eq_true,decide_eq_true_iff,isW_iff,Bool.not_eq_true']
    have ez:0<zW f.2↔f.2.1=false∧f.2.2.1≠0:=by
      unfold zW Pq.zv
      cases f.2.1 with
      | false=>simp;omega
      | true=>simp
    have eg:Nat.gcd (zW f.1).natAbs (zW f.2).natAbs=Nat.gcd f.1.2.1 f.2.2.1:=by
      unfold zW
      rw[Pq.zv_abs,Pq.zv_abs]
    rw[ez,eg]
    constructor
    · rintro ⟨h1,⟨h2,h3⟩,h4⟩;exact ⟨⟨⟨h1,h2⟩,h3⟩,h4⟩
    · rintro ⟨⟨⟨h1,h2⟩,h3⟩,h4⟩;exact ⟨h1,⟨h2,h3⟩,h4⟩
  have hgb:Nat.gcd f.1.2.1 f.2.2.1<Pq.bp 32:=by
    rcases Nat.eq_zero_or_pos f.2.2.1 with h|h
    · rw[h,Nat.gcd_zero_right];exact f.1.2.2
    · exact Nat.lt_of_le_of_lt (Nat.gcd_le_right _ h) f.2.2.2
  have lg:=mg_len.1 hgb
  rw[e1,e2]
  have ecz:(Pq.cz ((Nat.gcd f.1.2.1 f.2.2.1:Nat):Int) ((1:Nat):Int)==0)=decide (Nat.gcd f.1.2.1 f.2.2.1=1):=by
    rw[Bool.eq_iff_iff,beq_iff_eq,decide_eq_true_iff,cz_eq]
    omega
  rw[ecz]
  have ebn:decide ((Pq.bitn f.2.2.1:Int)>0)=decide (f.2.2.1≠0):=by
    rw[decide_eq_decide]
    have:=Pq.bitn_eq0 (x:=f.2.2.1)
    omega
  rw[ebn]
  have g1:List.length [(1:Int)]≤1000000:=by decide
  have no : ∀ b:Bool,b=false→okF f=b→Av.one (Ck.v (.bool false))=aB (okF f):=fun b hb h=>by rw[h,hb];rfl
  refine ⟨fun h=>?_,fun _=>⟨fun h1=>⟨fun h2=>⟨fun h3=>⟨fun h4=>?_,fun h4=>?_⟩,fun h3=>?_⟩,fun h2=>?_⟩,fun h1=>?_⟩⟩
  · have:okF f=true:=decide_eq_true (ty_ok h)
    rw[this];rfl
  · have e:okF f=decide (Nat.gcd f.1.2.1 f.2.2.1=1):=by rw[eok,h1,h3,h4];simp
    rw[e]
    simp only[and_self,true_and]
    exact ⟨⟨by omega,by omega⟩,⟨by omega,g1⟩,rfl⟩
  · have e:okF f=false:=by rw[eok,h4];simp
    rw[e]
    exact ⟨⟨rfl,rfl⟩,rfl⟩
  · have e:okF f=false:=by rw[eok,h3];simp
    rw[e]
    exact ⟨⟨rfl,rfl⟩,rfl⟩
  · have e:okF f=false:=by
      cases hq:okF f with
      | false=>rfl
      | true =>
        have:=isW_pos (of_decide_eq_true hq).2.1
        rw[h2]at this;cases this
    rw[e]
    exact ⟨⟨rfl,rfl⟩,rfl⟩
  · have e:okF f=false:=by rw[eok,h1];simp
    rw[e]
    exact ⟨⟨rfl,rfl⟩,rfl⟩⟩
noncomputable def E35:Env Tryz.prog:=E34.add [con_prat,con_pIsRat]
noncomputable def tr_pSafe (x:Els [(true,cF),(false,.int .i64)]):T Av:=
 .ite (decide ((↑(Pq.bitn x.1.1.2.1):Int)≤x.2.1))
  (.ite (decide ((↑(Pq.bitn x.1.2.2.1):Int)≤x.2.1))
   (.ret (.one (.v (.bool (okF (x.1))))))
   (.ret (.one (.v (.bool (false))))))
  (.ret (.one (.v (.bool (false)))))
theorem tr_pSafe_eq (x:Els [(true,cF),(false,.int .i64)]):fnP E35 (fun _=>none) Tryz.f46 (encs [(true,cF),(false,.int .i64)] x)=tr_pSafe x:=by kernel_rfl
noncomputable def con_pSafe:Con Tryz.prog:=⟨46,[],_,cf_pSafe,tot_con (E:=E35) mixed Tryz.func46 no_loops [(true,cF),(false,.int .i64)] (fun x=>aB (safeF x.2.1 x.1)) fun x=>by
  rw[tr_pSafe_eq]
  obtain ⟨f,b,u⟩:=x
  revert f b
  intro (f:F) (b:Int)
  unfold tr_pSafe
  simp only[T.wp]
  have e1:(zW f.1).natAbs=f.1.2.1:=Pq.zv_abs _ _
  have e2:(zW f.2).natAbs=f.2.2.1:=Pq.zv_abs _ _
  have e:safeF b f=(decide ((Pq.bitn f.1.2.1:Int)≤b)&&decide ((Pq.bitn f.2.2.1:Int)≤b)&&okF f):=by
    unfold safeF okF
    rw[Bool.eq_iff_iff,decide_eq_true_iff]
    unfold SafeF
    simp only[Bool.and_eq_true,decide_eq_true_iff,e1,e2]
    exact ⟨fun h=>⟨⟨h.1,h.2.1⟩,h.2.2⟩,fun h=>⟨h.1.1,h.1.2,h.2⟩⟩
  rw[e]
  refine ⟨fun h=>⟨fun h2=>?_,fun h2=>?_⟩,fun h=>?_⟩
  · rw[h,h2];rfl
  · rw[h,h2];rfl
  · rw[h];rfl⟩
noncomputable def E36:Env Tryz.prog:=E35.add [con_pSafe]
noncomputable def E37:Env Tryz.prog:=E36.add []
theorem nd {n d:Int} (hn : -9223372036854775808<n∧n<9223372036854775808) (hd:0<d∧d<9223372036854775808) : -9223372036854775808<n∧n<9223372036854775808∧0<d∧d<9223372036854775808:=⟨hn.1,hn.2,hd.1,hd.2⟩
noncomputable def E38:Env Tryz.prog:=E37.add []
noncomputable def con_rdecimal1:Con Tryz.prog:=⟨36,[],_,cf_rdecimal,tot_con (E:=E17) (L:=lpDec) mixed Tryz.func36 (one_loop decL_ok (by kernel_rfl)) [(true,cF),(false,.int .i64)] (fun x=>ansA false .str (safeF 500 x.1) (decS (qdec x.1 (clampD x.2.1)) (clampD x.2.1) (zW x.1.1)) ⟨#[]⟩) fun x=>by rw[tr_rdecimal_eq];exact rdecimal_ok x⟩
noncomputable def EZ:Env Tryz.prog:=E38.add [con_rdecimal1]
end Go.Proofs.YtmcbljjgkmkhcaaGreatDoor
namespace Ax
open Go Go.RowKit
theorem lib_con {P:Program} {f:FuncId} {X:Type} (dec:List Av→Option X) (sp:X→T Av)
    (h : ∀ (x:X) (args:List Av) (vs:List Value) (w:World) (R:Nat→Prop) (σ:List Nat) (Q:Av→Prop),dec args=some x→vs.length=args.length→(∀ (i:Nat) a v,args[i]?=some a→vs[i]?=some v→AvIs w R σ a v)→GlobAt w R→(sp x).wp Q →
      ∃ av,Q av∧Calls P f vs.toArray w fun e w' => ∃ v,e=.returned v∧Below w.heap.size w w'∧AvIs w' (fun b=>w.heap.size≤b∧b<w'.heap.size) [] av v) :
    ConOk P f [] (fun args m=>match dec args with|some x=>(sp x).bind fun av=>.ret (av,m)|none=>.fail):=by
  intro w φ σ m args vs Q hmem hlen hargs hrun
  dsimp only at hrun
  split at hrun
  · rename_i x hx
    rw[T.wp_bind]at hrun
    obtain ⟨av,hQ,hc⟩:=h x args vs w _ σ _ hx hlen hargs hmem.gl hrun
    refine hc.mono fun e w' hr=>?_
    obtain ⟨v,rfl,hb,hv⟩:=hr
    have hk:=Keep.of_below hb σ
    have hown : ∀ i b:Nat,σ[i]?=some b→w'.heap[b]?=w.heap[b]?:=fun i b hi=>hb.block b (hmem.lt (List.mem_of_getElem? hi))
    refine ⟨v,av,m,σ,rfl,hQ,Ext.refl _ _,hk,fun i b hi _=>hown i b hi,hv.ro (fun b hb'=>⟨hb'.2,fun hm=>?_,fun hm=>?_⟩) σ,hmem.stay hk (Ext.refl _ _) rfl hown⟩
    · have:=hmem.fo b hm;omega
    · have:=hmem.lt hm;omega
  · exact hrun.elim
theorem ds_strs {w:World} {R:Nat→Prop} {A cap:Nat} {l:List ByteArray} {t:TypeId} {fr:Nat×Nat} {cells:List Value} (hR:R A) (hcap:l.length≤cap) (hb:w.heap[A]?=some (.cells cells.toArray t fr)) (htk:cells.take l.length=l.map Value.string) :
    AvIs w R [] (.one (.ds .str l)) (.slice (some ⟨A,0,none⟩) l.length cap):=by
  refine .one rfl (.ds (c:=.str) (xs:=l) (fun i=>[.string (l.getD i ⟨#[]⟩)]) hcap hR (fun i x hx=>rfl) (fun i x hx=>?_) (fun i x hx=>?_) .nil)
  · have e:l.getD i ⟨#[]⟩=x:=by rw[List.getD_eq_getElem?_getD];rw[show l[i]?=some x from hx];rfl
    rw[e]
    exact .v rfl .nil
  · have e:l.getD i ⟨#[]⟩=x:=by rw[List.getD_eq_getElem?_getD];rw[show l[i]?=some x from hx];rfl
    rw[e]
    intro j v hj
    have hx':l[i]?=some x:=hx
    have hi:i<l.length:=(List.getElem?_eq_some_iff.1 hx').1
    rcases j with _|j
    · have hv:v=.string x:=by simpa using hj.symm
      subst hv
      have h1:(cells.take l.length)[i]?=some (.string x):=by rw[htk,List.getElem?_map,hx'];rfl
      rw[List.getElem?_take,if_pos hi]at h1
      have:=Pq.range_block hb i _ h1
      have e2:(0+i*csz .str+0:Nat)=0+i:=by show 0+i*1+0=0+i;omega
      rw[e2]
      exact this
    · simp at hj
def dec2s:List Av→Option (ByteArray×ByteArray)
  | [.one (.v (.string s)),.one (.v (.string t))]=>some (s,t)
  | _=>none
theorem dec2s_ok {w:World} {R:Nat→Prop} {σ:List Nat} {args:List Av} {vs:List Value} {x:ByteArray×ByteArray} (h:dec2s args=some x) (hl:vs.length=args.length) (ha : ∀ (i:Nat) a v,args[i]?=some a→vs[i]?=some v→AvIs w R σ a v):vs=[.string x.1,.string x.2]:=by
  unfold dec2s at h
  split at h
  · cases h
    match vs,hl with
    | [u,v],_ =>
      rw[is_str (ha 0 _ u rfl rfl),is_str (ha 1 _ v rfl rfl)]
  · cases h
def dec1s:List Av→Option ByteArray
  | [.one (.v (.string s))]=>some s
  | _=>none
theorem dec1s_ok {w:World} {R:Nat→Prop} {σ:List Nat} {args:List Av} {vs:List Value} {x:ByteArray} (h:dec1s args=some x) (hl:vs.length=args.length) (ha : ∀ (i:Nat) a v,args[i]?=some a→vs[i]?=some v→AvIs w R σ a v):vs=[.string x]:=by
  unfold dec1s at h
  split at h
  · cases h
    match vs,hl with
    | [u],_ =>
      rw[is_str (ha 0 _ u rfl rfl)]
  · cases h
def dec1i:List Av→Option Int
  | [.one (.v (.int .i64 n))]=>some n
  | _=>none
theorem dec1i_ok {w:World} {R:Nat→Prop} {σ:List Nat} {args:List Av} {vs:List Value} {x:Int} (h:dec1i args=some x) (hl:vs.length=args.length) (ha : ∀ (i:Nat) a v,args[i]?=some a→vs[i]?=some v→AvIs w R σ a v):vs=[.int .i64 x]:=by
  unfold dec1i at h
  split at h
  · cases h
    match vs,hl with
    | [u],_ =>
      rw[is_int (ha 0 _ u rfl rfl)]
  · cases h
end Ax
namespace Go.Proofs.YtmcbljjgkmkhcaaGreatDoor
open Go.RowKit Ax
theorem cf_split (xs:Array Value) (w:World):(callFunc 101 xs).run Tryz.prog w=.ok (.enter 101 xs) w:=by kernel_rfl
theorem cf_cutL (xs:Array Value) (w:World):(callFunc 102 xs).run Tryz.prog w=.ok (.enter 102 xs) w:=by kernel_rfl
theorem cf_trimp (xs:Array Value) (w:World):(callFunc 140 xs).run Tryz.prog w=.ok (.enter 140 xs) w:=by kernel_rfl
theorem cf_atoi (xs:Array Value) (w:World):(callFunc 139 xs).run Tryz.prog w=.ok (.enter 139 xs) w:=by kernel_rfl
theorem cf_itoa (xs:Array Value) (w:World):(callFunc 38 xs).run Tryz.prog w=.ok (.enter 38 xs) w:=by kernel_rfl
theorem g_cell {w:World} {R:Nat→Prop} (h:GlobAt w R) {nm:String} {p:Array Value→Prop} (hm:(nm,p)∈gfacts) {g:Nat} (hg:Tryz.prog.globalNamed nm=some g) : ∃ cs t z,w.heap[g]?=some (.cells cs t z)∧p cs:=(h (nm,p) hm g hg).2
theorem g_max {w:World} {R:Nat→Prop} (h:GlobAt w R) : ∃ m,w.cell? ⟨0,0,none⟩=some (.int .i64 m):=by
  obtain ⟨cs,t,z,h1,m,rfl⟩:=g_cell h (nm := "internal/bytealg.MaxLen") (by unfold gfacts;exact .tail _ (.tail _ (.head _))) (g:=0) (by kernel_rfl)
  refine ⟨m,?_⟩
  unfold World.cell?
  rw[show ((⟨0,0,none⟩:Addr).block)=0 from rfl,h1]
  rfl
theorem g_syn {w:World} {R:Nat→Prop} (h:GlobAt w R) : ∃ te pe,w.cell? ⟨3,0,none⟩=some (.iface te pe):=by
  obtain ⟨cs,t,z,h1,te,pe,rfl⟩:=g_cell h (nm := "strconv.ErrSyntax") (by unfold gfacts;exact .head _) (g:=3) (by kernel_rfl)
  refine ⟨te,pe,?_⟩
  unfold World.cell?
  rw[show ((⟨3,0,none⟩:Addr).block)=3 from rfl,h1]
  rfl
theorem g_ran {w:World} {R:Nat→Prop} (h:GlobAt w R) : ∃ te pe,w.cell? ⟨4,0,none⟩=some (.iface te pe):=by
  obtain ⟨cs,t,z,h1,te,pe,rfl⟩:=g_cell h (nm := "strconv.ErrRange") (by unfold gfacts;exact .tail _ (.head _)) (g:=4) (by kernel_rfl)
  refine ⟨te,pe,?_⟩
  unfold World.cell?
  rw[show ((⟨4,0,none⟩:Addr).block)=4 from rfl,h1]
  rfl
theorem g_pow {w:World} {R:Nat→Prop} (h:GlobAt w R):Lib.TabIs Tryz.prog w "internal/strconv.uint64pow10" .u64 Lib.pow10Tab:=by
  obtain ⟨cs,t,z,h1,rfl⟩:=g_cell h (nm := "internal/strconv.uint64pow10") (by unfold gfacts;exact .tail _ (.tail _ (.tail _ (.head _)))) (g:=2) (by kernel_rfl)
  unfold Lib.TabIs World.var?
  rw[show Tryz.prog.globalNamed "internal/strconv.uint64pow10" = some 2 by kernel_rfl]
  show (match w.heap[2]? with|some (.cells cs _ _)=>some cs|_=>none)=_
  rw[h1]
  rfl
def splitL (s sep:ByteArray):List ByteArray:=Lib.splitB sep 0 (Lib.countB s sep) s
noncomputable def con_split:Con Tryz.prog:=⟨101,[],_,cf_split,lib_con dec2s (fun x=>.need (1≤x.2.size∧x.1.size<4294967281) (.ret (.one (.ds .str (splitL x.1 x.2))))) fun x args vs w R σ Q hd hl ha hg hQ=>by
  obtain ⟨s,sep⟩:=x
  have hv:=dec2s_ok hd hl ha
  subst hv
  obtain ⟨⟨h1,h2⟩,hQ⟩:=hQ
  obtain ⟨m,hm⟩:=g_max hg
  have hlen:(splitL s sep).length=Lib.countB s sep+1:=Lib.splitB_all sep h1 0 _ s rfl
  refine ⟨_,hQ,(Tryz.strings_Split s sep m w h2 hm h1).mono fun e w' hr=>?_⟩
  obtain ⟨rfl,rfl⟩:=hr
  refine ⟨_,rfl,(keep_alloc w [] _).below,?_⟩
  rw[←hlen]
  refine ds_strs (R:=fun b=>w.heap.size≤b∧b<(w.alloc _).heap.size) ⟨Nat.le_refl _,by simp⟩ (Nat.le_refl _) (heap_alloc_new w _) ?_
  rw[List.take_of_length_le (by rw[List.length_map];exact Nat.le_refl _)]
  rfl⟩
noncomputable def con_trimp:Con Tryz.prog:=⟨140,[],_,cf_trimp,lib_con dec2s (fun x=>.ret (.one (.v (.string ⟨(Lib.trimPrefix x.1.data.toList x.2.data.toList).toArray⟩)))) fun x args vs w R σ Q hd hl ha hg hQ=>by
  obtain ⟨s,p⟩:=x
  have hv:=dec2s_ok hd hl ha
  subst hv
  refine ⟨_,hQ,(Tryz.strings_TrimPrefix s p w).mono fun e w' hr=>?_⟩
  obtain ⟨rfl,rfl⟩:=hr
  exact ⟨_,rfl,Below.refl _ _,.val rfl⟩⟩
noncomputable def con_cutL:Con Tryz.prog:=⟨102,[],_,cf_cutL,lib_con dec2s (fun x=>.need (x.1.size<4294967281) (.ret (.tup [.one (.v (.string ⟨(Lib.cut x.1.data.toList x.2.data.toList).1.toArray⟩)),.one (.v (.string ⟨(Lib.cut x.1.data.toList x.2.data.toList).2.1.toArray⟩)),.one (.v (.bool (Lib.cut x.1.data.toList x.2.data.toList).2.2))]))) fun x args vs w R σ Q hd hl ha hg hQ=>by
  obtain ⟨s,p⟩:=x
  have hv:=dec2s_ok hd hl ha
  subst hv
  obtain ⟨h2,hQ⟩:=hQ
  obtain ⟨m,hm⟩:=g_max hg
  refine ⟨_,hQ,(Tryz.strings_Cut s p m w h2 hm).mono fun e w' hr=>?_⟩
  obtain ⟨rfl,n,rfl⟩:=hr
  refine ⟨_,rfl,below_drewNg w n,.tup [_,_,_] rfl fun i a u hi hu=>?_⟩
  match i,hi,hu with
  | 0,rfl,rfl=>exact .val rfl
  | 1,rfl,rfl=>exact .val rfl
  | 2,rfl,rfl=>exact .val rfl⟩
open Go.Sort in
theorem below_grow (w:World) (os:Array Obj):Below w.heap.size w (grow w os):=⟨rfl,rfl,rfl,by simp[grow],fun k hk=>by
  show (w.heap++os)[k]?=w.heap[k]?
  exact Array.getElem?_append_left hk⟩
noncomputable def con_itoa:Con Tryz.prog:=⟨38,[],_,cf_itoa,lib_con dec1i (fun x=>.need (-9223372036854775808≤x∧x≤9223372036854775807) (.ret (.one (.v (.string ⟨(Lib.itoa x).toArray⟩))))) fun x args vs w R σ Q hd hl ha hg hQ=>by
  have hv:=dec1i_ok hd hl ha
  subst hv
  obtain ⟨⟨h1,h2⟩,hQ⟩:=hQ
  refine ⟨_,hQ,(Tryz.strconv_Itoa x h1 h2 w (g_pow hg)).mono fun e w' hr=>?_⟩
  obtain ⟨rfl,k,os,rfl⟩:=hr
  refine ⟨_,rfl,(below_drewNg w k).trans ?_,.val rfl⟩
  exact (below_grow (w.drewN k) os).mono (below_drewNg w k).size⟩
def atoiB (s:ByteArray):Bool:=match Lib.atoiAll s.data.toList with|.ok _=>true|_=>false
def atoiV (s:ByteArray):Int:=match Lib.atoiAll s.data.toList with|.ok v=>v|_=>0
theorem ni_tup {w:World} {R:Nat→Prop} {z:Int} {t:TypeId} {v:Value}:AvIs w R [] (.tup [.any,.one .ni]) (.tuple #[.int .i64 z,.iface t v]):=
  .tup [_,_] rfl fun i a u hi hu=>by
    match i,hi,hu with
    | 0,rfl,rfl=>exact .any
    | 1,rfl,rfl=>exact .one rfl (.ni t v .nil)
noncomputable def con_atoi:Con Tryz.prog:=⟨139,[],_,cf_atoi,lib_con dec1s (fun x=>.need (x.size≤281474976710656) (.ite (atoiB x) (.ret (.tup [.one (.v (.int .i64 (atoiV x))),.one (.v .nilIface)])) (.ret (.tup [.any,.one .ni])))) fun x args vs w R σ Q hd hl ha hg hQ=>by
  have hv:=dec1s_ok hd hl ha
  subst hv
  obtain ⟨h1,hQ⟩:=hQ
  unfold atoiB atoiV at hQ
  rcases hr:Lib.atoiAll x.data.toList with v|_|_
  · rw[hr]at hQ
    refine ⟨_,hQ.1 rfl,(Tryz.strconv_Atoi_ok x (by omega) v hr w).mono fun e w' h=>?_⟩
    obtain ⟨rfl,hw⟩:=h
    refine ⟨_,rfl,?_,.tup [_,_] rfl fun i a u hi hu=>?_⟩
    · rcases hw with rfl|⟨t,rfl⟩
      · exact Below.refl _ _
      · exact ⟨rfl,rfl,rfl,by rw[Lib.bytesWorld_size];omega,fun j hj=>Lib.bytesWorld_at_old w _ t j hj⟩
    · match i,hi,hu with
      | 0,rfl,rfl=>exact .val rfl
      | 1,rfl,rfl=>exact .val rfl
  · rw[hr]at hQ
    obtain ⟨te,pe,hc⟩:=g_syn hg
    refine ⟨_,hQ.2 rfl,(Tryz.strconv_Atoi_syntax x h1 hr _ w hc (.inr ⟨te,pe,rfl⟩)).mono fun e w' h=>?_⟩
    obtain ⟨N,rfl,_,_,hb⟩:=h
    exact ⟨_,rfl,hb,ni_tup⟩
  · rw[hr]at hQ
    obtain ⟨te,pe,hc⟩:=g_ran hg
    refine ⟨_,hQ.2 rfl,(Tryz.strconv_Atoi_range x h1 hr _ w hc (.inr ⟨te,pe,rfl⟩)).mono fun e w' h=>?_⟩
    obtain ⟨N,rfl,_,_,hb⟩:=h
    exact ⟨_,rfl,hb,ni_tup⟩⟩
noncomputable def L1:Env Tryz.prog:=⟨[con_atoi,con_itoa,con_trimp,con_split,con_cutL],[],[],fun _=>false,0,fun _=>[]⟩
theorem cf_lint (xs:Array Value) (w:World):(callFunc 95 xs).run Tryz.prog w=.ok (.enter 95 xs) w:=by kernel_rfl
theorem cf_lone (xs:Array Value) (w:World):(callFunc 105 xs).run Tryz.prog w=.ok (.enter 105 xs) w:=by kernel_rfl
theorem cf_lclo (xs:Array Value) (w:World):(callFunc 104 xs).run Tryz.prog w=.ok (.enter 104 xs) w:=by kernel_rfl
noncomputable def tr_lint (x:Els [(false,.str)]):T Av:=
 .need (ByteArray.size (x.1)≤(281474976710656:Nat)) (.ite (atoiB (x.1))
   (.ite (!true)
    (.ret (.tup [(.one (.v (.int .i64 ((0:Int))))),(.one (.v (.bool (false))))]))
    (.need ((-9223372036854775808:Int)≤atoiV (x.1)∧atoiV (x.1)≤(9223372036854775807:Int)) (.ite (!ByteArray.toList { data:=List.toArray (Go.Lib.itoa (atoiV (x.1))) }==ByteArray.toList (x.1))
      (.ret (.tup [(.one (.v (.int .i64 ((0:Int))))),(.one (.v (.bool (false))))]))
      (.ite (decide ((↑(ByteArray.size { data:=List.toArray (Go.Lib.trimPrefix (Array.toList (ByteArray.data (x.1))) (Array.toList (ByteArray.data { data := #[(45:UInt8)] }))) }):Int)>(9:Int)))
       (.ret (.tup [(.one (.v (.int .i64 ((0:Int))))),(.one (.v (.bool (false))))]))
       (.ret (.tup [(.one (.v (.int .i64 (atoiV (x.1))))),(.one (.v (.bool (true))))]))))))
   (.ret (.tup [(.one (.v (.int .i64 ((0:Int))))),(.one (.v (.bool (false))))])))
theorem tr_lint_eq (x:Els [(false,.str)]):fnP L1 (fun _=>none) Tryz.f95 (encs [(false,.str)] x)=tr_lint x:=by kernel_rfl
theorem mixedL:Tryz.prog.follows .mixedOrders=true:=by kernel_rfl
noncomputable def codR:Cod Tryz.prog:=⟨21,.int .i32,by kernel_rfl,⟨.int .i32 0,fun w=>by kernel_rfl⟩⟩
noncomputable def zeroR:Zero Tryz.prog:=⟨21,ck (.int .i32) (0:Int),[.int .i32 0],by kernel_rfl,fun w R σ=>.v rfl .nil⟩
noncomputable def L2:Env Tryz.prog:=⟨L1.con,[zeroR],[codR],L1.sure,L1.base,L1.frz⟩
abbrev spOne:LSpec:=⟨17,[(0,false,.int .i32),(7,false,.sl (.int .i32)),(8,false,.int .i64),(9,false,.int .i64)],[],[],fun e=>match e with|.ret=>[4]|_=>[]⟩
noncomputable def tr_loneL (x:LSpec.X spOne×LSpec.Y spOne):T (Rd spOne):=
 .ite (decide (x.1.2.2.2.1<x.1.2.2.1))
  (.get x.1.2.1 x.1.2.2.2.1 (fun v0 =>
   .ite (x.1.1==v0)
    (.ret (.out (Go.Exit.ret) [(.one (.v (.bool (true))))] ()))
    (.ret (.again (x.1.1,(x.1.2.1,(x.1.2.2.1,(IntKind.wrap .i64 (x.1.2.2.2.1+(1:Int)),())))) ()))))
  (.ret (.out (Go.Exit.exit (0:Nat)) [] ()))
theorem tr_loneL_eq (x:LSpec.X spOne×LSpec.Y spOne):LSpec.round spOne L2 (fun _=>none) (bodyOf Tryz.f105 0) x.1 x.2=tr_loneL x:=by kernel_rfl
def outOne (x:LSpec.X spOne) (y:LSpec.Y spOne):T (Exit×List Av×LSpec.Y spOne):=
  .need (0≤x.2.2.2.1∧x.2.2.1=(List.length x.2.1:Int)∧lenOk (List.length x.2.1)) (.ite (decide (x.1∈(x.2.1:List Int).drop x.2.2.2.1.toNat)) (.ret (.ret,[.one (.v (.bool true))],())) (.ret (.exit 0,[],())))
theorem loneL_core (c : Int) (l : List Int) (n i : Int) (Q : Exit × List Av × LSpec.Y spOne → Prop) (h : (outOne (c, l, n, i, ()) ()).wp Q) : (tr_loneL ((c, l, n, i, ()), ())).wp fun r => match r with
      | .again x' y'=>(x'.2.2.1-x'.2.2.2.1).toNat<(n-i).toNat∧(outOne x' y').wp Q
      | .out e avs y'=>Q (e,avs,y'):=by
  unfold tr_loneL
  unfold outOne at h ⊢
  simp only[T.wp]at h ⊢
  dsimp only [El,vts,spOne]at h ⊢
  obtain ⟨⟨i0,hn,hl⟩,hy,hz⟩:=h
  have hl':=hl
  unfold lenOk at hl'
  refine ⟨fun hlt=>?_,fun hge=>?_⟩
  · have hlt:=of_decide_eq_true hlt
    obtain ⟨u,hu⟩:=elem_at (l:=l) i0 (by omega)
    have hd:=drop_at i0 hu
    rw[hd]at hy hz
    refine ⟨u,i0,hu,fun heq=>?_,fun hne=>?_⟩
    · have heq:c=u:=by simpa using heq
      exact hy (by rw[heq];simp)
    · have hne:c≠u:=by simpa using hne
      rw[IntWalk.i64_in (i+1) (by omega)]
      have e:decide (c∈u::l.drop (i+1).toNat)=decide (c∈l.drop (i+1).toNat):=by
        rw[decide_eq_decide];simp[hne]
      rw[e]at hy hz
      exact ⟨by omega,⟨by omega,hn,hl⟩,hy,hz⟩
  · have hge:=of_decide_eq_false hge
    rw[drop_end (by omega)]at hz
    exact hz (by simp)
theorem loneL_ok:LoopOk Tryz.prog 0 (bodyOf Tryz.f105 0) (spOne.run outOne):=
  loop_ok (E:=L2) (L:=fun _=>none) mixedL 0 (loops_none _ _ _) spOne (Nat.zero_le _) outOne (fun x _=>(x.2.2.1-x.2.2.2.1).toNat) (by
    rintro ⟨c,l,n,i,⟨⟩⟩ ⟨⟩ Q h
    rw[tr_loneL_eq ((c,l,n,i,()),())]
    exact loneL_core c l n i Q h)
noncomputable def lpOne:Loops:=oneL 2 (spOne.run outOne)
noncomputable def tr_lone (x:Els [(false,.int .i32),(false,.sl (.int .i32))]):T Av:=
 .need ((0:El (Cd.int .i64))≤(0:Int)∧(↑(List.length x.2.1):Int)=(↑(List.length x.2.1):Int)∧lenOk (List.length x.2.1)) (.ite (decide (x.1∈List.drop (Int.toNat (0:Int)) x.2.1))
   (.ret (.one (.v (.bool (true)))))
   (.ret (.one (.v (.bool (false))))))
theorem tr_lone_eq (x:Els [(false,.int .i32),(false,.sl (.int .i32))]):fnP L2 lpOne Tryz.f105 (encs [(false,.int .i32),(false,.sl (.int .i32))] x)=tr_lone x:=by kernel_rfl
noncomputable def con_lone:Con Tryz.prog:=⟨105,[],_,cf_lone,val_con (E:=L2) (L:=lpOne) mixedL Tryz.func105 (one_loop loneL_ok (by kernel_rfl)) [(false,.int .i32),(false,.sl (.int .i32))] (fun x=>lenOk (List.length x.2.1)) (fun x=>.one (.v (.bool (decide (x.1∈(x.2.1:List Int)))))) fun x hx=>by
  rw[tr_lone_eq]
  obtain ⟨c,l,u⟩:=x
  revert c l
  intro (c:Int) (l:List Int) (hx:lenOk l.length)
  unfold tr_lone
  simp only[T.wp]
  refine ⟨⟨Int.le_refl 0,trivial,hx⟩,fun h=>?_,fun h=>?_⟩
  · have h:decide (c∈l)=true:=h
    rw[h]
  · have h:decide (c∈l)=false:=h
    rw[h]⟩
noncomputable def L3:Env Tryz.prog:=L2.add [con_lone]
noncomputable def tr_lclo (x:Els [(false,.int .i32)]):T Av:=
 .need (lenOk (List.length [(32:Int),(9:Int),(13:Int)])) (.ret (.one (.v (.bool (decide (x.1∈[(32:Int),(9:Int),(13:Int)]))))))
theorem tr_lclo_eq (x:Els [(false,.int .i32)]):fnP L3 (fun _=>none) Tryz.f104 (encs [(false,.int .i32)] x)=tr_lclo x:=by kernel_rfl
noncomputable def con_lclo:Con Tryz.prog:=⟨104,[],_,cf_lclo,val_con (E:=L3) mixedL Tryz.func104 no_loops [(false,.int .i32)] (fun x=>True) (fun x=>.one (.v (.bool (decide ((x.1:Int)∈([32,9,13]:List Int)))))) fun x hx=>by
  rw[tr_lclo_eq]
  obtain ⟨c,u⟩:=x
  revert c
  intro (c:Int)
  unfold tr_lclo
  simp only[T.wp]
  exact ⟨by show ((3:Nat):Int)≤4611686018427387904;omega,trivial⟩⟩
theorem glob_below {w W:World} {R:Nat→Prop} (hg:GlobAt w R) (hb:Below w.heap.size w W):GlobAt W (Ro W [] []):=fun f hf g h=>by
  obtain ⟨_,cs,t,z,h2,h3⟩:=hg f hf g h
  have hlt:=(Array.getElem?_eq_some_iff.1 h2).1
  exact ⟨⟨Nat.lt_of_lt_of_le hlt hb.size,by simp,by simp⟩,cs,t,z,(hb.block g hlt).trans h2,h3⟩
def blank (x:Nat):Bool:=decide (((x:Nat):Int)∈([32,9,13]:List Int))
theorem lclo_grows {w:World} {R:Nat→Prop} (hg:GlobAt w R):PredGrows Tryz.prog 104 #[] blank w:=fun W x hx hb=>by
  have hm:MemOk W [] [] []:=⟨rfl,by simp,by simp,glob_below hg hb,fun i t cs b h1 h2=>by simp at h1⟩
  have hc:=con_lclo.ok W [] [] [] [.one (.v (.int .i32 x))] [.int .i32 x] (fun r=>r=(.one (.v (.bool (blank x))),[])) hm rfl (fun i a v h1 h2=>by
    match i,h1,h2 with
    | 0,rfl,rfl=>exact .val rfl) (by
    show (T.need True (.ret _)).wp _
    exact ⟨trivial,rfl⟩)
  refine hc.mono fun e w' hr=>?_
  obtain ⟨v,av,m',σ',rfl,hQ,_,hk,_,hav,_⟩:=hr
  cases hQ
  rw[val_of hav rfl]
  exact ⟨rfl,hk.below⟩
def decF:List Av→Option ByteArray
  | [.one (.v (.string s)),.one (.v (.func (.func g) a b))]=>match decide (g=104)&&a.isEmpty&&b.isEmpty with
    | true=>some s
    | false=>none
  | _=>none
theorem decF_ok {w:World} {R:Nat→Prop} {σ:List Nat} {args:List Av} {vs:List Value} {x:ByteArray} (h:decF args=some x) (hl:vs.length=args.length) (ha : ∀ (i:Nat) a v,args[i]?=some a→vs[i]?=some v→AvIs w R σ a v):vs=[.string x,.func (.func 104) #[] #[]]:=by
  unfold decF at h
  split at h
  · split at h
    · rename_i hq
      cases h
      simp only[Bool.and_eq_true,decide_eq_true_eq,Array.isEmpty_iff]at hq
      obtain ⟨⟨rfl,rfl⟩,rfl⟩:=hq
      match vs,hl with
      | [u,v],_ =>
        rw[is_str (ha 0 _ u rfl rfl),val_of (ha 1 _ v rfl rfl) rfl]
    · cases h
  · cases h
theorem cf_fields (xs:Array Value) (w:World):(callFunc 103 xs).run Tryz.prog w=.ok (.enter 103 xs) w:=by kernel_rfl
noncomputable def con_fields:Con Tryz.prog:=⟨103,[],_,cf_fields,lib_con decF (fun x=>.need (x.size≤4294967296) (.ret (.one (.ds .str (Lib.goFieldsP blank x))))) fun x args vs w R σ Q hd hl ha hg hQ=>by
  have hv:=decF_ok hd hl ha
  subst hv
  obtain ⟨h1,hQ⟩:=hQ
  refine ⟨_,hQ,(Tryz.strings_FieldsFunc_grows 104 #[] cf_lclo blank x w h1 (lclo_grows hg)).mono fun e w' hr=>?_⟩
  obtain ⟨A,rfl,hA,ho,hb⟩:=hr
  refine ⟨_,rfl,hb,?_⟩
  obtain ⟨_,ho⟩:=ho
  rcases ho with ⟨hv,_⟩|⟨g,cap,cur,hv,hg1,hg2,hcap,_,_,htk⟩
  · cases hv
  · cases hv
    rw[Nat.mul_one]at htk
    have hlt:=(Array.getElem?_eq_some_iff.1 hg2).1
    exact ds_strs (cells:=cur.toList) (R:=fun b=>w.heap.size≤b∧b<w'.heap.size) ⟨hA,hlt⟩ (Nat.le_refl _) (by simpa using hg2) htk⟩
theorem atoiV_in (s:ByteArray) : -9223372036854775808≤atoiV s∧atoiV s≤9223372036854775807:=by
  unfold atoiV
  generalize s.data.toList=l
  unfold Lib.atoiAll
  split
  · rename_i v hv
    split at hv
    · cases hv
    · dsimp only at hv
      split at hv
      · cases hv
      · cases hv
      · rename_i c r u hu
        split at hv
        · cases hv
        · split at hv
          · cases hv
          · cases hv
            split <;> omega
  · omega
def itoaS (z:Int):ByteArray:=⟨(Lib.itoa z).toArray⟩
def trimM (s:ByteArray):ByteArray:=⟨(Lib.trimPrefix s.data.toList [45]).toArray⟩
def lintB (s:ByteArray):Bool:=atoiB s&&(itoaS (atoiV s)).toList==s.toList&&decide ((trimM s).size≤9)
noncomputable def con_lint:Con Tryz.prog:=⟨95,[],_,cf_lint,val_con (E:=L1) mixedL Tryz.func95 no_loops [(false,.str)] (fun x=>ByteArray.size x.1≤281474976710656) (fun x=>.tup [.one (.v (.int .i64 (if lintB x.1=true then atoiV x.1 else 0))),.one (.v (.bool (lintB x.1)))]) fun x hx=>by
  rw[tr_lint_eq]
  obtain ⟨s,u⟩:=x
  revert s
  intro (s:ByteArray) (hx:s.size≤281474976710656)
  unfold tr_lint
  simp only[T.wp]
  have hin:=atoiV_in s
  have eT:ByteArray.size ⟨List.toArray (Lib.trimPrefix (Array.toList (ByteArray.data s)) (Array.toList (ByteArray.data ⟨#[(45:UInt8)]⟩)))⟩=(trimM s).size:=rfl
  rw[eT]
  have no:lintB s=false→Av.tup [.one (.v (.int .i64 0)),.one (.v (.bool false))]=.tup [.one (.v (.int .i64 (if lintB s=true then atoiV s else 0))),.one (.v (.bool (lintB s)))]:=fun h=>by rw[h];rfl
  refine ⟨hx,fun h1=>⟨fun h=>Bool.noConfusion h,fun _=>⟨hin,fun h2=>no ?_,fun h2=>⟨fun h3=>no ?_,fun h3=>?_⟩⟩⟩,fun h1=>no ?_⟩
  · have h2:((itoaS (atoiV s)).toList==s.toList)=false:=by
      have h2:(!((itoaS (atoiV s)).toList==s.toList))=true:=h2
      generalize ((itoaS (atoiV s)).toList==s.toList)=q at h2 ⊢
      cases q with
      | false=>rfl
      | true=>cases h2
    unfold lintB;rw[h2];simp
  · have h3:=of_decide_eq_true h3
    unfold lintB;rw[decide_eq_false (by omega)];simp
  · have h2:((itoaS (atoiV s)).toList==s.toList)=true:=by
      have h2:(!((itoaS (atoiV s)).toList==s.toList))=false:=h2
      generalize ((itoaS (atoiV s)).toList==s.toList)=q at h2 ⊢
      cases q with
      | true=>rfl
      | false=>cases h2
    have h3:=of_decide_eq_false h3
    have e:lintB s=true:=by unfold lintB;rw[h1,h2,decide_eq_true (by omega)];rfl
    rw[e];rfl
  · unfold lintB;rw[h1];rfl⟩
theorem cf_llines (xs:Array Value) (w:World):(callFunc 55 xs).run Tryz.prog w=.ok (.enter 55 xs) w:=by kernel_rfl
abbrev cL:Cd:=.pair (.int .i64) (.sl .str)
noncomputable def codL:Cod Tryz.prog:=⟨47,cL,by kernel_rfl,⟨.agg #[.int .i64 0,.slice none 0 0],fun w=>by kernel_rfl⟩⟩
noncomputable def zeroL:Zero Tryz.prog:=⟨47,ck cL ((0:Int),[]),[.int .i64 0,.slice none 0 0],by kernel_rfl,fun w R σ=>.v rfl (.dn .nil)⟩
noncomputable def L4:Env Tryz.prog:=⟨con_lint::con_fields::con_lclo::L3.con,zeroL::L3.zero,codL::L3.cod,L3.sure,L3.base,L3.frz⟩
abbrev spLines:RSpec:=⟨35,[(8,false,.sl .str),(9,false,.int .i64),(10,false,.int .i64)],[],[],fun _=>[],3,47,cL,false,fun _=>3⟩
noncomputable def tr_llinesL (x:RSpec.X spLines×RSpec.Y spLines×(List (El (RSpec.c spLines))×Nat)):T (RRd spLines):=
 .ite (decide (x.1.2.2.1<x.1.2.1))
  (.get x.1.1 x.1.2.2.1 (fun v0 =>
   .need (ByteArray.size v0<(4294967281:Nat)) (.need (ByteArray.size { data:=List.toArray (Go.Lib.cut (Array.toList (ByteArray.data v0)) (Array.toList (ByteArray.data { data := #[(35:UInt8)] }))).1 }≤(4294967296:Nat)) (.ite (decide ((↑(List.length (Go.Lib.goFieldsP blank { data:=List.toArray (Go.Lib.cut (Array.toList (ByteArray.data v0)) (Array.toList (ByteArray.data { data := #[(35:UInt8)] }))).1 })):Int)>(0:Int)))
      (.need (List.length x.2.2.1=List.length x.2.2.1∧x.2.2.2=x.2.2.2∧(List.length x.2.2.1+List.length [(IntKind.wrap .i64 (x.1.2.2.1+(1:Int)),Go.Lib.goFieldsP blank { data:=List.toArray (Go.Lib.cut (Array.toList (ByteArray.data v0)) (Array.toList (ByteArray.data { data := #[(35:UInt8)] }))).1 })])*(nat_lit 31+(1:Nat))≤(140737488355328:Nat)∧List.length x.2.2.1+List.length [(IntKind.wrap .i64 (x.1.2.2.1+(1:Int)),Go.Lib.goFieldsP blank { data:=List.toArray (Go.Lib.cut (Array.toList (ByteArray.data v0)) (Array.toList (ByteArray.data { data := #[(35:UInt8)] }))).1 })]≤Go.maxLen) (.and
        (.need (List.length x.2.2.1+List.length [(IntKind.wrap .i64 (x.1.2.2.1+(1:Int)),Go.Lib.goFieldsP blank { data:=List.toArray (Go.Lib.cut (Array.toList (ByteArray.data v0)) (Array.toList (ByteArray.data { data := #[(35:UInt8)] }))).1 })]=List.length (x.2.2.1++[(IntKind.wrap .i64 (x.1.2.2.1+(1:Int)),Go.Lib.goFieldsP blank { data:=List.toArray (Go.Lib.cut (Array.toList (ByteArray.data v0)) (Array.toList (ByteArray.data { data := #[(35:UInt8)] }))).1 })])∧x.2.2.2=x.2.2.2) (.ret (.again (x.1.1,(x.1.2.1,(IntKind.wrap .i64 (x.1.2.2.1+(1:Int)),()))) () (some ((x.2.2.1++[(IntKind.wrap .i64 (x.1.2.2.1+(1:Int)),Go.Lib.goFieldsP blank { data:=List.toArray (Go.Lib.cut (Array.toList (ByteArray.data v0)) (Array.toList (ByteArray.data { data := #[(35:UInt8)] }))).1 })],x.2.2.2))))))
        (.up (List.length x.2.2.1+List.length [(IntKind.wrap .i64 (x.1.2.2.1+(1:Int)),Go.Lib.goFieldsP blank { data:=List.toArray (Go.Lib.cut (Array.toList (ByteArray.data v0)) (Array.toList (ByteArray.data { data := #[(35:UInt8)] }))).1 })]) (fun v1 =>
         .need (List.length x.2.2.1+List.length [(IntKind.wrap .i64 (x.1.2.2.1+(1:Int)),Go.Lib.goFieldsP blank { data:=List.toArray (Go.Lib.cut (Array.toList (ByteArray.data v0)) (Array.toList (ByteArray.data { data := #[(35:UInt8)] }))).1 })]=List.length (x.2.2.1++[(IntKind.wrap .i64 (x.1.2.2.1+(1:Int)),Go.Lib.goFieldsP blank { data:=List.toArray (Go.Lib.cut (Array.toList (ByteArray.data v0)) (Array.toList (ByteArray.data { data := #[(35:UInt8)] }))).1 })])∧v1=v1) (.ret (.again (x.1.1,(x.1.2.1,(IntKind.wrap .i64 (x.1.2.2.1+(1:Int)),()))) () (some ((x.2.2.1++[(IntKind.wrap .i64 (x.1.2.2.1+(1:Int)),Go.Lib.goFieldsP blank { data:=List.toArray (Go.Lib.cut (Array.toList (ByteArray.data v0)) (Array.toList (ByteArray.data { data := #[(35:UInt8)] }))).1 })],v1)))))))))
      (.need (List.length x.2.2.1=List.length x.2.2.1∧x.2.2.2=x.2.2.2) (.ret (.again (x.1.1,(x.1.2.1,(IntKind.wrap .i64 (x.1.2.2.1+(1:Int)),()))) () (some x.2.2))))))))
  (.need (List.length x.2.2.1=List.length x.2.2.1∧x.2.2.2=x.2.2.2) (.ret (.out (Go.Exit.exit (0:Nat)) [] () (some x.2.2))))
theorem tr_llinesL_eq (x:RSpec.X spLines×RSpec.Y spLines×(List (El (RSpec.c spLines))×Nat)):RSpec.round spLines L4 (fun _=>none) (bodyOf Tryz.f55 0) x.1 x.2.1 (some x.2.2)=tr_llinesL x:=by kernel_rfl
noncomputable def tr_llinesL0 (x:RSpec.X spLines×RSpec.Y spLines):T (RRd spLines):=
 .ite (decide (x.1.2.2.1<x.1.2.1))
  (.get x.1.1 x.1.2.2.1 (fun v0 =>
   .need (ByteArray.size v0<(4294967281:Nat)) (.need (ByteArray.size { data:=List.toArray (Go.Lib.cut (Array.toList (ByteArray.data v0)) (Array.toList (ByteArray.data { data := #[(35:UInt8)] }))).1 }≤(4294967296:Nat)) (.ite (decide ((↑(List.length (Go.Lib.goFieldsP blank { data:=List.toArray (Go.Lib.cut (Array.toList (ByteArray.data v0)) (Array.toList (ByteArray.data { data := #[(35:UInt8)] }))).1 })):Int)>(0:Int)))
      (.need (List.length [(IntKind.wrap .i64 (x.1.2.2.1+(1:Int)),Go.Lib.goFieldsP blank { data:=List.toArray (Go.Lib.cut (Array.toList (ByteArray.data v0)) (Array.toList (ByteArray.data { data := #[(35:UInt8)] }))).1 })]*(nat_lit 31+(1:Nat))≤(140737488355328:Nat)∧List.length [(IntKind.wrap .i64 (x.1.2.2.1+(1:Int)),Go.Lib.goFieldsP blank { data:=List.toArray (Go.Lib.cut (Array.toList (ByteArray.data v0)) (Array.toList (ByteArray.data { data := #[(35:UInt8)] }))).1 })]≤Go.maxLen) (.up (List.length [(IntKind.wrap .i64 (x.1.2.2.1+(1:Int)),Go.Lib.goFieldsP blank { data:=List.toArray (Go.Lib.cut (Array.toList (ByteArray.data v0)) (Array.toList (ByteArray.data { data := #[(35:UInt8)] }))).1 })]) (fun v1 =>
        .need (List.length [(IntKind.wrap .i64 (x.1.2.2.1+(1:Int)),Go.Lib.goFieldsP blank { data:=List.toArray (Go.Lib.cut (Array.toList (ByteArray.data v0)) (Array.toList (ByteArray.data { data := #[(35:UInt8)] }))).1 })]=List.length [(IntKind.wrap .i64 (x.1.2.2.1+(1:Int)),Go.Lib.goFieldsP blank { data:=List.toArray (Go.Lib.cut (Array.toList (ByteArray.data v0)) (Array.toList (ByteArray.data { data := #[(35:UInt8)] }))).1 })]∧v1=v1) (.ret (.again (x.1.1,(x.1.2.1,(IntKind.wrap .i64 (x.1.2.2.1+(1:Int)),()))) () (some (([(IntKind.wrap .i64 (x.1.2.2.1+(1:Int)),Go.Lib.goFieldsP blank { data:=List.toArray (Go.Lib.cut (Array.toList (ByteArray.data v0)) (Array.toList (ByteArray.data { data := #[(35:UInt8)] }))).1 })],v1))))))))
      (.need (True) (.ret (.again (x.1.1,(x.1.2.1,(IntKind.wrap .i64 (x.1.2.2.1+(1:Int)),()))) () none)))))))
  (.need (True) (.ret (.out (Go.Exit.exit (0:Nat)) [] () none)))
theorem tr_llinesL0_eq (x:RSpec.X spLines×RSpec.Y spLines):RSpec.round spLines L4 (fun _=>none) (bodyOf Tryz.f55 0) x.1 x.2 none=tr_llinesL0 x:=by kernel_rfl
def cutM (l:ByteArray):ByteArray:=⟨(Lib.cut l.data.toList [35]).1.toArray⟩
def wordsOf (l:ByteArray):List ByteArray:=Lib.goFieldsP blank (cutM l)
def linesFrom:List ByteArray→Int→List (Int×List ByteArray)
  | [],_=>[]
  | l::r,i=>if (wordsOf l).length>0 then (i+1,wordsOf l)::linesFrom r (i+1) else linesFrom r (i+1)
def outLines (x:RSpec.X spLines) (y:RSpec.Y spLines) (g:RSpec.G spLines):T (Exit×List Av×RSpec.Y spLines×RSpec.G spLines):=
  .need (0≤x.2.2.1∧x.2.1=(List.length x.1:Int)∧List.length x.1≤1000000 ∧ ∀ l∈(x.1:List ByteArray),l.size<4294967281∧(cutM l).size≤4294967296)
    (match g with
    | none=>.ite (decide (linesFrom ((x.1:List ByteArray).drop x.2.2.1.toNat) x.2.2.1=[])) (.ret (.exit 0,[],y,none)) (.up 0 fun k=>.ret (.exit 0,[],y,some (linesFrom ((x.1:List ByteArray).drop x.2.2.1.toNat) x.2.2.1,k)))
    | some r=>.need ((r.1.length:Int)≤x.2.2.1) (.up 0 fun k=>.ret (.exit 0,[],y,some ((r.1:List (Int×List ByteArray))++linesFrom ((x.1:List ByteArray).drop x.2.2.1.toNat) x.2.2.1,k))))
theorem llinesL_core (l : List ByteArray) (n i : Int) (y : RSpec.Y spLines) (xs : List (Int × List ByteArray)) (cap : Nat) (Q : Exit × List Av × RSpec.Y spLines × RSpec.G spLines → Prop) (h : (outLines (l, n, i, ()) y (some (xs, cap))).wp Q) : (tr_llinesL ((l, n, i, ()), y, (xs, cap))).wp fun r => match r with
      | .again x' y' g'=>(x'.2.1-x'.2.2.1).toNat<(n-i).toNat∧(outLines x' y' g').wp Q
      | .out e avs y' g'=>Q (e,avs,y',g'):=by
  unfold tr_llinesL
  unfold outLines at h ⊢
  simp only[T.wp]at h ⊢
  dsimp only [El,vts,spLines,cL]at h ⊢
  obtain ⟨⟨i0,hn,hl,hw⟩,hr,hq⟩:=h
  refine ⟨fun hlt=>?_,fun hge=>?_⟩
  · have hlt:=of_decide_eq_true hlt
    obtain ⟨u,hu⟩:=elem_at (l:=l) i0 (by omega)
    have hd:=drop_at i0 hu
    obtain ⟨w1,w2⟩:=hw u (List.mem_of_getElem? hu)
    rw[hd,linesFrom]at hq
    refine ⟨u,i0,hu,w1,w2,fun hp=>?_,fun hp=>?_⟩
    · have hp:(wordsOf u).length>0:=by have:=of_decide_eq_true hp;exact Int.ofNat_lt.1 this
      rw[if_pos hp]at hq
      rw[IntWalk.i64_in (i+1) (by omega)]
      simp only[List.length_append,List.length_cons,List.length_nil,Go.maxLen,List.append_assoc,List.singleton_append,List.cons_append,List.nil_append]at hq ⊢
      exact ⟨⟨trivial,trivial,by omega,by omega⟩,⟨⟨trivial,trivial⟩,by omega,⟨by omega,hn,hl,hw⟩,by omega,hq⟩,fun k hk=>⟨⟨trivial,trivial⟩,by omega,⟨by omega,hn,hl,hw⟩,by omega,hq⟩⟩
    · have hp:¬ (wordsOf u).length>0:=by have:=of_decide_eq_false hp;exact fun h'=>this (Int.ofNat_lt.2 h')
      rw[if_neg hp]at hq
      rw[IntWalk.i64_in (i+1) (by omega)]
      exact ⟨⟨trivial,trivial⟩,by omega,⟨by omega,hn,hl,hw⟩,by omega,hq⟩
  · have hge:=of_decide_eq_false hge
    rw[drop_end (by omega),linesFrom,List.append_nil]at hq
    exact ⟨⟨trivial,trivial⟩,hq cap (Nat.zero_le _)⟩
theorem llinesL_core0 (l : List ByteArray) (n i : Int) (y : RSpec.Y spLines) (Q : Exit × List Av × RSpec.Y spLines × RSpec.G spLines → Prop) (h : (outLines (l, n, i, ()) y none).wp Q) : (tr_llinesL0 ((l, n, i, ()), y)).wp fun r => match r with
      | .again x' y' g'=>(x'.2.1-x'.2.2.1).toNat<(n-i).toNat∧(outLines x' y' g').wp Q
      | .out e avs y' g'=>Q (e,avs,y',g'):=by
  unfold tr_llinesL0
  unfold outLines at h ⊢
  simp only[T.wp]at h ⊢
  dsimp only [El,vts,spLines,cL]at h ⊢
  obtain ⟨⟨i0,hn,hl,hw⟩,hz,hq⟩:=h
  refine ⟨fun hlt=>?_,fun hge=>?_⟩
  · have hlt:=of_decide_eq_true hlt
    obtain ⟨u,hu⟩:=elem_at (l:=l) i0 (by omega)
    have hd:=drop_at i0 hu
    obtain ⟨w1,w2⟩:=hw u (List.mem_of_getElem? hu)
    rw[hd,linesFrom]at hz hq
    refine ⟨u,i0,hu,w1,w2,fun hp=>?_,fun hp=>?_⟩
    · have hp:(wordsOf u).length>0:=by have:=of_decide_eq_true hp;exact Int.ofNat_lt.1 this
      rw[if_pos hp]at hq
      have hq:=hq (decide_eq_false (by simp))
      rw[IntWalk.i64_in (i+1) (by omega)]
      simp only[List.length_cons,List.length_nil,Go.maxLen,List.singleton_append,List.cons_append,List.nil_append]at hq ⊢
      exact ⟨⟨by omega,by omega⟩,fun k hk=>⟨⟨trivial,trivial⟩,by omega,⟨by omega,hn,hl,hw⟩,by omega,hq⟩⟩
    · have hp:¬ (wordsOf u).length>0:=by have:=of_decide_eq_false hp;exact fun h'=>this (Int.ofNat_lt.2 h')
      rw[if_neg hp]at hz hq
      rw[IntWalk.i64_in (i+1) (by omega)]
      exact ⟨trivial,by omega,⟨by omega,hn,hl,hw⟩,hz,hq⟩
  · have hge:=of_decide_eq_false hge
    rw[drop_end (by omega),linesFrom]at hz
    exact ⟨trivial,hz (decide_eq_true rfl)⟩
theorem llinesL_ok:LoopOk Tryz.prog 0 (bodyOf Tryz.f55 0) (spLines.run outLines):=
  loopR_ok (E:=L4) (L:=fun _=>none) mixedL 0 (loops_none _ _ _) spLines (Nat.zero_le _) outLines (fun x _ _=>(x.2.1-x.2.2.1).toNat) (by
    rintro ⟨l,n,i,⟨⟩⟩ y g Q h
    match g,h with
    | some (xs,cap),h =>
      rw[tr_llinesL_eq ((l,n,i,()),y,(xs,cap))]
      exact llinesL_core l n i y xs cap Q h
    | none,h =>
      rw[tr_llinesL0_eq ((l,n,i,()),y)]
      exact llinesL_core0 l n i y Q h)
noncomputable def lpLines:Loops:=manyL [(3,spLines.run outLines)]
noncomputable def L4f:Env Tryz.prog:=L4.fz [(10,[3])]
noncomputable def tr_llines (x:Els [(false,.str)]):T Av:=
 .need ((1:Nat)≤ByteArray.size { data := #[(10:UInt8)] }∧ByteArray.size (x.1)<(4294967281:Nat)) (.need (True) (.need ((0:El (Cd.int .i64))≤(0:Int)∧(↑(List.length (splitL (x.1) { data := #[(10:UInt8)] })):Int)=(↑(List.length (splitL (x.1) { data := #[(10:UInt8)] })):Int)∧List.length (splitL (x.1) { data := #[(10:UInt8)] })≤(1000000:Nat) ∧ ∀ (l:El Cd.str),l∈splitL (x.1) { data := #[(10:UInt8)] }→ByteArray.size l<(4294967281:Nat)∧ByteArray.size (cutM l)≤(4294967296:Nat)) (.ite (decide (linesFrom (List.drop (Int.toNat (0:Int)) (splitL (x.1) { data := #[(10:UInt8)] })) (0:Int)=[]))
     (.ret (.one (.v (Go.Value.slice Option.none (0:Nat) (0:Nat)))))
     (.up ((0:Nat)) (fun v0 =>
      .need (List.length (linesFrom (List.drop (Int.toNat (0:Int)) (splitL (x.1) { data := #[(10:UInt8)] })) (0:Int))≤List.length (linesFrom (List.drop (Int.toNat (0:Int)) (splitL (x.1) { data := #[(10:UInt8)] })) (0:Int))) (.ret (.one (.ds (Cd.pair (Cd.int .i64) (Cd.sl Cd.str)) (List.take (List.length (linesFrom (List.drop (Int.toNat (0:Int)) (splitL (x.1) { data := #[(10:UInt8)] })) (0:Int))) (linesFrom (List.drop (Int.toNat (0:Int)) (splitL (x.1) { data := #[(10:UInt8)] })) (0:Int)))))))))))
theorem tr_llines_eq (x:Els [(false,.str)]):fnP L4f lpLines Tryz.f55 (encs [(false,.str)] x)=tr_llines x:=by kernel_rfl
theorem val_con_wL {P:Program} {E:Env P} {L:Loops} {f:FuncId} {fn:Func} (hm:P.follows .mixedOrders=true) (hf:P.funcs[f]?=some fn) (hL : ∀ c,fn.body=some c→LoopsOk P 0 L c) (ts:List (Bool×Cd)) (pre:Els ts→Prop) (F:Els ts→Av)
    (h : ∀ x,pre x→(fnP E L fn (encs ts x)).wp (fun a => ∀ w R σ v,AvIs w R σ a v→AvIs w R σ (F x) v)):ConOk P f [] (pureRun' ts fun x=>.need (pre x) (.ret (F x))):=by
  refine con_weaken (con_ok (E:=E) (L:=L) hm hf hL ts (fun x=>fnP E L fn (encs ts x)) (fun x Q h=>h)) fun args m Q hq=>?_
  unfold pureRun' at hq ⊢
  split at hq
  · rw[T.wp_bind]at hq ⊢
    exact T.wp_mono (fun a ha=>⟨_,hq.2,ha⟩) (h _ hq.1)
  · exact hq.elim
theorem nil_av1 {w:World} {R:Nat→Prop} {σ:List Nat} {c:Cd} {v:Value} (h:AvIs w R σ (.one (.v (.slice none 0 0))) v):AvIs w R σ (.one (.ds c [])) v:=by
  rw[val_of h rfl]
  exact .one rfl (.dn .nil)
def nl:ByteArray:=⟨#[10]⟩
def linesOf (s:ByteArray):List (Int×List ByteArray):=linesFrom (splitL s nl) 0
def LinesFit (s:ByteArray):Prop:=s.size<4294967281∧(splitL s nl).length≤1000000 ∧ ∀ l∈splitL s nl,l.size<4294967281∧(cutM l).size≤4294967296
noncomputable def con_llines:Con Tryz.prog:=⟨55,[],_,cf_llines,val_con_wL (E:=L4f) (L:=lpLines) mixedL Tryz.func55 (many_loops (by kernel_rfl) (by simp) (fun i p hp=>by
    match i,hp with
    | 0,hp=>cases hp;exact llinesL_ok
    | i+1,hp=>simp at hp)) [(false,.str)] (fun x=>LinesFit x.1) (fun x=>.one (.ds cL (linesOf x.1))) fun x hx=>by
  rw[tr_llines_eq]
  obtain ⟨s,u⟩:=x
  revert s
  intro (s:ByteArray) (hx:LinesFit s)
  obtain ⟨h1,h2,h3⟩:=hx
  unfold tr_llines
  simp only[T.wp]
  refine ⟨⟨by decide,h1⟩,trivial,⟨Int.le_refl 0,trivial,h2,h3⟩,fun he=>?_,fun he k hk=>⟨Nat.le_refl _,?_⟩⟩
  · have he:linesOf s=[]:=of_decide_eq_true he
    rw[he]
    exact fun w R σ v hv=>nil_av1 hv
  · rw[List.take_length]
    exact fun w R σ v hv=>hv⟩
def dgAll (l:List UInt8):Bool:=l.all fun c=>decide (48≤c.toNat)&&decide (c.toNat≤57)
def dgVal:Int→List UInt8→Int
  | n,[]=>n
  | n,c::r=>dgVal (n*10+((c.toNat:Int)-48)) r
theorem dgVal_app (a b:List UInt8) : ∀ n,dgVal n (a++b)=dgVal (dgVal n a) b:=by
  induction a with
  | nil=>intro n;rfl
  | cons c r ih=>intro n;exact ih _
theorem dgAll_app (a b:List UInt8):dgAll (a++b)=(dgAll a&&dgAll b):=List.all_append
theorem dgAll_cons (c:UInt8) (r:List UInt8):dgAll (c::r)=(decide (48≤c.toNat)&&decide (c.toNat≤57)&&dgAll r):=rfl
theorem dg_one {u:Nat} (h:u<10):(UInt8.ofNat (48+u)).toNat=48+u:=by
  rw[UInt8.toNat_ofNat'];omega
theorem dgAll_one {u:Nat} (h:u<10):dgAll [UInt8.ofNat (48+u)]=true:=by
  rw[dgAll_cons,dg_one h,decide_eq_true (by omega),decide_eq_true (by omega)];rfl
theorem dgVal_one {u:Nat} (h:u<10) (n:Int):dgVal n [UInt8.ofNat (48+u)]=n*10+u:=by
  rw[dgVal,dgVal,dg_one h];omega
theorem dec_small {n:Nat} (h:n<10):Lib.decDigits n=[UInt8.ofNat (48+n)]:=by rw[Lib.decDigits,dif_pos h]
theorem dec_big {n:Nat} (h:¬ n<10):Lib.decDigits n=Lib.decDigits (n/10)++[UInt8.ofNat (48+n%10)]:=by rw[Lib.decDigits,dif_neg h]
theorem dec_all (n:Nat):dgAll (Lib.decDigits n)=true:=by
  induction n using Nat.strongRecOn with
  | _ n ih =>
    by_cases h:n<10
    · rw[dec_small h];exact dgAll_one h
    · rw[dec_big h,dgAll_app,ih (n/10) (by omega),dgAll_one (by omega)];rfl
theorem dec_val (n:Nat):dgVal 0 (Lib.decDigits n)=n:=by
  induction n using Nat.strongRecOn with
  | _ n ih =>
    by_cases h:n<10
    · rw[dec_small h,dgVal_one h];omega
    · rw[dec_big h,dgVal_app,ih (n/10) (by omega),dgVal_one (by omega)];omega
theorem dec_head (n:Nat) : ∃ c r,Lib.decDigits n=c::r∧48≤c.toNat∧c.toNat≤57∧(c=48→n=0∧r=[]):=by
  induction n using Nat.strongRecOn with
  | _ n ih =>
    by_cases h:n<10
    · rw[dec_small h]
      refine ⟨_,[],rfl,by rw[dg_one h];omega,by rw[dg_one h];omega,fun e=>⟨?_,rfl⟩⟩
      have:=dg_one h
      rw[e]at this
      have e48:(48:UInt8).toNat=48:=rfl
      omega
    · obtain ⟨c,r,e,h1,h2,h3⟩:=ih (n/10) (by omega)
      rw[dec_big h,e]
      refine ⟨c,r++_,rfl,h1,h2,fun e=>?_⟩
      have:=(h3 e).1
      omega
theorem digit_of {c:UInt8} {r:List UInt8} (h:dgAll (c::r)=true):48≤c.toNat∧c.toNat≤57∧dgAll r=true:=by
  rw[dgAll_cons,Bool.and_eq_true,Bool.and_eq_true,decide_eq_true_eq,decide_eq_true_eq]at h
  exact ⟨h.1.1,h.1.2,h.2⟩
theorem parse_dg : ∀ (t:List UInt8) (acc:Nat),dgAll t=true→(acc+1)*10^t.length≤1000000000000000000 → ∃ u:Nat,Lib.parseUint10 acc t=.ok u∧(u:Int)=dgVal acc t∧u<(acc+1)*10^t.length
  | [],acc,_,h=>⟨acc,rfl,rfl,by simp⟩
  | c::r,acc,hd,h=>by
    obtain ⟨h1,h2,h3⟩:=digit_of hd
    rw[List.length_cons,Nat.pow_succ]at h
    have e:(acc+1)*(10^r.length*10)=(acc+1)*10*10^r.length:=by rw[Nat.mul_comm (10^r.length) 10,Nat.mul_assoc]
    rw[e]at h
    have hle:(acc*10+(c.toNat-48)+1)*10^r.length≤(acc+1)*10*10^r.length:=Nat.mul_le_mul_right _ (by omega)
    have hp:1≤10^r.length:=Nat.one_le_pow _ _ (by decide)
    have hb:(acc+1)*10≤(acc+1)*10*10^r.length:=Nat.le_mul_of_pos_right _ hp
    obtain ⟨u,g1,g2,g3⟩:=parse_dg r (acc*10+(c.toNat-48)) h3 (by omega)
    refine ⟨u,?_,?_,?_⟩
    · rw[Lib.parseUint10,if_pos ⟨h1,h2⟩,if_neg (by omega),if_neg (by omega)];exact g1
    · rw[g2,dgVal];congr 1;omega
    · rw[List.length_cons,Nat.pow_succ,e];omega
theorem byte_of {c:UInt8} {k:Nat} (h:c.toNat=k):c=UInt8.ofNat k:=by
  subst h;exact (UInt8.ofNat_toNat).symm
theorem dec_of : ∀ (k:Nat) (t:List UInt8),t.length=k→dgAll t=true→t≠[]→(t.head?=some 48→t.length=1) → ∃ u:Nat,(u:Int)=dgVal 0 t∧Lib.decDigits u=t∧(t.head?≠some 48→0<u)
  | k,t,hk,hd,h0,hz=>by
    rcases List.eq_nil_or_concat t with e|⟨t',c,e⟩
    · exact absurd e h0
    · rw[List.concat_eq_append]at e
      subst e
      rw[dgAll_app,Bool.and_eq_true]at hd
      obtain ⟨h1,h2,_⟩:=digit_of hd.2
      have ec:UInt8.ofNat (48+(c.toNat-48))=c:=(byte_of (by omega)).symm
      by_cases ht:t'=[]
      · subst ht
        refine ⟨c.toNat-48,?_,?_,fun hne=>?_⟩
        · rw[List.nil_append,dgVal,dgVal];omega
        · rw[dec_small (by omega),ec];rfl
        · have hc:c≠48:=fun e=>hne (by rw[e];rfl)
          have:c.toNat≠48:=fun e=>hc (byte_of e)
          omega
      · obtain ⟨a,r,rfl⟩ : ∃ a r,t'=a::r:=by
          cases t' with
          | nil=>exact absurd rfl ht
          | cons a r=>exact ⟨a,r,rfl⟩
        have hne:((a::r)++[c]).head?≠some 48:=fun e=>by have:=hz e;simp at this
        have hne':(a::r).head?≠some 48:=hne
        simp only[List.length_append,List.length_cons,List.length_nil]at hk
        obtain ⟨u,g1,g2,g3⟩:=dec_of (k-1) (a::r) (by simp only[List.length_cons];omega) hd.1 ht (fun e=>absurd e hne')
        have:=g3 hne'
        refine ⟨u*10+(c.toNat-48),?_,?_,fun _=>by omega⟩
        · rw[dgVal_app,←g1,dgVal,dgVal];omega
        · rw[dec_big (by omega),show (u*10+(c.toNat-48))/10=u by omega,show (u*10+(c.toNat-48))%10=c.toNat-48 by omega,g2,ec]
termination_by k=>k
decreasing_by
  simp only[List.length_append,List.length_cons,List.length_nil]at hk
  omega
def unm:List UInt8→List UInt8
  | []=>[]
  | c::r=>if c=45 then r else c::r
def numB (l:List UInt8):Bool:=decide (1≤(unm l).length)&&decide ((unm l).length≤9) && !(decide ((unm l).head?=some 48)&&decide (1<l.length))&&dgAll (unm l)
def numV (l:List UInt8):Int:=if (unm l).length<l.length then-dgVal 0 (unm l) else dgVal 0 (unm l)
theorem trimM_size (s:ByteArray):(trimM s).size=(unm s.data.toList).length:=by
  obtain ⟨⟨l⟩⟩:=s
  show (Lib.trimPrefix l [45]).length=(unm l).length
  cases l with
  | nil=>rfl
  | cons c r =>
    by_cases h:c=45
    · subst h
      have hu:unm (45::r)=r:=rfl
      unfold Lib.trimPrefix Lib.hasPrefix
      rw[hu];simp
    · have hu:unm (c::r)=c::r:=by rw[unm,if_neg h]
      have:([45].isPrefixOf (c::r))=false:=by
        show ((45==c)&&_)=false
        rw[beq_false_of_ne (Ne.symm h)];rfl
      unfold Lib.trimPrefix Lib.hasPrefix
      rw[this,hu];rfl
theorem itoa_num {v:Int} (h:(unm (Lib.itoa v)).length≤9):numB (Lib.itoa v)=true∧numV (Lib.itoa v)=v:=by
  unfold Lib.itoa at h ⊢
  by_cases hv:v<0
  · rw[if_pos hv]at h ⊢
    obtain ⟨c,r,e,h1,h2,h3⟩:=dec_head v.natAbs
    have hu:unm (45::Lib.decDigits v.natAbs)=Lib.decDigits v.natAbs:=rfl
    unfold numB numV
    rw[hu]at h ⊢
    refine ⟨?_,?_⟩
    · rw[dec_all,decide_eq_true h,e]
      have hc:c≠48:=fun e=>by have:=(h3 e).1;omega
      simp[hc]
    · rw[if_pos (by simp),dec_val];omega
  · rw[if_neg hv]at h ⊢
    obtain ⟨c,r,e,h1,h2,h3⟩:=dec_head v.toNat
    have hc:c≠45:=fun e=>by subst e;exact absurd h1 (by decide)
    have hu:unm (Lib.decDigits v.toNat)=Lib.decDigits v.toNat:=by rw[e,unm,if_neg hc]
    unfold numB numV
    rw[hu]at h ⊢
    refine ⟨?_,?_⟩
    · rw[dec_all,decide_eq_true h,e]
      by_cases h48:c=48
      · rw[(h3 h48).2];simp
      · simp[h48]
    · rw[if_neg (Nat.lt_irrefl _),dec_val];omega
theorem num_bnd {k:Nat} (h:k≤9):10^k≤1000000000:=by
  have:10^k≤10^9:=Nat.pow_le_pow_right (by decide) h
  exact this
theorem num_itoa {l:List UInt8} (h:numB l=true):Lib.atoiAll l=.ok (numV l)∧Lib.itoa (numV l)=l:=by
  unfold numB at h
  simp only[Bool.and_eq_true,decide_eq_true_eq,Bool.not_eq_true',Bool.and_eq_false_iff,decide_eq_false_iff_not]at h
  obtain ⟨⟨⟨h1,h2⟩,h3⟩,h4⟩:=h
  have hne:unm l≠[]:=fun e=>by rw[e]at h1;simp at h1
  have hp:=num_bnd h2
  obtain ⟨u,p1,p2,p3⟩:=parse_dg (unm l) 0 h4 (by omega)
  have hm:Lib.parseMag (unm l)=.ok u:=by unfold Lib.parseMag;rw[if_neg hne];exact p1
  cases l with
  | nil=>exact absurd rfl hne
  | cons c r =>
    by_cases hc:c=45
    · subst hc
      have hu:unm (45::r)=r:=rfl
      rw[hu]at hne h1 h2 h3 h4 hm p2 p3 hp
      have hl:1<(45::r:List UInt8).length:=by rw[List.length_cons];omega
      have h48:r.head?≠some 48:=fun e=>by rcases h3 with h|h;exact h e;exact h hl
      obtain ⟨u',q1,q2,q3⟩:=dec_of _ r rfl h4 hne (fun e=>absurd e h48)
      have e : u' = u := by have : (u' : Int) = u := by rw [q1, p2]; rfl
                            omega
      subst e
      have hpos:=q3 h48
      have hv:numV (45::r) = -(u':Int):=by unfold numV;rw[hu,if_pos (by simp),←q1]
      rw[hv]
      constructor
      · rw[Lib.atoiAll_minus,hm]
        unfold Lib.signed
        simp only[]
        rw[if_neg (by omega)]
      · unfold Lib.itoa
        rw[if_pos (by omega),Int.natAbs_neg,Int.natAbs_natCast,q2]
    · have hu:unm (c::r)=c::r:=by rw[unm,if_neg hc]
      rw[hu]at hne h1 h2 h3 h4 hm p2 p3 hp
      obtain ⟨d1,d2,_⟩:=digit_of h4
      obtain ⟨u',q1,q2,q3⟩:=dec_of _ (c::r) rfl h4 hne (fun e=>by rcases h3 with h|h;exact absurd e h;simp only[List.length_cons]at h ⊢;omega)
      have e : u' = u := by have : (u' : Int) = u := by rw [q1, p2]; rfl
                            omega
      subst e
      have hv:numV (c::r)=(u':Int):=by unfold numV;rw[hu,if_neg (Nat.lt_irrefl _),←q1]
      rw[hv]
      constructor
      · rw[Lib.atoiAll_plain c r (by omega) (by omega),hm]
        unfold Lib.signless
        simp only[]
        rw[if_neg (by omega)]
      · unfold Lib.itoa
        rw[if_neg (by omega),Int.toNat_natCast,q2]
theorem lint_num (s:ByteArray):lintB s=numB s.data.toList∧(lintB s=true→atoiV s=numV s.data.toList):=by
  have key:lintB s=true→numB s.data.toList=true∧atoiV s=numV s.data.toList:=fun h=>by
    unfold lintB at h
    simp only[Bool.and_eq_true,decide_eq_true_eq,beq_iff_eq]at h
    obtain ⟨⟨h1,h2⟩,h3⟩:=h
    rw[Lib.toList_data,Lib.toList_data]at h2
    have h2:Lib.itoa (atoiV s)=s.data.toList:=by rw[←h2];rfl
    rw[trimM_size,←h2]at h3
    have:=itoa_num h3
    rw[h2]at this
    exact ⟨this.1,this.2.symm⟩
  refine ⟨?_,fun h=>(key h).2⟩
  rw[Bool.eq_iff_iff]
  refine ⟨fun h=>(key h).1,fun h=>?_⟩
  obtain ⟨g1,g2⟩:=num_itoa h
  have hV:atoiV s=numV s.data.toList:=by unfold atoiV;rw[g1]
  have hB:atoiB s=true:=by unfold atoiB;rw[g1]
  have h9:(trimM s).size≤9:=by
    rw[trimM_size]
    unfold numB at h
    simp only[Bool.and_eq_true,decide_eq_true_eq]at h
    exact h.1.1.2
  unfold lintB
  rw[hB,decide_eq_true h9,Lib.toList_data,Lib.toList_data,hV,show (itoaS (numV s.data.toList)).data.toList=s.data.toList from g2]
  simp
def spl:List UInt8→List (List UInt8)
  | []=>[[]]
  | c::r=>if c=10 then []::spl r else match spl r with
    | h::t=>(c::h)::t
    | []=>[[c]]
theorem index_cons_ne {b c:UInt8} {l:List UInt8} (h:b≠c):Lib.index (b::l) [c]=if Lib.index l [c] == -1 then -1 else Lib.index l [c]+1:=by
  conv=>lhs;unfold Lib.index
  have e:([c].isPrefixOf (b::l))=false:=by
    show ((c==b)&&_)=false
    rw[beq_false_of_ne (Ne.symm h)];rfl
  rw[e];rfl
theorem index_cons_eq (c:UInt8) (l:List UInt8):Lib.index (c::l) [c]=0:=by
  unfold Lib.index
  have e:([c].isPrefixOf (c::l))=true:=by simp
  rw[e];rfl
theorem index_cases (s sub:List UInt8):Lib.index s sub = -1 ∨ ∃ i:Nat,Lib.index s sub=i:=by
  rcases Lib.index_spec s sub with h|⟨i,h,_⟩
  · exact .inl h.1
  · exact .inr ⟨i,h⟩
theorem splitK_spl : ∀ s:List UInt8,Lib.splitK [10] 0 (Lib.count s [10]) s=spl s
  | []=>rfl
  | c::r=>by
    have ih:=splitK_spl r
    by_cases hc:c=10
    · subst hc
      rw[Lib.count_cons_eq,Nat.add_comm,Lib.splitK,index_cons_eq,spl,if_pos rfl,←ih]
      rfl
    · rw[Lib.count_cons_ne c 10 r hc,spl,if_neg hc,←ih]
      rcases index_cases r [10] with h|⟨i,h⟩
      · rw[Lib.count_miss h];rfl
      · have hcount:=Lib.count_hit (s:=r) (sub:=[10]) (i:=i) (by simp) h
        rw[hcount,Nat.add_comm,Lib.splitK,Lib.splitK,index_cons_ne hc,h]
        have e1:((i:Int) == -1)=false:=by rw[beq_eq_false_iff_ne];omega
        have e2:((i:Int)+1 == -1)=false:=by rw[beq_eq_false_iff_ne];omega
        have e3:((i:Int)+1).toNat=i+1:=by omega
        simp only[e1,e2,e3,Bool.false_eq_true,if_false,Int.toNat_natCast,Nat.add_zero,List.take_succ_cons,List.length_cons,List.length_nil,List.drop_succ_cons]
theorem splitL_spl (s:ByteArray):(splitL s nl).map (·.data.toList)=spl s.data.toList:=by
  unfold splitL
  rw[Lib.splitB_data]
  exact splitK_spl _
theorem cut_while (c:UInt8) : ∀ l:List UInt8,(Lib.cut l [c]).1=l.takeWhile (· != c)
  | []=>rfl
  | b::r=>by
    have ih:=cut_while c r
    by_cases hb:b=c
    · subst hb
      unfold Lib.cut
      rw[index_cons_eq,if_pos (Int.le_refl 0)]
      simp
    · have hbe:(b != c)=true:=by simp[hb]
      rw[List.takeWhile_cons,hbe,if_pos rfl,←ih]
      unfold Lib.cut
      rw[index_cons_ne hb]
      rcases index_cases r [c] with h|⟨i,h⟩
      · rw[h];rfl
      · rw[h]
        have e1:((i:Int) == -1)=false:=by rw[beq_eq_false_iff_ne];omega
        have e3:((i:Int)+1).toNat=i+1:=by omega
        simp only[e1,Bool.false_eq_true,if_false]
        rw[if_pos (by omega),if_pos (by omega),e3]
        simp
def bl (c:UInt8):Bool:=blank c.toNat
def fgo:List UInt8→List UInt8→List (List UInt8)
  | cur,[]=>if cur=[] then [] else [cur]
  | cur,c::r=>if bl c=true then (if cur=[] then fgo [] r else cur::fgo [] r) else fgo (cur++[c]) r
theorem fgo_run : ∀ (l cur r:List UInt8),(∀ c∈l,bl c=false)→fgo cur (l++r)=fgo (cur++l) r
  | [],cur,r,_=>by simp
  | c::l,cur,r,h=>by
    rw[List.cons_append,fgo,if_neg (by rw[h c (by simp)];exact Bool.false_ne_true),fgo_run l (cur++[c]) r (fun d hd=>h d (by simp[hd]))]
    simp
theorem blank_small {x:Nat} (h:blank x=true):x<128:=by
  unfold blank at h
  have h:=of_decide_eq_true h
  simp only[List.mem_cons,List.not_mem_nil,or_false]at h
  omega
theorem get_list (s:ByteArray) (i:Nat) (h:i<s.size):s.data.toList[i]?=some (s.get! i):=by
  obtain ⟨⟨l⟩⟩:=s
  have h:i<l.length:=h
  show l[i]?=some (l.toArray[i]!)
  rw[getElem!_pos l.toArray i (by simpa using h)]
  simp[h]
theorem drop_take_get (s:ByteArray) (pos k:Nat) (h:pos+k≤s.size) : ∀ c∈(s.data.toList.drop pos).take k,∃ j,j<k∧c=s.get! (pos+j):=by
  intro c hc
  obtain ⟨j,hj⟩:=List.mem_iff_getElem?.1 hc
  rw[List.getElem?_take]at hj
  split at hj
  · rename_i hjk
    rw[List.getElem?_drop,get_list s (pos+j) (by omega)]at hj
    cases hj
    exact ⟨j,hjk,rfl⟩
  · cases hj
theorem decode_big (s:ByteArray) (pos:Nat) (hp:pos<s.size):((s.get! pos).toNat<128∧Utf8.decode s pos=((s.get! pos).toNat,1)) ∨
    (128≤(s.get! pos).toNat∧128≤(Utf8.decode s pos).1∧1≤(Utf8.decode s pos).2∧pos+(Utf8.decode s pos).2≤s.size ∧ ∀ j,j<(Utf8.decode s pos).2→128≤(s.get! (pos+j)).toNat):=by
  by_cases h:(s.get! pos).toNat<128
  · left
    refine ⟨h,?_⟩
    unfold Utf8.decode
    simp only[Nat.add_zero]
    rw[if_pos h]
  · right
    refine ⟨by omega,?_⟩
    have one : ∀ j,j<1→128≤(s.get! (pos+j)).toNat:=fun j hj=>by
      obtain rfl:j=0:=by omega
      exact Nat.not_lt.1 h
    unfold Utf8.decode
    simp only[Nat.add_zero]
    rw[if_neg h]
    have bad:128≤Utf8.runeError∧1≤1∧pos+1≤s.size ∧ ∀ j,j<1→128≤(s.get! (pos+j)).toNat:=⟨by decide,Nat.le_refl _,hp,one⟩
    split
    · rename_i h2
      split
      · rename_i h3
        simp only[Bool.and_eq_true,decide_eq_true_eq,beq_iff_eq]at h2
        refine ⟨h3,(by show 1≤2;decide),by simp only[];omega,fun j hj=>?_⟩
        simp only[]at hj
        match j,hj with
        | 0,_=>exact one 0 (by omega)
        | 1,_=>omega
      · exact bad
    · split
      · rename_i h2
        split
        · rename_i h3
          simp only[Bool.and_eq_true,decide_eq_true_eq,beq_iff_eq]at h2 h3
          refine ⟨by simp only[];omega,Nat.le_add_left 1 _,by simp only[];omega,fun j hj=>?_⟩
          simp only[]at hj
          match j,hj with
          | 0,_=>exact one 0 (by omega)
          | 1,_=>omega
          | 2,_=>omega
        · exact bad
      · split
        · rename_i h2
          split
          · rename_i h3
            simp only[Bool.and_eq_true,decide_eq_true_eq,beq_iff_eq]at h2 h3
            refine ⟨by simp only[];omega,Nat.le_add_left 1 _,by simp only[];omega,fun j hj=>?_⟩
            simp only[]at hj
            match j,hj with
            | 0,_=>exact one 0 (by omega)
            | 1,_=>omega
            | 2,_=>omega
            | 3,_=>omega
          · exact bad
        · exact bad
def openP (l:List UInt8) (st:Option Nat) (pos:Nat):List UInt8:=match st with|some a=>Lib.pieceU l a pos|none=>[]
theorem spans_fgo (s:ByteArray) : ∀ (f pos:Nat) (st:Option Nat) (acc:List (Nat×Nat)),s.size≤pos+f→pos≤s.size→(∀ a,st=some a→a<pos) →
    acc.map (fun p=>Lib.pieceU s.data.toList p.1 p.2)++fgo (openP s.data.toList st pos) (s.data.toList.drop pos)=(Lib.closeSpans s (Lib.spansFromP blank s f pos st acc)).map (fun p=>Lib.pieceU s.data.toList p.1 p.2):=by
  have fin : ∀ (f:Nat) (st:Option Nat) (acc:List (Nat×Nat)),(∀ a,st=some a→a<s.size) →
      acc.map (fun p=>Lib.pieceU s.data.toList p.1 p.2)++fgo (openP s.data.toList st s.size) (s.data.toList.drop s.size)=(Lib.closeSpans s (Lib.spansFromP blank s f s.size st acc)).map (fun p=>Lib.pieceU s.data.toList p.1 p.2):=fun f st acc hst=>by
    have hd:s.data.toList.drop s.size=[]:=List.drop_eq_nil_of_le (by rw[←Lib.size_eq];exact Nat.le_refl _)
    rw[hd,Lib.spansFromP_end blank s _ _ _ _ (Nat.lt_irrefl _)]
    cases st with
    | none=>simp[Lib.closeSpans,openP,fgo]
    | some a =>
      have:=Lib.pieceU_ne s.data.toList a s.size (hst a rfl) (by rw[←Lib.size_eq];exact Nat.le_refl _)
      simp[Lib.closeSpans,openP,fgo,this]
  intro f
  induction f with
  | zero =>
    intro pos st acc h hp hst
    obtain rfl:pos=s.size:=by omega
    exact fin 0 st acc hst
  | succ f ih =>
    intro pos st acc h hp hst
    by_cases hlt:pos<s.size
    · unfold Lib.spansFromP
      rw[if_pos hlt]
      have hd:s.data.toList.drop pos=s.get! pos::s.data.toList.drop (pos+1):=by
        have:=get_list s pos hlt
        rw[List.drop_eq_getElem?_toList_append,this];rfl
      rcases decode_big s pos hlt with ⟨hb,e⟩|⟨hb,hr,hw,hwn,hall⟩
      · rw[e]
        simp only[]
        cases hsp:blank (s.get! pos).toNat with
        | true =>
          rw[if_pos rfl,hd,fgo,if_pos (show bl (s.get! pos)=true from hsp)]
          cases st with
          | none =>
            have ih:=ih (pos+1) none acc (by omega) hlt (fun a h=>by cases h)
            simpa [openP] using ih
          | some a =>
            have hpn:=Lib.pieceU_ne s.data.toList a pos (hst a rfl) (by rw[←Lib.size_eq];omega)
            have ih:=ih (pos+1) none (acc++[(a,pos)]) (by omega) hlt (fun a h=>by cases h)
            simpa [openP,hpn] using ih
        | false =>
          have hbl:¬ bl (s.get! pos)=true:=by unfold bl;rw[hsp];exact Bool.false_ne_true
          rw[if_neg Bool.false_ne_true,hd,fgo,if_neg hbl]
          have e1:(s.data.toList.drop pos).take 1=[s.get! pos]:=by rw[hd];rfl
          cases st with
          | none =>
            have ih:=ih (pos+1) (some pos) acc (by omega) hlt (fun a h=>by cases h;omega)
            have e:([]:List UInt8)++[s.get! pos]=Lib.pieceU s.data.toList pos (pos+1):=by
              unfold Lib.pieceU
              rw[List.nil_append,Nat.add_sub_cancel_left,e1]
            simp only[openP]at ih ⊢
            rw[e]
            exact ih
          | some a =>
            have ih:=ih (pos+1) (some a) acc (by omega) hlt (fun b h=>by cases h;have:=hst a rfl;omega)
            simp only[openP]at ih ⊢
            rw[←e1,Lib.pieceU_grow _ _ _ _ (Nat.le_of_lt (hst a rfl))]
            exact ih
      · generalize Utf8.decode s pos=d at *
        obtain ⟨ru,k⟩:=d
        simp only[]at hr hw hwn hall ⊢
        have hnb:blank ru=false:=by
          rw[Bool.eq_false_iff];intro h;have:=blank_small h;omega
        rw[hnb,if_neg Bool.false_ne_true]
        have hsplit:s.data.toList.drop pos=(s.data.toList.drop pos).take k++s.data.toList.drop (pos+k):=by
          rw[←List.drop_drop,List.take_append_drop]
        have hcl : ∀ c∈(s.data.toList.drop pos).take k,bl c=false:=fun c hc=>by
          obtain ⟨j,hj,rfl⟩:=drop_take_get s pos k hwn c hc
          have:=hall j hj
          rw[Bool.eq_false_iff];intro h;have:=blank_small h;omega
        rw[hsplit,fgo_run _ _ _ hcl]
        cases st with
        | none =>
          have ih:=ih (pos+k) (some pos) acc (by omega) hwn (fun a h=>by cases h;omega)
          have e:([]:List UInt8)++(s.data.toList.drop pos).take k=Lib.pieceU s.data.toList pos (pos+k):=by
            unfold Lib.pieceU
            rw[List.nil_append,Nat.add_sub_cancel_left]
          simp only[openP]at ih ⊢
          rw[e]
          exact ih
        | some a =>
          have ih:=ih (pos+k) (some a) acc (by omega) hwn (fun b h=>by cases h;have:=hst a rfl;omega)
          simp only[openP]at ih ⊢
          rw[Lib.pieceU_grow _ _ _ _ (Nat.le_of_lt (hst a rfl))]
          exact ih
    · obtain rfl:pos=s.size:=by omega
      exact fin _ st acc hst
def mkB (l:List UInt8):ByteArray:=⟨l.toArray⟩
theorem mkB_data (s:ByteArray):mkB s.data.toList=s:=Lib.mk_data s
theorem fields_fgo (s:ByteArray):Lib.goFieldsP blank s=(fgo [] s.data.toList).map mkB:=by
  have h:=spans_fgo s s.size 0 none [] (by omega) (Nat.zero_le _) (fun a h=>by cases h)
  simp only[List.map_nil,List.nil_append,openP,List.drop_zero]at h
  rw[h]
  unfold Lib.goFieldsP Lib.spansOfP
  rw[List.map_map]
  refine List.map_congr_left fun p _=>?_
  show s.extract p.1 p.2=mkB (Lib.pieceU s.data.toList p.1 p.2)
  rw[Lib.extract_eq];rfl
def wordsB (l:List UInt8):List ByteArray:=(fgo [] (l.takeWhile (· != 35))).map mkB
theorem wordsOf_eq (u:ByteArray):wordsOf u=wordsB u.data.toList:=by
  unfold wordsOf wordsB cutM
  rw[fields_fgo]
  congr 2
  exact cut_while 35 _
def one1 (w:List UInt8) (n:Int):List (Int×List ByteArray):=if (wordsB w).length>0 then [(n+1,wordsB w)] else []
def lf:List UInt8→List UInt8→Int→List (Int×List ByteArray)
  | cur,[],n=>one1 cur n
  | cur,c::r,n=>if c=10 then one1 cur n++lf [] r (n+1) else lf (cur++[c]) r n
def lfrom:List (List UInt8)→Int→List (Int×List ByteArray)
  | [],_=>[]
  | l::r,i=>one1 l i++lfrom r (i+1)
theorem linesFrom_eq : ∀ (L:List ByteArray) (i:Int),linesFrom L i=lfrom (L.map (·.data.toList)) i
  | [],_=>rfl
  | l::r,i=>by
    rw[linesFrom,List.map_cons,lfrom,one1,←wordsOf_eq,linesFrom_eq r (i+1)]
    split <;> rfl
theorem spl_ne (l:List UInt8) : ∃ h t,spl l=h::t:=by
  cases l with
  | nil=>exact ⟨_,_,rfl⟩
  | cons c r =>
    unfold spl
    split
    · exact ⟨_,_,rfl⟩
    · split <;> exact ⟨_,_,rfl⟩
theorem lf_spl : ∀ (l cur:List UInt8) (n:Int),lf cur l n=match spl l with|h::t=>one1 (cur++h) n++lfrom t (n+1)|[]=>[]
  | [],cur,n=>by simp[lf,spl,lfrom]
  | c::r,cur,n=>by
    rw[lf,spl]
    by_cases hc:c=10
    · rw[if_pos hc,if_pos hc,lf_spl r [] (n+1)]
      obtain ⟨h,t,e⟩:=spl_ne r
      rw[e]
      simp[lfrom]
    · rw[if_neg hc,if_neg hc,lf_spl r (cur++[c]) n]
      obtain ⟨h,t,e⟩:=spl_ne r
      rw[e]
      simp
theorem linesOf_lf (s:ByteArray):linesOf s=lf [] s.data.toList 0:=by
  unfold linesOf
  rw[linesFrom_eq,splitL_spl,lf_spl]
  obtain ⟨h,t,e⟩:=spl_ne s.data.toList
  rw[e];rfl
theorem spl_length (l:List UInt8):(spl l).length≤l.length+1:=by
  induction l with
  | nil=>exact Nat.le_refl _
  | cons c r ih =>
    unfold spl
    split
    · simpa using ih
    · obtain ⟨h,t,e⟩:=spl_ne r
      rw[e]at ih ⊢
      simp only[List.length_cons]at ih ⊢;omega
theorem spl_mem : ∀ (l:List UInt8) (x:List UInt8),x∈spl l→x.length≤l.length
  | [],x,h=>by simp[spl]at h;subst h;exact Nat.le_refl _
  | c::r,x,h=>by
    unfold spl at h
    split at h
    · rcases List.mem_cons.1 h with rfl|h
      · exact Nat.zero_le _
      · have:=spl_mem r x h;simp only[List.length_cons];omega
    · obtain ⟨a,t,e⟩:=spl_ne r
      rw[e]at h
      rcases List.mem_cons.1 h with rfl|h
      · have:=spl_mem r a (by rw[e];simp);simp only[List.length_cons];omega
      · have:=spl_mem r x (by rw[e];simp[h]);simp only[List.length_cons];omega
theorem fit_of (s:ByteArray) (h:s.size≤900000):LinesFit s:=by
  have hl:(splitL s nl).length=(spl s.data.toList).length:=by rw[←splitL_spl,List.length_map]
  have hs:=spl_length s.data.toList
  rw[←Lib.size_eq]at hs
  have hm : ∀ l∈splitL s nl,l.size≤s.size:=fun l hl=>by
    have:l.data.toList∈spl s.data.toList:=by rw[←splitL_spl];exact List.mem_map.2 ⟨l,hl,rfl⟩
    have:=spl_mem _ _ this
    rw[←Lib.size_eq,←Lib.size_eq]at this
    exact this
  refine ⟨by omega,by omega,fun l hl=>⟨by have:=hm l hl;omega,?_⟩⟩
  have e:(cutM l).size≤l.size:=by
    show (Lib.cut l.data.toList [35]).1.length≤_
    rw[cut_while,Lib.size_eq]
    exact (List.takeWhile_prefix _).length_le
  have:=hm l hl
  omega
end Go.Proofs.YtmcbljjgkmkhcaaGreatDoor
namespace Ax
open Go Go.RowKit
abbrev Gr (α:Type):Type:=Option (List α×Nat)
def gx {α:Type}:Gr α→List α
  | none=>[]
  | some r=>r.1
def gl {α:Type}:Gr α→Nat
  | none=>0
  | some r=>r.1.length
theorem gl_eq {α:Type} (g:Gr α):gl g=(gx g).length:=by cases g <;> rfl
def gnd {α:Type} (n:Nat):Gr α→Prop
  | none=>True
  | some r=>n=r.1.length∧r.2=r.2
theorem gnd_gl {α:Type} (g:Gr α):gnd (gl g) g:=by
  cases g with
  | none=>trivial
  | some r=>exact ⟨rfl,rfl⟩
theorem gnd_app {α:Type} (g:Gr α) (v:α) (k:Nat):gnd (gl g+1) (some (gx g++[v],k)):=⟨by rw[List.length_append,gl_eq];rfl,rfl⟩
def appG {α β:Type} (b:Nat) (g:Gr α) (v:α) (K:Nat→Gr α→T β):T β:=match g with
  | none=>.need (List.length [v]*(b+1)≤140737488355328∧List.length [v]≤maxLen) (.up (List.length [v]) fun k=>K (List.length [v]) (some ([v],k)))
  | some r=>.need (List.length r.1=List.length r.1∧r.2=r.2∧(List.length r.1+List.length [v])*(b+1)≤140737488355328∧List.length r.1+List.length [v]≤maxLen) (.and (K (List.length r.1+List.length [v]) (some (r.1++[v],r.2))) (.up (List.length r.1+List.length [v]) fun k=>K (List.length r.1+List.length [v]) (some (r.1++[v],k))))
theorem appG_wp {α β:Type} {b:Nat} {g:Gr α} {v:α} {K:Nat→Gr α→T β} {R:β→Prop} (h1:(gl g+1)*(b+1)≤140737488355328) (h2:gl g+1≤maxLen)
    (h : ∀ k,(K (gl g+1) (some (gx g++[v],k))).wp R):(appG b g v K).wp R:=by
  cases g with
  | none =>
    have e:gl (none:Gr α)=0:=rfl
    rw[e]at h1 h2
    exact ⟨⟨h1,h2⟩,fun k _=>h k⟩
  | some r=>exact ⟨⟨rfl,rfl,h1,h2⟩,h r.2,fun k _=>h k⟩
def finG {α A B C:Type} (e:A) (avs:B) (y:C) (g:Gr α) (W:List α):T (A×B×C×Gr α):=match g with
  | none=>.ite W.isEmpty (.ret (e,avs,y,none)) (.up 0 fun k=>.ret (e,avs,y,some (W,k)))
  | some r=>.up 0 fun k=>.ret (e,avs,y,some (r.1++W,k))
theorem finG_nil {α A B C:Type} {e:A} {avs:B} {y:C} {g:Gr α} {Q:A×B×C×Gr α→Prop} (h:(finG e avs y g []).wp Q):Q (e,avs,y,g):=by
  cases g with
  | none=>exact h.1 rfl
  | some r =>
    have:=h r.2 (Nat.zero_le _)
    rw[List.append_nil]at this
    exact this
theorem finG_cons {α A B C:Type} {e:A} {avs:B} {y:C} {g:Gr α} {v:α} {W:List α} {Q:A×B×C×Gr α→Prop} (h:(finG e avs y g (v::W)).wp Q) (k:Nat):(finG e avs y (some (gx g++[v],k)) W).wp Q:=by
  cases g with
  | none=>exact h.2 rfl
  | some r =>
    intro j hj
    have:=h j hj
    show Q (e,avs,y,some ((r.1++[v])++W,j))
    rw[List.append_assoc]
    exact this
end Ax
namespace Go.Proofs.YtmcbljjgkmkhcaaGreatDoor
open Go.RowKit Ax
theorem bl_of {c:UInt8}:bl c=decide (c.toNat=32∨c.toNat=9∨c.toNat=13):=by
  unfold bl blank
  rw[decide_eq_decide]
  simp only[List.mem_cons,List.not_mem_nil,or_false]
  omega
theorem nil_av2L {w:World} {R:Nat→Prop} {σ:List Nat} {c:Cd} {a:Av} {v:Value} (h:AvIs w R σ (.tup [.one (.v (.slice none 0 0)),a]) v):AvIs w R σ (.tup [.one (.ds c []),a]) v:=by
  cases h with
  | tup us hl hi =>
    refine .tup us hl fun i x u hx hu=>?_
    match i,hx with
    | 0,hx =>
      have hx:Av.one (.ds c [])=x:=by simpa using hx
      subst hx
      exact nil_av1 (hi 0 _ u rfl hu)
    | 1,hx=>exact hi 1 x u hx hu
theorem bytes_beq (a b:ByteArray):(a.toList==b.toList)=decide (a=b):=by
  rw[Bool.eq_iff_iff,beq_iff_eq,decide_eq_true_iff,Lib.toList_data,Lib.toList_data]
  refine ⟨fun h=>?_,fun h=>by rw[h]⟩
  rw[←Lib.mk_data a,←Lib.mk_data b,h]
theorem numB_of (s:ByteArray) (b:Bool) (h:numB s.data.toList=b):lintB s=b:=(lint_num s).1.trans h
theorem k12:lintB ⟨#[45,49,50]⟩=true:=numB_of _ _ (by kernel_rfl)
theorem v12:atoiV ⟨#[45,49,50]⟩ = -12:=((lint_num _).2 k12).trans (by kernel_rfl)
theorem nd_le : ∀ (k u:Nat),u<10^(k+1)→Lib.nDigits u≤k+1
  | 0,u,h=>by rw[Lib.nDigits_small (by simpa using h)];exact Nat.le_refl _
  | k+1,u,h=>by
    by_cases h10:u<10
    · rw[Lib.nDigits_small h10];omega
    · rw[Nat.pow_succ]at h
      have:=nd_le k (u/10) (by omega)
      rw[Lib.nDigits_big h10];omega
theorem unm_itoa (v:Int):unm (Lib.itoa v)=Lib.decDigits v.natAbs:=by
  unfold Lib.itoa
  split
  · rfl
  · obtain ⟨c,r,e,h1,h2,h3⟩:=dec_head v.toNat
    have hc:c≠45:=fun e=>by subst e;exact absurd h1 (by decide)
    rw[show v.natAbs=v.toNat by omega,e,unm,if_neg hc]
theorem itoa_ne (v:Int):Lib.itoa v≠[]:=by
  intro e
  have h:=unm_itoa v
  rw[e]at h
  obtain ⟨c,r,e2,_⟩:=dec_head v.natAbs
  rw[e2]at h
  cases h
theorem num9 {v:Int} (h:v.natAbs<1000000000):lintB (mkB (Lib.itoa v))=true∧atoiV (mkB (Lib.itoa v))=v:=by
  have h9:(unm (Lib.itoa v)).length≤9:=by
    rw[unm_itoa,Lib.decDigits_length]
    exact nd_le 8 _ (by omega)
  obtain ⟨g1,g2⟩:=itoa_num h9
  have hb:lintB (mkB (Lib.itoa v))=true:=(lint_num _).1.trans g1
  exact ⟨hb,((lint_num _).2 hb).trans g2⟩
end Go.Proofs.YtmcbljjgkmkhcaaGreatDoor
namespace Ax
open Go Go.RowKit
section
variable {P:Program} {E:Env P} {L:Loops} {w:World} {φ φ':List Nat}
end
def lin:T Av→Option (Prop×Av)
  | .ret a=>some (True,a)
  | .need p t=>match lin t with
    | some (q,a)=>some (p∧q,a)
    | none=>none
  | .lt x k=>lin (k x)
  | _=>none
theorem lin_wp {Q:Av→Prop} : ∀ (t:T Av) {p:Prop} {a:Av},lin t=some (p,a)→p→Q a→t.wp Q
  | .ret b,p,a,h,_,hQ=>by cases h;exact hQ
  | .need q t,p,a,h,hp,hQ=>by
    unfold lin at h
    split at h
    · rename_i q' a' e
      cases h
      exact ⟨hp.1,lin_wp t e hp.2 hQ⟩
    · cases h
  | .lt x k,p,a,h,hp,hQ=>lin_wp (k x) h hp hQ
  | .ite _ _ _,_,_,h,_,_=>by cases h
  | .and _ _,_,_,h,_,_=>by cases h
  | .get _ _ _,_,_,h,_,_=>by cases h
  | .up _ _,_,_,h,_,_=>by cases h
  | .fail,_,_,h,_,_=>by cases h
structure PCon {P:Program} (con:List (Con P)):Type 1 where
  f:FuncId
  ts:List (Bool×Cd)
  sp:Els ts→T Av
  at_ : ∃ c,con.find? (fun c=>c.f==f)=some c∧c.pos=[]∧c.run=pureRun' ts sp
section
variable {P:Program} {con:List (Con P)}
def callP (PC:List (PCon con)) (fr:List Av) (o:Oper):Option (Prop×Av):=
  match o.guard,o.op with
  | none,.call c=>match calF fr c.callee with
    | some f=>match PC.find? fun c=>c.f==f with
      | some p=>match decs p.ts (c.args.toList.map (operand fr)) with
        | some x=>lin (p.sp x)
        | none=>none
      | none=>none
    | none=>none
  | _,_=>none
theorem closeI_nil (m:Mem) : ∀ k,closeI m k []=[]
  | 0=>rfl
  | k+1=>by rw[closeI];exact closeI_nil m k
theorem call_aE {E:Env P} {fr:List Av} {m:Mem} {o:Oper} {c:Call} {f:FuncId} (hop:o.op=.call c) (h:calF fr c.callee=some f):aE E fr m o=optT (E.con.find? fun c=>c.f==f) fun k=>(k.run (c.args.toList.map (operand fr)) m).bind fun (av,m')=>.ret ⟨av,m',wrOf k.pos (c.args.toList.map (operand fr)) m⟩:=by
  obtain ⟨callee,ars,ts⟩:=c
  match callee,h with
  | .value (.func g),h =>
    have:g=f:=Option.some.inj h
    subst this
    unfold aE
    rw[hop]
  | .value (.tmp t),h =>
    unfold aE
    rw[hop]
    simp only[]
    rw[h]
theorem callP_wp {PC:List (PCon con)} {E:Env P} (hE:E.con=con) {fr:List Av} {m:Mem} {o:Oper} {p:Prop} {av:Av} {K:Ef→Prop} (h:callP PC fr o=some (p,av)) (hp:p) (hK:K ⟨av,m,[]⟩):o.guard=none∧(aE E fr m o).wp K:=by
  unfold callP at h
  split at h
  · rename_i cl hg hop
    refine ⟨hg,?_⟩
    split at h
    · rename_i f hcf
      split at h
      · rename_i c hc
        split at h
        · rename_i x hx
          obtain ⟨c0,h1,h2,h3⟩:=c.at_
          have hf:c.f=f:=by simpa using List.find?_some hc
          rw[call_aE hop hcf,hE,←hf,h1]
          show ((c0.run _ m).bind _).wp K
          rw[h3,T.wp_bind]
          unfold pureRun'
          rw[hx]
          simp only[T.wp_bind]
          refine lin_wp _ h hp ?_
          show K ⟨av,m,wrOf c0.pos _ m⟩
          rw[h2]
          show K ⟨av,m,closeI m 3 []⟩
          rw[closeI_nil]
          exact hK
        · cases h
      · cases h
    · cases h
  · cases h
def bsl (E:Env P) (t:TypeId) (len:Nat) (ps:List (Nat×Av)):Option (Prop×Av):=match P.underlying t with
  | some (.slice e)=>match E.cod.find? fun c=>c.ty==e with
    | some C=>match decodes C.c ps 0 with
      | some xs=>if xs.length=len∧len*csz C.c≤16777216 then some (True,.one (.ds C.c xs)) else none
      | none=>none
    | none=>none
  | _=>none
def valP (PC:List (PCon con)) (E:Env P) (m:Mem) (fr:List Av) (o:Oper):Option (Prop×Av):=
  match o.op with
  | .load t x=>match o.guard with
    | none=>lin (aLoad P (fun _=>true) m t (operand fr x))
    | some _=>none
  | .buildSlice t len ps=>match o.guard with
    | none=>bsl E t len (ps.toList.map fun p=>(p.1,operand fr p.2))
    | some _=>none
  | _=>callP PC fr o
theorem valP_wp {PC:List (PCon con)} {E:Env P} (hE:E.con=con) {fr:List Av} {m:Mem} {o:Oper} {p:Prop} {av:Av} {K:Ef→Prop} (h:valP PC E m fr o=some (p,av)) (hp:p) (hK:K ⟨av,m,[]⟩):o.guard=none∧(aE E fr m o).wp K:=by
  unfold valP at h
  split at h
  · rename_i t x hop
    split at h
    · rename_i hg
      refine ⟨hg,?_⟩
      unfold aE
      simp only[hop]
      rw[T.wp_bind]
      unfold aS
      simp only[hop]
      exact lin_wp _ h hp hK
    · cases h
  · rename_i t len ps hop
    split at h
    · rename_i hg
      refine ⟨hg,?_⟩
      unfold aE
      simp only[hop]
      unfold bsl at h
      split at h
      · rename_i e hu
        split at h
        · rename_i C hC
          split at h
          · rename_i xs hx
            split at h
            · rename_i hc
              cases h
              simp only[hu,hC,hx]
              simp only[optT,optN,hu,hC,hx]
              rw[if_pos hc]
              exact hK
            · cases h
          · cases h
        · cases h
      · cases h
    · cases h
  · exact callP_wp hE h hp hK
def isT (d:Tmp):Operand→Bool
  | .tmp t=>decide (t=d)
  | _=>false
def readsB (o:Oper) (d:Tmp):Bool:=match o.op with
  | .call c=>c.args.toList.any (isT d)||(match c.callee with
    | .value x=>isT d x
    | _=>false)
  | .load _ x=>isT d x
  | .buildSlice _ _ ps=>ps.toList.any fun p=>isT d p.2
  | _=>true
theorem getD_set {fr:List Av} {d t:Tmp} {av:Av} (h:¬ t=d):(fr.set d av).getD t .any=fr.getD t .any:=by
  rw[List.getD_eq_getElem?_getD,List.getD_eq_getElem?_getD,List.getElem?_set,if_neg (fun e=>h e.symm)]
theorem operand_set {fr:List Av} {d:Tmp} {av:Av} {x:Operand} (h:isT d x=false):operand (fr.set d av) x=operand fr x:=by
  cases x with
  | tmp t=>exact getD_set (by simpa [isT] using h)
  | const v=>cases v <;> rfl
  | global g=>rfl
  | func g=>rfl
theorem callP_set {PC:List (PCon con)} {fr:List Av} {o:Oper} {d:Tmp} {av:Av} (h:readsB o d=false):callP PC (fr.set d av) o=callP PC fr o:=by
  unfold callP
  split
  · rename_i c hg hop
    unfold readsB at h
    rw[hop]at h
    simp only[Bool.or_eq_false_iff]at h
    obtain ⟨h,h2⟩:=h
    have e:c.args.toList.map (operand (fr.set d av))=c.args.toList.map (operand fr):=by
      refine List.map_congr_left fun x hx=>operand_set ?_
      have:=List.any_eq_false.1 h x hx
      simpa using this
    have e2:calF (fr.set d av) c.callee=calF fr c.callee:=by
      cases hc:c.callee with
      | value x =>
        rw[hc]at h2
        cases x with
        | tmp t =>
          unfold calF
          simp only[]
          rw[getD_set (by simpa [isT] using h2)]
        | _=>rfl
      | _=>rfl
    rw[e,e2]
  · rfl
theorem valP_set {PC:List (PCon con)} {E:Env P} {m:Mem} {fr:List Av} {o:Oper} {d:Tmp} {av:Av} (h:readsB o d=false):valP PC E m (fr.set d av) o=valP PC E m fr o:=by
  unfold valP
  split
  · rename_i t x hop
    unfold readsB at h
    rw[hop]at h
    rw[operand_set h]
  · rename_i t len ps hop
    unfold readsB at h
    rw[hop]at h
    have e:ps.toList.map (fun p=>(p.1,operand (fr.set d av) p.2))=ps.toList.map (fun p=>(p.1,operand fr p.2)):=by
      refine List.map_congr_left fun x hx=>?_
      have:=List.any_eq_false.1 h x hx
      rw[operand_set (by simpa using this)]
    rw[e]
  · exact callP_set h
def setAll (l:Array Bool):List Nat→Array Bool
  | []=>l
  | i::r=>setAll (l.setIfInBounds i true) r
def putAll (fr:List Av):List (Tmp×Av)→List Av
  | []=>fr
  | (d,av)::r=>putAll (fr.set d av) r
theorem setAll_at : ∀ (xs:List Nat) (l:Array Bool) (k:Nat),(setAll l xs)[k]?=if k∈xs∧k<l.size then some true else l[k]?
  | [],l,k=>by simp[setAll]
  | i::r,l,k=>by
    rw[setAll,setAll_at r,Array.size_setIfInBounds]
    by_cases hk:k<l.size
    · by_cases h1:k∈r
      · rw[if_pos ⟨h1,hk⟩,if_pos ⟨List.mem_cons_of_mem _ h1,hk⟩]
      · rw[if_neg (fun h=>h1 h.1)]
        by_cases h2:k=i
        · subst h2
          rw[if_pos ⟨by simp,hk⟩]
          simp[hk]
        · rw[if_neg (fun h=>by rcases List.mem_cons.1 h.1 with h|h;exact h2 h;exact h1 h),Array.getElem?_setIfInBounds_ne (Ne.symm h2)]
    · rw[if_neg (fun h=>hk h.2),if_neg (fun h=>hk h.2)]
      rw[Array.getElem?_eq_none (by simpa using hk),Array.getElem?_eq_none (by simpa using hk)]
theorem setAll_swap {l:Array Bool} {i:Nat} {xs ys:List Nat} (h : ∀ k,k∈ys↔k=i∨k∈xs):setAll (l.setIfInBounds i true) xs=setAll l ys:=by
  refine Array.ext_getElem? fun k=>?_
  rw[show setAll (l.setIfInBounds i true) xs=setAll l (i::xs) from rfl,setAll_at,setAll_at]
  have:(k∈i::xs)↔k∈ys:=by rw[h k,List.mem_cons]
  simp only[this]
theorem putAll_at : ∀ (l1 l2:List (Tmp×Av)) (fr:List Av) (d:Tmp) (av:Av),(∀ p∈l1,p.1≠d)→putAll fr (l1++(d,av)::l2)=putAll (fr.set d av) (l1++l2)
  | [],l2,fr,d,av,_=>rfl
  | (e,bv)::l1,l2,fr,d,av,h=>by
    have h1:=h (e,bv) (by simp)
    show putAll (fr.set e bv) (l1++(d,av)::l2)=putAll ((fr.set d av).set e bv) (l1++l2)
    rw[putAll_at l1 l2 _ d av fun p hp=>h p (by simp[hp]),List.set_comm _ _ (by simpa using h1)]
theorem branch_all {α:Type} {f:Nat→T α} {Q:α→Prop} : ∀ {rs:List Nat},rs≠[]→(∀ i∈rs,(f i).wp Q)→(branch f rs).wp Q
  | [],h,_=>absurd rfl h
  | [i],_,h=>h i (by simp)
  | i::j::r,_,h=>⟨h i (by simp),branch_all (rs:=j::r) (by simp) fun k hk=>h k (by simp[hk])⟩
structure Val (PC:List (PCon con)) (E:Env P) (m:Mem) (ops:Array Oper) (fr:List Av) (i:Nat) (d:Tmp) (p:Prop) (av:Av) (o:Oper):Prop where
  at_:ops[i]?=some o
  dst:o.dst=some d
  val:valP PC E m fr o=some (p,av)
def bVals (PC:List (PCon con)) (E:Env P) (m:Mem) (ops:Array Oper) (fr:List Av):List Nat→Option (Prop×List (Tmp×Av))
  | []=>some (True,[])
  | i::r=>match ops[i]? with
    | some o=>match o.dst,valP PC E m fr o,bVals PC E m ops fr r with
      | some d,some (p,av),some (q,l)=>some (p∧q,(d,av)::l)
      | _,_,_=>none
    | none=>none
def dstOf (ops:Array Oper) (i:Nat):Tmp:=((ops[i]?).bind (·.dst)).getD 0
def bOk (ops:Array Oper) (sd:Nat→Bool) (ps:List Nat) (listed:Array Bool) (B:List Nat):Bool:=
  nodB B&&nodB (B.map (dstOf ops))&&B.all fun i => !sd i&&(B.all fun j=>match ops[j]? with
    | some o => !readsB o (dstOf ops i)
    | none=>false)&&(later ops ps (setAll listed (B.erase i))).all fun j=>decide (j=i)
structure Bun (PC:List (PCon con)) (E:Env P) (m:Mem) (ops:Array Oper) (sd:Nat→Bool) (ps:List Nat) (listed:Array Bool) (fr:List Av) (B:List Nat) (vs:List (Tmp×Av)):Prop where
  len:vs.length=B.length
  nd:B.Nodup
  ndd:(vs.map (·.1)).Nodup
  rdy : ∀ i∈B,i∈Region.ready .any ops listed∧i ∉ ps∧sd i=false
  val : ∀ (k i:Nat) (v:Tmp×Av),B[k]?=some i→vs[k]?=some v → ∃ o p,p∧Val PC E m ops fr i v.1 p v.2 o
  rd : ∀ i∈B,∀ o,ops[i]?=some o → ∀ v∈vs,readsB o v.1=false
  lat : ∀ i∈B,∀ j∈later ops ps (setAll listed (B.erase i)),j=i
theorem mem_later {ops:Array Oper} {ps:List Nat} {l:Array Bool} {j:Nat}:j∈later ops ps l↔l.getD j true=false∧j ∉ ps ∧ ∃ o,ops[j]?=some o ∧ ∀ e∈o.after,Region.binds .any e=true→l.getD e.on false=true∨e.on∈ps:=by
  unfold later
  rw[List.mem_filter]
  constructor
  · rintro ⟨h1,h2⟩
    simp only[Bool.and_eq_true,Bool.not_eq_true',List.contains_eq_mem,decide_eq_false_iff_not]at h2
    obtain ⟨⟨h2,h3⟩,h4⟩:=h2
    split at h4
    · rename_i o ho
      refine ⟨h2,h3,o,ho,fun e he hb=>?_⟩
      have:=Array.all_eq_true_iff_forall_mem.1 h4 e he
      simp only[hb,Bool.not_true,Bool.false_or,Bool.or_eq_true,decide_eq_true_eq]at this
      exact this
    · cases h4
  · rintro ⟨h1,h2,o,ho,h3⟩
    refine ⟨List.mem_range.2 (Array.getElem?_eq_some_iff.1 ho).1,?_⟩
    simp only[h1,ho,Bool.not_false,Bool.true_and,Bool.and_eq_true,Bool.not_eq_true',List.contains_eq_mem,decide_eq_false_iff_not]
    refine ⟨h2,Array.all_eq_true_iff_forall_mem.2 fun e he=>?_⟩
    cases hb:Region.binds .any e with
    | false=>simp
    | true =>
      have:=h3 e he hb
      simp only[Bool.not_true,Bool.false_or,Bool.or_eq_true,decide_eq_true_eq]
      exact this
theorem getD_on {l:Array Bool} {xs:List Nat} {k:Nat} (h:l.getD k false=true):(setAll l xs).getD k false=true:=by
  rw[on_iff]at h ⊢
  rw[setAll_at]
  split
  · rfl
  · exact h
theorem later_sub {PC:List (PCon con)} {E:Env P} {m:Mem} {ops:Array Oper} {sd:Nat→Bool} {ps:List Nat} {listed:Array Bool} {fr:List Av} {B:List Nat} {vs:List (Tmp×Av)} (h:Bun PC E m ops sd ps listed fr B vs) (hne:B≠[]) {j:Nat} (hj:j∈later ops ps listed):j∈B:=by
  obtain ⟨i,r,rfl⟩ : ∃ i r,B=i::r:=by
    match B,hne with
    | i::r,_=>exact ⟨i,r,rfl⟩
  refine Classical.byContradiction fun hn=>?_
  have hm:=h.lat i (by simp) j
  rw[mem_later]at hj
  obtain ⟨h1,h2,o,ho,h3⟩:=hj
  have:=hm (mem_later.2 ⟨by
    rw[off_iff]at h1 ⊢
    rw[setAll_at,if_neg (fun h=>hn (List.mem_of_mem_erase h.1))]
    exact h1,h2,o,ho,fun e he hb=>(h3 e he hb).imp getD_on id⟩)
  exact hn (by rw[this];simp)
theorem ready_later {ops:Array Oper} {ps:List Nat} {l:Array Bool} {j:Nat} (h:j∈Region.ready .any ops l) (hp:j ∉ ps):j∈later ops ps l:=by
  rw[mem_ready]at h
  obtain ⟨h1,o,ho,h2⟩:=h
  exact mem_later.2 ⟨h1,hp,o,ho,fun e he hb=>.inl (h2 e he hb)⟩
theorem bunch_wp {PC:List (PCon con)} {E:Env P} (hE:E.con=con) {ops:Array Oper} {sd ok:Nat→Bool} {ps:List Nat} {Q:St→Prop} {m:Mem} : ∀ (k:Nat) (B:List Nat) (vs:List (Tmp×Av)) (listed:Array Bool) (fr:List Av) (n:Nat),B.length=k→Bun PC E m ops sd ps listed fr B vs →
    (runAny E ops sd ok ps n (setAll listed B) ⟨putAll fr vs,m⟩).wp Q→(runAny E ops sd ok ps (n+k) listed ⟨fr,m⟩).wp Q:=by
  intro k
  induction k with
  | zero =>
    intro B vs listed fr n hk hB h
    obtain rfl:B=[]:=List.length_eq_zero_iff.1 hk
    obtain rfl:vs=[]:=List.length_eq_zero_iff.1 (by rw[hB.len];rfl)
    exact h
  | succ k ih =>
    intro B vs listed fr n hk hB h
    have hne:B≠[]:=fun e=>by rw[e]at hk;simp at hk
    have sub : ∀ j,j∈Region.ready .any ops listed→j ∉ ps→j∈B:=fun j h1 h2=>later_sub hB hne (ready_later h1 h2)
    show (runAny E ops sd ok ps (n+k+1) listed ⟨fr,m⟩).wp Q
    unfold runAny
    have hf:((Region.ready .any ops listed).find? fun i=>sd i && !ps.contains i&&Region.free .any ops listed i)=none:=by
      rw[List.find?_eq_none]
      intro j hj
      by_cases hp:j∈ps
      · simp[hp]
      · rw[(hB.rdy j (sub j hj hp)).2.2];simp
    rw[hf]
    simp only[]
    have hmemR : ∀ j,j∈((Region.ready .any ops listed).filter fun i => !ps.contains i)↔j∈B:=fun j=>by
      rw[List.mem_filter]
      constructor
      · rintro ⟨h1,h2⟩
        exact sub j h1 (by simpa using h2)
      · intro hj
        have:=hB.rdy j hj
        exact ⟨this.1,by simpa using this.2.1⟩
    split
    · rename_i he
      exfalso
      obtain ⟨i,r,rfl⟩ : ∃ i r,B=i::r:=by
        match B,hne with
        | i::r,_=>exact ⟨i,r,rfl⟩
      have:=(hmemR i).2 (by simp)
      rw[he]at this
      cases this
    · rename_i r rs he
      have hl:((later ops ps listed).all fun j=>(r::rs).contains j)=true:=List.all_eq_true.2 fun j hj=>by
        have:=(hmemR j).2 (later_sub hB hne hj)
        rw[he]at this
        simpa using this
      rw[hl]
      refine branch_all (by simp) fun i hi=>?_
      have hiB:i∈B:=(hmemR i).1 (by rw[he];exact hi)
      obtain ⟨l1,l2,e1,hn1⟩:=List.append_of_mem hiB |> fun ⟨a,b,e⟩=>(⟨a,b,e,by
        have:=hB.nd
        rw[e,List.nodup_append]at this
        exact fun hm=>this.2.2 i hm i (by simp) rfl⟩ : ∃ l1 l2,B=l1++i::l2∧i ∉ l1)
      have hlen:=hB.len
      have hk1:l1.length<vs.length:=by rw[hlen,e1];simp
      have hB1:B[l1.length]?=some i:=by rw[e1];simp
      have hv1:vs[l1.length]?=some vs[l1.length]:=List.getElem?_eq_getElem hk1
      obtain ⟨o,p,hp,hval⟩:=hB.val _ _ _ hB1 hv1
      generalize hvv:vs[l1.length]=v at hval hv1
      obtain ⟨d,av⟩:=v
      have evs:vs=vs.take l1.length++(d,av)::vs.drop (l1.length+1):=by
        have:=List.take_append_drop l1.length vs
        rw[List.drop_eq_getElem_cons hk1,hvv]at this
        exact this.symm
      simp only[hval.at_]
      obtain ⟨hg,hcall⟩:=valP_wp (E:=E) (m:=m) (K:=fun e=>(match e.wr.all fun i => !ok i with
        | true=>runAny E ops sd ok ps (n+k) (listed.setIfInBounds i true) ⟨putFr fr o.dst e.av,e.mem⟩
        | false=>.fail).wp Q) hE hval.val hp (by
        simp only[List.all_nil]
        rw[hval.dst]
        have hBe:B.erase i=l1++l2:=by
          rw[e1,List.erase_append_right _ hn1,List.erase_cons_head]
        have hnd:=hB.nd
        rw[e1]at hnd
        have hnd2:(l1++l2).Nodup:=hnd.sublist (List.Sublist.append_left (List.sublist_cons_self _ _) _)
        have hni2:i ∉ l1++l2:=fun hm=>by
          rw[List.nodup_append,List.nodup_cons]at hnd
          rcases List.mem_append.1 hm with hm|hm
          · exact hn1 hm
          · exact hnd.2.1.1 hm
        have hndd:=hB.ndd
        rw[evs,List.map_append,List.map_cons]at hndd
        have hdn : ∀ q∈vs.take l1.length++vs.drop (l1.length+1),q.1≠d:=fun q hq e=>by
          rw[List.nodup_append,List.nodup_cons]at hndd
          rcases List.mem_append.1 hq with hq|hq
          · exact hndd.2.2 _ (List.mem_map.2 ⟨q,hq,rfl⟩) d (by simp) e
          · exact hndd.2.1.1 (List.mem_map.2 ⟨q,hq,e⟩)
        have hvsub : ∀ q,q∈vs.take l1.length++vs.drop (l1.length+1)→q∈vs:=fun q hq=>by
          rcases List.mem_append.1 hq with hq|hq
          · exact List.mem_of_mem_take hq
          · exact List.mem_of_mem_drop hq
        have hdv:(d,av)∈vs:=by rw[evs];simp
        have hset : ∀ xs ys,(∀ z,z∈ys↔z=i∨z∈xs)→setAll (listed.setIfInBounds i true) xs=setAll listed ys:=fun xs ys=>setAll_swap
        refine ih (l1++l2) (vs.take l1.length++vs.drop (l1.length+1)) _ _ n (by
          rw[e1]at hk
          simp only[List.length_append,List.length_cons]at hk ⊢
          omega) ⟨?_,hnd2,?_,fun j hj=>?_,fun q j v hq hv=>?_,fun j hj o' ho' q hq=>?_,fun j hj z hz=>?_⟩ ?_
        · rw[List.length_append,List.length_take,List.length_drop,hlen,e1]
          simp only[List.length_append,List.length_cons]
          omega
        · rw[List.map_append]
          exact hndd.sublist (List.Sublist.append_left (List.sublist_cons_self _ _) _)
        · have hjB:j∈B:=List.mem_of_mem_erase (hBe ▸ hj)
          obtain ⟨h1,h2,h3⟩:=hB.rdy j hjB
          refine ⟨?_,h2,h3⟩
          rw[mem_ready]at h1 ⊢
          obtain ⟨h4,o',ho',h5⟩:=h1
          refine ⟨?_,o',ho',fun e he hb=>getD_on (xs:=[i]) (h5 e he hb)⟩
          rw[off_iff]at h4 ⊢
          exact set_off.2 ⟨h4,fun e=>hni2 (e ▸ hj)⟩
        · have key : ∃ q':Nat,B[q']?=some j∧vs[q']?=some v:=by
            have hl2:(vs.take l1.length).length=l1.length:=by rw[List.length_take];omega
            rcases Nat.lt_or_ge q l1.length with hlt|hge
            · refine ⟨q,?_,?_⟩
              · rw[List.getElem?_append_left hlt]at hq
                rw[e1,List.getElem?_append_left hlt];exact hq
              · rw[List.getElem?_append_left (by omega),List.getElem?_take,if_pos hlt]at hv
                exact hv
            · refine ⟨q+1,?_,?_⟩
              · rw[List.getElem?_append_right hge]at hq
                rw[e1,List.getElem?_append_right (by omega),show q+1-l1.length=(q-l1.length)+1 by omega,List.getElem?_cons_succ];exact hq
              · rw[List.getElem?_append_right (by omega),hl2,List.getElem?_drop]at hv
                rw[show q+1=l1.length+1+(q-l1.length) by omega];exact hv
          obtain ⟨q',k1,k2⟩:=key
          obtain ⟨o',p',hp',hv'⟩:=hB.val _ _ _ k1 k2
          refine ⟨o',p',hp',hv'.at_,hv'.dst,?_⟩
          have:readsB o' d=false:=hB.rd j (List.mem_of_getElem? k1) o' hv'.at_ _ hdv
          exact (valP_set this).trans hv'.val
        · exact hB.rd j (List.mem_of_mem_erase (hBe ▸ hj)) o' ho' q (hvsub q hq)
        · refine hB.lat j (List.mem_of_mem_erase (hBe ▸ hj)) z ?_
          have e2:=hset ((l1++l2).erase j) (B.erase j) fun z=>by
            have hjB:j∈B:=List.mem_of_mem_erase (hBe ▸ hj)
            have hji:j≠i:=fun e=>hni2 (e ▸ hj)
            rw[hB.nd.mem_erase_iff,hnd2.mem_erase_iff,e1]
            simp only[List.mem_append,List.mem_cons]
            constructor
            · rintro ⟨h1,h2|h2|h2⟩
              · exact .inr ⟨h1,.inl h2⟩
              · exact .inl h2
              · exact .inr ⟨h1,.inr h2⟩
            · rintro (h1|⟨h1,h2|h2⟩)
              · exact ⟨h1 ▸ (Ne.symm hji),.inr (.inl h1)⟩
              · exact ⟨h1,.inl h2⟩
              · exact ⟨h1,.inr (.inr h2)⟩
          rw[←e2];exact hz
        · have e3:=hset (l1++l2) B fun z=>by
            rw[e1]
            simp only[List.mem_append,List.mem_cons]
            constructor
            · rintro (h1|h1|h1)
              · exact .inr (.inl h1)
              · exact .inl h1
              · exact .inr (.inr h1)
            · rintro (h1|h1|h1)
              · exact .inr (.inl h1)
              · exact .inl h1
              · exact .inr (.inr h1)
          rw[e3]
          rw[evs,putAll_at _ _ _ _ _ fun q hq=>hdn q (List.mem_append_left _ hq)]at h
          exact h)
      unfold guarded
      rw[hg]
      simp only[]
      rw[T.wp_bind]
      exact hcall
end
section
variable {P:Program} {con:List (Con P)}
theorem bVals_spec {PC:List (PCon con)} {E:Env P} {m:Mem} {ops:Array Oper} {fr:List Av} : ∀ (B:List Nat) {p:Prop} {vs:List (Tmp×Av)},bVals PC E m ops fr B=some (p,vs)→p →
    vs.map (·.1)=B.map (dstOf ops) ∧ ∀ (k i:Nat) (v:Tmp×Av),B[k]?=some i→vs[k]?=some v → ∃ o p,p∧Val PC E m ops fr i v.1 p v.2 o
  | [],p,vs,h,hp=>by cases h;exact ⟨rfl,fun k i v h=>by simp at h⟩
  | i::r,p,vs,h,hp=>by
    unfold bVals at h
    split at h
    · rename_i o ho
      split at h
      · rename_i d q av q' l hd hc hr
        cases h
        obtain ⟨i1,i2⟩:=bVals_spec r hr hp.2
        refine ⟨by simp[i1,dstOf,ho,hd],fun k j v hk hv=>?_⟩
        rcases k with _|k
        · cases hk;cases hv
          exact ⟨o,q,hp.1,ho,hd,hc⟩
        · exact i2 k j v (by simpa using hk) (by simpa using hv)
      · cases h
    · cases h
def bunchQ (PC:List (PCon con)) (E:Env P) (m:Mem) (ops:Array Oper) (sd:Nat→Bool) (ps:List Nat) (listed:Array Bool) (fr:List Av) (n:Nat) (B:List Nat):Option (Prop×List (Tmp×Av)):=
  match decide (2≤B.length)&&decide (B.length≤n)&&bOk ops sd ps listed B with
  | true=>bVals PC E m ops fr B
  | false=>none
theorem bun_of {PC:List (PCon con)} {E:Env P} {m:Mem} {ops:Array Oper} {sd:Nat→Bool} {ps:List Nat} {listed:Array Bool} {fr:List Av} {n:Nat} {B:List Nat} {p:Prop} {vs:List (Tmp×Av)} (h:bunchQ PC E m ops sd ps listed fr n B=some (p,vs)) (hp:p)
    (hr : ∀ i∈B,i∈Region.ready .any ops listed∧i ∉ ps):B.length≤n∧Bun PC E m ops sd ps listed fr B vs:=by
  unfold bunchQ at h
  split at h
  · rename_i hb
    simp only[Bool.and_eq_true,decide_eq_true_eq]at hb
    obtain ⟨⟨_,hn⟩,hb⟩:=hb
    unfold bOk at hb
    simp only[Bool.and_eq_true,List.all_eq_true,decide_eq_true_eq,Bool.not_eq_true']at hb
    obtain ⟨⟨h1,h2⟩,h3⟩:=hb
    obtain ⟨e1,e2⟩:=bVals_spec B h hp
    refine ⟨hn,?_,nodB_ok h1,?_,fun i hi=>⟨(hr i hi).1,(hr i hi).2,(h3 i hi).1.1⟩,e2,fun i hi o ho v hv=>?_,fun i hi j hj=>(h3 i hi).2 j hj⟩
    · have:=congrArg List.length e1
      simpa using this
    · rw[e1];exact nodB_ok h2
    · have hm:v.1∈B.map (dstOf ops):=e1 ▸ List.mem_map.2 ⟨v,hv,rfl⟩
      obtain ⟨j,hj,ej⟩:=List.mem_map.1 hm
      have:=(h3 j hj).1.2 i hi
      rw[ho]at this
      rw[←ej]
      simpa using this
  · cases h
theorem guarded_mono {α:Type} {sure:Bool} {ops:Array Oper} {o:Oper} {st:St} {yes no yes' no':St→T α} {Q:α→Prop} (hy : ∀ st,(yes st).wp Q→(yes' st).wp Q) (hn : ∀ st,(no st).wp Q→(no' st).wp Q)
    (h:(guarded sure ops o st yes no).wp Q):(guarded sure ops o st yes' no').wp Q:=by
  have hb : ∀ (b want:Bool) (x y x' y':T α),(x.wp Q→x'.wp Q)→(y.wp Q→y'.wp Q)→(bsel b want x y).wp Q→(bsel b want x' y').wp Q:=fun b want x y x' y' h1 h2 h=>by
    cases b <;> cases want <;> first|exact h1 h|exact h2 h
  unfold guarded at h ⊢
  split at h
  · exact hy _ h
  · split at h
    · split at h
      · exact hb _ _ _ _ _ _ (hy _) (hn _) h
      · split at h
        · exact ⟨h.1,hy _ h.2⟩
        · exact ⟨fun e=>hb _ _ _ _ _ _ (hy _) (hn _) (h.1 e),fun e=>hb _ _ _ _ _ _ (hy _) (hn _) (h.2 e)⟩
      · exact hn _ h
      · exact h
    · exact h
def runAnyB (PC:List (PCon con)) (E:Env P) (ops:Array Oper) (sd ok:Nat→Bool) (ps:List Nat):Nat→Nat→Array Bool→St→T St
  | 0,_,_,_=>.fail
  | _+1,0,listed,st=>match Region.ready .any ops listed with
    | []=>.ret st
    | _=>.fail
  | k+1,n+1,listed,st=>fSt st fun st =>
    match (Region.ready .any ops listed).find? fun i=>sd i && !ps.contains i&&Region.free .any ops listed i with
    | some i=>match ops[i]? with
      | none=>.fail
      | some o=>guarded (E.sure 0) ops o st (fun st=>(aS P E.zero ok st.mem st.fr o).bind fun av=>runAnyB PC E ops sd ok ps k n (listed.setIfInBounds i true) ⟨putFr st.fr o.dst av,st.mem⟩)
          (fun st=>runAnyB PC E ops sd ok ps k n (listed.setIfInBounds i true) ⟨putFr st.fr o.dst .nope,st.mem⟩)
    | none=>match (Region.ready .any ops listed).filter fun i => !ps.contains i with
      | []=>match Region.ready .any ops listed with
        | []=>.ret st
        | i::_=>match (later ops ps listed).all (waits ops i),ops[i]? with
          | true,some o=>match o.op with
            | .alloc t=>optT (E.zero.find? fun z=>z.ty==t) fun z=>runAnyB PC E ops sd ok ps k n (listed.setIfInBounds i true) ⟨putFr st.fr o.dst (.one (.p st.mem.length 0)),st.mem++[(t,z.cs)]⟩
            | _=>.fail
          | _,_=>.fail
      | r::rs=>match bunchQ PC E st.mem ops sd ps listed st.fr (n+1) (r::rs) with
        | some (p,vs)=>.need p (runAnyB PC E ops sd ok ps k (n+1-(r::rs).length) (setAll listed (r::rs)) ⟨putAll st.fr vs,st.mem⟩)
        | none=>match (later ops ps listed).all fun j=>(r::rs).contains j with
          | false=>.fail
          | true=>branch (fun i=>match ops[i]? with
            | none=>.fail
            | some o=>guarded (E.sure 0) ops o st
              (fun st=>(aE E st.fr st.mem o).bind fun e=>match e.wr.all fun i => !ok i with
                | true=>runAnyB PC E ops sd ok ps k n (listed.setIfInBounds i true) ⟨putFr st.fr o.dst e.av,e.mem⟩
                | false=>.fail)
              (fun st=>runAnyB PC E ops sd ok ps k n (listed.setIfInBounds i true) ⟨putFr st.fr o.dst .nope,st.mem⟩)) (r::rs)
theorem runAnyB_wp {PC:List (PCon con)} {E:Env P} (hE:E.con=con) {ops:Array Oper} {sd ok:Nat→Bool} {ps:List Nat} {Q:St→Prop} : ∀ (k n:Nat) (listed:Array Bool) (st:St),(runAnyB PC E ops sd ok ps k n listed st).wp Q→(runAny E ops sd ok ps n listed st).wp Q:=by
  intro k
  induction k with
  | zero=>intro n listed st h;unfold runAnyB at h;exact h.elim
  | succ k ih =>
    intro n listed st h
    cases n with
    | zero=>unfold runAnyB at h;unfold runAny;exact h
    | succ n =>
      unfold runAnyB at h
      rw[fSt_eq]at h
      have hfull:(runAny E ops sd ok ps (n+1) listed st).wp Q↔(runAny E ops sd ok ps (n+1) listed st).wp Q:=Iff.rfl
      conv=>unfold runAny
      split at h
      · rename_i i hi
        rw[hi]
        simp only[]
        split at h
        · exact h.elim
        · rename_i o ho
          rw[ho]
          simp only[]
          refine guarded_mono (fun st h=>?_) (fun st h=>ih _ _ _ h) h
          rw[T.wp_bind]at h ⊢
          exact T.wp_mono (fun av h=>ih _ _ _ h) h
      · rename_i hi
        rw[hi]
        simp only[]
        split at h
        · rename_i he
          rw[he]
          simp only[]
          split at h
          · rename_i hr
            rw[hr]
            exact h
          · rename_i i r hr
            rw[hr]
            simp only[]
            split at h
            · rename_i o hl ho
              rw[hl,ho]
              simp only[]
              split at h
              · rename_i t hop
                rw[hop]
                simp only[]
                obtain ⟨z,hz,h⟩:=optT_wp h
                rw[hz]
                exact ih _ _ _ h
              · exact h.elim
            · exact h.elim
        · rename_i r rs he
          rw[he]
          simp only[]
          split at h
          · rename_i p vs hb
            obtain ⟨hp,h⟩:=h
            have hmem : ∀ i∈r::rs,i∈Region.ready .any ops listed∧i ∉ ps:=fun i hm=>by
              rw[←he,List.mem_filter]at hm
              exact ⟨hm.1,by simpa using hm.2⟩
            obtain ⟨hn,hbun⟩:=bun_of hb hp hmem
            have:=bunch_wp (m:=st.mem) (ok:=ok) (Q:=Q) (E:=E) hE _ _ vs listed st.fr (n+1-(r::rs).length) rfl hbun (ih _ _ _ h)
            rw[Nat.sub_add_cancel hn]at this
            unfold runAny at this
            rw[hi]at this
            simp only[]at this
            rw[he]at this
            exact this
          · split at h
            · exact h.elim
            · rename_i hl
              rw[hl]
              refine branch_all (by simp) fun i hm=>?_
              have h:=branch_wp h i hm
              split at h
              · exact h.elim
              · rename_i o ho
                rw[ho]
                refine guarded_mono (fun st h=>?_) (fun st h=>ih _ _ _ h) h
                rw[T.wp_bind]at h ⊢
                refine T.wp_mono (fun e h=>?_) h
                split at h
                · rename_i hw
                  rw[hw]
                  exact ih _ _ _ h
                · exact h.elim
def runDrawB (PC:List (PCon con)) (E:Env P) (ops:Array Oper) (st:St):T St:=
  let W:=writes E ops.toList st.fr++(match ops.toList.any (reaches E) with
    | true=>rowsIn st.mem
    | false=>[])
  let ps:=(List.range ops.size).filter (early E ops st.fr.length)
  match Region.noSelect ops with
  | true=>runAnyB PC E ops (fun i=>match ops[i]? with|some o=>steady o.op && !loadsOf ops.toList st.fr W o|none=>false) (fun i=>decide (i<st.mem.length) && !W.contains i) ps (ops.size+1) ops.size (Array.replicate ops.size false) ⟨hide ops ps st.fr,st.mem⟩
  | false=>.fail
theorem runDrawB_wp {PC:List (PCon con)} {E:Env P} (hE:E.con=con) {ops:Array Oper} {st:St} {Q:St→Prop} (h:(runDrawB PC E ops st).wp Q):(runDraw E ops st).wp Q:=by
  unfold runDrawB at h
  unfold runDraw
  simp only[]at h ⊢
  split at h
  · rename_i hs
    rw[hs]
    exact runAnyB_wp hE _ _ _ _ h
  · exact h.elim
theorem bsel_mono {α:Type} {b want:Bool} {x y x' y':T α} {Q:α→Prop} (h1:x.wp Q→x'.wp Q) (h2:y.wp Q→y'.wp Q) (h:(bsel b want x y).wp Q):(bsel b want x' y').wp Q:=by
  cases b <;> cases want <;> first|exact h1 h|exact h2 h
end
def noFz:Nat→Nat→Option Ck:=fun _ _=>none
def subMem (I:List Nat) (m:Mem):Mem:=I.map fun i=>match m[i]? with
  | some e=>(e.1,e.2.map (reC (posOf I) noFz))
  | none=>(0,[])
def backI (I:List Nat) (n p:Nat):Option Nat:=match I[p]? with
  | some i=>some i
  | none=>some (n+(p-I.length))
def backMem (I:List Nat) (m m1:Mem):Mem:=((List.range m.length).map fun i=>match posOf I i with
    | some p=>(match m1[p]? with
      | some e=>(e.1,e.2.map (reC (backI I m.length) noFz))
      | none=>(0,[]))
    | none=>m.getD i (0,[]))++(m1.drop I.length).map fun e=>(e.1,e.2.map (reC (backI I m.length) noFz))
def inlRun {P:Program} (E:Env P) (L:Loops) (fn:Func) (K:Nat) (pos:List Nat) (args:List Av) (m:Mem):T (Av×Mem):=
  fAvs args fun args=>fMem m fun m=>fNats (wrOf pos args m) fun I=>match I.all (fun i=>decide (i<m.length))&&nodB I&&decide (I.length≤K) with
  | true=>fAvs (args.map (reA (posOf I) noFz)) fun args'=>fMem (subMem I m) fun m'=>(fnRun E L fn args' m').bind fun r=>fMem r.2 fun m1=>fAv (reA (backI I m.length) noFz r.1) fun av=>fMem (backMem I m m1) fun m2=>.ret (av,m2)
  | false=>.fail
theorem no_fz {w:World} {R':Nat→Prop} {σ σ':List Nat} {f:Nat→Option Nat} (i n:Nat):FzOk w R' σ σ' f noFz i n:=fun b cap c _ _ _ h=>by cases h
theorem inl_ok {P:Program} {E:Env P} {L:Loops} {f:FuncId} {fn:Func} (hm:P.follows .mixedOrders=true) (hf:P.funcs[f]?=some fn) (K:Nat) (hL : ∀ c,fn.body=some c→LoopsOk P K L c) (pos:List Nat):ConOk P f pos (inlRun E L fn K pos):=by
  intro w φ σ m args vs Q hmem hlen hargs hrun
  unfold inlRun at hrun
  simp only[fAvs_eq,fAv_eq,fMem_eq,fNats_eq]at hrun
  generalize hIe:wrOf pos args m=I at hrun ⊢
  split at hrun
  case h_2=>exact hrun.elim
  rename_i hI
  simp only[Bool.and_eq_true,decide_eq_true_eq]at hI
  obtain ⟨⟨hI1,hI2⟩,hI3⟩:=hI
  have hnd:=nodB_ok hI2
  have hml:m.length=σ.length:=hmem.len
  have hlt : ∀ i∈I,i<σ.length:=fun i hi=>by
    have:=of_decide_eq_true (List.all_eq_true.1 hI1 i hi)
    omega
  have get : ∀ i,i<σ.length → ∃ b,σ[i]?=some b∧σ.getD i 0=b:=fun i hi=>⟨σ[i],List.getElem?_eq_getElem hi,by simp[hi]⟩
  have inj : ∀ i j b,σ[i]?=some b→σ[j]?=some b→i=j:=fun i j b h1 h2=>by
    obtain ⟨l1,e1⟩:=List.getElem?_eq_some_iff.1 h1
    obtain ⟨l2,e2⟩:=List.getElem?_eq_some_iff.1 h2
    exact (List.getElem_inj hmem.nodup).1 (e1.trans e2.symm)
  generalize hs0:(I.map fun i=>σ.getD i 0)=σ0
  have hs0l:σ0.length=I.length:=by rw[←hs0,List.length_map]
  have at0 : ∀ (p i:Nat) b,I[p]?=some i→σ[i]?=some b→σ0[p]?=some b:=fun p i b h1 h2=>by
    rw[←hs0,List.getElem?_map,h1,Option.map_some]
    obtain ⟨b',h3,h4⟩:=get i (List.getElem?_eq_some_iff.1 h2).1
    rw[h4]
    rw[h2]at h3
    exact h3.symm
  have mem0 : ∀ b,b∈σ0 → ∃ i∈I,σ[i]?=some b:=fun b hb=>by
    rw[←hs0]at hb
    obtain ⟨i,hi,rfl⟩:=List.mem_map.1 hb
    obtain ⟨b,h1,h2⟩:=get i (hlt i hi)
    exact ⟨i,hi,by rw[h2];exact h1⟩
  have sub0 : ∀ b,b∈σ0→b∈σ:=fun b hb=>by
    obtain ⟨i,_,h⟩:=mem0 b hb
    exact List.mem_of_getElem? h
  have nd0:σ0.Nodup:=by
    rw[←hs0]
    unfold List.Nodup
    rw[List.pairwise_map]
    refine hnd.imp_of_mem fun {i j} hi hj hne e=>hne ?_
    obtain ⟨b,h1,h2⟩:=get i (hlt i hi)
    obtain ⟨b',h3,h4⟩:=get j (hlt j hj)
    rw[h2,h4]at e
    subst e
    exact inj i j b h1 h3
  have out0 : ∀ i b,σ[i]?=some b→i ∉ I→b ∉ σ0:=fun i b hb hn hm0=>by
    obtain ⟨j,hj,hb'⟩:=mem0 b hm0
    exact hn (inj i j b hb hb' ▸ hj)
  generalize hφe:φ++σ.filter (fun b => !decide (b∈σ0))=φ'
  have inφ : ∀ b,b∈φ'↔b∈φ∨(b∈σ∧b ∉ σ0):=fun b=>by
    rw[←hφe,List.mem_append,List.mem_filter]
    simp
  have hro : ∀ b,Ro w φ σ b→Ro w φ' σ0 b:=fun b hb=>⟨hb.1,fun h=>by
    rcases (inφ b).1 h with h1|h1
    · exact hb.2.1 h1
    · exact hb.2.2 h1.1,fun h=>hb.2.2 (sub0 b h)⟩
  have hf0 : ∀ i b j:Nat,σ[i]?=some b→posOf I i=some j→σ0[j]?=some b:=fun i b j hb hj=>at0 j i b (posOf_get hj) hb
  have hmem0:MemOk w φ' σ0 (subMem I m):=⟨by simp[subMem,hs0l],nd0,fun b hb=>by
      rcases (inφ b).1 hb with h1|h1
      · exact hmem.fo b h1
      · exact hmem.lt h1.1,hmem.gl.mono fun z hz=>⟨hro z hz,rfl⟩,fun j t cs b hj hb=>by
      unfold subMem at hj
      rw[List.getElem?_map]at hj
      cases hq:I[j]? with
      | none=>rw[hq]at hj;simp at hj
      | some i =>
        rw[hq]at hj
        simp only[Option.map_some,Option.some.injEq]at hj
        obtain ⟨b',h1,_⟩:=get i (hlt i (List.mem_of_getElem? hq))
        have hb':=at0 j i b' hq h1
        rw[hb]at hb'
        cases hb'
        cases hmi:m[i]? with
        | none =>
          have:=List.getElem?_eq_none_iff.1 hmi
          have:=hlt i (List.mem_of_getElem? hq)
          omega
        | some e =>
          obtain ⟨t0,cs0⟩:=e
          rw[hmi]at hj
          cases hj
          obtain ⟨us,h3,h4⟩:=hmem.blk i t0 cs0 b hmi h1
          exact ⟨us,h3,h4.re hro hf0 fun i n cap _=>no_fz i n⟩⟩
  rw[T.wp_bind]at hrun
  refine (fn_ok (E:=E) (L:=L) hm hf hL (by simp[subMem];exact hI3) hmem0 (by rw[List.length_map];exact hlen) (fun i a v ha hv=>by
    rw[List.getElem?_map]at ha
    cases hq:args[i]? with
    | none=>rw[hq]at ha;simp at ha
    | some a0 =>
      rw[hq]at ha
      simp only[Option.map_some,Option.some.injEq]at ha
      subst ha
      exact (hargs i a0 v hq hv).re hro hf0 fun i n cap _=>no_fz i n) hrun).mono fun e w' hr=>?_
  obtain ⟨v,av,m1,σ1,rfl,hQ,hext,hkeep,hav,hmem1⟩:=hr
  obtain ⟨τ,rfl,hτ⟩:=hext.pre
  have hm1:m1.length=I.length+τ.length:=by
    have:=hmem1.len
    rw[List.length_append,hs0l]at this
    exact this
  have hro1 : ∀ b,Ro w' φ' (σ0++τ) b→Ro w' φ (σ++τ) b:=fun b hb=>⟨hb.1,fun h=>hb.2.1 ((inφ b).2 (.inl h)),fun h=>by
    rcases List.mem_append.1 h with h1|h1
    · by_cases h2:b∈σ0
      · exact hb.2.2 (List.mem_append_left _ h2)
      · exact hb.2.1 ((inφ b).2 (.inr ⟨h1,h2⟩))
    · exact hb.2.2 (List.mem_append_right _ h1)⟩
  have hback : ∀ p b i:Nat,(σ0++τ)[p]?=some b→backI I m.length p=some i→(σ++τ)[i]?=some b:=fun p b i hb hi=>by
    unfold backI at hi
    split at hi
    · rename_i j hj
      have hji:j=i:=Option.some.inj hi
      subst hji
      have hjl:=hlt j (List.mem_of_getElem? hj)
      have hpl:=(List.getElem?_eq_some_iff.1 hj).1
      obtain ⟨b',h1,_⟩:=get j hjl
      have:=at0 p j b' hj h1
      rw[List.getElem?_append_left (by omega),this]at hb
      cases hb
      rw[List.getElem?_append_left hjl]
      exact h1
    · rename_i hj
      cases hi
      have hpl:=List.getElem?_eq_none_iff.1 hj
      rw[List.getElem?_append_right (by omega),hs0l]at hb
      rw[List.getElem?_append_right (by omega),show m.length+(p-I.length)-σ.length=p-I.length by omega]
      exact hb
  have hold : ∀ i b:Nat,σ[i]?=some b→i ∉ I→w'.heap[b]?=w.heap[b]?:=fun i b hb hi=>hkeep.block b (hmem.lt (List.mem_of_getElem? hb)) (out0 i b hb hi)
  refine ⟨v,_,_,σ++τ,rfl,hQ,⟨⟨τ,rfl,hτ⟩⟩,⟨hkeep.os,hkeep.tape,hkeep.output,hkeep.size,fun k hk hn=>hkeep.block k hk fun h=>hn (sub0 k h)⟩,fun i b hb hn=>hold i b hb hn,hav.re hro1 hback fun i n cap _=>no_fz i n,?_⟩
  refine ⟨by simp[backMem,hm1];omega,?_,fun b hb=>Nat.lt_of_lt_of_le (hmem.fo b hb) hkeep.size,hmem1.gl.mono fun z hz=>⟨hro1 z hz,rfl⟩,fun i t cs b hi hb=>?_⟩
  · rw[List.nodup_append]
    refine ⟨hmem.nodup,(List.nodup_append.1 hmem1.nodup).2.1,fun x hx y hy e=>?_⟩
    have h1:=hmem.lt hx
    have h2:=hτ y hy
    omega
  · unfold backMem at hi
    rcases Nat.lt_or_ge i m.length with hil|hil
    · rw[List.getElem?_append_left (by simpa using hil),List.getElem?_map,List.getElem?_range hil,Option.map_some]at hi
      rw[List.getElem?_append_left (by omega)]at hb
      split at hi
      · rename_i p hp
        have hIp:=posOf_get hp
        have hpl:=(List.getElem?_eq_some_iff.1 hIp).1
        have hb1:(σ0++τ)[p]?=some b:=by
          rw[List.getElem?_append_left (by omega)]
          exact at0 p i b hIp hb
        cases hm1p:m1[p]? with
        | none =>
          have:=List.getElem?_eq_none_iff.1 hm1p
          omega
        | some e =>
          obtain ⟨t0,cs0⟩:=e
          rw[hm1p]at hi
          cases hi
          obtain ⟨us,h3,h4⟩:=hmem1.blk p t0 cs0 b hm1p hb1
          exact ⟨us,h3,h4.re hro1 hback fun i n cap _=>no_fz i n⟩
      · rename_i hp
        have hni:=posOf_none hp
        have hmi:m[i]?=some (t,cs):=by
          rw[List.getElem?_eq_getElem hil]at *
          simpa [hil] using hi
        obtain ⟨us,h3,h4⟩:=hmem.blk i t cs b hmi hb
        refine ⟨us,(hold i b hb hni).trans h3,h4.mono (fun z hz=>⟨⟨Nat.lt_of_lt_of_le hz.1 hkeep.size,hz.2.1,fun h=>?_⟩,hkeep.block z hz.1 fun h=>hz.2.2 (sub0 z h)⟩) (fun j z hj=>by rw[List.getElem?_append_left (List.getElem?_eq_some_iff.1 hj).1];exact hj)⟩
        rcases List.mem_append.1 h with h1|h1
        · exact hz.2.2 h1
        · have:=hτ z h1
          have:=hz.1
          omega
    · rw[List.getElem?_append_right (by simpa using hil),List.getElem?_map,List.getElem?_drop]at hi
      rw[List.length_map,List.length_range]at hi
      rw[List.getElem?_append_right (by omega)]at hb
      cases hm1p:m1[I.length+(i-m.length)]? with
      | none=>rw[hm1p]at hi;simp at hi
      | some e =>
        obtain ⟨t0,cs0⟩:=e
        rw[hm1p]at hi
        cases hi
        have hb1:(σ0++τ)[I.length+(i-m.length)]?=some b:=by
          rw[List.getElem?_append_right (by omega),hs0l,show I.length+(i-m.length)-I.length=i-σ.length by omega]
          exact hb
        obtain ⟨us,h3,h4⟩:=hmem1.blk _ t0 cs0 b hm1p hb1
        exact ⟨us,h3,h4.re hro1 hback fun i n cap _=>no_fz i n⟩
structure Opt {P:Program} (con:List (Con P)):Type 1 where
  pc:List (PCon con)
  cs:List Tmp
  fc:Tmp→Option Bool
theorem swI_of {z:Int} {f:Nat→T Av} {K:Av→Prop} (h:(f z.toNat).wp K) : ∀ (k i:Nat),(i:Int)≤z→z≤(i+k:Nat)→(swI z f k i).wp K
  | 0,i,h1,h2=>by
    have:z.toNat=i:=by omega
    rw[this]at h;exact h
  | k+1,i,h1,h2=>by
    refine ⟨fun e=>?_,fun e=>?_⟩
    · have e:z=i:=by simpa using e
      have:z.toNat=i:=by omega
      rw[this]at h;exact h
    · have e:¬ z=i:=by simpa using e
      exact swI_of h k (i+1) (by omega) (by omega)
theorem index_T {P:Program} {t:TypeId} {x ix:Av} {K:Av→Prop} (h:(aIndex P t x ix).wp K):(aIndexT P t x ix).wp K:=by
  unfold aIndexT
  split
  · rename_i cs k z
    unfold aIndex at h
    simp only[]at h
    split at h
    · rename_i len e hu
      obtain ⟨n,hn,h1⟩:=optN_wp h
      obtain ⟨row,hrow,h2⟩:=optN_wp h1
      obtain ⟨hb,h3⟩:=h2
      rw[hn,hrow]
      exact ⟨hb,swI_of (f:=fun i=>optT (sub (i*n) n cs) fun m=>optT (mkOf row m) .ret) h3 _ _ (by omega) (by omega)⟩
    · exact h.elim
  · exact h
theorem indexAddr_T {P:Program} {m:Mem} {t:TypeId} {x ix:Av} {K:Av→Prop} (h:(aIndexAddr P m t x ix).wp K):(aIndexAddrT P m t x ix).wp K:=by
  unfold aIndexAddrT
  split
  · rename_i i off k z
    split
    · rename_i len e hu
      split
      · unfold aIndexAddr at h
        simp only[hu]at h
        obtain ⟨n,hn,h1⟩:=optN_wp h
        obtain ⟨hb,h3⟩:=h1
        rw[hn]
        refine ⟨hb,?_⟩
        split at h3
        · exact h3
        · exact swI_of (f:=fun j=>.ret (.one (.p i (off+j*n)))) h3 _ _ (by omega) (by omega)
      · exact h
    · rename_i hu
      unfold aIndexAddr at h
      simp only[]at h
      exact h
  · rename_i cs k z
    split
    · rename_i len e hu
      split
      · unfold aIndexAddr at h
        simp only[hu]at h
        obtain ⟨n,hn,h1⟩:=optN_wp h
        obtain ⟨hb,h3⟩:=h1
        rw[hn]
        exact ⟨hb,swI_of (f:=fun j=>optT (cut (j*n) cs) fun (_,r)=>.ret (.one (.pr r))) h3 _ _ (by omega) (by omega)⟩
      · exact h
    · rename_i hu
      unfold aIndexAddr at h
      simp only[]at h
      exact h
  · exact h
section
variable {P:Program} {con:List (Con P)}
def aEC (cs:List Tmp) (E:Env P) (fr:List Av) (m:Mem) (o:Oper):T Ef:=
  match o.op with
  | .index t x (.tmp k)=>match cs.contains k with
    | true=>(aIndex P t (operand fr x) (operand fr (.tmp k))).bind fun av=>.ret ⟨av,m,[]⟩
    | false=>aE E fr m o
  | .indexAddr t x (.tmp k)=>match cs.contains k with
    | true=>(aIndexAddr P m t (operand fr x) (operand fr (.tmp k))).bind fun av=>.ret ⟨av,m,[]⟩
    | false=>aE E fr m o
  | _=>aE E fr m o
theorem aEC_wp {cs:List Tmp} {E:Env P} {fr:List Av} {m:Mem} {o:Oper} {K:Ef→Prop} (h:(aEC cs E fr m o).wp K):(aE E fr m o).wp K:=by
  unfold aEC at h
  split at h
  · rename_i t x k hop
    split at h
    · rw[T.wp_bind]at h
      unfold aE
      simp only[hop]
      rw[T.wp_bind]
      unfold aS
      simp only[hop]
      exact index_T h
    · exact h
  · rename_i t x k hop
    split at h
    · rw[T.wp_bind]at h
      unfold aE
      simp only[hop]
      rw[T.wp_bind]
      unfold aS
      simp only[hop]
      exact indexAddr_T h
    · exact h
  · exact h
def runOpsC (cs:List Tmp) (E:Env P) (ops:Array Oper):List Oper→St→T St
  | [],st=>.ret st
  | o::r,st=>fSt st fun st=>guarded (E.sure 0) ops o st (fun st=>(aEC cs E st.fr st.mem o).bind fun e=>runOpsC cs E ops r ⟨putFr st.fr o.dst e.av,e.mem⟩) (fun st=>runOpsC cs E ops r ⟨putFr st.fr o.dst .nope,st.mem⟩)
theorem runOpsC_wp {cs:List Tmp} {E:Env P} {ops:Array Oper} {Q:St→Prop} : ∀ (l:List Oper) (st:St),(runOpsC cs E ops l st).wp Q→(runOps E ops l st).wp Q
  | [],_,h=>h
  | o::r,st,h=>by
    rw[runOpsC,fSt_eq]at h
    rw[runOps]
    refine guarded_mono (fun st h=>?_) (fun st h=>runOpsC_wp r _ h) h
    rw[T.wp_bind]at h ⊢
    exact aEC_wp (T.wp_mono (fun e h=>runOpsC_wp r _ h) h)
def codeC (O:Opt con) (E:Env P) (L:Loops):Code→St→T (Exit×St)
  | .skip,st=>.ret (.normal,st)
  | .label _,st=>.ret (.normal,st)
  | .region id ops false,st=>fSt st fun st=>(frzL E.base (E.frz id) st).bind fun st=>(runOpsC O.cs (E.sel id) ops ops.toList st).bind fun st=>.ret (.normal,st)
  | .region id ops true,st=>fSt st fun st=>(frzL E.base (E.frz id) st).bind fun st=>(runDrawB O.pc (E.sel id) ops st).bind fun st=>.ret (.normal,st)
  | .seq x y,st=>(codeC O E L x st).bind fun r=>match r.1 with
    | .normal=>codeC O E L y r.2
    | e=>.ret (e,r.2)
  | .cond (.tmp t) x y,st=>match st.fr[t]? with
    | some (.one (.kb b))=>bsel b true (codeC O E L x st) (codeC O E L y st)
    | some (.one (.v (.bool b)))=>match O.fc t with
      | some true=>.need (b=true) (codeC O E L x (know st t true))
      | some false=>.need (b=false) (codeC O E L y (know st t false))
      | none=>.ite b (codeC O E L x (know st t true)) (codeC O E L y (know st t false))
    | _=>.fail
  | .cond (.const (.bool b)) x y,st=>bsel b true (codeC O E L x st) (codeC O E L y st)
  | .block id c,st=>(codeC O E L c st).bind fun r=>.ret (exitBlock id r.1,r.2)
  | .loop c,st=>match L (Code.first c) with
    | some run=>run st
    | none=>.fail
  | .exit id,st=>.ret (.exit id,st)
  | .ret,st=>.ret (.ret,st)
  | _,_=>.fail
theorem codeC_wp {O:Opt con} {E:Env P} (hE:E.con=con) {L:Loops} : ∀ (c:Code) (st:St) {Q:Exit×St→Prop},(codeC O E L c st).wp Q→(code E L c st).wp Q:=by
  intro c
  induction c with
  | skip=>intro st Q h;exact h
  | label _=>intro st Q h;exact h
  | region id ops b =>
    intro st Q h
    cases b with
    | false =>
      rw[codeC,fSt_eq,T.wp_bind]at h
      rw[code,T.wp_bind]
      refine T.wp_mono (fun st h=>?_) h
      rw[T.wp_bind]at h ⊢
      exact runOpsC_wp _ _ h
    | true =>
      rw[codeC,fSt_eq,T.wp_bind]at h
      rw[code,T.wp_bind]
      refine T.wp_mono (fun st h=>?_) h
      rw[T.wp_bind]at h ⊢
      exact runDrawB_wp (E:=E.sel id) hE h
  | seq x y ihx ihy =>
    intro st Q h
    rw[codeC,T.wp_bind]at h
    rw[code,T.wp_bind]
    refine T.wp_mono (fun r h=>?_) (ihx st h)
    obtain ⟨e,st'⟩:=r
    cases e with
    | normal=>exact ihy _ h
    | _=>exact h
  | cond o x y ihx ihy =>
    intro st Q h
    cases o with
    | tmp t =>
      rw[codeC]at h
      rw[code]
      split at h
      · rename_i hx
        rw[hx]
        exact bsel_mono (ihx st) (ihy st) h
      · rename_i b hx
        rw[hx]
        split at h
        · obtain ⟨hb,h⟩:=h
          exact ⟨fun _=>ihx _ h,fun e=>Bool.noConfusion (e.symm.trans hb)⟩
        · obtain ⟨hb,h⟩:=h
          exact ⟨fun e=>Bool.noConfusion (e.symm.trans hb),fun _=>ihy _ h⟩
        · exact ⟨fun e=>ihx _ (h.1 e),fun e=>ihy _ (h.2 e)⟩
      · exact h.elim
    | const v =>
      cases v with
      | bool b =>
        rw[codeC]at h
        rw[code]
        exact bsel_mono (ihx st) (ihy st) h
      | _=>exact h.elim
    | global _=>exact h.elim
    | func _=>exact h.elim
  | block id c ih =>
    intro st Q h
    rw[codeC,T.wp_bind]at h
    rw[code,T.wp_bind]
    exact ih st h
  | _=>intro st Q h;exact h
def unrollC (O:Opt con) (E:Env P) (L:Loops) (body:Code):List (Tmp→Option Bool)→St→T (Exit×St)
  | [],_=>.fail
  | f::r,st=>(codeC ⟨O.pc,O.cs,f⟩ E L body st).bind fun x=>match r,x.1 with
    | [],.normal=>.fail
    | [],e=>.ret (e,x.2)
    | _::_,.normal=>unrollC O E L body r x.2
    | _::_,_=>.fail
theorem unrollC_ok {O:Opt con} {E:Env P} (hE:E.con=con) {L:Loops} (hm:P.follows .mixedOrders=true) (k:Nat) {body:Code} (hL:LoopsOk P k L body) (fs:List (Tmp→Option Bool)):LoopOk P k body (unrollC O (E.at_ k) L body fs):=by
  intro w0 φ σ0 σ st a w Q hσ hφ hS hrun
  refine wp_loop_ghost (fun n a w => ∃ fs st σ,n=fs.length∧Sat w0 φ σ0 σ st a w∧(unrollC O (E.at_ k) L body fs st).wp Q) fs.length ⟨fs,st,σ,rfl,hS,hrun⟩ fun n a w hI=>?_
  obtain ⟨fs,st,σ,rfl,hS,h⟩:=hI
  cases fs with
  | nil=>exact h.elim
  | cons f r =>
    rw[unrollC,T.wp_bind]at h
    refine wp_mono (code_ok (E:=E.at_ k) hm hσ hσ hφ body _ σ a w _ hL hS (codeC_wp (E:=E.at_ k) hE _ _ h)) fun e a' w' hr=>?_
    obtain ⟨hq,st',σ',h2,h3⟩:=hr
    cases r with
    | nil =>
      cases e with
      | normal=>exact h2.elim
      | panic _=>cases hq
      | outgrown=>cases hq
      | exit id=>exact ⟨rfl,st',σ',h2,h3⟩
      | ret=>exact ⟨rfl,st',σ',h2,h3⟩
      | goto l=>exact ⟨rfl,st',σ',h2,h3⟩
    | cons g r =>
      cases e with
      | normal=>exact ⟨(g::r).length,Nat.lt_succ_self _,g::r,st',σ',rfl,h3,h2⟩
      | panic _=>cases hq
      | outgrown=>cases hq
      | exit id=>exact h2.elim
      | ret=>exact h2.elim
      | goto l=>exact h2.elim
theorem unrollS_ok {O:Opt con} {E:Env P} (hE:E.con=con) {L:Loops} (hm:P.follows .mixedOrders=true) (k:Nat) {body:Code} (hL:LoopsOk P k L body) (g:St→List (Tmp→Option Bool)):LoopOk P k body (fun st=>unrollC O (E.at_ k) L body (g st) st):=by
  intro w0 φ σ0 σ st a w Q h1 h2 h3 h4
  exact unrollC_ok hE hm k hL (g st) w0 φ σ0 σ st a w Q h1 h2 h3 h4
def rowN (st:St) (t:Tmp):Nat:=match st.fr[t]? with
  | some (.one (.ds _ xs))=>xs.length
  | some (.one (.os _ n _))=>n
  | _=>0
def fcs (l:List (Tmp×Bool)):Tmp→Option Bool:=fun k=>match l.find? fun p=>p.1==k with
  | some p=>some p.2
  | none=>none
def rowRounds (t:Tmp) (go last:List (Tmp×Bool)) (st:St):List (Tmp→Option Bool):=List.replicate (rowN st t) (fcs go)++[fcs last]
def fnRunC (O:Opt con) (E:Env P) (L:Loops) (fn:Func) (args:List Av) (m:Mem):T (Av×Mem):=
  match fn.body with
  | some c=>(codeC O (E.at_ m.length) L c ⟨args++List.replicate (fn.ntmps-args.length) .nope,m⟩).bind fun r=>match r.1 with
    | .ret|.normal=>fSt r.2 fun st=>finRun P m.length fn.results.toList st
    | _=>.fail
  | none=>.fail
theorem fnRunC_wp {O:Opt con} {E:Env P} (hE:E.con=con) {L:Loops} {fn:Func} {args:List Av} {m:Mem} {Q:Av×Mem→Prop} (h:(fnRunC O E L fn args m).wp Q):(fnRun E L fn args m).wp Q:=by
  unfold fnRunC at h
  unfold fnRun
  cases hb:fn.body with
  | none=>rw[hb]at h;exact h.elim
  | some c =>
    rw[hb]at h
    simp only[fSt_eq]at h ⊢
    rw[T.wp_bind]at h ⊢
    exact codeC_wp (E:=E.at_ m.length) hE c _ h
def fnPC (O:Opt con) (E:Env P) (L:Loops) (fn:Func) (args:List Av):T Av:=
  (fnRunC O E L fn args []).bind fun r=>match noA r.1 with
    | true=>.ret (nA r.1)
    | false=>.fail
theorem fnPC_wp {O:Opt con} {E:Env P} (hE:E.con=con) {L:Loops} {fn:Func} {args:List Av} {Q:Av→Prop} (h:(fnPC O E L fn args).wp Q):(fnP E L fn args).wp Q:=by
  unfold fnPC at h
  unfold fnP
  rw[T.wp_bind]at h ⊢
  exact fnRunC_wp hE h
def inlRunC (O:Opt con) (E:Env P) (L:Loops) (fn:Func) (K:Nat) (pos:List Nat) (args:List Av) (m:Mem):T (Av×Mem):=
  fAvs args fun args=>fMem m fun m=>fNats (wrOf pos args m) fun I=>match I.all (fun i=>decide (i<m.length))&&nodB I&&decide (I.length≤K) with
  | true=>fAvs (args.map (reA (posOf I) noFz)) fun args'=>fMem (subMem I m) fun m'=>(fnRunC O E L fn args' m').bind fun r=>fMem r.2 fun m1=>fAv (reA (backI I m.length) noFz r.1) fun av=>fMem (backMem I m m1) fun m2=>.ret (av,m2)
  | false=>.fail
theorem inlC_ok {O:Opt con} {E:Env P} (hE:E.con=con) {L:Loops} {f:FuncId} {fn:Func} (hm:P.follows .mixedOrders=true) (hf:P.funcs[f]?=some fn) (K:Nat) (hL : ∀ c,fn.body=some c→LoopsOk P K L c) (pos:List Nat):ConOk P f pos (inlRunC O E L fn K pos):=by
  refine con_weaken (inl_ok (E:=E) (L:=L) hm hf K hL pos) fun args m Q h=>?_
  unfold inlRunC at h
  unfold inlRun
  simp only[fAvs_eq,fAv_eq,fMem_eq,fNats_eq]at h ⊢
  split at h
  · rename_i hI
    try rw[hI]
    simp only[T.wp_bind]at h ⊢
    refine T.wp_mono (fun r hr=>?_) (fnRunC_wp hE h)
    exact ⟨_,hr,fun _ _ _ _ h=>h⟩
  · exact h.elim
theorem fnPC_of {O:Opt con} {E:Env P} (hE:E.con=con) {L:Loops} {fn:Func} {args:List Av} {Q:Av→Prop} {t:T Av} (e:fnPC O E L fn args=t) (h:t.wp Q):(fnP E L fn args).wp Q:=
  fnPC_wp hE (by rw[e];exact h)
theorem val_conC {O:Opt con} {E:Env P} (hE:E.con=con) {L:Loops} {f:FuncId} {fn:Func} (hm:P.follows .mixedOrders=true) (hf:P.funcs[f]?=some fn) (hL : ∀ c,fn.body=some c→LoopsOk P 0 L c) (ts:List (Bool×Cd)) (pre:Els ts→Prop) (F:Els ts→Av)
    (t:Els ts→T Av) (e : ∀ x,fnPC O E L fn (encs ts x)=t x) (h : ∀ x,pre x→(t x).wp (· = F x)):ConOk P f [] (pureRun' ts fun x=>.need (pre x) (.ret (F x))):=
  val_con (E:=E) (L:=L) hm hf hL ts pre F fun x hx=>fnPC_of hE (e x) (h x hx)
theorem con_okC {O:Opt con} {E:Env P} (hE:E.con=con) {L:Loops} {f:FuncId} {fn:Func} (hm:P.follows .mixedOrders=true) (hf:P.funcs[f]?=some fn) (hL : ∀ c,fn.body=some c→LoopsOk P 0 L c) (ts:List (Bool×Cd)) (sp:Els ts→T Av)
    (h : ∀ x Q,(sp x).wp Q → ∃ t,fnPC O E L fn (encs ts x)=t∧t.wp Q):ConOk P f [] (pureRun' ts sp):=
  con_ok (E:=E) (L:=L) hm hf hL ts sp fun x Q hq=>let ⟨_,e,ht⟩:=h x Q hq;fnPC_of hE e ht
end
def zE:(c:Cd)→El c
  | .int _=>(0:Int)
  | .bool=>false
  | .str=>ByteArray.mk #[]
  | .words=>⟨0,Pq.bp_pos 32⟩
  | .unit=>()
  | .pair a b=>(zE a,zE b)
  | .sl _=>[]
  | .ptr c=>zE c
def zU:Cd→List Value
  | .int k=>[.int k 0]
  | .bool=>[.bool false]
  | .str=>[.string (ByteArray.mk #[])]
  | .words=>Pq.am 32 0
  | .unit=>[]
  | .pair a b=>zU a++zU b
  | .sl _=>[.slice none 0 0]
  | .ptr _=>[]
def noPt:Cd→Bool
  | .ptr _=>false
  | .pair a b=>noPt a&&noPt b
  | _=>true
theorem z_is (w:World) (R:Nat→Prop) (σ:List Nat) : ∀ c:Cd,noPt c=true→Is w R σ (ck c (zE c)) (zU c)
  | .int _,_=>.v rfl .nil
  | .bool,_=>.v rfl .nil
  | .str,_=>.v rfl .nil
  | .words,_=>by
    have:Is w R σ [.w ⟨0,Pq.bp_pos 32⟩] (Pq.am 32 0++[]):=.w .nil
    rwa [List.append_nil]at this
  | .unit,_=>.nil
  | .pair a b,h=>by
    rw[noPt,Bool.and_eq_true]at h
    exact (z_is w R σ a h.1).app (z_is w R σ b h.2)
  | .sl _,_=>.dn .nil
  | .ptr _,h=>by cases h
def zOf {P:Program} (ty:TypeId) (c:Cd) (hn:noPt c=true) (h:(match P.info? ty with|some i=>i.zero.map (·.cells)|none=>none)=some (zU c).toArray):Zero P:=⟨ty,ck c (zE c),zU c,h,fun w R σ=>z_is w R σ c hn⟩
inductive BSh where
  | d (c:Cd)
  | r (k:Nat)
abbrev EBs:List BSh→Type
  | []=>Unit
  | .d c::r=>El c×EBs r
  | .r _::r=>EBs r
abbrev EBb:List (TypeId×List BSh)→Type
  | []=>Unit
  | b::r=>EBs b.2×EBb r
abbrev EGs:List (TypeId×Cd)→Type
  | []=>Unit
  | r::l=>Gr (El r.2)×EGs l
structure HSpec where
  n:Nat
  vs:List (Nat×Bool×Cd)
  ps:List (Nat×Nat×Nat)
  bs:List (TypeId×List BSh)
  rs:List (TypeId×Cd)
  sl:List (Nat×Nat)
  ex:Exit→List Nat
  exL:Exit→List (Nat×Nat)
abbrev HSpec.X (sp:HSpec):Type:=Els (vts sp.vs)
abbrev HSpec.Y (sp:HSpec):Type:=EBb sp.bs
abbrev HSpec.G (sp:HSpec):Type:=EGs sp.rs
def rowCks:(rs:List (TypeId×Cd))→EGs rs→Nat→List Ck
  | [],_,_=>[]
  | r::l,g,k=>match g.1 with
    | none=>.v (.slice none 0 0)::rowCks l g.2 k
    | some x=>.os k x.1.length x.2::rowCks l g.2 (k+1)
def rowMems:(rs:List (TypeId×Cd))→EGs rs→Mem
  | [],_=>[]
  | r::l,g=>match g.1 with
    | none=>rowMems l g.2
    | some x=>(r.1,[.row r.2 x.1 x.2])::rowMems l g.2
def mkCells:(shs:List BSh)→EBs shs→List Ck→List Ck
  | [],_,_=>[]
  | .d c::r,y,ex=>ck c y.1++mkCells r y.2 ex
  | .r k::r,y,ex=>ex.getD k .any::mkCells r y ex
def mkBlk:(bs:List (TypeId×List BSh))→EBb bs→List Ck→Mem
  | [],_,_=>[]
  | b::r,y,ex=>(b.1,mkCells b.2 y.1 ex)::mkBlk r y.2 ex
def HSpec.cks (sp:HSpec) (g:sp.G):List Ck:=rowCks sp.rs g sp.bs.length
def rowSl (sl:List (Nat×Nat)) (ex:List Ck):List (Nat×Av):=sl.map fun p=>(p.1,.one (ex.getD p.2 .any))
def HSpec.head (sp:HSpec) (x:sp.X) (y:sp.Y) (g:sp.G):St:=⟨mkFr sp.n (((sp.vs.map (·.1)).zip (encs (vts sp.vs) x)++pList sp.ps)++rowSl sp.sl (sp.cks g)),mkBlk sp.bs y (sp.cks g)++rowMems sp.rs g⟩
def HSpec.exitSt (sp:HSpec) (e:Exit) (avs:List Av) (y:sp.Y) (g:sp.G):St:=⟨mkFr sp.n (((sp.ex e).zip avs++pList sp.ps)++rowSl (sp.exL e) (sp.cks g)),mkBlk sp.bs y (sp.cks g)++rowMems sp.rs g⟩
def decBlk:(shs:List BSh)→List Ck→Option (EBs shs×List (Nat×Ck))
  | [],[]=>some ((),[])
  | .d c::r,cs=>match parse c cs with
    | some (x,cs')=>(match decBlk r cs' with
      | some (y,l)=>some ((x,y),l)
      | none=>none)
    | none=>none
  | .r k::r,c::cs=>match decBlk r cs with
    | some (y,l)=>some (y,(k,c)::l)
    | none=>none
  | _,_=>none
def decBlks:(bs:List (TypeId×List BSh))→Mem→Option (EBb bs×List (Nat×Ck))
  | [],_=>some ((),[])
  | b::r,(t,cs)::m=>match decide (t=b.1),decBlk b.2 cs,decBlks r m with
    | true,some (y,l),some (z,l')=>some ((y,z),l++l')
    | _,_,_=>none
  | _::_,[]=>none
def slCells (fr:List Av):List (Nat×Nat)→Option (List (Nat×Ck))
  | []=>some []
  | (t,k)::r=>match fr[t]?,slCells fr r with
    | some (.one c),some l=>some ((k,c)::l)
    | _,_=>none
def cellOf:List (Nat×Ck)→Nat→Ck
  | [],_=>.any
  | (j,c)::r,k=>match decide (j=k) with
    | true=>c
    | false=>cellOf r k
def rowIxs (l:List (Nat×Ck)):Nat→Nat→List Nat
  | _,0=>[]
  | k,n+1=>match cellOf l k with
    | .os j _ _=>j::rowIxs l (k+1) n
    | _=>rowIxs l (k+1) n
def HSpec.canon (sp:HSpec) (sl:List (Nat×Nat)) (live:List Nat) (st:St):T St:=fSt ⟨blankF (live++(sp.ps.map (·.1)++sl.map (·.1))) st.fr,st.mem⟩ fun st =>
  match slCells st.fr sl,decBlks sp.bs st.mem with
  | some l,some (_,l')=>fNats (List.range sp.bs.length++rowIxs (l++l') 0 sp.rs.length) fun I=>match okI sp.bs.length st.mem.length I with
    | true=>(gcT I st).bind fun st=>fSt st fun st=>.ret st
    | false=>.fail
  | _,_=>.fail
def decRows:(rs:List (TypeId×Cd))→Nat→Nat→List (Nat×Ck)→Mem→Option (EGs rs×List Prop)
  | [],_,_,_,_=>some ((),[])
  | r::rs,k,next,l,m=>match cellOf l k with
    | .v (.slice none 0 0)=>(match decRows rs (k+1) next l m with
      | some (g,p)=>some ((none,g),p)
      | none=>none)
    | .os j n cap=>(match decide (j=next),m[j]? with
      | true,some (ty,[.row c xs cap'])=>(match decide (ty=r.1),castRow c r.2 xs,decRows rs (k+1) (next+1) l m with
        | true,some ys,some (g,p)=>some ((some (ys,cap'),g),(n=ys.length∧cap'=cap)::p)
        | _,_,_=>none)
      | _,_=>none)
    | _=>none
def keysOk (rs:Nat) (l:List (Nat×Ck)):Bool:=nodB (l.map (·.1))&&l.all fun p=>decide (p.1<rs)
def HSpec.rest (sp:HSpec) (sl:List (Nat×Nat)) (st:St):Option (sp.Y×sp.G×List Prop):=
  match decide (st.fr.length=sp.n)&&ptrsOk sp.bs.length st.fr sp.ps,slCells st.fr sl,decBlks sp.bs st.mem with
  | true,some l,some (y,l')=>(match keysOk sp.rs.length (l++l'),decRows sp.rs 0 sp.bs.length (l++l') st.mem with
    | true,some (g,p)=>(match decide (st.mem.length=sp.bs.length+(rowMems sp.rs g).length) with
      | true=>some (y,g,p)
      | false=>none)
    | _,_=>none)
  | _,_,_=>none
def HSpec.dec (sp:HSpec) (st:St):Option (sp.X×sp.Y×sp.G×List Prop):=
  match getsA st.fr (sp.vs.map (·.1)),sp.rest sp.sl st with
  | some l,some (y,g,p)=>(match decs (vts sp.vs) l with
    | some x=>some (x,y,g,p)
    | none=>none)
  | _,_=>none
def HSpec.decE (sp:HSpec) (e:Exit) (st:St):Option (List Av×sp.Y×sp.G×List Prop):=
  match getsA st.fr (sp.ex e),sp.rest (sp.exL e) st with
  | some l,some (y,g,p)=>(match l.all noA with
    | true=>some (l.map nA,y,g,p)
    | false=>none)
  | _,_=>none
section
variable {P:Program} {E:Env P} {L:Loops} {w0 w:World} {φ σ0 σ:List Nat} {st:St} {a:Act}
inductive HRd (sp:HSpec):Type
  | again (x:sp.X) (y:sp.Y) (g:sp.G)
  | out (e:Exit) (avs:List Av) (y:sp.Y) (g:sp.G)
def HSpec.round {P:Program} (sp:HSpec) (E:Env P) (L:Loops) (body:Code) (x:sp.X) (y:sp.Y) (g:sp.G):T (HRd sp):=
  (code (E.at_ sp.bs.length) L body (sp.head x y g)).bind fun r=>match r.1 with
    | .normal=>(sp.canon sp.sl (sp.vs.map (·.1)) r.2).bind fun st=>(match sp.dec st with
      | some (x',y',g',p)=>needAll p (.ret (.again x' y' g'))
      | none=>.fail)
    | e=>(sp.canon (sp.exL e) (sp.ex e) r.2).bind fun st=>(match sp.decE e st with
      | some (avs,y',g',p)=>needAll p (.ret (.out e avs y' g'))
      | none=>.fail)
def HSpec.run (sp:HSpec) (out:sp.X→sp.Y→sp.G→T (Exit×List Av×sp.Y×sp.G)) (st:St):T (Exit×St):=
  (sp.canon sp.sl (sp.vs.map (·.1)) st).bind fun st=>match sp.dec st with
  | some (x,y,g,p)=>needAll p ((out x y g).bind fun r=>.ret (r.1,sp.exitSt r.1 r.2.1 r.2.2.1 r.2.2.2))
  | none=>.fail
end
end Ax
namespace Go.Proofs.YtmcbljjgkmkhcaaGreatDoor
open Go.RowKit Ax
abbrev cP:Cd:=.pair cF cF
abbrev Pt:=El cP
noncomputable def zeroP:Zero Tryz.prog:=⟨36,ck cP ((w0,w0),(w0,w0)),Pq.fl false 0 false 0++Pq.fl false 0 false 0,by kernel_rfl,fun w R σ=>(f_is w R σ (w0,w0)).app (f_is w R σ (w0,w0))⟩
noncomputable def codP:Cod Tryz.prog:=⟨36,cP,by kernel_rfl,⟨.agg (Pq.fl false 0 false 0++Pq.fl false 0 false 0).toArray,fun w=>by kernel_rfl⟩⟩
theorem cf_wline (xs:Array Value) (w:World):(callFunc 137 xs).run Tryz.prog w=.ok (.enter 137 xs) w:=by kernel_rfl
theorem cf_wnum (xs:Array Value) (w:World):(callFunc 94 xs).run Tryz.prog w=.ok (.enter 94 xs) w:=by kernel_rfl
theorem cf_wends (xs:Array Value) (w:World):(callFunc 93 xs).run Tryz.prog w=.ok (.enter 93 xs) w:=by kernel_rfl
theorem cf_wtrow (xs:Array Value) (w:World):(callFunc 91 xs).run Tryz.prog w=.ok (.enter 91 xs) w:=by kernel_rfl
theorem cf_wtab (xs:Array Value) (w:World):(callFunc 90 xs).run Tryz.prog w=.ok (.enter 90 xs) w:=by kernel_rfl
theorem cf_wnodes (xs:Array Value) (w:World):(callFunc 48 xs).run Tryz.prog w=.ok (.enter 48 xs) w:=by kernel_rfl
theorem cf_weles (xs:Array Value) (w:World):(callFunc 49 xs).run Tryz.prog w=.ok (.enter 49 xs) w:=by kernel_rfl
theorem cf_wedges (xs:Array Value) (w:World):(callFunc 50 xs).run Tryz.prog w=.ok (.enter 50 xs) w:=by kernel_rfl
theorem cf_wread (xs:Array Value) (w:World):(callFunc 21 xs).run Tryz.prog w=.ok (.enter 21 xs) w:=by kernel_rfl
theorem cf_wints (xs:Array Value) (w:World):(callFunc 35 xs).run Tryz.prog w=.ok (.enter 35 xs) w:=by kernel_rfl
theorem cf_wrow (xs:Array Value) (w:World):(callFunc 37 xs).run Tryz.prog w=.ok (.enter 37 xs) w:=by kernel_rfl
theorem cf_wNodes (xs:Array Value) (w:World):(callFunc 18 xs).run Tryz.prog w=.ok (.enter 18 xs) w:=by kernel_rfl
theorem cf_wEles (xs:Array Value) (w:World):(callFunc 19 xs).run Tryz.prog w=.ok (.enter 19 xs) w:=by kernel_rfl
theorem cf_wEdges (xs:Array Value) (w:World):(callFunc 20 xs).run Tryz.prog w=.ok (.enter 20 xs) w:=by kernel_rfl
theorem cf_wRounded (xs:Array Value) (w:World):(callFunc 10 xs).run Tryz.prog w=.ok (.enter 10 xs) w:=by kernel_rfl
theorem cf_wjoin (xs:Array Value) (w:World):(callFunc 54 xs).run Tryz.prog w=.ok (.enter 54 xs) w:=by kernel_rfl
theorem cf_wsame (xs:Array Value) (w:World):(callFunc 22 xs).run Tryz.prog w=.ok (.enter 22 xs) w:=by kernel_rfl
theorem wned {β:Type} {p:Prop} {t:T β} {Q:β→Prop} (hp:p) (h:t.wp Q):(T.need p t).wp Q:=⟨hp,h⟩
theorem wget {α β:Type} {l:List α} {i:Int} {K:α→T β} {Q:β→Prop} {v:α} (h0:0≤i) (hv:l[i.toNat]?=some v) (h:(K v).wp Q):(T.get l i K).wp Q:=⟨v,h0,hv,h⟩
theorem witf {β:Type} {c:Bool} {s t:T β} {Q:β→Prop} (hc:c=false) (h:t.wp Q):(T.ite c s t).wp Q:=⟨fun e=>Bool.noConfusion (hc.symm.trans e),fun _=>h⟩
theorem witt {β:Type} {c:Bool} {s t:T β} {Q:β→Prop} (hc:c=true) (h:s.wp Q):(T.ite c s t).wp Q:=⟨fun _=>h,fun e=>Bool.noConfusion (e.symm.trans hc)⟩
noncomputable def con_rparse1:Con Tryz.prog:=⟨92,[],_,cf_rparse,val_con (E:=E16) mixed Tryz.func92 no_loops [(false,.str)] (fun x=>lenOk (ByteArray.size x.1)) (fun x=>ansA true cF ((pR x.1).isSome) ((pR x.1).getD (w0,w0)) (w0,w0)) fun x hx=>by
  rw[tr_rparse_eq]
  exact rparse_ok x hx⟩
abbrev cI3:Cd:=.pair (.int .i64) (.pair (.int .i64) (.int .i64))
abbrev cMesh:Cd:=.pair (.sl cP) (.pair (.sl cI3) (.sl cI3))
abbrev cTab:Cd:=.pair (.sl cL) .bool
noncomputable def codStrW:Cod Tryz.prog:=⟨9,.str,by kernel_rfl,⟨.string (ByteArray.mk #[]),fun w=>by kernel_rfl⟩⟩
noncomputable def codIntW:Cod Tryz.prog:=⟨3,.int .i64,by kernel_rfl,⟨.int .i64 0,fun w=>by kernel_rfl⟩⟩
noncomputable def cod3W:Cod Tryz.prog:=⟨79,cI3,by kernel_rfl,⟨.agg (zU cI3).toArray,fun w=>by kernel_rfl⟩⟩
noncomputable def codEdge:Cod Tryz.prog:=⟨80,cI3,by kernel_rfl,⟨.agg (zU cI3).toArray,fun w=>by kernel_rfl⟩⟩
noncomputable def zeroStrW:Zero Tryz.prog:=zOf 9 .str rfl (by kernel_rfl)
noncomputable def zeroIntW:Zero Tryz.prog:=zOf 3 (.int .i64) rfl (by kernel_rfl)
noncomputable def zero3W:Zero Tryz.prog:=zOf 79 cI3 rfl (by kernel_rfl)
noncomputable def zeroEdge:Zero Tryz.prog:=zOf 80 cI3 rfl (by kernel_rfl)
noncomputable def zeroMesh:Zero Tryz.prog:=zOf 41 cMesh rfl (by kernel_rfl)
noncomputable def zeroText:Zero Tryz.prog:=zOf 147 cTab rfl (by kernel_rfl)
noncomputable def zeroTab:Zero Tryz.prog:=zOf 149 cTab rfl (by kernel_rfl)
noncomputable def EW0:Env Tryz.prog:=⟨con_rparse1::con_llines::con_lint::con_itoa::EZ.con,zeroStrW::zeroIntW::zero3W::zeroEdge::zeroMesh::zeroText::zeroTab::zeroP::EZ.zero,codStrW::codIntW::cod3W::codEdge::codP::EZ.cod,fun _=>false,0,fun _=>[]⟩
def wiv (s:ByteArray):Int:=if lintB s=true then atoiV s else 0
abbrev LLw:=List (Int×List ByteArray)
abbrev WT:=LLw×Bool
def wlOk (n:Int) (t:WT):Bool := !t.2&&(match t.1 with
  | []=>false
  | l::_=>decide ((l.2.length:Int)=n))
def whead (l:LLw):List ByteArray:=match l with
  | []=>[]
  | a::_=>a.2
def wlW (n:Int) (t:WT):List ByteArray:=if wlOk n t=true then whead t.1 else List.replicate n.toNat (ByteArray.mk #[])
def wlT (n:Int) (t:WT):WT:=if wlOk n t=true then (t.1.drop 1,t.2) else (t.1,true)
def wnOk (w:ByteArray) (lo hi:Int):Bool:=lintB w&&decide (lo≤wiv w∧wiv w≤hi)
def wnV (w:ByteArray) (lo hi:Int):Int:=if wnOk w lo hi=true then wiv w else 0
def wnT (w:ByteArray) (lo hi:Int) (t:WT):WT:=(t.1,t.2 || !wnOk w lo hi)
def badW (n:Int) (t:WT):T (Av×WT):=.need (0≤n∧n=n∧16*n.toNat≤281474976710656∧n.toNat≤maxLen) (.need (n.toNat≤(List.replicate n.toNat (zE .str)).length) (.ret (.one (.ds .str (List.take n.toNat (List.replicate n.toNat (zE .str)))),(t.1,true))))
def wlTree (n:Int) (t:WT):T (Av×WT):=.ite t.2 (badW n t) (.ite ((List.length t.1:Int)==0) (badW n t) (.get t.1 0 fun l=>.ite ((List.length l.2:Int) != n) (badW n t) (.get t.1 0 fun l=>.need ((0:Int)≤1∧(1:Int)≤List.length t.1∧(List.length t.1:Int)≤List.length t.1) (.ret (.one (.ds .str l.2),(List.drop (Int.toNat 1) (List.take (Int.toNat (List.length t.1:Int)) t.1),t.2))))))
theorem tr_wline_eq (n:Int) (t:WT):ptr1 EW0 (fun _=>none) Tryz.f137 0 149 cTab t (encs [(false,.int .i64)] (n,()))=wlTree n t:=by kernel_rfl
theorem badW_wp {n:Int} {t:WT} (h:0≤n∧n≤1000) (hb:wlOk n t=false):(badW n t).wp (· = (.one (.ds .str (wlW n t)),wlT n t)):=by
  unfold badW
  have hm:maxLen=9223372036854775807:=rfl
  refine wned ⟨h.1,rfl,by omega,by omega⟩ (wned (by rw[List.length_replicate];exact Nat.le_refl _) ?_)
  show (_,_)=_
  have e:wlW n t=List.take n.toNat (List.replicate n.toNat (zE .str)):=by
    unfold wlW
    rw[hb,if_neg Bool.false_ne_true,List.take_of_length_le (by rw[List.length_replicate];exact Nat.le_refl _)]
    rfl
  have e2:wlT n t=(t.1,true):=by unfold wlT;rw[hb,if_neg Bool.false_ne_true]
  rw[e,e2]
theorem wl_ok {n:Int} {t:WT} (h:0≤n∧n≤1000):(wlTree n t).wp (· = (.one (.ds .str (wlW n t)),wlT n t)):=by
  obtain ⟨l,b⟩:=t
  unfold wlTree
  refine ⟨fun hb=>badW_wp h ?_,fun hb=>⟨fun h0=>badW_wp h ?_,fun h0=>?_⟩⟩
  · have hb:b=true:=hb
    unfold wlOk;rw[hb];rfl
  · cases l with
    | nil=>unfold wlOk;simp
    | cons a r=>simp at h0;omega
  · cases l with
    | nil=>simp at h0
    | cons a r =>
      have hb:b=false:=hb
      subst hb
      refine wget (v:=a) (Int.le_refl 0) rfl ⟨fun h1=>badW_wp h ?_,fun h1=>wget (v:=a) (Int.le_refl 0) rfl (wned ⟨by decide,by simp only[List.length_cons];omega,Int.le_refl _⟩ ?_)⟩
      · have h1:¬ (a.2.length:Int)=n:=by simpa using h1
        unfold wlOk
        simp only[decide_eq_false h1,Bool.and_false]
      · have h1:(a.2.length:Int)=n:=by simpa using h1
        have e:wlOk n (a::r,false)=true:=by
          unfold wlOk
          simp only[decide_eq_true h1,Bool.not_false,Bool.and_true]
        show (_,_)=_
        unfold wlW wlT
        rw[e,if_pos rfl,if_pos rfl,Int.toNat_natCast,List.take_length]
        rfl
noncomputable def con_wline:Con Tryz.prog:=⟨137,[0],_,cf_wline,ptr1_ok (E:=EW0) (L:=fun _=>none) mixed Tryz.func137 no_loops 0 149 cTab [(false,.int .i64)] (fun t x=>.need (0≤x.1∧x.1≤1000) (.ret (.one (.ds .str (wlW x.1 t)),wlT x.1 t))) fun t x Q hq=>by
  obtain ⟨n,u⟩:=x
  have h1:0≤n∧n≤1000:=hq.1
  have hq:=hq.2
  rw[show ptr1 EW0 (fun _=>none) Tryz.f137 0 149 cTab t (encs [(false,.int .i64)] (n,u))=wlTree n t from tr_wline_eq n t]
  exact T.wp_mono (fun r hr=>by rw[hr];exact hq) (wl_ok h1)⟩
def wnBad (t:WT):T (Av×WT):=.ret (.one (.v (.int .i64 0)),(t.1,true))
def wnTree (t:WT) (w:ByteArray) (lo hi:Int):T (Av×WT):=.need (ByteArray.size w≤281474976710656) (.ite (!lintB w) (wnBad t) (.ite (decide (wiv w<lo)) (wnBad t) (.ite (decide (wiv w>hi)) (wnBad t) (.ret (.one (.v (.int .i64 (wiv w))),t)))))
theorem tr_wnum_eq (t:WT) (w:ByteArray) (lo hi:Int):ptr1 EW0 (fun _=>none) Tryz.f94 0 149 cTab t (encs [(false,.str),(false,.int .i64),(false,.int .i64)] (w,lo,hi,()))=wnTree t w lo hi:=by kernel_rfl
theorem wnBad_wp {t:WT} {w:ByteArray} {lo hi:Int} (h:wnOk w lo hi=false):(wnBad t).wp (· = (.one (.v (.int .i64 (wnV w lo hi))),wnT w lo hi t)):=by
  show (_,_)=_
  unfold wnV wnT
  rw[h,if_neg Bool.false_ne_true]
  simp
theorem wn_ok {t:WT} {w:ByteArray} {lo hi:Int} (h:w.size≤281474976710656):(wnTree t w lo hi).wp (· = (.one (.v (.int .i64 (wnV w lo hi))),wnT w lo hi t)):=by
  unfold wnTree
  refine wned h ⟨fun h1=>wnBad_wp ?_,fun h1=>⟨fun h2=>wnBad_wp ?_,fun h2=>⟨fun h3=>wnBad_wp ?_,fun h3=>?_⟩⟩⟩
  · have h1:lintB w=false:=by simpa using h1
    unfold wnOk;rw[h1];rfl
  · have h2:=of_decide_eq_true h2
    unfold wnOk;rw[decide_eq_false (by omega),Bool.and_false]
  · have h3:=of_decide_eq_true h3
    unfold wnOk;rw[decide_eq_false (by omega),Bool.and_false]
  · have h1:lintB w=true:=by simpa using h1
    have h2:=of_decide_eq_false h2
    have h3:=of_decide_eq_false h3
    have e:wnOk w lo hi=true:=by unfold wnOk;rw[h1,decide_eq_true (by omega)];rfl
    show (_,_)=_
    unfold wnV wnT
    rw[e,if_pos rfl]
    simp
noncomputable def con_wnum:Con Tryz.prog:=⟨94,[0],_,cf_wnum,ptr1_ok (E:=EW0) (L:=fun _=>none) mixed Tryz.func94 no_loops 0 149 cTab [(false,.str),(false,.int .i64),(false,.int .i64)] (fun t x=>.need (ByteArray.size x.1≤281474976710656) (.ret (.one (.v (.int .i64 (wnV x.1 x.2.1 x.2.2.1))),wnT x.1 x.2.1 x.2.2.1 t))) fun t x Q hq=>by
  obtain ⟨w,lo,hi,u⟩:=x
  obtain ⟨h1,hq⟩:=hq
  rw[show ptr1 EW0 (fun _=>none) Tryz.f94 0 149 cTab t (encs [(false,.str),(false,.int .i64),(false,.int .i64)] (w,lo,hi,u))=wnTree t w lo hi from tr_wnum_eq t w lo hi]
  exact T.wp_mono (fun r hr=>by rw[hr];exact hq) (wn_ok h1)⟩
def weTree (t:WT):T (Av×WT):=.ite (!t.2) (.ret (.one (.v (.bool ((List.length t.1:Int)==0))),t)) (.ret (.one (.v (.bool false)),t))
theorem tr_wends_eq (t:WT):ptr1 EW0 (fun _=>none) Tryz.f93 0 149 cTab t (encs [] ())=weTree t:=by kernel_rfl
def wendB (t:WT):Bool := !t.2&&t.1.isEmpty
noncomputable def con_wends:Con Tryz.prog:=⟨93,[0],_,cf_wends,ptr1_ok (E:=EW0) (L:=fun _=>none) mixed Tryz.func93 no_loops 0 149 cTab [] (fun t x=>.ret (.one (.v (.bool (wendB t))),t)) fun t x Q hq=>by
  rw[show ptr1 EW0 (fun _=>none) Tryz.f93 0 149 cTab t (encs [] x)=weTree t from tr_wends_eq t]
  obtain ⟨l,b⟩:=t
  have hq:Q (.one (.v (.bool (wendB (l,b)))),(l,b)):=hq
  unfold weTree
  refine ⟨fun h=>?_,fun h=>?_⟩
  · have h:b=false:=by simpa using h
    subst h
    show Q (_,_)
    have e:wendB (l,false)=((l.length:Int)==0):=by
      unfold wendB
      cases l <;> simp
      omega
    rw[e]at hq
    exact hq
  · have h:b=true:=by simpa using h
    subst h
    exact hq⟩
def joinB (xs:List ByteArray) (sep:ByteArray):ByteArray:=⟨(Lib.join (xs.map (·.data.toList)) sep.data.toList).toArray⟩
noncomputable def con_wjoin:Con Tryz.prog:=⟨54,[],pureRun' [(false,.sl .str),(false,.str)] (fun x=>.need (List.length x.1≤1000000∧(joinB x.1 x.2.1).size≤1000000000) (.ret (.one (.v (.string (joinB x.1 x.2.1)))))),cf_wjoin,ret_con _ _ fun x vs w R Q ha hQ=>by
  obtain ⟨v,v',rfl,h1,h2⟩:=args2 ha
  obtain ⟨xs,sep,u⟩:=x
  have e2:v'=.string sep:=val_of h2 rfl
  subst e2
  obtain ⟨⟨k1,k2⟩,hQ⟩:=hQ
  have k2:(Lib.join (xs.map (·.data.toList)) sep.data.toList).length≤1000000000:=k2
  rcases is_ds (c:=.str) (xs:=xs) h1 with ⟨rfl,rfl⟩|⟨rfl,a',cap,rfl⟩|⟨b,of,cap,g,rfl,hc,hR,g1,g2,g3⟩
  · exact ⟨_,_,hQ,(Tryz.strings_Join_none none 0 sep w).mono fun e w' hr=>⟨hr.1,hr.2 ▸ Below.refl _ _⟩,fun _ _=>.val rfl⟩
  · exact ⟨_,_,hQ,(Tryz.strings_Join_none (some a') cap sep w).mono fun e w' hr=>⟨hr.1,hr.2 ▸ Below.refl _ _⟩,fun _ _=>.val rfl⟩
  · have cells : ∀ (j:Nat) (x:ByteArray),xs[j]?=some x→w.cell? ⟨b,of+j,none⟩=some (.string x):=fun j x hj=>by
      obtain ⟨t,e,h⟩:=is_v (g2 j x hj)
      cases h
      have:=g3 j x hj 0 (.string x) (by rw[e];rfl)
      simpa [csz] using this
    cases xs with
    | nil=>exact ⟨_,_,hQ,(Tryz.strings_Join_none (some ⟨b,of,none⟩) cap sep w).mono fun e w' hr=>⟨hr.1,hr.2 ▸ Below.refl _ _⟩,fun _ _=>.val rfl⟩
    | cons y r =>
      have hb:b<w.heap.size:=by
        have:=cells 0 y rfl
        unfold World.cell? at this
        rcases Nat.lt_or_ge b w.heap.size with h|h
        · exact h
        · rw[show w.heap[(⟨b,of+0,none⟩:Addr).block]?=none from Array.getElem?_eq_none h]at this
          cases this
      exact ⟨_,_,hQ,(Tryz.strings_Join b of cap (y::r) sep w cells hb (Nat.le_trans (show (y::r).length≤1000000 from k1) (by decide)) hc (Nat.le_trans k2 (by decide))).mono fun e w' hr=>⟨hr.1,hr.2⟩,fun _ _=>.val rfl⟩⟩
noncomputable def EW1:Env Tryz.prog:=EW0.add [con_wline,con_wnum,con_wends,con_wjoin]
def spB:ByteArray:=⟨#[32]⟩
def rowS (xs:List ByteArray):ByteArray:=joinB xs spB++⟨#[10]⟩
def rwTree (xs:List ByteArray):T Av:=.need (List.length xs≤1000000∧(joinB xs spB).size≤1000000000) (.need (((joinB xs spB).size+ByteArray.size ⟨#[10]⟩:Nat)≤IntKind.max .i64) (.lt (joinB xs spB++⟨#[10]⟩) fun v=>.ret (.one (.v (.string v)))))
theorem tr_wrow_eq (xs:List ByteArray):fnP EW1 (fun _=>none) Tryz.f37 (encs [(false,.sl .str)] (xs,()))=rwTree xs:=by kernel_rfl
noncomputable def con_wrow:Con Tryz.prog:=⟨37,[],_,cf_wrow,val_con (E:=EW1) (L:=fun _=>none) mixed Tryz.func37 no_loops [(false,.sl .str)] (fun x=>List.length x.1≤1000000∧(joinB x.1 spB).size≤1000000000) (fun x=>.one (.v (.string (rowS x.1)))) fun x hx=>by
  obtain ⟨xs,u⟩:=x
  rw[show fnP EW1 (fun _=>none) Tryz.f37 (encs [(false,.sl .str)] (xs,u))=rwTree xs from tr_wrow_eq xs]
  have h2:(joinB xs spB).size≤1000000000:=hx.2
  refine wned hx (wned ?_ rfl)
  show (((joinB xs spB).size+1:Nat):Int)≤9223372036854775807
  omega⟩
noncomputable def EW2:Env Tryz.prog:=EW1.add [con_wrow]
end Go.Proofs.YtmcbljjgkmkhcaaGreatDoor
namespace Ax
open Go Go.RowKit
section
variable {P:Program} {con:List (Con P)}
end
end Ax
namespace Go.Proofs.YtmcbljjgkmkhcaaGreatDoor
open Go.RowKit Ax
def wi1 (i:Int):Int:=IntKind.wrap .i64 (i+1)
theorem wi1_eq {i:Int} (h : -1000000000000≤i∧i≤1000000000000):wi1 i=i+1:=IntWalk.i64_in _ (by omega)
def rwT (t:WT) (i k:Int):T (Av×WT):=.need (0≤wi1 k∧wi1 k≤1000) (.get (wlW (wi1 k) t) 0 fun w=>.need (ByteArray.size w≤281474976710656) (.need ((0:Int)≤1∧(1:Int)≤List.length (wlW (wi1 k) t)∧(List.length (wlW (wi1 k) t):Int)≤List.length (wlW (wi1 k) t)) (.ret (.one (.ds .str (List.drop (Int.toNat 1) (List.take (Int.toNat (List.length (wlW (wi1 k) t):Int)) (wlW (wi1 k) t)))),wnT w (wi1 i) (wi1 i) (wlT (wi1 k) t)))))
theorem tr_wtrow_eq (t:WT) (i k:Int):ptr1 EW2 (fun _=>none) Tryz.f91 0 149 cTab t (encs [(false,.int .i64),(false,.int .i64)] (i,k,()))=rwT t i k:=by kernel_rfl
def wat (l:List ByteArray) (k:Nat):ByteArray:=(l[k]?).getD (ByteArray.mk #[])
def trW (k:Int) (t:WT):List ByteArray:=(wlW (k+1) t).drop 1
def trT (i k:Int) (t:WT):WT:=wnT (wat (wlW (k+1) t) 0) (i+1) (i+1) (wlT (k+1) t)
def WOk (t:WT):Prop := ∀ l∈t.1,∀ w∈l.2,w.size≤900000
theorem wlW_len {n:Int} (h:0≤n) (t:WT):((wlW n t).length:Int)=n:=by
  unfold wlW
  split
  · rename_i e
    unfold wlOk at e
    obtain ⟨l,b⟩:=t
    cases l with
    | nil=>simp at e
    | cons a r =>
      simp at e
      exact e.2
  · rw[List.length_replicate];omega
theorem wlW_ok {n:Int} {t:WT} (h:WOk t) : ∀ w∈wlW n t,w.size≤900000:=by
  intro w hw
  unfold wlW at hw
  split at hw
  · obtain ⟨l,b⟩:=t
    cases l with
    | nil=>cases hw
    | cons a r=>exact h a (by simp) w hw
  · rw[List.eq_of_mem_replicate hw];decide
theorem wlT_ok {n:Int} {t:WT} (h:WOk t):WOk (wlT n t):=by
  unfold wlT
  split
  · exact fun l hl=>h l (List.mem_of_mem_drop hl)
  · exact h
theorem wnT_ok {w:ByteArray} {lo hi:Int} {t:WT} (h:WOk t):WOk (wnT w lo hi t):=h
theorem trT_ok {i k:Int} {t:WT} (h:WOk t):WOk (trT i k t):=wlT_ok h
theorem wat_get {l:List ByteArray} {k:Nat} (h:k<l.length):l[k]?=some (wat l k):=by
  unfold wat
  rw[List.getElem?_eq_getElem h]
  rfl
theorem wat_ok {l:List ByteArray} {k:Nat} (h : ∀ w∈l,w.size≤900000):(wat l k).size≤900000:=by
  unfold wat
  cases e:l[k]? with
  | none=>exact (by decide:(ByteArray.mk #[]).size≤900000)
  | some w=>exact h w (List.mem_of_getElem? e)
theorem trW_len {k:Int} (h:0≤k) (t:WT):((trW k t).length:Int)=k:=by
  have:=wlW_len (n:=k+1) (by omega) t
  unfold trW
  rw[List.length_drop]
  omega
theorem trW_ok {k:Int} {t:WT} (h:WOk t) : ∀ w∈trW k t,w.size≤900000:=fun w hw=>wlW_ok h w (List.mem_of_mem_drop hw)
theorem rwT_wp {t:WT} {i k:Int} (ht:WOk t) (hi:0≤i∧i≤100000) (hk:0≤k∧k≤100):(rwT t i k).wp (· = (.one (.ds .str (trW k t)),trT i k t)):=by
  unfold rwT
  rw[wi1_eq (i:=i) (by omega),wi1_eq (i:=k) (by omega)]
  have hl:=wlW_len (n:=k+1) (by omega) t
  have hg:(wlW (k+1) t)[(0:Int).toNat]?=some (wat (wlW (k+1) t) 0):=wat_get (by omega)
  have hs:=wat_ok (k:=0) (wlW_ok (n:=k+1) ht)
  refine wned (by omega) (wget (Int.le_refl 0) hg (wned (by omega) (wned (by omega) ?_)))
  rw[Int.toNat_natCast,List.take_length]
  rfl
noncomputable def con_wtrow:Con Tryz.prog:=⟨91,[0],_,cf_wtrow,ptr1_ok (E:=EW2) (L:=fun _=>none) mixed Tryz.func91 no_loops 0 149 cTab [(false,.int .i64),(false,.int .i64)] (fun t x=>.need (WOk t∧(0≤x.1∧x.1≤100000)∧(0≤x.2.1∧x.2.1≤100)) (.ret (.one (.ds .str (trW x.2.1 t)),trT x.1 x.2.1 t))) fun t x Q hq=>by
  obtain ⟨i,k,u⟩:=x
  have h1:WOk t∧(0≤i∧i≤100000)∧(0≤k∧k≤100):=hq.1
  have hq:=hq.2
  rw[show ptr1 EW2 (fun _=>none) Tryz.f91 0 149 cTab t (encs [(false,.int .i64),(false,.int .i64)] (i,k,u))=rwT t i k from tr_wtrow_eq t i k]
  exact T.wp_mono (fun r hr=>by rw[hr];exact hq) (rwT_wp h1.1 h1.2.1 h1.2.2)⟩
noncomputable def OTb:Opt EW2.con:=⟨[],[],fun _=>none⟩
noncomputable def unTb:St→T (Exit×St):=fun st=>unrollC OTb (EW2.at_ 0) (fun _=>none) (bodyOf Tryz.f90 0) (rowRounds 30 [(33,true)] [(33,false)] st) st
noncomputable def lpTb:Loops:=oneL 5 unTb
theorem unTb_ok:LoopOk Tryz.prog 0 (bodyOf Tryz.f90 0) unTb:=unrollS_ok (O:=OTb) (E:=EW2) rfl mixed 0 (loops_none _ _ _) _
noncomputable def con_wtab:Con Tryz.prog:=⟨90,[],_,cf_wtab,inlC_ok (O:=OTb) (E:=EW2) (L:=lpTb) rfl mixed Tryz.func90 0 (one_loop unTb_ok (by kernel_rfl)) []⟩
noncomputable def EW3:Env Tryz.prog:=EW2.add [con_wtrow,con_wtab]
abbrev spNd:RSpec:=⟨77,[(5,false,.int .i64),(7,false,.int .i64)],[(4,0,0)],[(149,cTab)],fun _=>[],6,36,cP,false,fun _=>6⟩
abbrev GP:=Gr Pt
def pRV (s:ByteArray):F:=if (pR s).isSome=true then (pR s).getD (w0,w0) else (w0,w0)
def ndEx (t:WT) (g:GP):T (RRd spNd):=.need (gnd (gl g) g) (.ret (.out (Exit.exit 0) [] (t,()) g))
def ndK (n i:Int) (t:WT) (g:GP) (a b:ByteArray) (bad:Bool):T (RRd spNd):=appG 527 g (pRV a,pRV b) fun m g'=>.need (gnd m g') (.ret (.again (n,wi1 i,()) ((t.1,bad),()) g'))
def ndT (n i:Int) (t:WT) (g:GP) (a b:ByteArray):T (RRd spNd):=.ite t.2 (ndK n i t g a b true) (.ite (!(pR a).isSome) (ndK n i t g a b true) (ndK n i t g a b (!(pR b).isSome)))
def ndB (n i:Int) (t:WT) (g:GP):T (RRd spNd):=.need (WOk t∧(0≤i∧i≤100000)∧(0≤(2:Int)∧(2:Int)≤100)) (.get (trW 2 t) 0 fun a=>.need (lenOk (ByteArray.size a)) (.get (trW 2 t) 1 fun b=>.need (lenOk (ByteArray.size b)) (ndT n i (trT i 2 t) g a b)))
def ndR (n i:Int) (t:WT) (g:GP):T (RRd spNd):=.ite (decide (i<n)) (.ite (!t.2) (ndB n i t g) (ndEx t g)) (ndEx t g)
theorem tr_ndL_eq (n i:Int) (t:WT) (xs:List Pt) (cap:Nat):RSpec.round spNd EW3 (fun _=>none) (bodyOf Tryz.f48 0) (n,i,()) (t,()) (some (xs,cap))=ndR n i t (some (xs,cap)):=by kernel_rfl
theorem tr_ndL0_eq (n i:Int) (t:WT):RSpec.round spNd EW3 (fun _=>none) (bodyOf Tryz.f48 0) (n,i,()) (t,()) none=ndR n i t none:=by kernel_rfl
def tbGo {α:Type} (f:Int→WT→α×WT):Nat→Int→WT→List α×WT
  | 0,_,t=>([],t)
  | k+1,i,t=>if t.2=true then ([],t) else ((f i t).1::(tbGo f k (i+1) (f i t).2).1,(tbGo f k (i+1) (f i t).2).2)
def ndF (i:Int) (t:WT):Pt×WT:=((pRV (wat (trW 2 t) 0),pRV (wat (trW 2 t) 1)),((trT i 2 t).1,(trT i 2 t).2||(!(pR (wat (trW 2 t) 0)).isSome || !(pR (wat (trW 2 t) 1)).isSome)))
abbrev TbInv (n i:Int) (t:WT) (m:Nat):Prop:=n≤4000∧0≤i∧WOk t∧(m:Int)≤i
def outNd (x:RSpec.X spNd) (y:RSpec.Y spNd) (g:RSpec.G spNd):T (Exit×List Av×RSpec.Y spNd×RSpec.G spNd):=
  .need (TbInv x.1 x.2.1 y.1 (gl (α:=Pt) g)) (finG (Exit.exit 0) [] ((tbGo ndF (x.1-x.2.1).toNat x.2.1 y.1).2,()) g (tbGo ndF (x.1-x.2.1).toNat x.2.1 y.1).1)
theorem tbGo_end {α:Type} (f:Int→WT→α×WT) {n i:Int} {t:WT} (h:¬ i<n∨t.2=true):tbGo f (n-i).toNat i t=([],t):=by
  rcases h with h|h
  · rw[show (n-i).toNat=0 by omega];rfl
  · cases (n-i).toNat with
    | zero=>rfl
    | succ k=>rw[tbGo,if_pos h]
theorem tbGo_next {α:Type} (f:Int→WT→α×WT) {n i:Int} {t:WT} (h:i<n) (hb:t.2=false):tbGo f (n-i).toNat i t=((f i t).1::(tbGo f (n-(i+1)).toNat (i+1) (f i t).2).1,(tbGo f (n-(i+1)).toNat (i+1) (f i t).2).2):=by
  rw[show (n-i).toNat=(n-(i+1)).toNat+1 by omega,tbGo,if_neg (by rw[hb];exact Bool.false_ne_true)]
theorem nd_core (n i : Int) (t : WT) (g : GP) (Q : Exit × List Av × RSpec.Y spNd × RSpec.G spNd → Prop) (hq : (outNd (n, i, ()) (t, ()) g).wp Q) : (ndR n i t g).wp fun r => match r with
      | .again x' y' g'=>(x'.1-x'.2.1).toNat<(n-i).toNat∧(outNd x' y' g').wp Q
      | .out e avs y' g'=>Q (e,avs,y',g'):=by
  obtain ⟨⟨hn,i0,ht,hg⟩,hq⟩:=hq
  have hn:n≤4000:=hn
  have i0:0≤i:=i0
  have ht:WOk t:=ht
  have hg:((gl g:Nat):Int)≤i:=hg
  have hq:(finG (Exit.exit 0) [] ((tbGo ndF (n-i).toNat i t).2,()) g (tbGo ndF (n-i).toNat i t).1).wp Q:=hq
  have ex:(¬ i<n∨t.2=true)→(ndEx t g).wp fun r=>match r with
      | .again x' y' g'=>(x'.1-x'.2.1).toNat<(n-i).toNat∧(outNd x' y' g').wp Q
      | .out e avs y' g'=>Q (e,avs,y',g'):=fun h=>by
    rw[tbGo_end ndF h]at hq
    exact wned (gnd_gl g) (finG_nil hq)
  refine ⟨fun hlt=>⟨fun hb=>?_,fun hb=>ex (.inr (by simpa using hb))⟩,fun hge=>ex (.inl (of_decide_eq_false hge))⟩
  have hlt:=of_decide_eq_true hlt
  have hb:t.2=false:=by simpa using hb
  rw[tbGo_next ndF hlt hb]at hq
  have hl:=trW_len (k:=2) (by decide) t
  have hs:=fun k=>wat_ok (k:=k) (trW_ok (k:=2) ht)
  have s0:=hs 0
  have s1:=hs 1
  unfold ndB
  refine wned ⟨ht,⟨i0,by omega⟩,by decide⟩ (wget (Int.le_refl 0) (wat_get (k:=0) (by omega)) (wned (by unfold lenOk;omega) (wget (by decide) (wat_get (k:=1) (by omega)) (wned (by unfold lenOk;omega) ?_))))
  have K : ∀ bad:Bool,((trT i 2 t).2||(!(pR (wat (trW 2 t) 0)).isSome || !(pR (wat (trW 2 t) 1)).isSome))=bad→(ndK n i (trT i 2 t) g (wat (trW 2 t) 0) (wat (trW 2 t) 1) bad).wp fun r=>match r with
      | .again x' y' g'=>(x'.1-x'.2.1).toNat<(n-i).toNat∧(outNd x' y' g').wp Q
      | .out e avs y' g'=>Q (e,avs,y',g'):=fun bad hbad=>by
    unfold ndK
    have hm:maxLen=9223372036854775807:=rfl
    refine appG_wp (by omega) (by omega) fun k=>wned (gnd_app g _ k) ?_
    rw[wi1_eq (i:=i) (by omega)]
    have ef:ndF i t=((pRV (wat (trW 2 t) 0),pRV (wat (trW 2 t) 1)),((trT i 2 t).1,bad)):=by unfold ndF;rw[hbad]
    rw[ef]at hq
    refine ⟨show (n-(i+1)).toNat<(n-i).toNat by omega,wned ⟨hn,show 0≤i+1 by omega,trT_ok (i:=i) (k:=2) ht,?_⟩ (finG_cons hq k)⟩
    show (((gx g++[_]).length:Nat):Int)≤i+1
    rw[List.length_append,←gl_eq]
    simp only[List.length_cons,List.length_nil]
    omega
  refine ⟨fun h=>K true (by rw[show (trT i 2 t).2=true from h];rfl),fun h=>⟨fun h2=>K true (by rw[h2];simp),fun h2=>K _ (by rw[show (trT i 2 t).2=false from h,h2];simp)⟩⟩
theorem ndL_ok:LoopOk Tryz.prog 0 (bodyOf Tryz.f48 0) (spNd.run outNd):=
  loopR_ok (E:=EW3) (L:=fun _=>none) mixed 0 (loops_none _ _ _) spNd (Nat.zero_le _) outNd (fun x _ _=>(x.1-x.2.1).toNat) (by
    rintro ⟨n,i,⟨⟩⟩ ⟨t,⟨⟩⟩ g Q hq
    match g,hq with
    | some (xs,cap),hq =>
      rw[tr_ndL_eq n i t xs cap]
      exact nd_core n i t (some (xs,cap)) Q hq
    | none,hq =>
      rw[tr_ndL0_eq n i t]
      exact nd_core n i t none Q hq)
noncomputable def lpNd:Loops:=oneL 4 (spNd.run outNd)
def wordU (w:List UInt8):Prop:=w≠[] ∧ ∀ c∈w,c≠10∧c≠35∧bl c=false
def inter:List (List UInt8)→List UInt8
  | []=>[]
  | [w]=>w
  | w::x::r=>w++32::inter (x::r)
def rowU (ws:List (List UInt8)):List UInt8:=inter ws++[10]
theorem inter_join : ∀ ws:List (List UInt8),Lib.join ws [32]=inter ws
  | []=>rfl
  | [w]=>by simp[Lib.join,inter,List.intercalate]
  | w::x::r=>by
    have ih:=inter_join (x::r)
    unfold Lib.join at ih ⊢
    rw[inter,←ih]
    simp[List.intercalate,List.intersperse]
theorem bl_32:bl 32=true:=by decide
theorem w_fgo_nil (cur:List UInt8):fgo cur []=(if cur=[] then [] else [cur]):=rfl
theorem w_fgo_cons (cur r:List UInt8) (h:cur≠[]):fgo cur (32::r)=cur::fgo [] r:=by
  rw[fgo,if_pos bl_32,if_neg h]
theorem fgo_inter : ∀ ws:List (List UInt8),(∀ w∈ws,wordU w)→fgo [] (inter ws)=ws
  | [],_=>rfl
  | [w],h=>by
    obtain ⟨h1,h2⟩:=h w (by simp)
    have e:=fgo_run w [] [] (fun c hc=>(h2 c hc).2.2)
    rw[List.append_nil]at e
    rw[inter,e,List.nil_append,w_fgo_nil,if_neg h1]
  | w::x::r,h=>by
    obtain ⟨h1,h2⟩:=h w (by simp)
    rw[inter,fgo_run w [] _ (fun c hc=>(h2 c hc).2.2),List.nil_append,w_fgo_cons _ _ h1,fgo_inter (x::r) (fun y hy=>h y (by simp at hy ⊢;exact .inr hy))]
theorem inter_no : ∀ ws:List (List UInt8),(∀ w∈ws,wordU w) → ∀ c∈inter ws,c≠10∧c≠35
  | [],_,c,hc=>by cases hc
  | [w],h,c,hc=>by
    have:=(h w (by simp)).2 c hc
    exact ⟨this.1,this.2.1⟩
  | w::x::r,h,c,hc=>by
    rw[inter]at hc
    rcases List.mem_append.1 hc with hc|hc
    · have:=(h w (by simp)).2 c hc
      exact ⟨this.1,this.2.1⟩
    · rcases List.mem_cons.1 hc with rfl|hc
      · decide
      · exact inter_no (x::r) (fun y hy=>h y (by simp at hy ⊢;exact .inr hy)) c hc
theorem tw_all : ∀ (l:List UInt8),(∀ c∈l,c≠35)→l.takeWhile (· != 35)=l
  | [],_=>rfl
  | c::r,h=>by
    rw[List.takeWhile_cons,if_pos (by simpa using h c (by simp)),tw_all r (fun d hd=>h d (by simp[hd]))]
theorem words_inter (ws:List (List UInt8)) (h : ∀ w∈ws,wordU w):wordsB (inter ws)=ws.map mkB:=by
  unfold wordsB
  rw[tw_all _ (fun c hc=>(inter_no ws h c hc).2),fgo_inter ws h]
theorem lf_line : ∀ (l cur r:List UInt8) (n:Int),(∀ c∈l,c≠10)→lf cur (l++10::r) n=one1 (cur++l) n++lf [] r (n+1)
  | [],cur,r,n,_=>by rw[List.nil_append,lf,if_pos rfl,List.append_nil]
  | c::l,cur,r,n,h=>by
    rw[List.cons_append,lf,if_neg (h c (by simp)),lf_line l (cur++[c]) r n (fun d hd=>h d (by simp[hd]))]
    simp
theorem lf_row (ws:List (List UInt8)) (hn:ws≠[]) (h : ∀ w∈ws,wordU w) (r:List UInt8) (n:Int):lf [] (rowU ws++r) n=(n+1,ws.map mkB)::lf [] r (n+1):=by
  unfold rowU
  rw[List.append_assoc,List.singleton_append,lf_line _ _ _ _ (fun c hc=>(inter_no ws h c hc).1),List.nil_append]
  unfold one1
  rw[words_inter ws h,if_pos (by cases ws with|nil=>exact absurd rfl hn|cons a b=>simp)]
  rfl
def rowsU:List (List (List UInt8))→List UInt8
  | []=>[]
  | r::l=>rowU r++rowsU l
def rowsL:List (List (List UInt8))→Int→List (Int×List ByteArray)
  | [],_=>[]
  | r::l,n=>(n+1,r.map mkB)::rowsL l (n+1)
theorem lf_rows : ∀ (l:List (List (List UInt8))) (n:Int),(∀ ws∈l,ws≠[] ∧ ∀ w∈ws,wordU w)→lf [] (rowsU l) n=rowsL l n
  | [],n,_=>rfl
  | r::l,n,h=>by
    obtain ⟨h1,h2⟩:=h r (by simp)
    rw[rowsU,lf_row r h1 h2,lf_rows l (n+1) (fun ws hw=>h ws (by simp[hw]))]
    rfl
theorem linesOf_rows (l:List (List (List UInt8))) (h : ∀ ws∈l,ws≠[] ∧ ∀ w∈ws,wordU w) (s:ByteArray) (hs:s.data.toList=rowsU l):linesOf s=rowsL l 0:=by
  rw[linesOf_lf,hs,lf_rows l 0 h]
theorem fgo_word : ∀ (l cur:List UInt8),∀ w∈fgo cur l,w.length≤cur.length+l.length
  | [],cur,w,h=>by
    rw[fgo]at h
    split at h
    · cases h
    · rw[List.mem_singleton]at h;subst h;simp
  | c::r,cur,w,h=>by
    rw[fgo]at h
    split at h
    · split at h
      · have:=fgo_word r [] w h;simp at this ⊢;omega
      · rcases List.mem_cons.1 h with rfl|h
        · simp
        · have:=fgo_word r [] w h;simp at this ⊢;omega
    · have:=fgo_word r (cur++[c]) w h;simp at this ⊢;omega
theorem wordsB_size (l:List UInt8) : ∀ w∈wordsB l,w.size≤l.length:=by
  intro w hw
  unfold wordsB at hw
  obtain ⟨u,hu,rfl⟩:=List.mem_map.1 hw
  have h:=fgo_word _ [] u hu
  have:=(List.takeWhile_prefix (p:=(· != 35)) (l:=l)).length_le
  show u.toArray.size≤_
  simp at h ⊢;omega
theorem lf_size : ∀ (l cur:List UInt8) (n:Int),∀ e∈lf cur l n,∀ w∈e.2,w.size≤cur.length+l.length
  | [],cur,n,e,he,w,hw=>by
    rw[lf,one1]at he
    split at he
    · rw[List.mem_singleton]at he;subst he
      have:=wordsB_size cur w hw;simpa using this
    · cases he
  | c::r,cur,n,e,he,w,hw=>by
    rw[lf]at he
    split at he
    · rcases List.mem_append.1 he with he|he
      · unfold one1 at he
        split at he
        · rw[List.mem_singleton]at he;subst he
          have:=wordsB_size cur w hw;simp;omega
        · cases he
      · have:=lf_size r [] (n+1) e he w hw;simp at this ⊢;omega
    · have:=lf_size r (cur++[c]) n e he w hw;simp at this ⊢;omega
theorem lines_size (s:ByteArray) : ∀ e∈linesOf s,∀ w∈e.2,w.size≤s.size:=by
  intro e he w hw
  rw[linesOf_lf]at he
  have:=lf_size _ [] 0 e he w hw
  rw[←Lib.size_eq]at this
  simpa using this
def hdT {β:Type} (W:List ByteArray) (l:List Int):List Int→Int→WT→(WT→T β)→T β
  | [],i,t,K=>.need (decide (i<(List.length l:Int))=false) (K t)
  | _::r,i,t,K=>.need (decide (i<(List.length l:Int))=true) (.get l i fun h=>.get W (wi1 i) fun w=>.need (ByteArray.size w≤281474976710656) (hdT W l r (wi1 i) (wnT w h h t) K))
def tbT {β:Type} (s:ByteArray) (hd:List Int) (K:Int→WT→T β):T β:=.need (LinesFit s) (.need (0≤wi1 (List.length hd:Int)∧wi1 (List.length hd:Int)≤1000) (.get (wlW (wi1 (List.length hd:Int)) (linesOf s,false)) 0 fun w=>.need (ByteArray.size w≤281474976710656)
   (hdT (wlW (wi1 (List.length hd:Int)) (linesOf s,false)) hd hd 0 (wnT w 0 4000 (wlT (wi1 (List.length hd:Int)) (linesOf s,false))) fun t=>.ite t.2 (K 0 t) (K (wnV w 0 4000) t))))
def hdGo (W:List ByteArray):List Int→Nat→WT→WT
  | [],_,t=>t
  | h::r,k,t=>hdGo W r (k+1) (wnT (wat W k) h h t)
def tabW (s:ByteArray) (hd:List Int):List ByteArray:=wlW ((hd.length:Int)+1) (linesOf s,false)
def tabT (s:ByteArray) (hd:List Int):WT:=hdGo (tabW s hd) hd 1 (wnT (wat (tabW s hd) 0) 0 4000 (wlT ((hd.length:Int)+1) (linesOf s,false)))
def tabN (s:ByteArray) (hd:List Int):Int:=if (tabT s hd).2=true then 0 else wnV (wat (tabW s hd) 0) 0 4000
theorem wOk_lines {s:ByteArray} (h:s.size≤900000):WOk (linesOf s,false):=fun l hl w hw=>Nat.le_trans (lines_size s l hl w hw) h
theorem hdGo_ok {W:List ByteArray} : ∀ (l:List Int) (k:Nat) (t:WT),WOk t→WOk (hdGo W l k t)
  | [],_,_,h=>h
  | _::r,k,t,h=>hdGo_ok r (k+1) _ (wnT_ok h)
theorem tabT_ok {s:ByteArray} {hd:List Int} (h:s.size≤900000):WOk (tabT s hd):=hdGo_ok _ _ _ (wnT_ok (wlT_ok (wOk_lines h)))
theorem wnV_in {w:ByteArray} {lo hi:Int} (h0:lo≤0) (h:0≤hi):lo≤wnV w lo hi∧wnV w lo hi≤hi:=by
  unfold wnV
  split
  · rename_i e
    unfold wnOk at e
    rw[Bool.and_eq_true]at e
    exact of_decide_eq_true e.2
  · omega
theorem tabN_in (s:ByteArray) (hd:List Int):0≤tabN s hd∧tabN s hd≤4000:=by
  unfold tabN
  split
  · omega
  · exact wnV_in (Int.le_refl 0) (by decide)
theorem hdT_wp {β:Type} {W:List ByteArray} {l:List Int} (hW:(W.length:Int)=l.length+1) (hl:l.length≤10) (hs : ∀ w∈W,w.size≤900000) {K:WT→T β} {Q:β→Prop} : ∀ (r:List Int) (k:Nat) (t:WT),l.drop k=r→k≤l.length→(K (hdGo W r (k+1) t)).wp Q→(hdT W l r (k:Int) t K).wp Q
  | [],k,t,h,hk,hK=>by
    have:=congrArg List.length h
    rw[List.length_drop,List.length_nil]at this
    exact wned (decide_eq_false (by omega)) hK
  | a::r,k,t,h,hk,hK=>by
    have hlt:=congrArg List.length h
    rw[List.length_drop,List.length_cons]at hlt
    have hka:k<l.length:=by omega
    have hg:l[(k:Int).toNat]?=some a:=by
      rw[Int.toNat_natCast,←List.head?_drop,h];rfl
    have hr:l.drop (k+1)=r:=by
      rw[←List.tail_drop,h];rfl
    rw[hdT]
    refine wned (decide_eq_true (by omega)) (wget (by omega) hg ?_)
    rw[wi1_eq (i:=(k:Int)) (by omega)]
    refine wget (v:=wat W (k+1)) (by omega) (by rw[show ((k:Int)+1).toNat=k+1 by omega];exact wat_get (by omega)) (wned (by have:=wat_ok (k:=k+1) hs;omega) ?_)
    have:=hdT_wp hW hl hs (K:=K) (Q:=Q) r (k+1) (wnT (wat W (k+1)) a a t) hr hka hK
    exact this
theorem tbT_wp {β:Type} {s:ByteArray} {hd:List Int} {K:Int→WT→T β} {Q:β→Prop} (hs:s.size≤900000) (hl:hd.length≤10) (h:(K (tabN s hd) (tabT s hd)).wp Q):(tbT s hd K).wp Q:=by
  unfold tbT
  rw[wi1_eq (i:=(hd.length:Int)) (by omega)]
  have hW:=wlW_len (n:=(hd.length:Int)+1) (by omega) (linesOf s,false)
  have hz:=wlW_ok (n:=(hd.length:Int)+1) (wOk_lines hs)
  have h0:=wat_ok (k:=0) hz
  refine wned (fit_of s hs) (wned (by omega) (wget (v:=wat (tabW s hd) 0) (Int.le_refl 0) (wat_get (by omega)) (wned (by unfold tabW;omega) ?_)))
  refine hdT_wp hW hl hz hd 0 _ rfl (Nat.zero_le _) ?_
  unfold tabN tabT tabW at h
  unfold tabW
  refine ⟨fun e=>?_,fun e=>?_⟩
  · rw[if_pos e]at h;exact h
  · rw[if_neg (by rw[show (hdGo (wlW ((hd.length:Int)+1) (linesOf s,false)) hd 1 (wnT (wat (wlW ((hd.length:Int)+1) (linesOf s,false)) 0) 0 4000 (wlT ((hd.length:Int)+1) (linesOf s,false)))).2=false from e];exact Bool.false_ne_true)]at h;exact h
def tbFin (c:Cd) (l:List (El c)) (t:WT):T Av:=.ite l.isEmpty (.ret (.tup [.one (.v (.slice none 0 0)),.one (.v (.bool (wendB t)))])) (.up 0 fun _=>.need (List.length l≤List.length l) (.ret (.tup [.one (.ds c (List.take (List.length l) l)),.one (.v (.bool (wendB t)))])))
theorem tbFin_wp (c:Cd) (l:List (El c)) (t:WT):(tbFin c l t).wp fun a => ∀ w R σ v,AvIs w R σ a v→AvIs w R σ (.tup [.one (.ds c l),.one (.v (.bool (wendB t)))]) v:=by
  refine ⟨fun h w R σ v hv=>?_,fun _ k _=>wned (Nat.le_refl _) fun w R σ v hv=>?_⟩
  · rw[List.isEmpty_iff.1 h];exact nil_av2L hv
  · rwa [List.take_length]at hv
def ndTree (s:ByteArray):T Av:=tbT s [2,0,0] fun n t=>.need True (.need (TbInv n 0 t (gl (none:GP))) (tbFin cP (tbGo ndF (n-0).toNat 0 t).1 (tbGo ndF (n-0).toNat 0 t).2))
theorem tr_nodes_eq (s:ByteArray):fnP EW3 lpNd Tryz.f48 (encs [(false,.str)] (s,()))=ndTree s:=by kernel_rfl
def nodesR (s:ByteArray):List Pt×WT:=tbGo ndF (tabN s [2,0,0]).toNat 0 (tabT s [2,0,0])
noncomputable def con_wnodes:Con Tryz.prog:=⟨48,[],_,cf_wnodes,val_con_wL (E:=EW3) (L:=lpNd) mixed Tryz.func48 (one_loop ndL_ok (by kernel_rfl)) [(false,.str)] (fun x=>ByteArray.size x.1≤900000) (fun x=>.tup [.one (.ds cP (nodesR x.1).1),.one (.v (.bool (wendB (nodesR x.1).2)))]) fun x hx=>by
  obtain ⟨s,u⟩:=x
  have hx:s.size≤900000:=hx
  rw[show fnP EW3 lpNd Tryz.f48 (encs [(false,.str)] (s,u))=ndTree s from tr_nodes_eq s]
  refine tbT_wp hx (by decide) (wned trivial (wned ⟨(tabN_in s _).2,Int.le_refl 0,tabT_ok hx,Int.le_refl 0⟩ ?_))
  rw[Int.sub_zero]
  exact tbFin_wp cP _ _⟩
abbrev spEl:RSpec:=⟨60,[(1,false,.int .i64),(7,false,.int .i64),(9,false,.int .i64)],[(6,0,0)],[(149,cTab)],fun _=>[],8,79,cI3,false,fun _=>8⟩
abbrev G3:=Gr (El cI3)
noncomputable def OEl:Opt EW3.con:=⟨[],[],fun _=>none⟩
noncomputable def unEl:St→T (Exit×St):=unrollC OEl (EW3.at_ 0) (fun _=>none) (innerOf (bodyOf Tryz.f49 0) 0) [fcs [(36,true)],fcs [(36,true)],fcs [(36,true)],fcs [(36,false)]]
noncomputable def lpElI:Loops:=manyL [(9,unEl)]
def elEx (t:WT) (g:G3):T (RRd spEl):=.need (gnd (gl g) g) (.ret (.out (Exit.exit 0) [] (t,()) g))
def elK (m n i:Int) (t:WT) (g:G3) (a b c:Int):T (RRd spEl):=appG 23 g (a,b,c) fun k g'=>.need (gnd k g') (.ret (.again (m,n,wi1 i,()) (t,()) g'))
abbrev I3:=Int×Int×Int
def elS {β:Type} (j v:Int) (x:I3) (K:I3→T β):T β:=.ite (j==((0:Nat):Int)) (K (v,x.2.1,x.2.2)) (.ite (j==((1:Nat):Int)) (K (x.1,v,x.2.2)) (K (x.1,x.2.1,v)))
def elN {β:Type} (W:List ByteArray) (j m:Int) (x:I3) (t:WT) (K:I3→WT→T β):T β:=.need (decide (j<3)=true) (.get W j fun w=>.need (ByteArray.size w≤281474976710656) (.need (0≤j∧j<3) (elS j (IntKind.wrap .i64 (wnV w 1 m-1)) x fun x=>K x (wnT w 1 m t))))
def elB (m n i:Int) (t:WT) (g:G3):T (RRd spEl):=.need (WOk t∧(0≤i∧i≤100000)∧(0≤(3:Int)∧(3:Int)≤100)) (elN (trW 3 t) 0 m (0,0,0) (trT i 3 t) fun x t1=>elN (trW 3 t) (wi1 0) m x t1 fun x t2=>elN (trW 3 t) (wi1 (wi1 0)) m x t2 fun x t3=>.need (decide (wi1 (wi1 (wi1 0))<3)=false) (elK m n i t3 g x.1 x.2.1 x.2.2))
def elR (m n i:Int) (t:WT) (g:G3):T (RRd spEl):=.ite (decide (i<n)) (.ite (!t.2) (elB m n i t g) (elEx t g)) (elEx t g)
theorem unEl_ok:LoopOk Tryz.prog 0 (innerOf (bodyOf Tryz.f49 0) 0) unEl:=unrollC_ok (O:=OEl) (E:=EW3) rfl mixed 0 (loops_none _ _ _) _
theorem tr_elL_eq (m n i:Int) (t:WT) (xs:List (El cI3)) (cap:Nat):RSpec.round spEl EW3 lpElI (bodyOf Tryz.f49 0) (m,n,i,()) (t,()) (some (xs,cap))=elR m n i t (some (xs,cap)):=by kernel_rfl
theorem tr_elL0_eq (m n i:Int) (t:WT):RSpec.round spEl EW3 lpElI (bodyOf Tryz.f49 0) (m,n,i,()) (t,()) none=elR m n i t none:=by kernel_rfl
theorem elS_wp {β:Type} {j v:Int} {x:I3} {K:I3→T β} {Q:β→Prop} {y:I3} (hj:0≤j∧j<3) (e:y=if j=0 then (v,x.2.1,x.2.2) else if j=1 then (x.1,v,x.2.2) else (x.1,x.2.1,v)) (h:(K y).wp Q):(elS j v x K).wp Q:=by
  subst e
  refine ⟨fun h0=>?_,fun h0=>⟨fun h1=>?_,fun h1=>?_⟩⟩
  · have h0:j=0:=by simpa using h0
    rw[if_pos h0]at h;exact h
  · have h0:¬ j=0:=by simpa using h0
    have h1:j=1:=by simpa using h1
    rw[if_neg h0,if_pos h1]at h;exact h
  · have h0:¬ j=0:=by simpa using h0
    have h1:¬ j=1:=by simpa using h1
    rw[if_neg h0,if_neg h1]at h;exact h
def wv1 (w:ByteArray) (m:Int):Int:=wnV w 1 m-1
def elF (m i:Int) (t:WT):I3×WT:=((wv1 (wat (trW 3 t) 0) m,wv1 (wat (trW 3 t) 1) m,wv1 (wat (trW 3 t) 2) m),wnT (wat (trW 3 t) 2) 1 m (wnT (wat (trW 3 t) 1) 1 m (wnT (wat (trW 3 t) 0) 1 m (trT i 3 t))))
theorem wv1_wrap {w:ByteArray} {m:Int} (hm:0≤m∧m≤100000):IntKind.wrap .i64 (wnV w 1 m-1)=wv1 w m:=by
  have:0≤wnV w 1 m∧wnV w 1 m≤100000:=by
    unfold wnV
    split
    · rename_i e
      unfold wnOk at e
      rw[Bool.and_eq_true]at e
      have:=of_decide_eq_true e.2
      omega
    · omega
  exact IntWalk.i64_in _ (by omega)
theorem elN_wp {β:Type} {W:List ByteArray} {j m:Int} {x y:I3} {t:WT} {K:I3→WT→T β} {Q:β→Prop} (hW:(W.length:Int)=3) (hs : ∀ w∈W,w.size≤900000) (hm:0≤m∧m≤100000) (hj:0≤j∧j<3)
    (e:y=if j=0 then (wv1 (wat W j.toNat) m,x.2.1,x.2.2) else if j=1 then (x.1,wv1 (wat W j.toNat) m,x.2.2) else (x.1,x.2.1,wv1 (wat W j.toNat) m)) (h:(K y (wnT (wat W j.toNat) 1 m t)).wp Q):(elN W j m x t K).wp Q:=by
  have:=wat_ok (k:=j.toNat) hs
  refine wned (decide_eq_true hj.2) (wget hj.1 (wat_get (by omega)) (wned (by omega) (wned hj (elS_wp hj ?_ h))))
  rw[wv1_wrap hm]
  exact e
def outEl (x:RSpec.X spEl) (y:RSpec.Y spEl) (g:RSpec.G spEl):T (Exit×List Av×RSpec.Y spEl×RSpec.G spEl):=
  .need (TbInv x.2.1 x.2.2.1 y.1 (gl (α:=El cI3) g)∧0≤(x.1:Int)∧(x.1:Int)≤100000) (finG (Exit.exit 0) [] ((tbGo (elF x.1) (x.2.1-x.2.2.1).toNat x.2.2.1 y.1).2,()) g (tbGo (elF x.1) (x.2.1-x.2.2.1).toNat x.2.2.1 y.1).1)
theorem el_core (m n i : Int) (t : WT) (g : G3) (Q : Exit × List Av × RSpec.Y spEl × RSpec.G spEl → Prop) (hq : (outEl (m, n, i, ()) (t, ()) g).wp Q) : (elR m n i t g).wp fun r => match r with
      | .again x' y' g'=>(x'.2.1-x'.2.2.1).toNat<(n-i).toNat∧(outEl x' y' g').wp Q
      | .out e avs y' g'=>Q (e,avs,y',g'):=by
  obtain ⟨⟨⟨hn,i0,ht,hg⟩,hm⟩,hq⟩:=hq
  have hn:n≤4000:=hn
  have i0:0≤i:=i0
  have ht:WOk t:=ht
  have hm:0≤m∧m≤100000:=hm
  have hg:((gl g:Nat):Int)≤i:=hg
  have hq:(finG (Exit.exit 0) [] ((tbGo (elF m) (n-i).toNat i t).2,()) g (tbGo (elF m) (n-i).toNat i t).1).wp Q:=hq
  have ex:(¬ i<n∨t.2=true)→(elEx t g).wp fun r=>match r with
      | .again x' y' g'=>(x'.2.1-x'.2.2.1).toNat<(n-i).toNat∧(outEl x' y' g').wp Q
      | .out e avs y' g'=>Q (e,avs,y',g'):=fun h=>by
    rw[tbGo_end (elF m) h]at hq
    exact wned (gnd_gl g) (finG_nil hq)
  refine ⟨fun hlt=>⟨fun hb=>?_,fun hb=>ex (.inr (by simpa using hb))⟩,fun hge=>ex (.inl (of_decide_eq_false hge))⟩
  have hlt:=of_decide_eq_true hlt
  have hb:t.2=false:=by simpa using hb
  rw[tbGo_next (elF m) hlt hb]at hq
  have hl:=trW_len (k:=3) (by decide) t
  have hs:=trW_ok (k:=3) ht
  unfold elB
  have w0:wi1 0=1:=wi1_eq (by decide)
  have w1:wi1 1=2:=wi1_eq (by decide)
  have w2:wi1 2=3:=wi1_eq (by decide)
  rw[w0,w1,w2]
  refine wned ⟨ht,⟨i0,by omega⟩,by decide⟩ (elN_wp hl hs hm (by decide) rfl (elN_wp hl hs hm (by decide) rfl (elN_wp hl hs hm (by decide) rfl (wned (by decide) ?_))))
  unfold elK
  have hM:maxLen=9223372036854775807:=rfl
  refine appG_wp (by omega) (by omega) fun k=>wned (gnd_app g _ k) ?_
  rw[wi1_eq (i:=i) (by omega)]
  refine ⟨show (n-(i+1)).toNat<(n-i).toNat by omega,wned ⟨⟨hn,show 0≤i+1 by omega,wnT_ok (wnT_ok (wnT_ok (trT_ok (i:=i) (k:=3) ht))),?_⟩,hm⟩ (finG_cons hq k)⟩
  show (((gx g++[_]).length:Nat):Int)≤i+1
  rw[List.length_append,←gl_eq]
  simp only[List.length_cons,List.length_nil]
  omega
theorem elL_ok:LoopOk Tryz.prog 0 (bodyOf Tryz.f49 0) (spEl.run outEl):=
  loopR_ok (E:=EW3) (L:=lpElI) mixed 0 (inner_one (by kernel_rfl) unEl_ok) spEl (Nat.zero_le _) outEl (fun x _ _=>(x.2.1-x.2.2.1).toNat) (by
    rintro ⟨m,n,i,⟨⟩⟩ ⟨t,⟨⟩⟩ g Q hq
    match g,hq with
    | some (xs,cap),hq =>
      rw[tr_elL_eq m n i t xs cap]
      exact el_core m n i t (some (xs,cap)) Q hq
    | none,hq =>
      rw[tr_elL0_eq m n i t]
      exact el_core m n i t none Q hq)
noncomputable def lpEl:Loops:=oneL 4 (spEl.run outEl)
def elTree (s:ByteArray) (m:Int):T Av:=tbT s [3,0] fun n t=>.need True (.need (TbInv n 0 t (gl (none:G3))∧0≤m∧m≤100000) (tbFin cI3 (tbGo (elF m) (n-0).toNat 0 t).1 (tbGo (elF m) (n-0).toNat 0 t).2))
theorem tr_eles_eq (s:ByteArray) (m:Int):fnP EW3 lpEl Tryz.f49 (encs [(false,.str),(false,.int .i64)] (s,m,()))=elTree s m:=by kernel_rfl
def elesR (s:ByteArray) (m:Int):List I3×WT:=tbGo (elF m) (tabN s [3,0]).toNat 0 (tabT s [3,0])
noncomputable def con_weles:Con Tryz.prog:=⟨49,[],_,cf_weles,val_con_wL (E:=EW3) (L:=lpEl) mixed Tryz.func49 (one_loop elL_ok (by kernel_rfl)) [(false,.str),(false,.int .i64)] (fun x=>ByteArray.size x.1≤900000∧0≤(x.2.1:Int)∧(x.2.1:Int)≤100000) (fun x=>.tup [.one (.ds cI3 (elesR x.1 x.2.1).1),.one (.v (.bool (wendB (elesR x.1 x.2.1).2)))]) fun x hx=>by
  obtain ⟨s,m,u⟩:=x
  have h1:s.size≤900000:=hx.1
  have h2:0≤m∧m≤100000:=hx.2
  rw[show fnP EW3 lpEl Tryz.f49 (encs [(false,.str),(false,.int .i64)] (s,m,u))=elTree s m from tr_eles_eq s m]
  refine tbT_wp h1 (by decide) (wned trivial (wned ⟨⟨(tabN_in s _).2,Int.le_refl 0,tabT_ok h1,Int.le_refl 0⟩,h2⟩ ?_))
  rw[Int.sub_zero]
  exact tbFin_wp cI3 _ _⟩
abbrev spEg:RSpec:=⟨83,[(1,false,.int .i64),(7,false,.int .i64),(9,false,.int .i64)],[(6,0,0)],[(149,cTab)],fun _=>[],8,80,cI3,false,fun _=>8⟩
def egEx (t:WT) (g:G3):T (RRd spEg):=.need (gnd (gl g) g) (.ret (.out (Exit.exit 0) [] (t,()) g))
def egK (m n i:Int) (t:WT) (g:G3) (a b c:Int):T (RRd spEg):=appG 23 g (a,b,c) fun k g'=>.need (gnd k g') (.ret (.again (m,n,wi1 i,()) (t,()) g'))
def wvw (w:ByteArray) (m:Int):Int:=IntKind.wrap .i64 (wnV w 1 m-1)
def nsz {β:Type} (w:ByteArray) (K:T β):T β:=.need (ByteArray.size w≤281474976710656) K
def egD (m n i:Int) (c:Int) (W:List ByteArray) (t:WT) (g:G3):T (RRd spEg):=.get W 0 fun a=>.get W 1 fun b=>nsz a (nsz b (egK m n i (wnT b 1 m (wnT a 1 m t)) g (wvw a m) (wvw b m) c))
def egC (m n i:Int) (t:WT) (g:G3) (W:List ByteArray) (c:ByteArray):T (RRd spEg):=.ite t.2 (egD m n i (wiv c) W (t.1,true) g) (egD m n i (wiv c) W (t.1,!lintB c) g)
def egB (m n i:Int) (t:WT) (g:G3):T (RRd spEg):=.need (WOk t∧(0≤i∧i≤100000)∧(0≤(3:Int)∧(3:Int)≤100)) (.get (trW 3 t) 2 fun c=>.need (ByteArray.size c≤281474976710656) (egC m n i (trT i 3 t) g (trW 3 t) c))
def egR (m n i:Int) (t:WT) (g:G3):T (RRd spEg):=.ite (decide (i<n)) (.ite (!t.2) (egB m n i t g) (egEx t g)) (egEx t g)
theorem tr_egL_eq (m n i:Int) (t:WT) (xs:List (El cI3)) (cap:Nat):RSpec.round spEg EW3 (fun _=>none) (bodyOf Tryz.f50 0) (m,n,i,()) (t,()) (some (xs,cap))=egR m n i t (some (xs,cap)):=by kernel_rfl
theorem tr_egL0_eq (m n i:Int) (t:WT):RSpec.round spEg EW3 (fun _=>none) (bodyOf Tryz.f50 0) (m,n,i,()) (t,()) none=egR m n i t none:=by kernel_rfl
def egF (m i:Int) (t:WT):I3×WT:=((wv1 (wat (trW 3 t) 0) m,wv1 (wat (trW 3 t) 1) m,wiv (wat (trW 3 t) 2)),wnT (wat (trW 3 t) 1) 1 m (wnT (wat (trW 3 t) 0) 1 m ((trT i 3 t).1,(trT i 3 t).2 || !lintB (wat (trW 3 t) 2))))
def outEg (x:RSpec.X spEg) (y:RSpec.Y spEg) (g:RSpec.G spEg):T (Exit×List Av×RSpec.Y spEg×RSpec.G spEg):=
  .need (TbInv x.2.1 x.2.2.1 y.1 (gl (α:=El cI3) g)∧0≤(x.1:Int)∧(x.1:Int)≤100000) (finG (Exit.exit 0) [] ((tbGo (egF x.1) (x.2.1-x.2.2.1).toNat x.2.2.1 y.1).2,()) g (tbGo (egF x.1) (x.2.1-x.2.2.1).toNat x.2.2.1 y.1).1)
theorem eg_core (m n i : Int) (t : WT) (g : G3) (Q : Exit × List Av × RSpec.Y spEg × RSpec.G spEg → Prop) (hq : (outEg (m, n, i, ()) (t, ()) g).wp Q) : (egR m n i t g).wp fun r => match r with
      | .again x' y' g'=>(x'.2.1-x'.2.2.1).toNat<(n-i).toNat∧(outEg x' y' g').wp Q
      | .out e avs y' g'=>Q (e,avs,y',g'):=by
  obtain ⟨⟨⟨hn,i0,ht,hg⟩,hm⟩,hq⟩:=hq
  have hn:n≤4000:=hn
  have i0:0≤i:=i0
  have ht:WOk t:=ht
  have hm:0≤m∧m≤100000:=hm
  have hg:((gl g:Nat):Int)≤i:=hg
  have hq:(finG (Exit.exit 0) [] ((tbGo (egF m) (n-i).toNat i t).2,()) g (tbGo (egF m) (n-i).toNat i t).1).wp Q:=hq
  have ex:(¬ i<n∨t.2=true)→(egEx t g).wp fun r=>match r with
      | .again x' y' g'=>(x'.2.1-x'.2.2.1).toNat<(n-i).toNat∧(outEg x' y' g').wp Q
      | .out e avs y' g'=>Q (e,avs,y',g'):=fun h=>by
    rw[tbGo_end (egF m) h]at hq
    exact wned (gnd_gl g) (finG_nil hq)
  refine ⟨fun hlt=>⟨fun hb=>?_,fun hb=>ex (.inr (by simpa using hb))⟩,fun hge=>ex (.inl (of_decide_eq_false hge))⟩
  have hlt:=of_decide_eq_true hlt
  have hb:t.2=false:=by simpa using hb
  rw[tbGo_next (egF m) hlt hb]at hq
  have hl:=trW_len (k:=3) (by decide) t
  have hs:=fun k=>wat_ok (k:=k) (trW_ok (k:=3) ht)
  have s0:=hs 0
  have s1:=hs 1
  have s2:=hs 2
  have K : ∀ bad:Bool,((trT i 3 t).2 || !lintB (wat (trW 3 t) 2))=bad→(egD m n i (wiv (wat (trW 3 t) 2)) (trW 3 t) ((trT i 3 t).1,bad) g).wp fun r=>match r with
      | .again x' y' g'=>(x'.2.1-x'.2.2.1).toNat<(n-i).toNat∧(outEg x' y' g').wp Q
      | .out e avs y' g'=>Q (e,avs,y',g'):=fun bad hbad=>by
    unfold egD nsz egK
    refine wget (Int.le_refl 0) (wat_get (k:=0) (by omega)) (wget (by decide) (wat_get (k:=1) (by omega)) (wned (by omega) (wned (by omega) ?_)))
    have hM:maxLen=9223372036854775807:=rfl
    refine appG_wp (by omega) (by omega) fun k=>wned (gnd_app g _ k) ?_
    rw[wi1_eq (i:=i) (by omega),show wvw (wat (trW 3 t) 0) m=wv1 (wat (trW 3 t) 0) m from wv1_wrap hm,show wvw (wat (trW 3 t) 1) m=wv1 (wat (trW 3 t) 1) m from wv1_wrap hm]
    have ef:egF m i t=((wv1 (wat (trW 3 t) 0) m,wv1 (wat (trW 3 t) 1) m,wiv (wat (trW 3 t) 2)),wnT (wat (trW 3 t) 1) 1 m (wnT (wat (trW 3 t) 0) 1 m ((trT i 3 t).1,bad))):=by unfold egF;rw[hbad]
    rw[ef]at hq
    refine ⟨show (n-(i+1)).toNat<(n-i).toNat by omega,wned ⟨⟨hn,show 0≤i+1 by omega,trT_ok (i:=i) (k:=3) ht,?_⟩,hm⟩ (finG_cons hq k)⟩
    show (((gx g++[_]).length:Nat):Int)≤i+1
    rw[List.length_append,←gl_eq]
    simp only[List.length_cons,List.length_nil]
    omega
  unfold egB
  refine wned ⟨ht,⟨i0,by omega⟩,by decide⟩ (wget (by decide) (wat_get (k:=2) (by omega)) (wned (by omega) ⟨fun h=>K true (by rw[show (trT i 3 t).2=true from h];rfl),fun h=>K _ (by rw[show (trT i 3 t).2=false from h];rfl)⟩))
theorem egL_ok:LoopOk Tryz.prog 0 (bodyOf Tryz.f50 0) (spEg.run outEg):=
  loopR_ok (E:=EW3) (L:=fun _=>none) mixed 0 (loops_none _ _ _) spEg (Nat.zero_le _) outEg (fun x _ _=>(x.2.1-x.2.2.1).toNat) (by
    rintro ⟨m,n,i,⟨⟩⟩ ⟨t,⟨⟩⟩ g Q hq
    match g,hq with
    | some (xs,cap),hq =>
      rw[tr_egL_eq m n i t xs cap]
      exact eg_core m n i t (some (xs,cap)) Q hq
    | none,hq =>
      rw[tr_egL0_eq m n i t]
      exact eg_core m n i t none Q hq)
noncomputable def lpEg:Loops:=oneL 4 (spEg.run outEg)
def egTree (s:ByteArray) (m:Int):T Av:=tbT s [1] fun n t=>.need True (.need (TbInv n 0 t (gl (none:G3))∧0≤m∧m≤100000) (tbFin cI3 (tbGo (egF m) (n-0).toNat 0 t).1 (tbGo (egF m) (n-0).toNat 0 t).2))
theorem tr_edges_eq (s:ByteArray) (m:Int):fnP EW3 lpEg Tryz.f50 (encs [(false,.str),(false,.int .i64)] (s,m,()))=egTree s m:=by kernel_rfl
def edgesR (s:ByteArray) (m:Int):List I3×WT:=tbGo (egF m) (tabN s [1]).toNat 0 (tabT s [1])
noncomputable def con_wedges:Con Tryz.prog:=⟨50,[],_,cf_wedges,val_con_wL (E:=EW3) (L:=lpEg) mixed Tryz.func50 (one_loop egL_ok (by kernel_rfl)) [(false,.str),(false,.int .i64)] (fun x=>ByteArray.size x.1≤900000∧0≤(x.2.1:Int)∧(x.2.1:Int)≤100000) (fun x=>.tup [.one (.ds cI3 (edgesR x.1 x.2.1).1),.one (.v (.bool (wendB (edgesR x.1 x.2.1).2)))]) fun x hx=>by
  obtain ⟨s,m,u⟩:=x
  have h1:s.size≤900000:=hx.1
  have h2:0≤m∧m≤100000:=hx.2
  rw[show fnP EW3 lpEg Tryz.f50 (encs [(false,.str),(false,.int .i64)] (s,m,u))=egTree s m from tr_edges_eq s m]
  refine tbT_wp h1 (by decide) (wned trivial (wned ⟨⟨(tabN_in s _).2,Int.le_refl 0,tabT_ok h1,Int.le_refl 0⟩,h2⟩ ?_))
  rw[Int.sub_zero]
  exact tbFin_wp cI3 _ _⟩
noncomputable def EW4:Env Tryz.prog:=EW3.add [con_wnodes,con_weles,con_wedges]
end Go.Proofs.YtmcbljjgkmkhcaaGreatDoor
