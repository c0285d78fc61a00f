import Derived.Lib.ItoaLen
import Derived.Test.YtbkfakkkikmcbaaGreatDoorK4
set_option linter.unusedSimpArgs false
set_option linter.unusedVariables false
namespace Go.Proofs.YtbkfakkkikmcbaaGreatDoor
open Go.RowKit Ax
noncomputable def tr_wparse (x:Els [(false,.str)]):T Av:=
 .ite (!ByteArray.toList (x.1)==ByteArray.toList { data := #[] })
  (.get (Array.toList (ByteArray.data (x.1))) ((0:Int)) (fun v0 =>
   .ite ((↑(UInt8.toNat v0):Int)==(45:Int))
    (.need ((0:Int)≤(1:Int)∧(1:Int)≤(↑(ByteArray.size (x.1)):Int)∧(↑(ByteArray.size (x.1)):Int)≤(↑(ByteArray.size (x.1)):Int)) (.lt (ByteArray.extract (x.1) (Int.toNat (1:Int)) (Int.toNat (↑(ByteArray.size (x.1)):Int))) (fun v1 =>
      .ite (decide ((↑(ByteArray.size (x.1)):Int)>(400:Int)))
       (.ret (.tup [(.agg [.v (.bool w0.1),.w w0.2]),(.one (.v (.bool (false))))]))
       (.ite (ByteArray.toList v1==ByteArray.toList { data := #[] })
        (.ret (.tup [(.agg [.v (.bool w0.1),.w w0.2]),(.one (.v (.bool (false))))]))
        (.get (Array.toList (ByteArray.data v1)) ((0:Int)) (fun v2 =>
         .ite ((↑(UInt8.toNat v2):Int)==(48:Int))
          (.ite (!ByteArray.toList (x.1)==ByteArray.toList { data := #[(48:UInt8)] })
           (.ret (.tup [(.agg [.v (.bool w0.1),.w w0.2]),(.one (.v (.bool (false))))]))
           (.need (in64 (10:Int)) (.need ((↑(ByteArray.size v1):Int)=(↑(List.length (Array.toList (ByteArray.data v1))):El (Cd.int .i64))∧(0:El (Cd.int .i64))≤(0:Int)∧(0:Int)≤(↑(ByteArray.size v1):Int)∧(↑(ByteArray.size v1):Int)≤(1000:El (Cd.int .i64))∧zW (wOf (10:Int))=(10:Int)∧wOf (zW w0)=w0) (.lt (parD (zW w0) (List.drop (Int.toNat (0:Int)) (Array.toList (ByteArray.data v1)))) (fun v3 =>
              .ite v3.1
               (.ite ((↑(UInt8.toNat v0):Int)==(45:Int))
                (.lt (-zW (wOf v3.2)) (fun v4 =>
                 .ret (.tup [(.agg [.v (.bool (wOf v4).1),.w (wOf v4).2]),(.one (.v (.bool (true))))])))
                (.ret (.tup [(.agg [.v (.bool (wOf v3.2).1),.w (wOf v3.2).2]),(.one (.v (.bool (true))))])))
               (.ret (.tup [(.agg [.v (.bool w0.1),.w w0.2]),(.one (.v (.bool (false))))])))))))
          (.need (in64 (10:Int)) (.need ((↑(ByteArray.size v1):Int)=(↑(List.length (Array.toList (ByteArray.data v1))):El (Cd.int .i64))∧(0:El (Cd.int .i64))≤(0:Int)∧(0:Int)≤(↑(ByteArray.size v1):Int)∧(↑(ByteArray.size v1):Int)≤(1000:El (Cd.int .i64))∧zW (wOf (10:Int))=(10:Int)∧wOf (zW w0)=w0) (.lt (parD (zW w0) (List.drop (Int.toNat (0:Int)) (Array.toList (ByteArray.data v1)))) (fun v3 =>
             .ite v3.1
              (.ite ((↑(UInt8.toNat v0):Int)==(45:Int))
               (.lt (-zW (wOf v3.2)) (fun v4 =>
                .ret (.tup [(.agg [.v (.bool (wOf v4).1),.w (wOf v4).2]),(.one (.v (.bool (true))))])))
               (.ret (.tup [(.agg [.v (.bool (wOf v3.2).1),.w (wOf v3.2).2]),(.one (.v (.bool (true))))])))
              (.ret (.tup [(.agg [.v (.bool w0.1),.w w0.2]),(.one (.v (.bool (false))))]))))))))))))
    (.ite (decide ((↑(ByteArray.size (x.1)):Int)>(400:Int)))
     (.ret (.tup [(.agg [.v (.bool w0.1),.w w0.2]),(.one (.v (.bool (false))))]))
     (.ite (ByteArray.toList (x.1)==ByteArray.toList { data := #[] })
      (.ret (.tup [(.agg [.v (.bool w0.1),.w w0.2]),(.one (.v (.bool (false))))]))
      (.get (Array.toList (ByteArray.data (x.1))) ((0:Int)) (fun v1 =>
       .ite ((↑(UInt8.toNat v1):Int)==(48:Int))
        (.ite (!ByteArray.toList (x.1)==ByteArray.toList { data := #[(48:UInt8)] })
         (.ret (.tup [(.agg [.v (.bool w0.1),.w w0.2]),(.one (.v (.bool (false))))]))
         (.need (in64 (10:Int)) (.need ((↑(ByteArray.size (x.1)):Int)=(↑(List.length (Array.toList (ByteArray.data (x.1)))):El (Cd.int .i64))∧(0:El (Cd.int .i64))≤(0:Int)∧(0:Int)≤(↑(ByteArray.size (x.1)):Int)∧(↑(ByteArray.size (x.1)):Int)≤(1000:El (Cd.int .i64))∧zW (wOf (10:Int))=(10:Int)∧wOf (zW w0)=w0) (.lt (parD (zW w0) (List.drop (Int.toNat (0:Int)) (Array.toList (ByteArray.data (x.1))))) (fun v2 =>
            .ite v2.1
             (.ite ((↑(UInt8.toNat v0):Int)==(45:Int))
              (.lt (-zW (wOf v2.2)) (fun v3 =>
               .ret (.tup [(.agg [.v (.bool (wOf v3).1),.w (wOf v3).2]),(.one (.v (.bool (true))))])))
              (.ret (.tup [(.agg [.v (.bool (wOf v2.2).1),.w (wOf v2.2).2]),(.one (.v (.bool (true))))])))
             (.ret (.tup [(.agg [.v (.bool w0.1),.w w0.2]),(.one (.v (.bool (false))))])))))))
        (.need (in64 (10:Int)) (.need ((↑(ByteArray.size (x.1)):Int)=(↑(List.length (Array.toList (ByteArray.data (x.1)))):El (Cd.int .i64))∧(0:El (Cd.int .i64))≤(0:Int)∧(0:Int)≤(↑(ByteArray.size (x.1)):Int)∧(↑(ByteArray.size (x.1)):Int)≤(1000:El (Cd.int .i64))∧zW (wOf (10:Int))=(10:Int)∧wOf (zW w0)=w0) (.lt (parD (zW w0) (List.drop (Int.toNat (0:Int)) (Array.toList (ByteArray.data (x.1))))) (fun v2 =>
           .ite v2.1
            (.ite ((↑(UInt8.toNat v0):Int)==(45:Int))
             (.lt (-zW (wOf v2.2)) (fun v3 =>
              .ret (.tup [(.agg [.v (.bool (wOf v3).1),.w (wOf v3).2]),(.one (.v (.bool (true))))])))
             (.ret (.tup [(.agg [.v (.bool (wOf v2.2).1),.w (wOf v2.2).2]),(.one (.v (.bool (true))))])))
            (.ret (.tup [(.agg [.v (.bool w0.1),.w w0.2]),(.one (.v (.bool (false))))]))))))))))))
  (.ite (decide ((↑(ByteArray.size (x.1)):Int)>(400:Int)))
   (.ret (.tup [(.agg [.v (.bool w0.1),.w w0.2]),(.one (.v (.bool (false))))]))
   (.ite (ByteArray.toList (x.1)==ByteArray.toList { data := #[] })
    (.ret (.tup [(.agg [.v (.bool w0.1),.w w0.2]),(.one (.v (.bool (false))))]))
    (.get (Array.toList (ByteArray.data (x.1))) ((0:Int)) (fun v0 =>
     .ite ((↑(UInt8.toNat v0):Int)==(48:Int))
      (.ite (!ByteArray.toList (x.1)==ByteArray.toList { data := #[(48:UInt8)] })
       (.ret (.tup [(.agg [.v (.bool w0.1),.w w0.2]),(.one (.v (.bool (false))))]))
       (.need (in64 (10:Int)) (.need ((↑(ByteArray.size (x.1)):Int)=(↑(List.length (Array.toList (ByteArray.data (x.1)))):El (Cd.int .i64))∧(0:El (Cd.int .i64))≤(0:Int)∧(0:Int)≤(↑(ByteArray.size (x.1)):Int)∧(↑(ByteArray.size (x.1)):Int)≤(1000:El (Cd.int .i64))∧zW (wOf (10:Int))=(10:Int)∧wOf (zW w0)=w0) (.lt (parD (zW w0) (List.drop (Int.toNat (0:Int)) (Array.toList (ByteArray.data (x.1))))) (fun v1 =>
          .ite v1.1
           (.ite (false)
            (.lt (-zW (wOf v1.2)) (fun v2 =>
             .ret (.tup [(.agg [.v (.bool (wOf v2).1),.w (wOf v2).2]),(.one (.v (.bool (true))))])))
            (.ret (.tup [(.agg [.v (.bool (wOf v1.2).1),.w (wOf v1.2).2]),(.one (.v (.bool (true))))])))
           (.ret (.tup [(.agg [.v (.bool w0.1),.w w0.2]),(.one (.v (.bool (false))))])))))))
      (.need (in64 (10:Int)) (.need ((↑(ByteArray.size (x.1)):Int)=(↑(List.length (Array.toList (ByteArray.data (x.1)))):El (Cd.int .i64))∧(0:El (Cd.int .i64))≤(0:Int)∧(0:Int)≤(↑(ByteArray.size (x.1)):Int)∧(↑(ByteArray.size (x.1)):Int)≤(1000:El (Cd.int .i64))∧zW (wOf (10:Int))=(10:Int)∧wOf (zW w0)=w0) (.lt (parD (zW w0) (List.drop (Int.toNat (0:Int)) (Array.toList (ByteArray.data (x.1))))) (fun v1 =>
         .ite v1.1
          (.ite (false)
           (.lt (-zW (wOf v1.2)) (fun v2 =>
            .ret (.tup [(.agg [.v (.bool (wOf v2).1),.w (wOf v2).2]),(.one (.v (.bool (true))))])))
           (.ret (.tup [(.agg [.v (.bool (wOf v1.2).1),.w (wOf v1.2).2]),(.one (.v (.bool (true))))])))
          (.ret (.tup [(.agg [.v (.bool w0.1),.w w0.2]),(.one (.v (.bool (false))))]))))))))))
theorem tr_wparse_eq (x:Els [(false,.str)]):fnP E11 lpPar Tryz.f125 (encs [(false,.str)] x)=tr_wparse x:=by kernel_rfl
theorem ext_list (s:ByteArray) (i n:Nat):(s.extract i n).data.toList=(s.data.toList.take n).drop i:=by
  rw[ByteArray.data_extract,Array.toList_extract]
  simp[List.extract,List.drop_take]
def pzB (neg:Bool) (l d:List UInt8):Option Int:=
  if 400<l.length then none else match d with
  | []=>none
  | b::r=>if b.toNat=48∧l≠[48] then none else if (parD 0 (b::r)).1=true then some (if neg then -(parD 0 (b::r)).2 else (parD 0 (b::r)).2) else none
def pz (l:List UInt8):Option Int:=match l with
  | []=>none
  | b::r=>if b.toNat=45 then pzB true (b::r) r else pzB false (b::r) (b::r)
theorem parD_fits : ∀ (l:List UInt8) (v:Int),Pq.fits v=true→Pq.fits (parD v l).2=true
  | [],v,h=>h
  | b::r,v,h=>by
    unfold parD
    split
    · exact h
    · split
      · rename_i h2;exact parD_fits r _ h2.2
      · exact h
abbrev noW:Av:=.tup [.agg [.v (.bool w0.1),.w w0.2],.one (.v (.bool false))]
abbrev yesW (z:Int):Av:=.tup [.agg [.v (.bool (wOf z).1),.w (wOf z).2],.one (.v (.bool true))]
theorem par_tail {l d:List UInt8} {neg f:Bool} {G:Av} (hG:G=ansA true cW (pzB neg l d).isSome (wOf ((pzB neg l d).getD 0)) w0) (hd:d.length≤l.length) (hf:f=neg) :
    (decide ((l.length:Int)>400)=true→noW=G)∧(decide ((l.length:Int)>400)=false→((d==[])=true→noW=G)∧((d==[])=false → ∃ x,(0:Int)≤0∧d[0]?=some x ∧
      (((x.toNat:Int)==48)=true→((!l==[48])=true→noW=G)∧((!l==[48])=false→in64 10∧(True∧(0:Int)≤0∧(0:Int)≤(d.length:Int)∧(d.length:Int)≤1000∧True∧True) ∧
          ((parD 0 d).1=true→(f=true→yesW (-(parD 0 d).2)=G)∧(f=false→yesW (parD 0 d).2=G))∧((parD 0 d).1=false→noW=G))) ∧
      (((x.toNat:Int)==48)=false→in64 10∧(True∧(0:Int)≤0∧(0:Int)≤(d.length:Int)∧(d.length:Int)≤1000∧True∧True) ∧
          ((parD 0 d).1=true→(f=true→yesW (-(parD 0 d).2)=G)∧(f=false→yesW (parD 0 d).2=G))∧((parD 0 d).1=false→noW=G)))):=by
  subst hf
  have no:pzB f l d=none→noW=G:=fun h=>by rw[hG,h];rfl
  have yes : ∀ z,pzB f l d=some z→yesW z=G:=fun z h=>by rw[hG,h];rfl
  have i10:in64 10:=⟨by omega,by omega⟩
  refine ⟨fun h=>no ?_,fun h=>⟨fun h1=>no ?_,fun h1=>?_⟩⟩
  · have h:=of_decide_eq_true h
    unfold pzB;rw[if_pos (by omega)]
  · have:d=[]:=by simpa using h1
    subst this
    unfold pzB;split <;> rfl
  · have h:=of_decide_eq_false h
    rcases d with _|⟨b,r⟩
    · simp at h1
    · have tail : ¬ (b.toNat = 48 ∧ l ≠ [48]) → in64 10 ∧ (True ∧ (0 : Int) ≤ 0 ∧ (0 : Int) ≤ ((b :: r).length : Int) ∧ ((b :: r).length : Int) ≤ 1000 ∧ True ∧ True) ∧
          ((parD 0 (b::r)).1=true→(f=true→yesW (-(parD 0 (b::r)).2)=G)∧(f=false→yesW (parD 0 (b::r)).2=G))∧((parD 0 (b::r)).1=false→noW=G):=fun hn=>by
        refine ⟨i10,⟨trivial,by omega,by omega,by omega,trivial,trivial⟩,fun hp=>⟨fun hf=>yes _ ?_,fun hf=>yes _ ?_⟩,fun hp=>no ?_⟩
        · unfold pzB;rw[if_neg (by omega)];simp only;rw[if_neg hn,if_pos hp,if_pos hf]
        · unfold pzB;rw[if_neg (by omega)];simp only;rw[if_neg hn,if_pos hp,if_neg (by rw[hf];simp)]
        · unfold pzB;rw[if_neg (by omega)];simp only;rw[if_neg hn,if_neg (by rw[hp];simp)]
      refine ⟨b,Int.le_refl _,rfl,fun h48=>⟨fun hl=>no ?_,fun hl=>tail ?_⟩,fun h48=>tail ?_⟩
      · have h48:b.toNat=48:=by have:=beq_iff_eq.1 h48;omega
        unfold pzB;rw[if_neg (by omega)];simp only
        rw[if_pos ⟨h48,fun e=>by rw[e]at hl;simp at hl⟩]
      · intro hn;exact hn.2 (by simpa using hl)
      · intro hn;rw[hn.1]at h48;simp at h48
theorem wparse_ok (x:Els [(false,.str)]):(tr_wparse x).wp (· = ansA true cW (pz x.1.data.toList).isSome (wOf ((pz x.1.data.toList).getD 0)) w0):=by
  obtain ⟨s,u⟩:=x
  revert s
  intro (s:ByteArray)
  have hs:s.size=s.data.toList.length:=rfl
  have z0:zW w0=0:=rfl
  have w00:wOf 0=w0:=by
    unfold wOf
    rw[dif_pos (show (0:Int).natAbs<Pq.bp 32 from Pq.bp_pos 32)];rfl
  have z10:zW (wOf 10)=10:=zW_wOf (i64_lt (by omega) (by omega))
  have i10:in64 10:=⟨by omega,by omega⟩
  have fz : ∀ l,zW (wOf (parD 0 l).2)=(parD 0 l).2:=fun l=>zW_wOf (by
    have:=parD_fits l 0 (by unfold Pq.fits;exact decide_eq_true (Pq.bp_pos 32))
    unfold Pq.fits at this
    exact of_decide_eq_true this)
  unfold tr_wparse
  simp only[T.wp,ByteArray.toList_eq,hs,ext_list,Int.toNat_natCast,List.take_length,show Int.toNat (1:Int)=1 from rfl,show Int.toNat (0:Int)=0 from rfl,List.drop_zero,z0,w00,z10,fz]
  have hsz : ∀ n,(s.extract 1 n).size=(s.extract 1 n).data.toList.length:=fun n=>rfl
  simp only[hsz,ext_list,List.take_length]
  generalize s.data.toList=l
  dsimp only [El]
  rcases l with _|⟨b,r⟩
  · exact ⟨fun h=>by simp at h,fun _=>⟨fun h=>by simp at h,fun _=>⟨fun _=>rfl,fun h=>by simp at h⟩⟩⟩
  · refine ⟨fun _=>⟨b,Int.le_refl _,rfl,fun hb=>⟨⟨by omega,by simp only[List.length_cons];omega,Int.le_refl _⟩,?_⟩,fun hb=>?_⟩,fun h=>by simp at h⟩
    · have hb':b.toNat=45:=by have:=beq_iff_eq.1 hb;omega
      have e:pz (b::r)=pzB true (b::r) r:=if_pos hb'
      have tl:=par_tail (l:=b::r) (d:=r) (neg:=true) (f:=((b.toNat:Int)==45)) (G:=ansA true cW (pz (b::r)).isSome (wOf ((pz (b::r)).getD 0)) w0) (by rw[e]) (by simp) hb
      exact tl
    · have hb':¬ b.toNat=45:=fun e=>by rw[e]at hb;cases hb
      have e:pz (b::r)=pzB false (b::r) (b::r):=if_neg hb'
      have tl:=par_tail (l:=b::r) (d:=b::r) (neg:=false) (f:=((b.toNat:Int)==45)) (G:=ansA true cW (pz (b::r)).isSome (wOf ((pz (b::r)).getD 0)) w0) (by rw[e]) (Nat.le_refl _) hb
      exact tl
noncomputable def con_wparse:Con Tryz.prog:=⟨125,[],_,cf_wparse,ans_con0 (E:=E11) (L:=lpPar) mixed Tryz.func125 (one_loop parL_ok (by kernel_rfl)) [(false,.str)] true cW (fun x=>(pz x.1.data.toList).isSome) (fun x=>wOf ((pz x.1.data.toList).getD 0)) (fun _=>w0) fun x=>by rw[tr_wparse_eq];exact wparse_ok x⟩
noncomputable def E12:Env Tryz.prog:=⟨con_wparse::E11.con,E11.zero,E11.cod,E11.sure,E11.base,E11.frz⟩
theorem cf_ibyte (xs:Array Value) (w:World):(callFunc 197 xs).run Tryz.prog w=.ok (.enter 197 xs) w:=by kernel_rfl
theorem cf_sindex (xs:Array Value) (w:World):(callFunc 182 xs).run Tryz.prog w=.ok (.enter 182 xs) w:=by kernel_rfl
theorem cf_scut (xs:Array Value) (w:World):(callFunc 148 xs).run Tryz.prog w=.ok (.enter 148 xs) w:=by kernel_rfl
theorem cf_cut (xs:Array Value) (w:World):(callFunc 102 xs).run Tryz.prog w=.ok (.enter 102 xs) w:=by kernel_rfl
def slash:ByteArray:=⟨#[47]⟩
noncomputable def con_ibyte:Con Tryz.prog:=⟨197,[],pureRun' [(false,.str),(false,.int .u8)] (fun x=>.ret (aI .i64 (Lib.indexByte x.1.data.toList (Int.toNat x.2.1).toUInt8))),cf_ibyte,ret_con _ _ fun x vs w R Q=>by
  obtain ⟨s,c,u⟩:=x
  revert s c
  intro (s:ByteArray) (c:Int) ha hQ
  obtain ⟨v,v',rfl,hv,hv'⟩:=args2 ha
  have hv:=is_str hv
  have hv':=is_int hv'
  subst hv
  subst hv'
  refine ⟨_,_,hQ,(Tryz.stringslite_IndexByte s c w).mono fun e w' hr=>?_,fun w' R'=>.val rfl⟩
  obtain ⟨rfl,rfl⟩:=hr
  exact ⟨rfl,Below.refl _ _⟩⟩
noncomputable def E13:Env Tryz.prog:=⟨con_ibyte::E12.con,E12.zero,E12.cod,E12.sure,E12.base,E12.frz⟩
noncomputable def tr_sindex (x:ByteArray):T Av:=
 .ite ((↑(ByteArray.size slash):Int)==(0:Int))
  (.ret (.one (.v (.int .i64 ((0:Int))))))
  (.ite (ByteArray.toList slash==ByteArray.toList x)
   (.ret (.one (.v (.int .i64 ((0:Int))))))
   (.ite ((↑(ByteArray.size slash):Int)==(1:Int))
    (.get (Array.toList (ByteArray.data slash)) ((0:Int)) (fun v0 =>
     .ret (.one (.v (.int .i64 (Go.Lib.indexByte (Array.toList (ByteArray.data x)) (Nat.toUInt8 (Int.toNat (↑(UInt8.toNat v0):Int)))))))))
    (.ite (decide ((↑(ByteArray.size slash):Int)≥(↑(ByteArray.size x):Int)))
     (.ret (.one (.v (.int .i64 ((-1:Int))))))
     (.fail))))
theorem tr_sindex_eq (x:ByteArray):fnP E13 (fun _=>none) Tryz.f182 (encs [(false,.str),(false,.str)] (x,slash,()))=tr_sindex x:=by kernel_rfl
def slashAt (s:ByteArray):Int:=Lib.indexByte s.data.toList 47
noncomputable def con_sindex:Con Tryz.prog:=⟨182,[],_,cf_sindex,val_con (E:=E13) mixed Tryz.func182 no_loops [(false,.str),(false,.str)] (fun x=>x.2.1=slash) (fun x=>aI .i64 (slashAt x.1)) fun x hx=>by
  obtain ⟨s,t,⟨⟩⟩:=x
  revert s t
  intro (s:ByteArray) (t:ByteArray) (hx:t=slash)
  subst hx
  rw[tr_sindex_eq]
  unfold tr_sindex
  simp only[T.wp,ByteArray.toList_eq]
  unfold slashAt
  refine ⟨fun h=>(by cases h),fun _=>⟨fun h=>?_,fun _=>⟨fun _=>⟨47,Int.le_refl _,rfl,rfl⟩,fun h=>(by cases h)⟩⟩⟩
  have h':[47]=s.data.toList:=beq_iff_eq.1 h
  rw[←h']
  rfl⟩
noncomputable def E14:Env Tryz.prog:=⟨con_sindex::E13.con,E13.zero,E13.cod,E13.sure,E13.base,E13.frz⟩
noncomputable def tr_scut (x:ByteArray):T Av:=
 .need (slash=slash) (.ite (decide (slashAt x≥(0:Int)))
   (.need ((0:Int)≤(0:Int)∧(0:Int)≤slashAt x∧slashAt x≤(↑(ByteArray.size x):Int)) (.lt (ByteArray.extract x (Int.toNat (0:Int)) (Int.toNat (slashAt x))) (fun v0 =>
     .need ((0:Int)≤IntKind.wrap .i64 (slashAt x+(↑(ByteArray.size slash):Int))∧IntKind.wrap .i64 (slashAt x+(↑(ByteArray.size slash):Int))≤(↑(ByteArray.size x):Int)∧(↑(ByteArray.size x):Int)≤(↑(ByteArray.size x):Int)) (.lt (ByteArray.extract x (Int.toNat (IntKind.wrap .i64 (slashAt x+(↑(ByteArray.size slash):Int)))) (Int.toNat (↑(ByteArray.size x):Int))) (fun v1 =>
       .ret (.tup [(.one (.v (.string (v0)))),(.one (.v (.string (v1)))),(.one (.v (.bool (true))))]))))))
   (.ret (.tup [(.one (.v (.string (x)))),(.one (.v (.string ({ data := #[] })))),(.one (.v (.bool (false))))])))
theorem tr_scut_eq (x:ByteArray):fnP E14 (fun _=>none) Tryz.f148 (encs [(false,.str),(false,.str)] (x,slash,()))=tr_scut x:=by kernel_rfl
theorem slash_lt : ∀ (l:List UInt8) (c:UInt8),Lib.indexByte l c<l.length
  | [],c=>by simp[Lib.indexByte]
  | b::l,c=>by
    have:=slash_lt l c
    simp only[Lib.indexByte,List.length_cons]
    split
    · omega
    · split <;> omega
def cutA (s:ByteArray):ByteArray:=if 0≤slashAt s then s.extract 0 (slashAt s).toNat else s
def cutB (s:ByteArray):ByteArray:=if 0≤slashAt s then s.extract (slashAt s+1).toNat s.size else ⟨#[]⟩
theorem scut_ok (s:ByteArray) (hs:lenOk s.size):(tr_scut s).wp (· = .tup [.one (.v (.string (cutA s))),.one (.v (.string (cutB s))),aB (decide (0≤slashAt s))]):=by
  unfold tr_scut
  have h1:slashAt s<s.size:=slash_lt _ _
  have h2:(slash.size:Int)=1:=rfl
  unfold lenOk at hs
  simp only[T.wp,h2]
  refine ⟨trivial,fun h=>?_,fun h=>?_⟩
  · have h:=of_decide_eq_true h
    have e:IntKind.i64.wrap (slashAt s+1)=slashAt s+1:=IntWalk.i64_in _ (by omega)
    rw[e]
    unfold cutA cutB
    rw[if_pos h,if_pos h,decide_eq_true h]
    exact ⟨⟨by omega,h,by omega⟩,⟨by omega,by omega,by omega⟩,rfl⟩
  · have h:=of_decide_eq_false h
    have h:¬ (0≤slashAt s):=h
    unfold cutA cutB
    rw[if_neg h,if_neg h,decide_eq_false h]
    rfl
noncomputable def con_scut:Con Tryz.prog:=⟨148,[],_,cf_scut,val_con (E:=E14) mixed Tryz.func148 no_loops [(false,.str),(false,.str)] (fun x=>x.2.1=slash∧lenOk (ByteArray.size x.1)) (fun x=>.tup [.one (.v (.string (cutA x.1))),.one (.v (.string (cutB x.1))),aB (decide (0≤slashAt x.1))]) fun x hx=>by
  obtain ⟨s,t,⟨⟩⟩:=x
  revert s t
  intro (s:ByteArray) (t:ByteArray) (hx:t=slash∧lenOk s.size)
  have hs:=hx.2
  have hx:=hx.1
  subst hx
  rw[tr_scut_eq]
  exact scut_ok s hs⟩
noncomputable def E15:Env Tryz.prog:=⟨con_scut::E14.con,E14.zero,E14.cod,E14.sure,E14.base,E14.frz⟩
noncomputable def con_cut:Con Tryz.prog:=⟨102,[],_,cf_cut,val_con (E:=E15) mixed Tryz.func102 no_loops [(false,.str),(false,.str)] (fun x=>x.2.1=slash∧lenOk (ByteArray.size x.1)) (fun x=>.tup [.one (.v (.string (cutA x.1))),.one (.v (.string (cutB x.1))),aB (decide (0≤slashAt x.1))]) fun x hx=>by
  obtain ⟨s,t,⟨⟩⟩:=x
  revert s t
  intro (s:ByteArray) (t:ByteArray) (hx:t=slash∧lenOk s.size)
  have hs:=hx.2
  have hx:=hx.1
  subst hx
  have e:fnP E15 (fun _=>none) Tryz.f102 (encs [(false,.str),(false,.str)] (s,slash,()))=.need (slash=slash∧lenOk s.size) (.ret (.tup [.one (.v (.string (cutA s))),.one (.v (.string (cutB s))),aB (decide (0≤slashAt s))])):=by kernel_rfl
  rw[e]
  exact ⟨⟨rfl,hs⟩,rfl⟩⟩
noncomputable def E16:Env Tryz.prog:=⟨con_cut::E15.con,E15.zero,E15.cod,E15.sure,E15.base,E15.frz⟩
noncomputable def tr_rparse (x:Els [(false,.str)]):T Av:=
 .need ({ data := #[(47:UInt8)] }=slash∧lenOk (ByteArray.size (x.1))) (.ite (Option.isSome (pz (Array.toList (ByteArray.data (cutA (x.1))))))
   (.lt (wOf (Option.getD (pz (Array.toList (ByteArray.data (cutA (x.1))))) (0:Int))) (fun v0 =>
    .ite (decide ((0:Int)≤slashAt (x.1)))
     (.ite (Option.isSome (pz (Array.toList (ByteArray.data (cutB (x.1))))))
      (.lt (wOf (Option.getD (pz (Array.toList (ByteArray.data (cutB (x.1))))) (0:Int))) (fun v1 =>
       .ite (!!decide (zW v1=(1:Int)))
        (.ret (.tup [(.agg [.v (.bool w0.1),.w w0.2,.v (.bool w0.1),.w w0.2]),(.one (.v (.bool (false))))]))
        (.ite (!okF (v0,v1))
         (.ret (.tup [(.agg [.v (.bool w0.1),.w w0.2,.v (.bool w0.1),.w w0.2]),(.one (.v (.bool (false))))]))
         (.ret (.tup [(.agg [.v (.bool v0.1),.w v0.2,.v (.bool v1.1),.w v1.2]),(.one (.v (.bool (true))))])))))
      (.ret (.tup [(.agg [.v (.bool w0.1),.w w0.2,.v (.bool w0.1),.w w0.2]),(.one (.v (.bool (false))))])))
     (.ite (!okF (v0,wOf (1:Int)))
       (.ret (.tup [(.agg [.v (.bool w0.1),.w w0.2,.v (.bool w0.1),.w w0.2]),(.one (.v (.bool (false))))]))
       (.ret (.tup [(.agg [.v (.bool v0.1),.w v0.2,.v (.bool (wOf (1:Int)).1),.w (wOf (1:Int)).2]),(.one (.v (.bool (true))))])))))
   (.ite (decide ((0:Int)≤slashAt (x.1)))
    (.ite (Option.isSome (pz (Array.toList (ByteArray.data (cutB (x.1))))))
     (.lt (wOf (Option.getD (pz (Array.toList (ByteArray.data (cutB (x.1))))) (0:Int))) (fun v0=>(.ret (.tup [(.agg [.v (.bool w0.1),.w w0.2,.v (.bool w0.1),.w w0.2]),(.one (.v (.bool (false))))]))))
     (.ret (.tup [(.agg [.v (.bool w0.1),.w w0.2,.v (.bool w0.1),.w w0.2]),(.one (.v (.bool (false))))])))
    (.ret (.tup [(.agg [.v (.bool w0.1),.w w0.2,.v (.bool w0.1),.w w0.2]),(.one (.v (.bool (false))))]))))
theorem tr_rparse_eq (x:Els [(false,.str)]):fnP E16 (fun _=>none) Tryz.f72 (encs [(false,.str)] x)=tr_rparse x:=by kernel_rfl
def pR (s:ByteArray):Option F:=match pz (cutA s).data.toList with
  | none=>none
  | some n=>if 0≤slashAt s then (match pz (cutB s).data.toList with
      | none=>none
      | some d=>if zW (wOf d)=1 then none else if okF (wOf n,wOf d)=true then some (wOf n,wOf d) else none)
    else if okF (wOf n,wOf 1)=true then some (wOf n,wOf 1) else none
theorem rparse_ok (x:Els [(false,.str)]) (hs:lenOk (ByteArray.size x.1)):(tr_rparse x).wp (· = ansF (pR x.1).isSome ((pR x.1).getD (w0,w0))):=by
  obtain ⟨s,u⟩:=x
  revert s
  intro (s:ByteArray) (hs:lenOk s.size)
  unfold tr_rparse
  simp only[T.wp]
  have no:pR s=none→Av.tup [.agg [.v (.bool w0.1),.w w0.2,.v (.bool w0.1),.w w0.2],.one (.v (.bool false))]=ansF (pR s).isSome ((pR s).getD (w0,w0)):=fun h=>by rw[h];rfl
  have yes : ∀ f:F,pR s=some f→Av.tup [.agg [.v (.bool f.1.1),.w f.1.2,.v (.bool f.2.1),.w f.2.2],.one (.v (.bool true))]=ansF (pR s).isSome ((pR s).getD (w0,w0)):=fun f h=>by rw[h];rfl
  refine ⟨⟨rfl,hs⟩,fun hA=>⟨fun h0=>⟨fun hB=>⟨fun h1=>no ?_,fun h1=>⟨fun h2=>no ?_,fun h2=>yes (wOf ((pz (cutA s).data.toList).getD 0),wOf ((pz (cutB s).data.toList).getD 0)) ?_⟩⟩,fun hB=>no ?_⟩,fun h0=>⟨fun h2=>no ?_,fun h2=>yes (wOf ((pz (cutA s).data.toList).getD 0),wOf 1) ?_⟩⟩,
    fun hA=>⟨fun h0=>⟨fun hB=>no ?_,fun hB=>no ?_⟩,fun h0=>no ?_⟩⟩
  all_goals unfold pR
  · obtain ⟨n,hn⟩:=Option.isSome_iff_exists.1 hA
    obtain ⟨d,hd⟩:=Option.isSome_iff_exists.1 hB
    rw[hd]at h1
    have h1':zW (wOf d)=1:=by simpa using h1
    simp only[hn,hd,of_decide_eq_true h0,if_true,h1']
  · obtain ⟨n,hn⟩:=Option.isSome_iff_exists.1 hA
    obtain ⟨d,hd⟩:=Option.isSome_iff_exists.1 hB
    rw[hd]at h1 h2
    rw[hn]at h2
    have h1':¬ zW (wOf d)=1:=by simpa using h1
    have h2':okF (wOf n,wOf d)=false:=by simpa using h2
    simp only[hn,hd,of_decide_eq_true h0,if_true,h1',if_false,h2',Bool.false_eq_true]
  · obtain ⟨n,hn⟩:=Option.isSome_iff_exists.1 hA
    obtain ⟨d,hd⟩:=Option.isSome_iff_exists.1 hB
    rw[hd]at h1 h2
    rw[hn]at h2
    have h1':¬ zW (wOf d)=1:=by simpa using h1
    have h2':okF (wOf n,wOf d)=true:=by simpa using h2
    simp only[hn,hd,of_decide_eq_true h0,if_true,h1',if_false,h2',Option.getD_some]
  · obtain ⟨n,hn⟩:=Option.isSome_iff_exists.1 hA
    have hd:=Option.isSome_eq_false_iff.1 hB
    rw[Option.isNone_iff_eq_none]at hd
    simp only[hn,hd,of_decide_eq_true h0,if_true]
  · obtain ⟨n,hn⟩:=Option.isSome_iff_exists.1 hA
    rw[hn]at h2
    have h2':okF (wOf n,wOf 1)=false:=by simpa using h2
    simp only[hn,of_decide_eq_false h0,if_false,h2',Bool.false_eq_true]
  · obtain ⟨n,hn⟩:=Option.isSome_iff_exists.1 hA
    rw[hn]at h2
    have h2':okF (wOf n,wOf 1)=true:=by simpa using h2
    simp only[hn,of_decide_eq_false h0,if_false,h2',if_true,Option.getD_some]
  all_goals
    have hn:=Option.isSome_eq_false_iff.1 hA
    rw[Option.isNone_iff_eq_none]at hn
    simp only[hn]
noncomputable def con_rparse:Con Tryz.prog:=⟨72,[],_,cf_rparse,ans_con (E:=E16) mixed Tryz.func72 no_loops [(false,.str)] (fun x=>lenOk (ByteArray.size x.1)) true cF (fun x=>(pR x.1).isSome) (fun x=>(pR x.1).getD (w0,w0)) (fun _=>(w0,w0)) fun x hx=>by
  rw[tr_rparse_eq]
  exact rparse_ok x hx⟩
noncomputable def E17:Env Tryz.prog:=⟨con_rparse::E16.con,E16.zero,E16.cod,E16.sure,E16.base,E16.frz⟩
noncomputable def E18:Env Tryz.prog:=⟨E17.con,E17.zero,E17.cod,E17.sure,E17.base,E17.frz⟩
noncomputable def codU:Cod Tryz.prog:=⟨36,.int .u32,by kernel_rfl,⟨.int .u32 0,fun w=>by kernel_rfl⟩⟩
noncomputable def zeroU:Zero Tryz.prog:=⟨36,ck (.int .u32) (0:Int),[.int .u32 0],by kernel_rfl,fun w R σ=>.v rfl .nil⟩
noncomputable def E19:Env Tryz.prog:=⟨E18.con,zeroU::E18.zero,codU::E18.cod,E18.sure,E18.base,E18.frz⟩
def trimN (l:List Int):Nat→Nat
  | 0=>0
  | n+1=>if l[n]?=some 0 then trimN l n else n+1
def trimmed (l:List Int):List Int:=l.take (trimN l l.length)
noncomputable def E20:Env Tryz.prog:=⟨E19.con,E19.zero,E19.cod,E19.sure,E19.base,E19.frz⟩
def stL:Amt→List Int→Nat→Amt
  | a,[],_=>a
  | a,v::r,i=>stL (stA a i v) r (i+1)
def valL:List Int→Nat
  | []=>0
  | v::r=>v.toNat+4294967296*valL r
def Words (l:List Int):Prop := ∀ v∈l,0≤v∧v<4294967296
theorem stL_val : ∀ (l:List Int) (a:Amt) (i:Nat),a.1<Pq.bp i→i+l.length≤32→Words l→(stL a l i).1=a.1+Pq.bp i*valL l
  | [],a,i,h,hl,hw=>by simp[stL,valL]
  | v::r,a,i,h,hl,hw=>by
    rw[List.length_cons]at hl
    obtain ⟨h0,h1⟩:=hw v (by simp)
    have e:(stA a i v).1=a.1+Pq.bp i*v.toNat:=by
      rw[stA_val (by omega) h0 h1]
      unfold Pq.st
      have hlt:a.1<Pq.bp (i+1):=Nat.lt_of_lt_of_le h (Pq.bp_mono (by omega))
      rw[show Pq.lo a.1 i=a.1 from Nat.mod_eq_of_lt h,Nat.div_eq_of_lt hlt,Nat.mul_zero,Nat.add_zero]
    have hb:(stA a i v).1<Pq.bp (i+1):=by
      rw[e,Pq.bp_succ i]
      have h2:=Nat.mul_le_mul_left (Pq.bp i) (show v.toNat+1≤4294967296 by omega)
      rw[Nat.mul_add,Nat.mul_one]at h2
      omega
    rw[stL,stL_val r (stA a i v) (i+1) hb (by omega) (fun x hx=>hw x (by simp[hx])),e,valL,Pq.bp_succ i,Nat.mul_add,Nat.mul_assoc]
    omega
def pW (neg:Bool) (t:List Int):W:=(neg&&decide (0<t.length),stL w0.2 t 0)
noncomputable def E21:Env Tryz.prog:=⟨E20.con,E20.zero,E20.cod,E20.sure,E20.base,E20.frz⟩
theorem val_words {l:List Int} (h:Words l):valL l<Pq.bp l.length:=by
  induction l with
  | nil=>rw[valL];exact Pq.bp_pos _
  | cons v r ih =>
    have h1:=h v (by simp)
    have h2:=ih (fun x hx=>h x (by simp[hx]))
    rw[valL,List.length_cons,Pq.bp_succ]
    have:4294967296*valL r+4294967296≤Pq.bp r.length*4294967296:=by
      rw[←Nat.mul_succ,Nat.mul_comm];exact Nat.mul_le_mul_right _ h2
    omega
theorem val_app (l k:List Int):valL (l++k)=valL l+Pq.bp l.length*valL k:=by
  induction l with
  | nil=>simp[valL,Pq.bp_zero]
  | cons v r ih =>
    rw[List.cons_append,valL,ih,valL,List.length_cons,Pq.bp_succ,Nat.mul_add,Nat.add_assoc]
    congr 2
    rw[←Nat.mul_assoc,Nat.mul_comm 4294967296]
theorem val_range (x:Nat) : ∀ n,valL ((List.range n).map fun j=>((Pq.wd x j:Nat):Int))=Pq.lo x n
  | 0=>by simp[valL,Pq.lo_zero]
  | n+1=>by
    rw[List.range_succ,List.map_append,val_app,val_range x n,List.length_map,List.length_range,Pq.lo_succ]
    simp[valL]
theorem trim_two (a b:Int):trimmed [a,b]=if b=0 then (if a=0 then [] else [a]) else [a,b]:=by
  unfold trimmed
  by_cases hb:b=0
  · by_cases ha:a=0
    · simp[trimN,ha,hb]
    · simp[trimN,ha,hb]
  · simp[trimN,hb]
theorem two_words {a b x:Int} (ha:0≤a∧a<4294967296) (hb:0≤b∧b<4294967296) (hx:(x.natAbs:Int)=a+4294967296*b) (hf:x.natAbs<Pq.bp 32):pW (decide (x<0)) (trimmed [a,b])=wOf x:=by
  have hw : ∀ t:List Int,t.length≤2→Words t→(stL w0.2 t 0).1=valL t:=fun t h1 h2=>by
    have:=stL_val t w0.2 0 (by decide) (by omega) h2
    rw[this]
    show 0+Pq.bp 0*valL t=valL t
    rw[Pq.bp_zero];omega
  have fin : ∀ t:List Int,t.length≤2→Words t→valL t=x.natAbs→(0<t.length↔x≠0)→pW (decide (x<0)) t=wOf x:=fun t h1 h2 h3 h4=>by
    unfold pW wOf
    rw[dif_pos hf]
    refine Prod.ext ?_ (Subtype.ext ((hw t h1 h2).trans h3))
    by_cases hn:x<0
    · simp[hn,h4.2 (by omega)]
    · simp[hn]
  rw[trim_two]
  by_cases h0:b=0
  · rw[if_pos h0]
    by_cases h1:a=0
    · rw[if_pos h1]
      exact fin [] (by simp) (fun v hv=>by cases hv) (by simp[valL];omega) (by simp;omega)
    · rw[if_neg h1]
      exact fin [a] (by simp) (fun v hv=>by rw[List.mem_singleton]at hv;subst hv;exact ha) (by simp[valL];omega) (by simp;omega)
  · rw[if_neg h0]
    exact fin [a,b] (by simp) (fun v hv=>by
      rcases List.mem_cons.1 hv with rfl|hv
      · exact ha
      · rw[List.mem_singleton]at hv;subst hv;exact hb) (by simp only[valL];omega) (by simp;omega)
noncomputable def E22:Env Tryz.prog:=⟨E21.con,E21.zero,E21.cod,E21.sure,E21.base,E21.frz⟩
noncomputable def E23:Env Tryz.prog:=⟨E22.con,E22.zero,E22.cod,E22.sure,E22.base,E22.frz⟩
end Go.Proofs.YtbkfakkkikmcbaaGreatDoor
namespace Ax
open Go Go.RowKit
def manyL (l:List (Nat×(St→T (Exit×St)))):Loops:=fun k=>(l.find? fun p=>p.1==k).map (·.2)
theorem find_key {β:Type _} : ∀ (l:List (Nat×β)) (i:Nat) (p:Nat×β),(l.map (·.1)).Nodup→l[i]?=some p→l.find? (fun q=>q.1==p.1)=some p
  | [],i,p,_,h=>by simp at h
  | q::r,0,p,_,h=>by
    obtain rfl:q=p:=by simpa using h
    simp
  | q::r,i+1,p,hn,h=>by
    have h':r[i]?=some p:=by simpa using h
    have hm:p.1∈r.map (·.1):=List.mem_map.2 ⟨p,List.mem_of_getElem? h',rfl⟩
    have hne:q.1≠p.1:=fun e=>(List.nodup_cons.1 hn).1 (by show q.1∈_;rw[e];exact hm)
    rw[List.find?_cons_of_neg (by simpa using hne)]
    exact find_key r i p (List.nodup_cons.1 hn).2 h'
def keysOf (fn:Func):List Nat:=match fn.body with|some c=>(loopsOf c).map Code.first|none=>[]
theorem many_loops {P:Program} {n:Nat} {fn:Func} {l:List (Nat×(St→T (Exit×St)))} (hk:keysOf fn=l.map (·.1)) (hn:(l.map (·.1)).Nodup)
    (h : ∀ (i:Nat) p,l[i]?=some p→LoopOk P n (bodyOf fn i) p.2) : ∀ c,fn.body=some c→LoopsOk P n (manyL l) c:=by
  intro c hc
  unfold keysOf at hk
  rw[hc]at hk
  replace hk:(loopsOf c).map Code.first=l.map (·.1):=hk
  refine loops_of fun b hb r hr=>?_
  obtain ⟨i,hi,rfl⟩:=List.getElem_of_mem hb
  have hl:(loopsOf c).length=l.length:=by have:=congrArg List.length hk;simpa using this
  have hp:l[i]?=some (l[i]'(by omega)):=List.getElem?_eq_getElem _
  have hkey:Code.first (loopsOf c)[i]=(l[i]'(by omega)).1:=by
    have h1:((loopsOf c).map Code.first)[i]?=(l.map (·.1))[i]?:=by rw[hk]
    rw[List.getElem?_map,List.getElem?_map,hp,List.getElem?_eq_getElem hi]at h1
    simpa using h1
  unfold manyL at hr
  rw[hkey,find_key l i _ hn hp]at hr
  cases hr
  have hb:bodyOf fn i=(loopsOf c)[i]:=by
    unfold bodyOf
    rw[hc]
    simp[hi]
  rw[←hb]
  exact h i _ hp
end Ax
namespace Go.Proofs.YtbkfakkkikmcbaaGreatDoor
open Go.RowKit Ax
noncomputable def E25:Env Tryz.prog:=E23.add []
theorem val_set {row:List Int} {p:Nat} {v old:Int} (hw:Words row) (hv:0≤v) (h:row[p]?=some old):(valL (row.set p v):Int)=valL row+Pq.bp p*(v-old):=by
  induction row generalizing p with
  | nil=>simp at h
  | cons x r ih =>
    have hx:=hw x (by simp)
    cases p with
    | zero =>
      simp only[List.getElem?_cons_zero,Option.some.injEq]at h
      subst h
      rw[List.set_cons_zero,valL,valL,Pq.bp_zero]
      omega
    | succ p =>
      rw[List.set_cons_succ,valL,valL,Pq.bp_succ]
      have:=ih (fun y hy=>hw y (by simp[hy])) (by simpa using h)
      have e1:((Pq.bp p*4294967296:Nat):Int)*(v-old)=4294967296*((Pq.bp p:Nat)*(v-old)):=by
        rw[Int.natCast_mul,Int.mul_comm ((Pq.bp p:Nat):Int) ((4294967296:Nat):Int),Int.mul_assoc];rfl
      rw[e1]
      generalize ((Pq.bp p:Nat):Int)*(v-old)=q at *
      omega
theorem words_set {row:List Int} {p:Nat} {v:Int} (hw:Words row) (h0:0≤v) (h1:v<4294967296):Words (row.set p v):=fun x hx=>by
  rcases List.mem_or_eq_of_mem_set hx with h|rfl
  · exact hw x h
  · exact ⟨h0,h1⟩
theorem tail_words {v:Int} {r:List Int} (h:Words (v::r)):Words r:=fun x hx=>h x (by simp[hx])
theorem bp_pow (k:Nat):Pq.bp k=2^(32*k):=by unfold Pq.bp;rw[Nat.pow_mul]
def rw' (L Q:Nat):List Int:=(List.range L).map fun j=>((Pq.wd Q j:Nat):Int)
theorem rw_len (L Q:Nat):(rw' L Q).length=L:=by simp[rw']
theorem rw_words (L Q:Nat):Words (rw' L Q):=fun v hv=>by
  obtain ⟨j,_,rfl⟩:=List.mem_map.1 hv
  have:=Pq.wd_lt Q j
  omega
theorem rw_val {L Q:Nat} (h:Q<Pq.bp L):valL (rw' L Q)=Q:=by unfold rw';rw[val_range];exact Nat.mod_eq_of_lt h
theorem rw_get {L Q i:Nat} (h:i<L):(rw' L Q)[i]?=some ((Pq.wd Q i:Nat):Int):=by simp[rw',h]
theorem words_inj : ∀ {l k:List Int},Words l→Words k→l.length=k.length→valL l=valL k→l=k
  | [],[],_,_,_,_=>rfl
  | [],_::_,_,_,h,_=>by simp at h
  | _::_,[],_,_,h,_=>by simp at h
  | x::l,y::k,hl,hk,h,hv=>by
    have hx:=hl x (by simp)
    have hy:=hk y (by simp)
    rw[valL,valL]at hv
    have e1:valL l=valL k:=by omega
    have e2:x=y:=by omega
    rw[e2,words_inj (tail_words hl) (tail_words hk) (by simpa using h) e1]
theorem rw_of {l:List Int} {L Q:Nat} (h:Words l) (hl:l.length=L) (hv:valL l=Q):l=rw' L Q:=by
  have hq:Q<Pq.bp L:=by rw[←hv,←hl];exact val_words h
  exact words_inj h (rw_words _ _) (by rw[hl,rw_len]) (by rw[hv,rw_val hq])
theorem rw_set {L Q i:Nat} {v:Int} (hq:Q<Pq.bp L) (hi:i<L) (h0:0≤v) (h1:v<4294967296) {Q':Nat} (e:(Q':Int)=Q+Pq.bp i*(v-(Pq.wd Q i:Nat))):(rw' L Q).set i v=rw' L Q':=by
  refine rw_of (words_set (rw_words _ _) h0 h1) (by rw[List.length_set,rw_len]) ?_
  have:=val_set (rw_words L Q) h0 (rw_get hi)
  rw[rw_val hq]at this
  omega
theorem wd_top {n m:Nat} (h:n<Pq.bp (m+1)):Pq.wd n m=0↔n<Pq.bp m:=by
  rw[Pq.bp_succ,Nat.mul_comm]at h
  have hp:=Pq.bp_pos m
  have h1:n/Pq.bp m<4294967296:=(Nat.div_lt_iff_lt_mul hp).2 h
  unfold Pq.wd
  rw[Nat.mod_eq_of_lt h1,Nat.div_eq_zero_iff]
  constructor
  · rintro (h|h)
    · omega
    · exact h
  · exact fun h=>.inr h
theorem shl_lt {V i k s:Nat} (hV:V<Pq.bp i) (hs:s<32):V*2^s*Pq.bp k/Pq.bp (i+k)<2^s∧V*2^s*Pq.bp k<Pq.bp (i+k+1):=by
  have h2:2^s≤4294967296:=by
    rw[show 4294967296=2^32 from rfl];exact Nat.pow_le_pow_right (by decide) (by omega)
  have h1:V*2^s<Pq.bp i*2^s:=Nat.mul_lt_mul_of_pos_right hV (Nat.two_pow_pos s)
  refine ⟨?_,?_⟩
  · rw[Pq.bp_add,Nat.mul_div_mul_right _ _ (Pq.bp_pos k)]
    rw[Nat.div_lt_iff_lt_mul (Pq.bp_pos i),Nat.mul_comm (2^s)]
    exact h1
  · rw[Pq.bp_succ,Pq.bp_add,Nat.mul_right_comm (Pq.bp i)]
    refine Nat.mul_lt_mul_of_pos_right ?_ (Pq.bp_pos k)
    exact Nat.lt_of_lt_of_le h1 (Nat.mul_le_mul_left _ h2)
theorem or_low {t m s:Nat} (hs:s<32) (ht:t<2^s) (hm:m<4294967296) (hd:2^s∣m):((BitVec.ofInt (IntKind.bits .u32) (t:Int) ||| BitVec.ofInt (IntKind.bits .u32) (m:Int)).toNat=t+m)∧t+m<4294967296:=by
  have h2:2^s≤4294967296:=by
    rw[show 4294967296=2^32 from rfl];exact Nat.pow_le_pow_right (by decide) (by omega)
  obtain ⟨q,rfl⟩:=hd
  have hp:4294967296=2^s*2^(32-s):=by rw[←Nat.pow_add,show s+(32-s)=32 by omega]
  have hsum:t+2^s*q<4294967296:=by
    have hq:q<2^(32-s):=by
      rw[hp]at hm
      exact Nat.lt_of_mul_lt_mul_left hm
    have:2^s*q+2^s≤2^s*2^(32-s):=by rw[←Nat.mul_succ];exact Nat.mul_le_mul_left _ hq
    rw[hp]
    omega
  have e1:(BitVec.ofInt (IntKind.bits .u32) (t:Int)).toNat=t:=by
    rw[BitVec.toNat_ofInt]
    show ((t:Int)%4294967296).toNat=_
    omega
  have e2:(BitVec.ofInt (IntKind.bits .u32) ((2^s*q:Nat):Int)).toNat=2^s*q:=by
    rw[BitVec.toNat_ofInt]
    show (((2^s*q:Nat):Int)%4294967296).toNat=_
    generalize 2^s*q=z at *
    omega
  refine ⟨?_,hsum⟩
  rw[BitVec.toNat_or,e1,e2,Nat.or_comm,←Nat.two_pow_add_eq_or_of_lt ht q,Nat.add_comm]
theorem shl_low {u s:Nat} (hs:s<32):2^s∣u*2^s%4294967296:=by
  have hp:4294967296=2^(32-s)*2^s:=by rw[←Nat.pow_add,show 32-s+s=32 by omega]
  rw[hp,Nat.mul_mod_mul_right]
  exact Nat.dvd_mul_left _ _
theorem shl_step {V i k s u L t:Nat} (hV:V<Pq.bp i) (hs:s<32) (hu:u<4294967296) (hL:i+k+1<L) (ht:Pq.wd (V*2^s*Pq.bp k) (i+k)=t) :
    t<2^s∧((rw' L (V*2^s*Pq.bp k)).set (i+k) ((t+u*2^s%4294967296:Nat):Int)).set (i+k+1) ((u*2^s/4294967296:Nat):Int)=rw' L ((V+Pq.bp i*u)*2^s*Pq.bp k):=by
  obtain ⟨h1,h2⟩:=shl_lt (k:=k) hV hs
  have h3:2^s≤4294967296:=by
    rw[show 4294967296=2^32 from rfl];exact Nat.pow_le_pow_right (by decide) (by omega)
  have et:V*2^s*Pq.bp k/Pq.bp (i+k)=t:=by
    unfold Pq.wd at ht
    rw[Nat.mod_eq_of_lt (by omega)]at ht
    exact ht
  rw[et]at h1
  refine ⟨h1,?_⟩
  obtain ⟨o1,o2⟩:=or_low hs h1 (Nat.mod_lt (u*2^s) (by decide)) (shl_low (u:=u) hs)
  have hbL:Pq.bp (i+k+1)≤Pq.bp L:=Pq.bp_mono (by omega)
  have hx:u*2^s/4294967296<4294967296:=by
    rw[Nat.div_lt_iff_lt_mul (by decide)]
    exact Nat.mul_lt_mul_of_lt_of_le hu h3 (by decide)
  have edm:=Nat.mod_add_div (u*2^s) 4294967296
  have eQ:(V+Pq.bp i*u)*2^s*Pq.bp k=V*2^s*Pq.bp k+Pq.bp (i+k)*(u*2^s):=by
    rw[Nat.add_mul,Nat.add_mul,Pq.bp_add]
    congr 1
    simp only[Nat.mul_assoc,Nat.mul_comm,Nat.mul_left_comm]
  rw[eQ]
  have hQb:V*2^s*Pq.bp k<Pq.bp (i+k)*(t+1):=by
    rw[←et];exact Nat.lt_mul_div_succ _ (Pq.bp_pos _)
  generalize V*2^s*Pq.bp k=Q at *
  generalize u*2^s=x at *
  have hb:=Pq.bp_succ (i+k)
  have r1:(rw' L Q).set (i+k) ((t+x%4294967296:Nat):Int)=rw' L (Q+Pq.bp (i+k)*(x%4294967296)):=by
    refine rw_set (by omega) (by omega) (by omega) (by omega) ?_
    rw[ht]
    simp only[Int.natCast_add,Int.natCast_mul]
    congr 1
    rw[Int.add_comm,Int.add_sub_cancel]
  have hQ1:Q+Pq.bp (i+k)*(x%4294967296)<Pq.bp (i+k+1):=by
    rw[hb]
    have:Pq.bp (i+k)*(t+1)+Pq.bp (i+k)*(x%4294967296)≤Pq.bp (i+k)*4294967296:=by
      rw[←Nat.mul_add];exact Nat.mul_le_mul_left _ (by omega)
    omega
  rw[r1]
  refine rw_set (by omega) (by omega) (by omega) (by omega) ?_
  rw[Pq.wd_top hQ1 (Nat.le_refl _),hb]
  have e1:(x:Int)=(x%4294967296:Nat)+4294967296*(x/4294967296:Nat):=by omega
  generalize x%4294967296=lo at *
  generalize x/4294967296=hi at *
  simp only[Int.natCast_add,Int.natCast_mul,e1,Int.mul_add,Int.sub_zero,Int.ofNat_zero,Int.natCast_zero,Int.mul_assoc]
  rw[Int.add_assoc]
  rfl
noncomputable def E26:Env Tryz.prog:=E25.add []
noncomputable def E27:Env Tryz.prog:=E26.add []
noncomputable def E28:Env Tryz.prog:=E27.add []
noncomputable def E29:Env Tryz.prog:=E28.add []
end Go.Proofs.YtbkfakkkikmcbaaGreatDoor
namespace Ax
open Go Go.RowKit
end Ax
namespace Go.Proofs.YtbkfakkkikmcbaaGreatDoor
open Go.RowKit Ax
noncomputable def E30:Env Tryz.prog:=E29.add []
noncomputable def E31:Env Tryz.prog:=E30.add []
theorem div_step {Q m L w:Nat} (hd:2^(m+1)∣Q) (hq:Q<Pq.bp L) (hm:m<32*L) (hw:Pq.wd Q (m/32)=w) :
    ((BitVec.ofInt (IntKind.bits .u32) (w:Int) ||| BitVec.ofInt (IntKind.bits .u32) ((2^(m%32):Nat):Int)).toNat=w+2^(m%32))∧w+2^(m%32)<4294967296∧2^(m%32)<4294967296∧(rw' L Q).set (m/32) ((w+2^(m%32):Nat):Int)=rw' L (Q+2^m):=by
  have hs:m%32<32:=Nat.mod_lt _ (by decide)
  have hmm:m=m%32+32*(m/32):=(Nat.mod_add_div m 32).symm
  have e2:2^m=2^(m%32)*Pq.bp (m/32):=by
    rw[bp_pow,←Nat.pow_add,←hmm]
  have hwl:w<4294967296:=by rw[←hw];exact Pq.wd_lt _ _
  have hwd:2^(m%32+1)∣w:=by
    obtain ⟨t,ht⟩:=hd
    have e3:Q=(2^(m%32+1)*t)*Pq.bp (m/32):=by
      rw[ht,Nat.pow_succ,e2,Nat.pow_succ]
      simp only[Nat.mul_assoc,Nat.mul_comm,Nat.mul_left_comm]
    have hp:4294967296=2^(m%32+1)*2^(31-m%32):=by rw[←Nat.pow_add,show m%32+1+(31-m%32)=32 by omega]
    have:w=2^(m%32+1)*(t%2^(31-m%32)):=by
      rw[←hw]
      unfold Pq.wd
      rw[e3,Nat.mul_div_cancel _ (Pq.bp_pos _),hp,Nat.mul_mod_mul_left]
    rw[this]
    exact Nat.dvd_mul_right _ _
  have hps:=Nat.two_pow_pos (m%32)
  have es:2^(m%32+1)=2*2^(m%32):=by rw[Nat.pow_succ,Nat.mul_comm]
  have hs31:2^(m%32)≤2147483648:=by
    rw[show 2147483648=2^31 from rfl];exact Nat.pow_le_pow_right (by decide) (by omega)
  have hsum:w+2^(m%32)<4294967296:=by
    obtain ⟨q,hq⟩:=hwd
    have hp:4294967296=2^(m%32+1)*2^(31-m%32):=by rw[←Nat.pow_add,show m%32+1+(31-m%32)=32 by omega]
    rw[hq,hp]at hwl
    have hql:=Nat.lt_of_mul_lt_mul_left hwl
    have:2^(m%32+1)*q+2^(m%32+1)≤2^(m%32+1)*2^(31-m%32):=by rw[←Nat.mul_succ];exact Nat.mul_le_mul_left _ hql
    rw[hq,hp]
    omega
  refine ⟨?_,hsum,by omega,?_⟩
  · obtain ⟨q,hq⟩:=hwd
    have c1:(BitVec.ofInt (IntKind.bits .u32) (w:Int)).toNat=w:=by
      rw[BitVec.toNat_ofInt]
      show ((w:Int)%4294967296).toNat=_
      omega
    have c2:(BitVec.ofInt (IntKind.bits .u32) ((2^(m%32):Nat):Int)).toNat=2^(m%32):=by
      rw[BitVec.toNat_ofInt]
      show (((2^(m%32):Nat):Int)%4294967296).toNat=_
      generalize 2^(m%32)=z at *
      omega
    rw[BitVec.toNat_or,c1,c2,hq,←Nat.two_pow_add_eq_or_of_lt (by omega) q]
  · refine rw_set hq (by omega) (by omega) (by omega) ?_
    rw[hw,e2]
    have:((w+2^(m%32):Nat):Int)-(w:Int)=((2^(m%32):Nat):Int):=by omega
    rw[this,Int.natCast_add,Int.natCast_mul (2^(m%32)),Int.mul_comm]
noncomputable def E32:Env Tryz.prog:=E31.add []
def Tells (a b:Av):Prop := ∀ w R σ v,AvIs w R σ a v→AvIs w R σ b v
noncomputable def E33:Env Tryz.prog:=E32.add []
noncomputable def E34:Env Tryz.prog:=E33.add []
noncomputable def E35:Env Tryz.prog:=E34.add []
noncomputable def E36:Env Tryz.prog:=E35.add []
noncomputable def E37:Env Tryz.prog:=E36.add []
theorem nd {n d:Int} (hn : -9223372036854775808<n∧n<9223372036854775808) (hd:0<d∧d<9223372036854775808) : -9223372036854775808<n∧n<9223372036854775808∧0<d∧d<9223372036854775808:=⟨hn.1,hn.2,hd.1,hd.2⟩
noncomputable def E38:Env Tryz.prog:=E37.add []
noncomputable def EZ:Env Tryz.prog:=E38.add []
end Go.Proofs.YtbkfakkkikmcbaaGreatDoor
namespace Ax
open Go Go.RowKit
theorem lib_con {P:Program} {f:FuncId} {X:Type} (dec:List Av→Option X) (sp:X→T Av)
    (h : ∀ (x:X) (args:List Av) (vs:List Value) (w:World) (R:Nat→Prop) (σ:List Nat) (Q:Av→Prop),dec args=some x→vs.length=args.length→(∀ (i:Nat) a v,args[i]?=some a→vs[i]?=some v→AvIs w R σ a v)→GlobAt w R→(sp x).wp Q →
      ∃ av,Q av∧Calls P f vs.toArray w fun e w' => ∃ v,e=.returned v∧Below w.heap.size w w'∧AvIs w' (fun b=>w.heap.size≤b∧b<w'.heap.size) [] av v) :
    ConOk P f [] (fun args m=>match dec args with|some x=>(sp x).bind fun av=>.ret (av,m)|none=>.fail):=by
  intro w φ σ m args vs Q hmem hlen hargs hrun
  dsimp only at hrun
  split at hrun
  · rename_i x hx
    rw[T.wp_bind]at hrun
    obtain ⟨av,hQ,hc⟩:=h x args vs w _ σ _ hx hlen hargs hmem.gl hrun
    refine hc.mono fun e w' hr=>?_
    obtain ⟨v,rfl,hb,hv⟩:=hr
    have hk:=Keep.of_below hb σ
    have hown : ∀ i b:Nat,σ[i]?=some b→w'.heap[b]?=w.heap[b]?:=fun i b hi=>hb.block b (hmem.lt (List.mem_of_getElem? hi))
    refine ⟨v,av,m,σ,rfl,hQ,Ext.refl _ _,hk,fun i b hi _=>hown i b hi,hv.ro (fun b hb'=>⟨hb'.2,fun hm=>?_,fun hm=>?_⟩) σ,hmem.stay hk (Ext.refl _ _) rfl hown⟩
    · have:=hmem.fo b hm;omega
    · have:=hmem.lt hm;omega
  · exact hrun.elim
theorem ds_strs {w:World} {R:Nat→Prop} {A cap:Nat} {l:List ByteArray} {t:TypeId} {fr:Nat×Nat} {cells:List Value} (hR:R A) (hcap:l.length≤cap) (hb:w.heap[A]?=some (.cells cells.toArray t fr)) (htk:cells.take l.length=l.map Value.string) :
    AvIs w R [] (.one (.ds .str l)) (.slice (some ⟨A,0,none⟩) l.length cap):=by
  refine .one rfl (.ds (c:=.str) (xs:=l) (fun i=>[.string (l.getD i ⟨#[]⟩)]) hcap hR (fun i x hx=>rfl) (fun i x hx=>?_) (fun i x hx=>?_) .nil)
  · have e:l.getD i ⟨#[]⟩=x:=by rw[List.getD_eq_getElem?_getD];rw[show l[i]?=some x from hx];rfl
    rw[e]
    exact .v rfl .nil
  · have e:l.getD i ⟨#[]⟩=x:=by rw[List.getD_eq_getElem?_getD];rw[show l[i]?=some x from hx];rfl
    rw[e]
    intro j v hj
    have hx':l[i]?=some x:=hx
    have hi:i<l.length:=(List.getElem?_eq_some_iff.1 hx').1
    rcases j with _|j
    · have hv:v=.string x:=by simpa using hj.symm
      subst hv
      have h1:(cells.take l.length)[i]?=some (.string x):=by rw[htk,List.getElem?_map,hx'];rfl
      rw[List.getElem?_take,if_pos hi]at h1
      have:=Pq.range_block hb i _ h1
      have e2:(0+i*csz .str+0:Nat)=0+i:=by show 0+i*1+0=0+i;omega
      rw[e2]
      exact this
    · simp at hj
def dec2s:List Av→Option (ByteArray×ByteArray)
  | [.one (.v (.string s)),.one (.v (.string t))]=>some (s,t)
  | _=>none
theorem dec2s_ok {w:World} {R:Nat→Prop} {σ:List Nat} {args:List Av} {vs:List Value} {x:ByteArray×ByteArray} (h:dec2s args=some x) (hl:vs.length=args.length) (ha : ∀ (i:Nat) a v,args[i]?=some a→vs[i]?=some v→AvIs w R σ a v):vs=[.string x.1,.string x.2]:=by
  unfold dec2s at h
  split at h
  · cases h
    match vs,hl with
    | [u,v],_ =>
      rw[is_str (ha 0 _ u rfl rfl),is_str (ha 1 _ v rfl rfl)]
  · cases h
def dec1s:List Av→Option ByteArray
  | [.one (.v (.string s))]=>some s
  | _=>none
theorem dec1s_ok {w:World} {R:Nat→Prop} {σ:List Nat} {args:List Av} {vs:List Value} {x:ByteArray} (h:dec1s args=some x) (hl:vs.length=args.length) (ha : ∀ (i:Nat) a v,args[i]?=some a→vs[i]?=some v→AvIs w R σ a v):vs=[.string x]:=by
  unfold dec1s at h
  split at h
  · cases h
    match vs,hl with
    | [u],_ =>
      rw[is_str (ha 0 _ u rfl rfl)]
  · cases h
def dec1i:List Av→Option Int
  | [.one (.v (.int .i64 n))]=>some n
  | _=>none
theorem dec1i_ok {w:World} {R:Nat→Prop} {σ:List Nat} {args:List Av} {vs:List Value} {x:Int} (h:dec1i args=some x) (hl:vs.length=args.length) (ha : ∀ (i:Nat) a v,args[i]?=some a→vs[i]?=some v→AvIs w R σ a v):vs=[.int .i64 x]:=by
  unfold dec1i at h
  split at h
  · cases h
    match vs,hl with
    | [u],_ =>
      rw[is_int (ha 0 _ u rfl rfl)]
  · cases h
end Ax
namespace Go.Proofs.YtbkfakkkikmcbaaGreatDoor
open Go.RowKit Ax
theorem cf_split (xs:Array Value) (w:World):(callFunc 101 xs).run Tryz.prog w=.ok (.enter 101 xs) w:=by kernel_rfl
theorem cf_cutL (xs:Array Value) (w:World):(callFunc 102 xs).run Tryz.prog w=.ok (.enter 102 xs) w:=by kernel_rfl
theorem cf_trimp (xs:Array Value) (w:World):(callFunc 127 xs).run Tryz.prog w=.ok (.enter 127 xs) w:=by kernel_rfl
theorem cf_atoi (xs:Array Value) (w:World):(callFunc 126 xs).run Tryz.prog w=.ok (.enter 126 xs) w:=by kernel_rfl
theorem cf_itoa (xs:Array Value) (w:World):(callFunc 36 xs).run Tryz.prog w=.ok (.enter 36 xs) w:=by kernel_rfl
theorem g_cell {w:World} {R:Nat→Prop} (h:GlobAt w R) {nm:String} {p:Array Value→Prop} (hm:(nm,p)∈gfacts) {g:Nat} (hg:Tryz.prog.globalNamed nm=some g) : ∃ cs t z,w.heap[g]?=some (.cells cs t z)∧p cs:=(h (nm,p) hm g hg).2
theorem g_max {w:World} {R:Nat→Prop} (h:GlobAt w R) : ∃ m,w.cell? ⟨0,0,none⟩=some (.int .i64 m):=by
  obtain ⟨cs,t,z,h1,m,rfl⟩:=g_cell h (nm := "internal/bytealg.MaxLen") (by unfold gfacts;exact .tail _ (.tail _ (.head _))) (g:=0) (by kernel_rfl)
  refine ⟨m,?_⟩
  unfold World.cell?
  rw[show ((⟨0,0,none⟩:Addr).block)=0 from rfl,h1]
  rfl
theorem g_syn {w:World} {R:Nat→Prop} (h:GlobAt w R) : ∃ te pe,w.cell? ⟨3,0,none⟩=some (.iface te pe):=by
  obtain ⟨cs,t,z,h1,te,pe,rfl⟩:=g_cell h (nm := "strconv.ErrSyntax") (by unfold gfacts;exact .head _) (g:=3) (by kernel_rfl)
  refine ⟨te,pe,?_⟩
  unfold World.cell?
  rw[show ((⟨3,0,none⟩:Addr).block)=3 from rfl,h1]
  rfl
theorem g_ran {w:World} {R:Nat→Prop} (h:GlobAt w R) : ∃ te pe,w.cell? ⟨4,0,none⟩=some (.iface te pe):=by
  obtain ⟨cs,t,z,h1,te,pe,rfl⟩:=g_cell h (nm := "strconv.ErrRange") (by unfold gfacts;exact .tail _ (.head _)) (g:=4) (by kernel_rfl)
  refine ⟨te,pe,?_⟩
  unfold World.cell?
  rw[show ((⟨4,0,none⟩:Addr).block)=4 from rfl,h1]
  rfl
theorem g_pow {w:World} {R:Nat→Prop} (h:GlobAt w R):Lib.TabIs Tryz.prog w "internal/strconv.uint64pow10" .u64 Lib.pow10Tab:=by
  obtain ⟨cs,t,z,h1,rfl⟩:=g_cell h (nm := "internal/strconv.uint64pow10") (by unfold gfacts;exact .tail _ (.tail _ (.tail _ (.head _)))) (g:=1) (by kernel_rfl)
  unfold Lib.TabIs World.var?
  rw[show Tryz.prog.globalNamed "internal/strconv.uint64pow10" = some 1 by kernel_rfl]
  show (match w.heap[1]? with|some (.cells cs _ _)=>some cs|_=>none)=_
  rw[h1]
  rfl
def splitL (s sep:ByteArray):List ByteArray:=Lib.splitB sep 0 (Lib.countB s sep) s
noncomputable def con_split:Con Tryz.prog:=⟨101,[],_,cf_split,lib_con dec2s (fun x=>.need (1≤x.2.size∧x.1.size<4294967281) (.ret (.one (.ds .str (splitL x.1 x.2))))) fun x args vs w R σ Q hd hl ha hg hQ=>by
  obtain ⟨s,sep⟩:=x
  have hv:=dec2s_ok hd hl ha
  subst hv
  obtain ⟨⟨h1,h2⟩,hQ⟩:=hQ
  obtain ⟨m,hm⟩:=g_max hg
  have hlen:(splitL s sep).length=Lib.countB s sep+1:=Lib.splitB_all sep h1 0 _ s rfl
  refine ⟨_,hQ,(Tryz.strings_Split s sep m w h2 hm h1).mono fun e w' hr=>?_⟩
  obtain ⟨rfl,rfl⟩:=hr
  refine ⟨_,rfl,(keep_alloc w [] _).below,?_⟩
  rw[←hlen]
  refine ds_strs (R:=fun b=>w.heap.size≤b∧b<(w.alloc _).heap.size) ⟨Nat.le_refl _,by simp⟩ (Nat.le_refl _) (heap_alloc_new w _) ?_
  rw[List.take_of_length_le (by rw[List.length_map];exact Nat.le_refl _)]
  rfl⟩
noncomputable def con_trimp:Con Tryz.prog:=⟨127,[],_,cf_trimp,lib_con dec2s (fun x=>.ret (.one (.v (.string ⟨(Lib.trimPrefix x.1.data.toList x.2.data.toList).toArray⟩)))) fun x args vs w R σ Q hd hl ha hg hQ=>by
  obtain ⟨s,p⟩:=x
  have hv:=dec2s_ok hd hl ha
  subst hv
  refine ⟨_,hQ,(Tryz.strings_TrimPrefix s p w).mono fun e w' hr=>?_⟩
  obtain ⟨rfl,rfl⟩:=hr
  exact ⟨_,rfl,Below.refl _ _,.val rfl⟩⟩
noncomputable def con_cutL:Con Tryz.prog:=⟨102,[],_,cf_cutL,lib_con dec2s (fun x=>.need (x.1.size<4294967281) (.ret (.tup [.one (.v (.string ⟨(Lib.cut x.1.data.toList x.2.data.toList).1.toArray⟩)),.one (.v (.string ⟨(Lib.cut x.1.data.toList x.2.data.toList).2.1.toArray⟩)),.one (.v (.bool (Lib.cut x.1.data.toList x.2.data.toList).2.2))]))) fun x args vs w R σ Q hd hl ha hg hQ=>by
  obtain ⟨s,p⟩:=x
  have hv:=dec2s_ok hd hl ha
  subst hv
  obtain ⟨h2,hQ⟩:=hQ
  obtain ⟨m,hm⟩:=g_max hg
  refine ⟨_,hQ,(Tryz.strings_Cut s p m w h2 hm).mono fun e w' hr=>?_⟩
  obtain ⟨rfl,n,rfl⟩:=hr
  refine ⟨_,rfl,below_drewNg w n,.tup [_,_,_] rfl fun i a u hi hu=>?_⟩
  match i,hi,hu with
  | 0,rfl,rfl=>exact .val rfl
  | 1,rfl,rfl=>exact .val rfl
  | 2,rfl,rfl=>exact .val rfl⟩
open Go.Sort in
theorem below_grow (w:World) (os:Array Obj):Below w.heap.size w (grow w os):=⟨rfl,rfl,rfl,by simp[grow],fun k hk=>by
  show (w.heap++os)[k]?=w.heap[k]?
  exact Array.getElem?_append_left hk⟩
noncomputable def con_itoa:Con Tryz.prog:=⟨36,[],_,cf_itoa,lib_con dec1i (fun x=>.need (-9223372036854775808≤x∧x≤9223372036854775807) (.ret (.one (.v (.string ⟨(Lib.itoa x).toArray⟩))))) fun x args vs w R σ Q hd hl ha hg hQ=>by
  have hv:=dec1i_ok hd hl ha
  subst hv
  obtain ⟨⟨h1,h2⟩,hQ⟩:=hQ
  refine ⟨_,hQ,(Tryz.strconv_Itoa x h1 h2 w (g_pow hg)).mono fun e w' hr=>?_⟩
  obtain ⟨rfl,k,os,rfl⟩:=hr
  refine ⟨_,rfl,(below_drewNg w k).trans ?_,.val rfl⟩
  exact (below_grow (w.drewN k) os).mono (below_drewNg w k).size⟩
def atoiB (s:ByteArray):Bool:=match Lib.atoiAll s.data.toList with|.ok _=>true|_=>false
def atoiV (s:ByteArray):Int:=match Lib.atoiAll s.data.toList with|.ok v=>v|_=>0
theorem ni_tup {w:World} {R:Nat→Prop} {z:Int} {t:TypeId} {v:Value}:AvIs w R [] (.tup [.any,.one .ni]) (.tuple #[.int .i64 z,.iface t v]):=
  .tup [_,_] rfl fun i a u hi hu=>by
    match i,hi,hu with
    | 0,rfl,rfl=>exact .any
    | 1,rfl,rfl=>exact .one rfl (.ni t v .nil)
noncomputable def con_atoi:Con Tryz.prog:=⟨126,[],_,cf_atoi,lib_con dec1s (fun x=>.need (x.size≤281474976710656) (.ite (atoiB x) (.ret (.tup [.one (.v (.int .i64 (atoiV x))),.one (.v .nilIface)])) (.ret (.tup [.any,.one .ni])))) fun x args vs w R σ Q hd hl ha hg hQ=>by
  have hv:=dec1s_ok hd hl ha
  subst hv
  obtain ⟨h1,hQ⟩:=hQ
  unfold atoiB atoiV at hQ
  rcases hr:Lib.atoiAll x.data.toList with v|_|_
  · rw[hr]at hQ
    refine ⟨_,hQ.1 rfl,(Tryz.strconv_Atoi_ok x (by omega) v hr w).mono fun e w' h=>?_⟩
    obtain ⟨rfl,hw⟩:=h
    refine ⟨_,rfl,?_,.tup [_,_] rfl fun i a u hi hu=>?_⟩
    · rcases hw with rfl|⟨t,rfl⟩
      · exact Below.refl _ _
      · exact ⟨rfl,rfl,rfl,by rw[Lib.bytesWorld_size];omega,fun j hj=>Lib.bytesWorld_at_old w _ t j hj⟩
    · match i,hi,hu with
      | 0,rfl,rfl=>exact .val rfl
      | 1,rfl,rfl=>exact .val rfl
  · rw[hr]at hQ
    obtain ⟨te,pe,hc⟩:=g_syn hg
    refine ⟨_,hQ.2 rfl,(Tryz.strconv_Atoi_syntax x h1 hr _ w hc (.inr ⟨te,pe,rfl⟩)).mono fun e w' h=>?_⟩
    obtain ⟨N,rfl,_,_,hb⟩:=h
    exact ⟨_,rfl,hb,ni_tup⟩
  · rw[hr]at hQ
    obtain ⟨te,pe,hc⟩:=g_ran hg
    refine ⟨_,hQ.2 rfl,(Tryz.strconv_Atoi_range x h1 hr _ w hc (.inr ⟨te,pe,rfl⟩)).mono fun e w' h=>?_⟩
    obtain ⟨N,rfl,_,_,hb⟩:=h
    exact ⟨_,rfl,hb,ni_tup⟩⟩
noncomputable def L1:Env Tryz.prog:=⟨[con_atoi,con_itoa,con_trimp,con_split,con_cutL],[],[],fun _=>false,0,fun _=>[]⟩
theorem cf_lint (xs:Array Value) (w:World):(callFunc 75 xs).run Tryz.prog w=.ok (.enter 75 xs) w:=by kernel_rfl
theorem cf_lone (xs:Array Value) (w:World):(callFunc 105 xs).run Tryz.prog w=.ok (.enter 105 xs) w:=by kernel_rfl
theorem cf_lclo (xs:Array Value) (w:World):(callFunc 104 xs).run Tryz.prog w=.ok (.enter 104 xs) w:=by kernel_rfl
noncomputable def tr_lint (x:Els [(false,.str)]):T Av:=
 .need (ByteArray.size (x.1)≤(281474976710656:Nat)) (.ite (atoiB (x.1))
   (.ite (!true)
    (.ret (.tup [(.one (.v (.int .i64 ((0:Int))))),(.one (.v (.bool (false))))]))
    (.need ((-9223372036854775808:Int)≤atoiV (x.1)∧atoiV (x.1)≤(9223372036854775807:Int)) (.ite (!ByteArray.toList { data:=List.toArray (Go.Lib.itoa (atoiV (x.1))) }==ByteArray.toList (x.1))
      (.ret (.tup [(.one (.v (.int .i64 ((0:Int))))),(.one (.v (.bool (false))))]))
      (.ite (decide ((↑(ByteArray.size { data:=List.toArray (Go.Lib.trimPrefix (Array.toList (ByteArray.data (x.1))) (Array.toList (ByteArray.data { data := #[(45:UInt8)] }))) }):Int)>(9:Int)))
       (.ret (.tup [(.one (.v (.int .i64 ((0:Int))))),(.one (.v (.bool (false))))]))
       (.ret (.tup [(.one (.v (.int .i64 (atoiV (x.1))))),(.one (.v (.bool (true))))]))))))
   (.ret (.tup [(.one (.v (.int .i64 ((0:Int))))),(.one (.v (.bool (false))))])))
theorem tr_lint_eq (x:Els [(false,.str)]):fnP L1 (fun _=>none) Tryz.f75 (encs [(false,.str)] x)=tr_lint x:=by kernel_rfl
theorem mixedL:Tryz.prog.follows .mixedOrders=true:=by kernel_rfl
noncomputable def codR:Cod Tryz.prog:=⟨21,.int .i32,by kernel_rfl,⟨.int .i32 0,fun w=>by kernel_rfl⟩⟩
noncomputable def zeroR:Zero Tryz.prog:=⟨21,ck (.int .i32) (0:Int),[.int .i32 0],by kernel_rfl,fun w R σ=>.v rfl .nil⟩
noncomputable def L2:Env Tryz.prog:=⟨L1.con,[zeroR],[codR],L1.sure,L1.base,L1.frz⟩
abbrev spOne:LSpec:=⟨17,[(0,false,.int .i32),(7,false,.sl (.int .i32)),(8,false,.int .i64),(9,false,.int .i64)],[],[],fun e=>match e with|.ret=>[4]|_=>[]⟩
noncomputable def tr_loneL (x:LSpec.X spOne×LSpec.Y spOne):T (Rd spOne):=
 .ite (decide (x.1.2.2.2.1<x.1.2.2.1))
  (.get x.1.2.1 x.1.2.2.2.1 (fun v0 =>
   .ite (x.1.1==v0)
    (.ret (.out (Go.Exit.ret) [(.one (.v (.bool (true))))] ()))
    (.ret (.again (x.1.1,(x.1.2.1,(x.1.2.2.1,(IntKind.wrap .i64 (x.1.2.2.2.1+(1:Int)),())))) ()))))
  (.ret (.out (Go.Exit.exit (0:Nat)) [] ()))
theorem tr_loneL_eq (x:LSpec.X spOne×LSpec.Y spOne):LSpec.round spOne L2 (fun _=>none) (bodyOf Tryz.f105 0) x.1 x.2=tr_loneL x:=by kernel_rfl
def outOne (x:LSpec.X spOne) (y:LSpec.Y spOne):T (Exit×List Av×LSpec.Y spOne):=
  .need (0≤x.2.2.2.1∧x.2.2.1=(List.length x.2.1:Int)∧lenOk (List.length x.2.1)) (.ite (decide (x.1∈(x.2.1:List Int).drop x.2.2.2.1.toNat)) (.ret (.ret,[.one (.v (.bool true))],())) (.ret (.exit 0,[],())))
theorem loneL_core (c : Int) (l : List Int) (n i : Int) (Q : Exit × List Av × LSpec.Y spOne → Prop) (h : (outOne (c, l, n, i, ()) ()).wp Q) : (tr_loneL ((c, l, n, i, ()), ())).wp fun r => match r with
      | .again x' y'=>(x'.2.2.1-x'.2.2.2.1).toNat<(n-i).toNat∧(outOne x' y').wp Q
      | .out e avs y'=>Q (e,avs,y'):=by
  unfold tr_loneL
  unfold outOne at h ⊢
  simp only[T.wp]at h ⊢
  dsimp only [El,vts,spOne]at h ⊢
  obtain ⟨⟨i0,hn,hl⟩,hy,hz⟩:=h
  have hl':=hl
  unfold lenOk at hl'
  refine ⟨fun hlt=>?_,fun hge=>?_⟩
  · have hlt:=of_decide_eq_true hlt
    obtain ⟨u,hu⟩:=elem_at (l:=l) i0 (by omega)
    have hd:=drop_at i0 hu
    rw[hd]at hy hz
    refine ⟨u,i0,hu,fun heq=>?_,fun hne=>?_⟩
    · have heq:c=u:=by simpa using heq
      exact hy (by rw[heq];simp)
    · have hne:c≠u:=by simpa using hne
      rw[IntWalk.i64_in (i+1) (by omega)]
      have e:decide (c∈u::l.drop (i+1).toNat)=decide (c∈l.drop (i+1).toNat):=by
        rw[decide_eq_decide];simp[hne]
      rw[e]at hy hz
      exact ⟨by omega,⟨by omega,hn,hl⟩,hy,hz⟩
  · have hge:=of_decide_eq_false hge
    rw[drop_end (by omega)]at hz
    exact hz (by simp)
theorem loneL_ok:LoopOk Tryz.prog 0 (bodyOf Tryz.f105 0) (spOne.run outOne):=
  loop_ok (E:=L2) (L:=fun _=>none) mixedL 0 (loops_none _ _ _) spOne (Nat.zero_le _) outOne (fun x _=>(x.2.2.1-x.2.2.2.1).toNat) (by
    rintro ⟨c,l,n,i,⟨⟩⟩ ⟨⟩ Q h
    rw[tr_loneL_eq ((c,l,n,i,()),())]
    exact loneL_core c l n i Q h)
noncomputable def lpOne:Loops:=oneL 2 (spOne.run outOne)
noncomputable def tr_lone (x:Els [(false,.int .i32),(false,.sl (.int .i32))]):T Av:=
 .need ((0:El (Cd.int .i64))≤(0:Int)∧(↑(List.length x.2.1):Int)=(↑(List.length x.2.1):Int)∧lenOk (List.length x.2.1)) (.ite (decide (x.1∈List.drop (Int.toNat (0:Int)) x.2.1))
   (.ret (.one (.v (.bool (true)))))
   (.ret (.one (.v (.bool (false))))))
theorem tr_lone_eq (x:Els [(false,.int .i32),(false,.sl (.int .i32))]):fnP L2 lpOne Tryz.f105 (encs [(false,.int .i32),(false,.sl (.int .i32))] x)=tr_lone x:=by kernel_rfl
noncomputable def con_lone:Con Tryz.prog:=⟨105,[],_,cf_lone,val_con (E:=L2) (L:=lpOne) mixedL Tryz.func105 (one_loop loneL_ok (by kernel_rfl)) [(false,.int .i32),(false,.sl (.int .i32))] (fun x=>lenOk (List.length x.2.1)) (fun x=>.one (.v (.bool (decide (x.1∈(x.2.1:List Int)))))) fun x hx=>by
  rw[tr_lone_eq]
  obtain ⟨c,l,u⟩:=x
  revert c l
  intro (c:Int) (l:List Int) (hx:lenOk l.length)
  unfold tr_lone
  simp only[T.wp]
  refine ⟨⟨Int.le_refl 0,trivial,hx⟩,fun h=>?_,fun h=>?_⟩
  · have h:decide (c∈l)=true:=h
    rw[h]
  · have h:decide (c∈l)=false:=h
    rw[h]⟩
noncomputable def L3:Env Tryz.prog:=L2.add [con_lone]
noncomputable def tr_lclo (x:Els [(false,.int .i32)]):T Av:=
 .need (lenOk (List.length [(32:Int),(9:Int),(13:Int)])) (.ret (.one (.v (.bool (decide (x.1∈[(32:Int),(9:Int),(13:Int)]))))))
theorem tr_lclo_eq (x:Els [(false,.int .i32)]):fnP L3 (fun _=>none) Tryz.f104 (encs [(false,.int .i32)] x)=tr_lclo x:=by kernel_rfl
noncomputable def con_lclo:Con Tryz.prog:=⟨104,[],_,cf_lclo,val_con (E:=L3) mixedL Tryz.func104 no_loops [(false,.int .i32)] (fun x=>True) (fun x=>.one (.v (.bool (decide ((x.1:Int)∈([32,9,13]:List Int)))))) fun x hx=>by
  rw[tr_lclo_eq]
  obtain ⟨c,u⟩:=x
  revert c
  intro (c:Int)
  unfold tr_lclo
  simp only[T.wp]
  exact ⟨by show ((3:Nat):Int)≤4611686018427387904;omega,trivial⟩⟩
theorem glob_below {w W:World} {R:Nat→Prop} (hg:GlobAt w R) (hb:Below w.heap.size w W):GlobAt W (Ro W [] []):=fun f hf g h=>by
  obtain ⟨_,cs,t,z,h2,h3⟩:=hg f hf g h
  have hlt:=(Array.getElem?_eq_some_iff.1 h2).1
  exact ⟨⟨Nat.lt_of_lt_of_le hlt hb.size,by simp,by simp⟩,cs,t,z,(hb.block g hlt).trans h2,h3⟩
def blank (x:Nat):Bool:=decide (((x:Nat):Int)∈([32,9,13]:List Int))
theorem lclo_grows {w:World} {R:Nat→Prop} (hg:GlobAt w R):PredGrows Tryz.prog 104 #[] blank w:=fun W x hx hb=>by
  have hm:MemOk W [] [] []:=⟨rfl,by simp,by simp,glob_below hg hb,fun i t cs b h1 h2=>by simp at h1⟩
  have hc:=con_lclo.ok W [] [] [] [.one (.v (.int .i32 x))] [.int .i32 x] (fun r=>r=(.one (.v (.bool (blank x))),[])) hm rfl (fun i a v h1 h2=>by
    match i,h1,h2 with
    | 0,rfl,rfl=>exact .val rfl) (by
    show (T.need True (.ret _)).wp _
    exact ⟨trivial,rfl⟩)
  refine hc.mono fun e w' hr=>?_
  obtain ⟨v,av,m',σ',rfl,hQ,_,hk,_,hav,_⟩:=hr
  cases hQ
  rw[val_of hav rfl]
  exact ⟨rfl,hk.below⟩
def decF:List Av→Option ByteArray
  | [.one (.v (.string s)),.one (.v (.func (.func g) a b))]=>match decide (g=104)&&a.isEmpty&&b.isEmpty with
    | true=>some s
    | false=>none
  | _=>none
theorem decF_ok {w:World} {R:Nat→Prop} {σ:List Nat} {args:List Av} {vs:List Value} {x:ByteArray} (h:decF args=some x) (hl:vs.length=args.length) (ha : ∀ (i:Nat) a v,args[i]?=some a→vs[i]?=some v→AvIs w R σ a v):vs=[.string x,.func (.func 104) #[] #[]]:=by
  unfold decF at h
  split at h
  · split at h
    · rename_i hq
      cases h
      simp only[Bool.and_eq_true,decide_eq_true_eq,Array.isEmpty_iff]at hq
      obtain ⟨⟨rfl,rfl⟩,rfl⟩:=hq
      match vs,hl with
      | [u,v],_ =>
        rw[is_str (ha 0 _ u rfl rfl),val_of (ha 1 _ v rfl rfl) rfl]
    · cases h
  · cases h
theorem cf_fields (xs:Array Value) (w:World):(callFunc 103 xs).run Tryz.prog w=.ok (.enter 103 xs) w:=by kernel_rfl
noncomputable def con_fields:Con Tryz.prog:=⟨103,[],_,cf_fields,lib_con decF (fun x=>.need (x.size≤4294967296) (.ret (.one (.ds .str (Lib.goFieldsP blank x))))) fun x args vs w R σ Q hd hl ha hg hQ=>by
  have hv:=decF_ok hd hl ha
  subst hv
  obtain ⟨h1,hQ⟩:=hQ
  refine ⟨_,hQ,(Tryz.strings_FieldsFunc_grows 104 #[] cf_lclo blank x w h1 (lclo_grows hg)).mono fun e w' hr=>?_⟩
  obtain ⟨A,rfl,hA,ho,hb⟩:=hr
  refine ⟨_,rfl,hb,?_⟩
  obtain ⟨_,ho⟩:=ho
  rcases ho with ⟨hv,_⟩|⟨g,cap,cur,hv,hg1,hg2,hcap,_,_,htk⟩
  · cases hv
  · cases hv
    rw[Nat.mul_one]at htk
    have hlt:=(Array.getElem?_eq_some_iff.1 hg2).1
    exact ds_strs (cells:=cur.toList) (R:=fun b=>w.heap.size≤b∧b<w'.heap.size) ⟨hA,hlt⟩ (Nat.le_refl _) (by simpa using hg2) htk⟩
theorem atoiV_in (s:ByteArray) : -9223372036854775808≤atoiV s∧atoiV s≤9223372036854775807:=by
  unfold atoiV
  generalize s.data.toList=l
  unfold Lib.atoiAll
  split
  · rename_i v hv
    split at hv
    · cases hv
    · dsimp only at hv
      split at hv
      · cases hv
      · cases hv
      · rename_i c r u hu
        split at hv
        · cases hv
        · split at hv
          · cases hv
          · cases hv
            split <;> omega
  · omega
def itoaS (z:Int):ByteArray:=⟨(Lib.itoa z).toArray⟩
def trimM (s:ByteArray):ByteArray:=⟨(Lib.trimPrefix s.data.toList [45]).toArray⟩
def lintB (s:ByteArray):Bool:=atoiB s&&(itoaS (atoiV s)).toList==s.toList&&decide ((trimM s).size≤9)
noncomputable def con_lint:Con Tryz.prog:=⟨75,[],_,cf_lint,val_con (E:=L1) mixedL Tryz.func75 no_loops [(false,.str)] (fun x=>ByteArray.size x.1≤281474976710656) (fun x=>.tup [.one (.v (.int .i64 (if lintB x.1=true then atoiV x.1 else 0))),.one (.v (.bool (lintB x.1)))]) fun x hx=>by
  rw[tr_lint_eq]
  obtain ⟨s,u⟩:=x
  revert s
  intro (s:ByteArray) (hx:s.size≤281474976710656)
  unfold tr_lint
  simp only[T.wp]
  have hin:=atoiV_in s
  have eT:ByteArray.size ⟨List.toArray (Lib.trimPrefix (Array.toList (ByteArray.data s)) (Array.toList (ByteArray.data ⟨#[(45:UInt8)]⟩)))⟩=(trimM s).size:=rfl
  rw[eT]
  have no:lintB s=false→Av.tup [.one (.v (.int .i64 0)),.one (.v (.bool false))]=.tup [.one (.v (.int .i64 (if lintB s=true then atoiV s else 0))),.one (.v (.bool (lintB s)))]:=fun h=>by rw[h];rfl
  refine ⟨hx,fun h1=>⟨fun h=>Bool.noConfusion h,fun _=>⟨hin,fun h2=>no ?_,fun h2=>⟨fun h3=>no ?_,fun h3=>?_⟩⟩⟩,fun h1=>no ?_⟩
  · have h2:((itoaS (atoiV s)).toList==s.toList)=false:=by
      have h2:(!((itoaS (atoiV s)).toList==s.toList))=true:=h2
      generalize ((itoaS (atoiV s)).toList==s.toList)=q at h2 ⊢
      cases q with
      | false=>rfl
      | true=>cases h2
    unfold lintB;rw[h2];simp
  · have h3:=of_decide_eq_true h3
    unfold lintB;rw[decide_eq_false (by omega)];simp
  · have h2:((itoaS (atoiV s)).toList==s.toList)=true:=by
      have h2:(!((itoaS (atoiV s)).toList==s.toList))=false:=h2
      generalize ((itoaS (atoiV s)).toList==s.toList)=q at h2 ⊢
      cases q with
      | true=>rfl
      | false=>cases h2
    have h3:=of_decide_eq_false h3
    have e:lintB s=true:=by unfold lintB;rw[h1,h2,decide_eq_true (by omega)];rfl
    rw[e];rfl
  · unfold lintB;rw[h1];rfl⟩
theorem cf_llines (xs:Array Value) (w:World):(callFunc 55 xs).run Tryz.prog w=.ok (.enter 55 xs) w:=by kernel_rfl
abbrev cL:Cd:=.pair (.int .i64) (.sl .str)
noncomputable def codL:Cod Tryz.prog:=⟨54,cL,by kernel_rfl,⟨.agg #[.int .i64 0,.slice none 0 0],fun w=>by kernel_rfl⟩⟩
noncomputable def zeroL:Zero Tryz.prog:=⟨54,ck cL ((0:Int),[]),[.int .i64 0,.slice none 0 0],by kernel_rfl,fun w R σ=>.v rfl (.dn .nil)⟩
noncomputable def L4:Env Tryz.prog:=⟨con_lint::con_fields::con_lclo::L3.con,zeroL::L3.zero,codL::L3.cod,L3.sure,L3.base,L3.frz⟩
abbrev spLines:RSpec:=⟨35,[(8,false,.sl .str),(9,false,.int .i64),(10,false,.int .i64)],[],[],fun _=>[],3,54,cL,false,fun _=>3⟩
noncomputable def tr_llinesL (x:RSpec.X spLines×RSpec.Y spLines×(List (El (RSpec.c spLines))×Nat)):T (RRd spLines):=
 .ite (decide (x.1.2.2.1<x.1.2.1))
  (.get x.1.1 x.1.2.2.1 (fun v0 =>
   .need (ByteArray.size v0<(4294967281:Nat)) (.need (ByteArray.size { data:=List.toArray (Go.Lib.cut (Array.toList (ByteArray.data v0)) (Array.toList (ByteArray.data { data := #[(35:UInt8)] }))).1 }≤(4294967296:Nat)) (.ite (decide ((↑(List.length (Go.Lib.goFieldsP blank { data:=List.toArray (Go.Lib.cut (Array.toList (ByteArray.data v0)) (Array.toList (ByteArray.data { data := #[(35:UInt8)] }))).1 })):Int)>(0:Int)))
      (.need (List.length x.2.2.1=List.length x.2.2.1∧x.2.2.2=x.2.2.2∧(List.length x.2.2.1+List.length [(IntKind.wrap .i64 (x.1.2.2.1+(1:Int)),Go.Lib.goFieldsP blank { data:=List.toArray (Go.Lib.cut (Array.toList (ByteArray.data v0)) (Array.toList (ByteArray.data { data := #[(35:UInt8)] }))).1 })])*(nat_lit 31+(1:Nat))≤(140737488355328:Nat)∧List.length x.2.2.1+List.length [(IntKind.wrap .i64 (x.1.2.2.1+(1:Int)),Go.Lib.goFieldsP blank { data:=List.toArray (Go.Lib.cut (Array.toList (ByteArray.data v0)) (Array.toList (ByteArray.data { data := #[(35:UInt8)] }))).1 })]≤Go.maxLen) (.and
        (.need (List.length x.2.2.1+List.length [(IntKind.wrap .i64 (x.1.2.2.1+(1:Int)),Go.Lib.goFieldsP blank { data:=List.toArray (Go.Lib.cut (Array.toList (ByteArray.data v0)) (Array.toList (ByteArray.data { data := #[(35:UInt8)] }))).1 })]=List.length (x.2.2.1++[(IntKind.wrap .i64 (x.1.2.2.1+(1:Int)),Go.Lib.goFieldsP blank { data:=List.toArray (Go.Lib.cut (Array.toList (ByteArray.data v0)) (Array.toList (ByteArray.data { data := #[(35:UInt8)] }))).1 })])∧x.2.2.2=x.2.2.2) (.ret (.again (x.1.1,(x.1.2.1,(IntKind.wrap .i64 (x.1.2.2.1+(1:Int)),()))) () (some ((x.2.2.1++[(IntKind.wrap .i64 (x.1.2.2.1+(1:Int)),Go.Lib.goFieldsP blank { data:=List.toArray (Go.Lib.cut (Array.toList (ByteArray.data v0)) (Array.toList (ByteArray.data { data := #[(35:UInt8)] }))).1 })],x.2.2.2))))))
        (.up (List.length x.2.2.1+List.length [(IntKind.wrap .i64 (x.1.2.2.1+(1:Int)),Go.Lib.goFieldsP blank { data:=List.toArray (Go.Lib.cut (Array.toList (ByteArray.data v0)) (Array.toList (ByteArray.data { data := #[(35:UInt8)] }))).1 })]) (fun v1 =>
         .need (List.length x.2.2.1+List.length [(IntKind.wrap .i64 (x.1.2.2.1+(1:Int)),Go.Lib.goFieldsP blank { data:=List.toArray (Go.Lib.cut (Array.toList (ByteArray.data v0)) (Array.toList (ByteArray.data { data := #[(35:UInt8)] }))).1 })]=List.length (x.2.2.1++[(IntKind.wrap .i64 (x.1.2.2.1+(1:Int)),Go.Lib.goFieldsP blank { data:=List.toArray (Go.Lib.cut (Array.toList (ByteArray.data v0)) (Array.toList (ByteArray.data { data := #[(35:UInt8)] }))).1 })])∧v1=v1) (.ret (.again (x.1.1,(x.1.2.1,(IntKind.wrap .i64 (x.1.2.2.1+(1:Int)),()))) () (some ((x.2.2.1++[(IntKind.wrap .i64 (x.1.2.2.1+(1:Int)),Go.Lib.goFieldsP blank { data:=List.toArray (Go.Lib.cut (Array.toList (ByteArray.data v0)) (Array.toList (ByteArray.data { data := #[(35:UInt8)] }))).1 })],v1)))))))))
      (.need (List.length x.2.2.1=List.length x.2.2.1∧x.2.2.2=x.2.2.2) (.ret (.again (x.1.1,(x.1.2.1,(IntKind.wrap .i64 (x.1.2.2.1+(1:Int)),()))) () (some x.2.2))))))))
  (.need (List.length x.2.2.1=List.length x.2.2.1∧x.2.2.2=x.2.2.2) (.ret (.out (Go.Exit.exit (0:Nat)) [] () (some x.2.2))))
theorem tr_llinesL_eq (x:RSpec.X spLines×RSpec.Y spLines×(List (El (RSpec.c spLines))×Nat)):RSpec.round spLines L4 (fun _=>none) (bodyOf Tryz.f55 0) x.1 x.2.1 (some x.2.2)=tr_llinesL x:=by kernel_rfl
noncomputable def tr_llinesL0 (x:RSpec.X spLines×RSpec.Y spLines):T (RRd spLines):=
 .ite (decide (x.1.2.2.1<x.1.2.1))
  (.get x.1.1 x.1.2.2.1 (fun v0 =>
   .need (ByteArray.size v0<(4294967281:Nat)) (.need (ByteArray.size { data:=List.toArray (Go.Lib.cut (Array.toList (ByteArray.data v0)) (Array.toList (ByteArray.data { data := #[(35:UInt8)] }))).1 }≤(4294967296:Nat)) (.ite (decide ((↑(List.length (Go.Lib.goFieldsP blank { data:=List.toArray (Go.Lib.cut (Array.toList (ByteArray.data v0)) (Array.toList (ByteArray.data { data := #[(35:UInt8)] }))).1 })):Int)>(0:Int)))
      (.need (List.length [(IntKind.wrap .i64 (x.1.2.2.1+(1:Int)),Go.Lib.goFieldsP blank { data:=List.toArray (Go.Lib.cut (Array.toList (ByteArray.data v0)) (Array.toList (ByteArray.data { data := #[(35:UInt8)] }))).1 })]*(nat_lit 31+(1:Nat))≤(140737488355328:Nat)∧List.length [(IntKind.wrap .i64 (x.1.2.2.1+(1:Int)),Go.Lib.goFieldsP blank { data:=List.toArray (Go.Lib.cut (Array.toList (ByteArray.data v0)) (Array.toList (ByteArray.data { data := #[(35:UInt8)] }))).1 })]≤Go.maxLen) (.up (List.length [(IntKind.wrap .i64 (x.1.2.2.1+(1:Int)),Go.Lib.goFieldsP blank { data:=List.toArray (Go.Lib.cut (Array.toList (ByteArray.data v0)) (Array.toList (ByteArray.data { data := #[(35:UInt8)] }))).1 })]) (fun v1 =>
        .need (List.length [(IntKind.wrap .i64 (x.1.2.2.1+(1:Int)),Go.Lib.goFieldsP blank { data:=List.toArray (Go.Lib.cut (Array.toList (ByteArray.data v0)) (Array.toList (ByteArray.data { data := #[(35:UInt8)] }))).1 })]=List.length [(IntKind.wrap .i64 (x.1.2.2.1+(1:Int)),Go.Lib.goFieldsP blank { data:=List.toArray (Go.Lib.cut (Array.toList (ByteArray.data v0)) (Array.toList (ByteArray.data { data := #[(35:UInt8)] }))).1 })]∧v1=v1) (.ret (.again (x.1.1,(x.1.2.1,(IntKind.wrap .i64 (x.1.2.2.1+(1:Int)),()))) () (some (([(IntKind.wrap .i64 (x.1.2.2.1+(1:Int)),Go.Lib.goFieldsP blank { data:=List.toArray (Go.Lib.cut (Array.toList (ByteArray.data v0)) (Array.toList (ByteArray.data { data := #[(35:UInt8)] }))).1 })],v1))))))))
      (.need (True) (.ret (.again (x.1.1,(x.1.2.1,(IntKind.wrap .i64 (x.1.2.2.1+(1:Int)),()))) () none)))))))
  (.need (True) (.ret (.out (Go.Exit.exit (0:Nat)) [] () none)))
theorem tr_llinesL0_eq (x:RSpec.X spLines×RSpec.Y spLines):RSpec.round spLines L4 (fun _=>none) (bodyOf Tryz.f55 0) x.1 x.2 none=tr_llinesL0 x:=by kernel_rfl
def cutM (l:ByteArray):ByteArray:=⟨(Lib.cut l.data.toList [35]).1.toArray⟩
def wordsOf (l:ByteArray):List ByteArray:=Lib.goFieldsP blank (cutM l)
def linesFrom:List ByteArray→Int→List (Int×List ByteArray)
  | [],_=>[]
  | l::r,i=>if (wordsOf l).length>0 then (i+1,wordsOf l)::linesFrom r (i+1) else linesFrom r (i+1)
def outLines (x:RSpec.X spLines) (y:RSpec.Y spLines) (g:RSpec.G spLines):T (Exit×List Av×RSpec.Y spLines×RSpec.G spLines):=
  .need (0≤x.2.2.1∧x.2.1=(List.length x.1:Int)∧List.length x.1≤1000000 ∧ ∀ l∈(x.1:List ByteArray),l.size<4294967281∧(cutM l).size≤4294967296)
    (match g with
    | none=>.ite (decide (linesFrom ((x.1:List ByteArray).drop x.2.2.1.toNat) x.2.2.1=[])) (.ret (.exit 0,[],y,none)) (.up 0 fun k=>.ret (.exit 0,[],y,some (linesFrom ((x.1:List ByteArray).drop x.2.2.1.toNat) x.2.2.1,k)))
    | some r=>.need ((r.1.length:Int)≤x.2.2.1) (.up 0 fun k=>.ret (.exit 0,[],y,some ((r.1:List (Int×List ByteArray))++linesFrom ((x.1:List ByteArray).drop x.2.2.1.toNat) x.2.2.1,k))))
theorem llinesL_core (l : List ByteArray) (n i : Int) (y : RSpec.Y spLines) (xs : List (Int × List ByteArray)) (cap : Nat) (Q : Exit × List Av × RSpec.Y spLines × RSpec.G spLines → Prop) (h : (outLines (l, n, i, ()) y (some (xs, cap))).wp Q) : (tr_llinesL ((l, n, i, ()), y, (xs, cap))).wp fun r => match r with
      | .again x' y' g'=>(x'.2.1-x'.2.2.1).toNat<(n-i).toNat∧(outLines x' y' g').wp Q
      | .out e avs y' g'=>Q (e,avs,y',g'):=by
  unfold tr_llinesL
  unfold outLines at h ⊢
  simp only[T.wp]at h ⊢
  dsimp only [El,vts,spLines,cL]at h ⊢
  obtain ⟨⟨i0,hn,hl,hw⟩,hr,hq⟩:=h
  refine ⟨fun hlt=>?_,fun hge=>?_⟩
  · have hlt:=of_decide_eq_true hlt
    obtain ⟨u,hu⟩:=elem_at (l:=l) i0 (by omega)
    have hd:=drop_at i0 hu
    obtain ⟨w1,w2⟩:=hw u (List.mem_of_getElem? hu)
    rw[hd,linesFrom]at hq
    refine ⟨u,i0,hu,w1,w2,fun hp=>?_,fun hp=>?_⟩
    · have hp:(wordsOf u).length>0:=by have:=of_decide_eq_true hp;exact Int.ofNat_lt.1 this
      rw[if_pos hp]at hq
      rw[IntWalk.i64_in (i+1) (by omega)]
      simp only[List.length_append,List.length_cons,List.length_nil,Go.maxLen,List.append_assoc,List.singleton_append,List.cons_append,List.nil_append]at hq ⊢
      exact ⟨⟨trivial,trivial,by omega,by omega⟩,⟨⟨trivial,trivial⟩,by omega,⟨by omega,hn,hl,hw⟩,by omega,hq⟩,fun k hk=>⟨⟨trivial,trivial⟩,by omega,⟨by omega,hn,hl,hw⟩,by omega,hq⟩⟩
    · have hp:¬ (wordsOf u).length>0:=by have:=of_decide_eq_false hp;exact fun h'=>this (Int.ofNat_lt.2 h')
      rw[if_neg hp]at hq
      rw[IntWalk.i64_in (i+1) (by omega)]
      exact ⟨⟨trivial,trivial⟩,by omega,⟨by omega,hn,hl,hw⟩,by omega,hq⟩
  · have hge:=of_decide_eq_false hge
    rw[drop_end (by omega),linesFrom,List.append_nil]at hq
    exact ⟨⟨trivial,trivial⟩,hq cap (Nat.zero_le _)⟩
theorem llinesL_core0 (l : List ByteArray) (n i : Int) (y : RSpec.Y spLines) (Q : Exit × List Av × RSpec.Y spLines × RSpec.G spLines → Prop) (h : (outLines (l, n, i, ()) y none).wp Q) : (tr_llinesL0 ((l, n, i, ()), y)).wp fun r => match r with
      | .again x' y' g'=>(x'.2.1-x'.2.2.1).toNat<(n-i).toNat∧(outLines x' y' g').wp Q
      | .out e avs y' g'=>Q (e,avs,y',g'):=by
  unfold tr_llinesL0
  unfold outLines at h ⊢
  simp only[T.wp]at h ⊢
  dsimp only [El,vts,spLines,cL]at h ⊢
  obtain ⟨⟨i0,hn,hl,hw⟩,hz,hq⟩:=h
  refine ⟨fun hlt=>?_,fun hge=>?_⟩
  · have hlt:=of_decide_eq_true hlt
    obtain ⟨u,hu⟩:=elem_at (l:=l) i0 (by omega)
    have hd:=drop_at i0 hu
    obtain ⟨w1,w2⟩:=hw u (List.mem_of_getElem? hu)
    rw[hd,linesFrom]at hz hq
    refine ⟨u,i0,hu,w1,w2,fun hp=>?_,fun hp=>?_⟩
    · have hp:(wordsOf u).length>0:=by have:=of_decide_eq_true hp;exact Int.ofNat_lt.1 this
      rw[if_pos hp]at hq
      have hq:=hq (decide_eq_false (by simp))
      rw[IntWalk.i64_in (i+1) (by omega)]
      simp only[List.length_cons,List.length_nil,Go.maxLen,List.singleton_append,List.cons_append,List.nil_append]at hq ⊢
      exact ⟨⟨by omega,by omega⟩,fun k hk=>⟨⟨trivial,trivial⟩,by omega,⟨by omega,hn,hl,hw⟩,by omega,hq⟩⟩
    · have hp:¬ (wordsOf u).length>0:=by have:=of_decide_eq_false hp;exact fun h'=>this (Int.ofNat_lt.2 h')
      rw[if_neg hp]at hz hq
      rw[IntWalk.i64_in (i+1) (by omega)]
      exact ⟨trivial,by omega,⟨by omega,hn,hl,hw⟩,hz,hq⟩
  · have hge:=of_decide_eq_false hge
    rw[drop_end (by omega),linesFrom]at hz
    exact ⟨trivial,hz (decide_eq_true rfl)⟩
theorem llinesL_ok:LoopOk Tryz.prog 0 (bodyOf Tryz.f55 0) (spLines.run outLines):=
  loopR_ok (E:=L4) (L:=fun _=>none) mixedL 0 (loops_none _ _ _) spLines (Nat.zero_le _) outLines (fun x _ _=>(x.2.1-x.2.2.1).toNat) (by
    rintro ⟨l,n,i,⟨⟩⟩ y g Q h
    match g,h with
    | some (xs,cap),h =>
      rw[tr_llinesL_eq ((l,n,i,()),y,(xs,cap))]
      exact llinesL_core l n i y xs cap Q h
    | none,h =>
      rw[tr_llinesL0_eq ((l,n,i,()),y)]
      exact llinesL_core0 l n i y Q h)
noncomputable def lpLines:Loops:=manyL [(3,spLines.run outLines)]
noncomputable def L4f:Env Tryz.prog:=L4.fz [(10,[3])]
noncomputable def tr_llines (x:Els [(false,.str)]):T Av:=
 .need ((1:Nat)≤ByteArray.size { data := #[(10:UInt8)] }∧ByteArray.size (x.1)<(4294967281:Nat)) (.need (True) (.need ((0:El (Cd.int .i64))≤(0:Int)∧(↑(List.length (splitL (x.1) { data := #[(10:UInt8)] })):Int)=(↑(List.length (splitL (x.1) { data := #[(10:UInt8)] })):Int)∧List.length (splitL (x.1) { data := #[(10:UInt8)] })≤(1000000:Nat) ∧ ∀ (l:El Cd.str),l∈splitL (x.1) { data := #[(10:UInt8)] }→ByteArray.size l<(4294967281:Nat)∧ByteArray.size (cutM l)≤(4294967296:Nat)) (.ite (decide (linesFrom (List.drop (Int.toNat (0:Int)) (splitL (x.1) { data := #[(10:UInt8)] })) (0:Int)=[]))
     (.ret (.one (.v (Go.Value.slice Option.none (0:Nat) (0:Nat)))))
     (.up ((0:Nat)) (fun v0 =>
      .need (List.length (linesFrom (List.drop (Int.toNat (0:Int)) (splitL (x.1) { data := #[(10:UInt8)] })) (0:Int))≤List.length (linesFrom (List.drop (Int.toNat (0:Int)) (splitL (x.1) { data := #[(10:UInt8)] })) (0:Int))) (.ret (.one (.ds (Cd.pair (Cd.int .i64) (Cd.sl Cd.str)) (List.take (List.length (linesFrom (List.drop (Int.toNat (0:Int)) (splitL (x.1) { data := #[(10:UInt8)] })) (0:Int))) (linesFrom (List.drop (Int.toNat (0:Int)) (splitL (x.1) { data := #[(10:UInt8)] })) (0:Int)))))))))))
theorem tr_llines_eq (x:Els [(false,.str)]):fnP L4f lpLines Tryz.f55 (encs [(false,.str)] x)=tr_llines x:=by kernel_rfl
theorem val_con_wL {P:Program} {E:Env P} {L:Loops} {f:FuncId} {fn:Func} (hm:P.follows .mixedOrders=true) (hf:P.funcs[f]?=some fn) (hL : ∀ c,fn.body=some c→LoopsOk P 0 L c) (ts:List (Bool×Cd)) (pre:Els ts→Prop) (F:Els ts→Av)
    (h : ∀ x,pre x→(fnP E L fn (encs ts x)).wp (fun a => ∀ w R σ v,AvIs w R σ a v→AvIs w R σ (F x) v)):ConOk P f [] (pureRun' ts fun x=>.need (pre x) (.ret (F x))):=by
  refine con_weaken (con_ok (E:=E) (L:=L) hm hf hL ts (fun x=>fnP E L fn (encs ts x)) (fun x Q h=>h)) fun args m Q hq=>?_
  unfold pureRun' at hq ⊢
  split at hq
  · rw[T.wp_bind]at hq ⊢
    exact T.wp_mono (fun a ha=>⟨_,hq.2,ha⟩) (h _ hq.1)
  · exact hq.elim
theorem nil_av1 {w:World} {R:Nat→Prop} {σ:List Nat} {c:Cd} {v:Value} (h:AvIs w R σ (.one (.v (.slice none 0 0))) v):AvIs w R σ (.one (.ds c [])) v:=by
  rw[val_of h rfl]
  exact .one rfl (.dn .nil)
def nl:ByteArray:=⟨#[10]⟩
def linesOf (s:ByteArray):List (Int×List ByteArray):=linesFrom (splitL s nl) 0
def LinesFit (s:ByteArray):Prop:=s.size<4294967281∧(splitL s nl).length≤1000000 ∧ ∀ l∈splitL s nl,l.size<4294967281∧(cutM l).size≤4294967296
noncomputable def con_llines:Con Tryz.prog:=⟨55,[],_,cf_llines,val_con_wL (E:=L4f) (L:=lpLines) mixedL Tryz.func55 (many_loops (by kernel_rfl) (by simp) (fun i p hp=>by
    match i,hp with
    | 0,hp=>cases hp;exact llinesL_ok
    | i+1,hp=>simp at hp)) [(false,.str)] (fun x=>LinesFit x.1) (fun x=>.one (.ds cL (linesOf x.1))) fun x hx=>by
  rw[tr_llines_eq]
  obtain ⟨s,u⟩:=x
  revert s
  intro (s:ByteArray) (hx:LinesFit s)
  obtain ⟨h1,h2,h3⟩:=hx
  unfold tr_llines
  simp only[T.wp]
  refine ⟨⟨by decide,h1⟩,trivial,⟨Int.le_refl 0,trivial,h2,h3⟩,fun he=>?_,fun he k hk=>⟨Nat.le_refl _,?_⟩⟩
  · have he:linesOf s=[]:=of_decide_eq_true he
    rw[he]
    exact fun w R σ v hv=>nil_av1 hv
  · rw[List.take_length]
    exact fun w R σ v hv=>hv⟩
noncomputable def L5:Env Tryz.prog:=⟨con_llines::L4.con,L4.zero,L4.cod,L4.sure,L4.base,L4.frz⟩
def dgAll (l:List UInt8):Bool:=l.all fun c=>decide (48≤c.toNat)&&decide (c.toNat≤57)
def dgVal:Int→List UInt8→Int
  | n,[]=>n
  | n,c::r=>dgVal (n*10+((c.toNat:Int)-48)) r
theorem dgVal_app (a b:List UInt8) : ∀ n,dgVal n (a++b)=dgVal (dgVal n a) b:=by
  induction a with
  | nil=>intro n;rfl
  | cons c r ih=>intro n;exact ih _
theorem dgAll_app (a b:List UInt8):dgAll (a++b)=(dgAll a&&dgAll b):=List.all_append
theorem dgAll_cons (c:UInt8) (r:List UInt8):dgAll (c::r)=(decide (48≤c.toNat)&&decide (c.toNat≤57)&&dgAll r):=rfl
theorem dg_one {u:Nat} (h:u<10):(UInt8.ofNat (48+u)).toNat=48+u:=by
  rw[UInt8.toNat_ofNat'];omega
theorem dgAll_one {u:Nat} (h:u<10):dgAll [UInt8.ofNat (48+u)]=true:=by
  rw[dgAll_cons,dg_one h,decide_eq_true (by omega),decide_eq_true (by omega)];rfl
theorem dgVal_one {u:Nat} (h:u<10) (n:Int):dgVal n [UInt8.ofNat (48+u)]=n*10+u:=by
  rw[dgVal,dgVal,dg_one h];omega
theorem dec_small {n:Nat} (h:n<10):Lib.decDigits n=[UInt8.ofNat (48+n)]:=by rw[Lib.decDigits,dif_pos h]
theorem dec_big {n:Nat} (h:¬ n<10):Lib.decDigits n=Lib.decDigits (n/10)++[UInt8.ofNat (48+n%10)]:=by rw[Lib.decDigits,dif_neg h]
theorem dec_all (n:Nat):dgAll (Lib.decDigits n)=true:=by
  induction n using Nat.strongRecOn with
  | _ n ih =>
    by_cases h:n<10
    · rw[dec_small h];exact dgAll_one h
    · rw[dec_big h,dgAll_app,ih (n/10) (by omega),dgAll_one (by omega)];rfl
theorem dec_val (n:Nat):dgVal 0 (Lib.decDigits n)=n:=by
  induction n using Nat.strongRecOn with
  | _ n ih =>
    by_cases h:n<10
    · rw[dec_small h,dgVal_one h];omega
    · rw[dec_big h,dgVal_app,ih (n/10) (by omega),dgVal_one (by omega)];omega
theorem dec_head (n:Nat) : ∃ c r,Lib.decDigits n=c::r∧48≤c.toNat∧c.toNat≤57∧(c=48→n=0∧r=[]):=by
  induction n using Nat.strongRecOn with
  | _ n ih =>
    by_cases h:n<10
    · rw[dec_small h]
      refine ⟨_,[],rfl,by rw[dg_one h];omega,by rw[dg_one h];omega,fun e=>⟨?_,rfl⟩⟩
      have:=dg_one h
      rw[e]at this
      have e48:(48:UInt8).toNat=48:=rfl
      omega
    · obtain ⟨c,r,e,h1,h2,h3⟩:=ih (n/10) (by omega)
      rw[dec_big h,e]
      refine ⟨c,r++_,rfl,h1,h2,fun e=>?_⟩
      have:=(h3 e).1
      omega
theorem digit_of {c:UInt8} {r:List UInt8} (h:dgAll (c::r)=true):48≤c.toNat∧c.toNat≤57∧dgAll r=true:=by
  rw[dgAll_cons,Bool.and_eq_true,Bool.and_eq_true,decide_eq_true_eq,decide_eq_true_eq]at h
  exact ⟨h.1.1,h.1.2,h.2⟩
theorem parse_dg : ∀ (t:List UInt8) (acc:Nat),dgAll t=true→(acc+1)*10^t.length≤1000000000000000000 → ∃ u:Nat,Lib.parseUint10 acc t=.ok u∧(u:Int)=dgVal acc t∧u<(acc+1)*10^t.length
  | [],acc,_,h=>⟨acc,rfl,rfl,by simp⟩
  | c::r,acc,hd,h=>by
    obtain ⟨h1,h2,h3⟩:=digit_of hd
    rw[List.length_cons,Nat.pow_succ]at h
    have e:(acc+1)*(10^r.length*10)=(acc+1)*10*10^r.length:=by rw[Nat.mul_comm (10^r.length) 10,Nat.mul_assoc]
    rw[e]at h
    have hle:(acc*10+(c.toNat-48)+1)*10^r.length≤(acc+1)*10*10^r.length:=Nat.mul_le_mul_right _ (by omega)
    have hp:1≤10^r.length:=Nat.one_le_pow _ _ (by decide)
    have hb:(acc+1)*10≤(acc+1)*10*10^r.length:=Nat.le_mul_of_pos_right _ hp
    obtain ⟨u,g1,g2,g3⟩:=parse_dg r (acc*10+(c.toNat-48)) h3 (by omega)
    refine ⟨u,?_,?_,?_⟩
    · rw[Lib.parseUint10,if_pos ⟨h1,h2⟩,if_neg (by omega),if_neg (by omega)];exact g1
    · rw[g2,dgVal];congr 1;omega
    · rw[List.length_cons,Nat.pow_succ,e];omega
theorem byte_of {c:UInt8} {k:Nat} (h:c.toNat=k):c=UInt8.ofNat k:=by
  subst h;exact (UInt8.ofNat_toNat).symm
theorem dec_of : ∀ (k:Nat) (t:List UInt8),t.length=k→dgAll t=true→t≠[]→(t.head?=some 48→t.length=1) → ∃ u:Nat,(u:Int)=dgVal 0 t∧Lib.decDigits u=t∧(t.head?≠some 48→0<u)
  | k,t,hk,hd,h0,hz=>by
    rcases List.eq_nil_or_concat t with e|⟨t',c,e⟩
    · exact absurd e h0
    · rw[List.concat_eq_append]at e
      subst e
      rw[dgAll_app,Bool.and_eq_true]at hd
      obtain ⟨h1,h2,_⟩:=digit_of hd.2
      have ec:UInt8.ofNat (48+(c.toNat-48))=c:=(byte_of (by omega)).symm
      by_cases ht:t'=[]
      · subst ht
        refine ⟨c.toNat-48,?_,?_,fun hne=>?_⟩
        · rw[List.nil_append,dgVal,dgVal];omega
        · rw[dec_small (by omega),ec];rfl
        · have hc:c≠48:=fun e=>hne (by rw[e];rfl)
          have:c.toNat≠48:=fun e=>hc (byte_of e)
          omega
      · obtain ⟨a,r,rfl⟩ : ∃ a r,t'=a::r:=by
          cases t' with
          | nil=>exact absurd rfl ht
          | cons a r=>exact ⟨a,r,rfl⟩
        have hne:((a::r)++[c]).head?≠some 48:=fun e=>by have:=hz e;simp at this
        have hne':(a::r).head?≠some 48:=hne
        simp only[List.length_append,List.length_cons,List.length_nil]at hk
        obtain ⟨u,g1,g2,g3⟩:=dec_of (k-1) (a::r) (by simp only[List.length_cons];omega) hd.1 ht (fun e=>absurd e hne')
        have:=g3 hne'
        refine ⟨u*10+(c.toNat-48),?_,?_,fun _=>by omega⟩
        · rw[dgVal_app,←g1,dgVal,dgVal];omega
        · rw[dec_big (by omega),show (u*10+(c.toNat-48))/10=u by omega,show (u*10+(c.toNat-48))%10=c.toNat-48 by omega,g2,ec]
termination_by k=>k
decreasing_by
  simp only[List.length_append,List.length_cons,List.length_nil]at hk
  omega
def unm:List UInt8→List UInt8
  | []=>[]
  | c::r=>if c=45 then r else c::r
def numB (l:List UInt8):Bool:=decide (1≤(unm l).length)&&decide ((unm l).length≤9) && !(decide ((unm l).head?=some 48)&&decide (1<l.length))&&dgAll (unm l)
def numV (l:List UInt8):Int:=if (unm l).length<l.length then-dgVal 0 (unm l) else dgVal 0 (unm l)
theorem trimM_size (s:ByteArray):(trimM s).size=(unm s.data.toList).length:=by
  obtain ⟨⟨l⟩⟩:=s
  show (Lib.trimPrefix l [45]).length=(unm l).length
  cases l with
  | nil=>rfl
  | cons c r =>
    by_cases h:c=45
    · subst h
      have hu:unm (45::r)=r:=rfl
      unfold Lib.trimPrefix Lib.hasPrefix
      rw[hu];simp
    · have hu:unm (c::r)=c::r:=by rw[unm,if_neg h]
      have:([45].isPrefixOf (c::r))=false:=by
        show ((45==c)&&_)=false
        rw[beq_false_of_ne (Ne.symm h)];rfl
      unfold Lib.trimPrefix Lib.hasPrefix
      rw[this,hu];rfl
theorem itoa_num {v:Int} (h:(unm (Lib.itoa v)).length≤9):numB (Lib.itoa v)=true∧numV (Lib.itoa v)=v:=by
  unfold Lib.itoa at h ⊢
  by_cases hv:v<0
  · rw[if_pos hv]at h ⊢
    obtain ⟨c,r,e,h1,h2,h3⟩:=dec_head v.natAbs
    have hu:unm (45::Lib.decDigits v.natAbs)=Lib.decDigits v.natAbs:=rfl
    unfold numB numV
    rw[hu]at h ⊢
    refine ⟨?_,?_⟩
    · rw[dec_all,decide_eq_true h,e]
      have hc:c≠48:=fun e=>by have:=(h3 e).1;omega
      simp[hc]
    · rw[if_pos (by simp),dec_val];omega
  · rw[if_neg hv]at h ⊢
    obtain ⟨c,r,e,h1,h2,h3⟩:=dec_head v.toNat
    have hc:c≠45:=fun e=>by subst e;exact absurd h1 (by decide)
    have hu:unm (Lib.decDigits v.toNat)=Lib.decDigits v.toNat:=by rw[e,unm,if_neg hc]
    unfold numB numV
    rw[hu]at h ⊢
    refine ⟨?_,?_⟩
    · rw[dec_all,decide_eq_true h,e]
      by_cases h48:c=48
      · rw[(h3 h48).2];simp
      · simp[h48]
    · rw[if_neg (Nat.lt_irrefl _),dec_val];omega
theorem num_bnd {k:Nat} (h:k≤9):10^k≤1000000000:=by
  have:10^k≤10^9:=Nat.pow_le_pow_right (by decide) h
  exact this
theorem num_itoa {l:List UInt8} (h:numB l=true):Lib.atoiAll l=.ok (numV l)∧Lib.itoa (numV l)=l:=by
  unfold numB at h
  simp only[Bool.and_eq_true,decide_eq_true_eq,Bool.not_eq_true',Bool.and_eq_false_iff,decide_eq_false_iff_not]at h
  obtain ⟨⟨⟨h1,h2⟩,h3⟩,h4⟩:=h
  have hne:unm l≠[]:=fun e=>by rw[e]at h1;simp at h1
  have hp:=num_bnd h2
  obtain ⟨u,p1,p2,p3⟩:=parse_dg (unm l) 0 h4 (by omega)
  have hm:Lib.parseMag (unm l)=.ok u:=by unfold Lib.parseMag;rw[if_neg hne];exact p1
  cases l with
  | nil=>exact absurd rfl hne
  | cons c r =>
    by_cases hc:c=45
    · subst hc
      have hu:unm (45::r)=r:=rfl
      rw[hu]at hne h1 h2 h3 h4 hm p2 p3 hp
      have hl:1<(45::r:List UInt8).length:=by rw[List.length_cons];omega
      have h48:r.head?≠some 48:=fun e=>by rcases h3 with h|h;exact h e;exact h hl
      obtain ⟨u',q1,q2,q3⟩:=dec_of _ r rfl h4 hne (fun e=>absurd e h48)
      have e : u' = u := by have : (u' : Int) = u := by rw [q1, p2]; rfl
                            omega
      subst e
      have hpos:=q3 h48
      have hv:numV (45::r) = -(u':Int):=by unfold numV;rw[hu,if_pos (by simp),←q1]
      rw[hv]
      constructor
      · rw[Lib.atoiAll_minus,hm]
        unfold Lib.signed
        simp only[]
        rw[if_neg (by omega)]
      · unfold Lib.itoa
        rw[if_pos (by omega),Int.natAbs_neg,Int.natAbs_natCast,q2]
    · have hu:unm (c::r)=c::r:=by rw[unm,if_neg hc]
      rw[hu]at hne h1 h2 h3 h4 hm p2 p3 hp
      obtain ⟨d1,d2,_⟩:=digit_of h4
      obtain ⟨u',q1,q2,q3⟩:=dec_of _ (c::r) rfl h4 hne (fun e=>by rcases h3 with h|h;exact absurd e h;simp only[List.length_cons]at h ⊢;omega)
      have e : u' = u := by have : (u' : Int) = u := by rw [q1, p2]; rfl
                            omega
      subst e
      have hv:numV (c::r)=(u':Int):=by unfold numV;rw[hu,if_neg (Nat.lt_irrefl _),←q1]
      rw[hv]
      constructor
      · rw[Lib.atoiAll_plain c r (by omega) (by omega),hm]
        unfold Lib.signless
        simp only[]
        rw[if_neg (by omega)]
      · unfold Lib.itoa
        rw[if_neg (by omega),Int.toNat_natCast,q2]
theorem lint_num (s:ByteArray):lintB s=numB s.data.toList∧(lintB s=true→atoiV s=numV s.data.toList):=by
  have key:lintB s=true→numB s.data.toList=true∧atoiV s=numV s.data.toList:=fun h=>by
    unfold lintB at h
    simp only[Bool.and_eq_true,decide_eq_true_eq,beq_iff_eq]at h
    obtain ⟨⟨h1,h2⟩,h3⟩:=h
    rw[Lib.toList_data,Lib.toList_data]at h2
    have h2:Lib.itoa (atoiV s)=s.data.toList:=by rw[←h2];rfl
    rw[trimM_size,←h2]at h3
    have:=itoa_num h3
    rw[h2]at this
    exact ⟨this.1,this.2.symm⟩
  refine ⟨?_,fun h=>(key h).2⟩
  rw[Bool.eq_iff_iff]
  refine ⟨fun h=>(key h).1,fun h=>?_⟩
  obtain ⟨g1,g2⟩:=num_itoa h
  have hV:atoiV s=numV s.data.toList:=by unfold atoiV;rw[g1]
  have hB:atoiB s=true:=by unfold atoiB;rw[g1]
  have h9:(trimM s).size≤9:=by
    rw[trimM_size]
    unfold numB at h
    simp only[Bool.and_eq_true,decide_eq_true_eq]at h
    exact h.1.1.2
  unfold lintB
  rw[hB,decide_eq_true h9,Lib.toList_data,Lib.toList_data,hV,show (itoaS (numV s.data.toList)).data.toList=s.data.toList from g2]
  simp
def spl:List UInt8→List (List UInt8)
  | []=>[[]]
  | c::r=>if c=10 then []::spl r else match spl r with
    | h::t=>(c::h)::t
    | []=>[[c]]
theorem index_cons_ne {b c:UInt8} {l:List UInt8} (h:b≠c):Lib.index (b::l) [c]=if Lib.index l [c] == -1 then -1 else Lib.index l [c]+1:=by
  conv=>lhs;unfold Lib.index
  have e:([c].isPrefixOf (b::l))=false:=by
    show ((c==b)&&_)=false
    rw[beq_false_of_ne (Ne.symm h)];rfl
  rw[e];rfl
theorem index_cons_eq (c:UInt8) (l:List UInt8):Lib.index (c::l) [c]=0:=by
  unfold Lib.index
  have e:([c].isPrefixOf (c::l))=true:=by simp
  rw[e];rfl
theorem index_cases (s sub:List UInt8):Lib.index s sub = -1 ∨ ∃ i:Nat,Lib.index s sub=i:=by
  rcases Lib.index_spec s sub with h|⟨i,h,_⟩
  · exact .inl h.1
  · exact .inr ⟨i,h⟩
theorem splitK_spl : ∀ s:List UInt8,Lib.splitK [10] 0 (Lib.count s [10]) s=spl s
  | []=>rfl
  | c::r=>by
    have ih:=splitK_spl r
    by_cases hc:c=10
    · subst hc
      rw[Lib.count_cons_eq,Nat.add_comm,Lib.splitK,index_cons_eq,spl,if_pos rfl,←ih]
      rfl
    · rw[Lib.count_cons_ne c 10 r hc,spl,if_neg hc,←ih]
      rcases index_cases r [10] with h|⟨i,h⟩
      · rw[Lib.count_miss h];rfl
      · have hcount:=Lib.count_hit (s:=r) (sub:=[10]) (i:=i) (by simp) h
        rw[hcount,Nat.add_comm,Lib.splitK,Lib.splitK,index_cons_ne hc,h]
        have e1:((i:Int) == -1)=false:=by rw[beq_eq_false_iff_ne];omega
        have e2:((i:Int)+1 == -1)=false:=by rw[beq_eq_false_iff_ne];omega
        have e3:((i:Int)+1).toNat=i+1:=by omega
        simp only[e1,e2,e3,Bool.false_eq_true,if_false,Int.toNat_natCast,Nat.add_zero,List.take_succ_cons,List.length_cons,List.length_nil,List.drop_succ_cons]
theorem splitL_spl (s:ByteArray):(splitL s nl).map (·.data.toList)=spl s.data.toList:=by
  unfold splitL
  rw[Lib.splitB_data]
  exact splitK_spl _
theorem cut_while (c:UInt8) : ∀ l:List UInt8,(Lib.cut l [c]).1=l.takeWhile (· != c)
  | []=>rfl
  | b::r=>by
    have ih:=cut_while c r
    by_cases hb:b=c
    · subst hb
      unfold Lib.cut
      rw[index_cons_eq,if_pos (Int.le_refl 0)]
      simp
    · have hbe:(b != c)=true:=by simp[hb]
      rw[List.takeWhile_cons,hbe,if_pos rfl,←ih]
      unfold Lib.cut
      rw[index_cons_ne hb]
      rcases index_cases r [c] with h|⟨i,h⟩
      · rw[h];rfl
      · rw[h]
        have e1:((i:Int) == -1)=false:=by rw[beq_eq_false_iff_ne];omega
        have e3:((i:Int)+1).toNat=i+1:=by omega
        simp only[e1,Bool.false_eq_true,if_false]
        rw[if_pos (by omega),if_pos (by omega),e3]
        simp
def bl (c:UInt8):Bool:=blank c.toNat
def fgo:List UInt8→List UInt8→List (List UInt8)
  | cur,[]=>if cur=[] then [] else [cur]
  | cur,c::r=>if bl c=true then (if cur=[] then fgo [] r else cur::fgo [] r) else fgo (cur++[c]) r
theorem fgo_run : ∀ (l cur r:List UInt8),(∀ c∈l,bl c=false)→fgo cur (l++r)=fgo (cur++l) r
  | [],cur,r,_=>by simp
  | c::l,cur,r,h=>by
    rw[List.cons_append,fgo,if_neg (by rw[h c (by simp)];exact Bool.false_ne_true),fgo_run l (cur++[c]) r (fun d hd=>h d (by simp[hd]))]
    simp
theorem blank_small {x:Nat} (h:blank x=true):x<128:=by
  unfold blank at h
  have h:=of_decide_eq_true h
  simp only[List.mem_cons,List.not_mem_nil,or_false]at h
  omega
theorem get_list (s:ByteArray) (i:Nat) (h:i<s.size):s.data.toList[i]?=some (s.get! i):=by
  obtain ⟨⟨l⟩⟩:=s
  have h:i<l.length:=h
  show l[i]?=some (l.toArray[i]!)
  rw[getElem!_pos l.toArray i (by simpa using h)]
  simp[h]
theorem drop_take_get (s:ByteArray) (pos k:Nat) (h:pos+k≤s.size) : ∀ c∈(s.data.toList.drop pos).take k,∃ j,j<k∧c=s.get! (pos+j):=by
  intro c hc
  obtain ⟨j,hj⟩:=List.mem_iff_getElem?.1 hc
  rw[List.getElem?_take]at hj
  split at hj
  · rename_i hjk
    rw[List.getElem?_drop,get_list s (pos+j) (by omega)]at hj
    cases hj
    exact ⟨j,hjk,rfl⟩
  · cases hj
theorem decode_big (s:ByteArray) (pos:Nat) (hp:pos<s.size):((s.get! pos).toNat<128∧Utf8.decode s pos=((s.get! pos).toNat,1)) ∨
    (128≤(s.get! pos).toNat∧128≤(Utf8.decode s pos).1∧1≤(Utf8.decode s pos).2∧pos+(Utf8.decode s pos).2≤s.size ∧ ∀ j,j<(Utf8.decode s pos).2→128≤(s.get! (pos+j)).toNat):=by
  by_cases h:(s.get! pos).toNat<128
  · left
    refine ⟨h,?_⟩
    unfold Utf8.decode
    simp only[Nat.add_zero]
    rw[if_pos h]
  · right
    refine ⟨by omega,?_⟩
    have one : ∀ j,j<1→128≤(s.get! (pos+j)).toNat:=fun j hj=>by
      obtain rfl:j=0:=by omega
      exact Nat.not_lt.1 h
    unfold Utf8.decode
    simp only[Nat.add_zero]
    rw[if_neg h]
    have bad:128≤Utf8.runeError∧1≤1∧pos+1≤s.size ∧ ∀ j,j<1→128≤(s.get! (pos+j)).toNat:=⟨by decide,Nat.le_refl _,hp,one⟩
    split
    · rename_i h2
      split
      · rename_i h3
        simp only[Bool.and_eq_true,decide_eq_true_eq,beq_iff_eq]at h2
        refine ⟨h3,(by show 1≤2;decide),by simp only[];omega,fun j hj=>?_⟩
        simp only[]at hj
        match j,hj with
        | 0,_=>exact one 0 (by omega)
        | 1,_=>omega
      · exact bad
    · split
      · rename_i h2
        split
        · rename_i h3
          simp only[Bool.and_eq_true,decide_eq_true_eq,beq_iff_eq]at h2 h3
          refine ⟨by simp only[];omega,Nat.le_add_left 1 _,by simp only[];omega,fun j hj=>?_⟩
          simp only[]at hj
          match j,hj with
          | 0,_=>exact one 0 (by omega)
          | 1,_=>omega
          | 2,_=>omega
        · exact bad
      · split
        · rename_i h2
          split
          · rename_i h3
            simp only[Bool.and_eq_true,decide_eq_true_eq,beq_iff_eq]at h2 h3
            refine ⟨by simp only[];omega,Nat.le_add_left 1 _,by simp only[];omega,fun j hj=>?_⟩
            simp only[]at hj
            match j,hj with
            | 0,_=>exact one 0 (by omega)
            | 1,_=>omega
            | 2,_=>omega
            | 3,_=>omega
          · exact bad
        · exact bad
def openP (l:List UInt8) (st:Option Nat) (pos:Nat):List UInt8:=match st with|some a=>Lib.pieceU l a pos|none=>[]
theorem spans_fgo (s:ByteArray) : ∀ (f pos:Nat) (st:Option Nat) (acc:List (Nat×Nat)),s.size≤pos+f→pos≤s.size→(∀ a,st=some a→a<pos) →
    acc.map (fun p=>Lib.pieceU s.data.toList p.1 p.2)++fgo (openP s.data.toList st pos) (s.data.toList.drop pos)=(Lib.closeSpans s (Lib.spansFromP blank s f pos st acc)).map (fun p=>Lib.pieceU s.data.toList p.1 p.2):=by
  have fin : ∀ (f:Nat) (st:Option Nat) (acc:List (Nat×Nat)),(∀ a,st=some a→a<s.size) →
      acc.map (fun p=>Lib.pieceU s.data.toList p.1 p.2)++fgo (openP s.data.toList st s.size) (s.data.toList.drop s.size)=(Lib.closeSpans s (Lib.spansFromP blank s f s.size st acc)).map (fun p=>Lib.pieceU s.data.toList p.1 p.2):=fun f st acc hst=>by
    have hd:s.data.toList.drop s.size=[]:=List.drop_eq_nil_of_le (by rw[←Lib.size_eq];exact Nat.le_refl _)
    rw[hd,Lib.spansFromP_end blank s _ _ _ _ (Nat.lt_irrefl _)]
    cases st with
    | none=>simp[Lib.closeSpans,openP,fgo]
    | some a =>
      have:=Lib.pieceU_ne s.data.toList a s.size (hst a rfl) (by rw[←Lib.size_eq];exact Nat.le_refl _)
      simp[Lib.closeSpans,openP,fgo,this]
  intro f
  induction f with
  | zero =>
    intro pos st acc h hp hst
    obtain rfl:pos=s.size:=by omega
    exact fin 0 st acc hst
  | succ f ih =>
    intro pos st acc h hp hst
    by_cases hlt:pos<s.size
    · unfold Lib.spansFromP
      rw[if_pos hlt]
      have hd:s.data.toList.drop pos=s.get! pos::s.data.toList.drop (pos+1):=by
        have:=get_list s pos hlt
        rw[List.drop_eq_getElem?_toList_append,this];rfl
      rcases decode_big s pos hlt with ⟨hb,e⟩|⟨hb,hr,hw,hwn,hall⟩
      · rw[e]
        simp only[]
        cases hsp:blank (s.get! pos).toNat with
        | true =>
          rw[if_pos rfl,hd,fgo,if_pos (show bl (s.get! pos)=true from hsp)]
          cases st with
          | none =>
            have ih:=ih (pos+1) none acc (by omega) hlt (fun a h=>by cases h)
            simpa [openP] using ih
          | some a =>
            have hpn:=Lib.pieceU_ne s.data.toList a pos (hst a rfl) (by rw[←Lib.size_eq];omega)
            have ih:=ih (pos+1) none (acc++[(a,pos)]) (by omega) hlt (fun a h=>by cases h)
            simpa [openP,hpn] using ih
        | false =>
          have hbl:¬ bl (s.get! pos)=true:=by unfold bl;rw[hsp];exact Bool.false_ne_true
          rw[if_neg Bool.false_ne_true,hd,fgo,if_neg hbl]
          have e1:(s.data.toList.drop pos).take 1=[s.get! pos]:=by rw[hd];rfl
          cases st with
          | none =>
            have ih:=ih (pos+1) (some pos) acc (by omega) hlt (fun a h=>by cases h;omega)
            have e:([]:List UInt8)++[s.get! pos]=Lib.pieceU s.data.toList pos (pos+1):=by
              unfold Lib.pieceU
              rw[List.nil_append,Nat.add_sub_cancel_left,e1]
            simp only[openP]at ih ⊢
            rw[e]
            exact ih
          | some a =>
            have ih:=ih (pos+1) (some a) acc (by omega) hlt (fun b h=>by cases h;have:=hst a rfl;omega)
            simp only[openP]at ih ⊢
            rw[←e1,Lib.pieceU_grow _ _ _ _ (Nat.le_of_lt (hst a rfl))]
            exact ih
      · generalize Utf8.decode s pos=d at *
        obtain ⟨ru,k⟩:=d
        simp only[]at hr hw hwn hall ⊢
        have hnb:blank ru=false:=by
          rw[Bool.eq_false_iff];intro h;have:=blank_small h;omega
        rw[hnb,if_neg Bool.false_ne_true]
        have hsplit:s.data.toList.drop pos=(s.data.toList.drop pos).take k++s.data.toList.drop (pos+k):=by
          rw[←List.drop_drop,List.take_append_drop]
        have hcl : ∀ c∈(s.data.toList.drop pos).take k,bl c=false:=fun c hc=>by
          obtain ⟨j,hj,rfl⟩:=drop_take_get s pos k hwn c hc
          have:=hall j hj
          rw[Bool.eq_false_iff];intro h;have:=blank_small h;omega
        rw[hsplit,fgo_run _ _ _ hcl]
        cases st with
        | none =>
          have ih:=ih (pos+k) (some pos) acc (by omega) hwn (fun a h=>by cases h;omega)
          have e:([]:List UInt8)++(s.data.toList.drop pos).take k=Lib.pieceU s.data.toList pos (pos+k):=by
            unfold Lib.pieceU
            rw[List.nil_append,Nat.add_sub_cancel_left]
          simp only[openP]at ih ⊢
          rw[e]
          exact ih
        | some a =>
          have ih:=ih (pos+k) (some a) acc (by omega) hwn (fun b h=>by cases h;have:=hst a rfl;omega)
          simp only[openP]at ih ⊢
          rw[Lib.pieceU_grow _ _ _ _ (Nat.le_of_lt (hst a rfl))]
          exact ih
    · obtain rfl:pos=s.size:=by omega
      exact fin _ st acc hst
def mkB (l:List UInt8):ByteArray:=⟨l.toArray⟩
theorem mkB_data (s:ByteArray):mkB s.data.toList=s:=Lib.mk_data s
theorem fields_fgo (s:ByteArray):Lib.goFieldsP blank s=(fgo [] s.data.toList).map mkB:=by
  have h:=spans_fgo s s.size 0 none [] (by omega) (Nat.zero_le _) (fun a h=>by cases h)
  simp only[List.map_nil,List.nil_append,openP,List.drop_zero]at h
  rw[h]
  unfold Lib.goFieldsP Lib.spansOfP
  rw[List.map_map]
  refine List.map_congr_left fun p _=>?_
  show s.extract p.1 p.2=mkB (Lib.pieceU s.data.toList p.1 p.2)
  rw[Lib.extract_eq];rfl
def wordsB (l:List UInt8):List ByteArray:=(fgo [] (l.takeWhile (· != 35))).map mkB
theorem wordsOf_eq (u:ByteArray):wordsOf u=wordsB u.data.toList:=by
  unfold wordsOf wordsB cutM
  rw[fields_fgo]
  congr 2
  exact cut_while 35 _
def one1 (w:List UInt8) (n:Int):List (Int×List ByteArray):=if (wordsB w).length>0 then [(n+1,wordsB w)] else []
def lf:List UInt8→List UInt8→Int→List (Int×List ByteArray)
  | cur,[],n=>one1 cur n
  | cur,c::r,n=>if c=10 then one1 cur n++lf [] r (n+1) else lf (cur++[c]) r n
def lfrom:List (List UInt8)→Int→List (Int×List ByteArray)
  | [],_=>[]
  | l::r,i=>one1 l i++lfrom r (i+1)
theorem linesFrom_eq : ∀ (L:List ByteArray) (i:Int),linesFrom L i=lfrom (L.map (·.data.toList)) i
  | [],_=>rfl
  | l::r,i=>by
    rw[linesFrom,List.map_cons,lfrom,one1,←wordsOf_eq,linesFrom_eq r (i+1)]
    split <;> rfl
theorem spl_ne (l:List UInt8) : ∃ h t,spl l=h::t:=by
  cases l with
  | nil=>exact ⟨_,_,rfl⟩
  | cons c r =>
    unfold spl
    split
    · exact ⟨_,_,rfl⟩
    · split <;> exact ⟨_,_,rfl⟩
theorem lf_spl : ∀ (l cur:List UInt8) (n:Int),lf cur l n=match spl l with|h::t=>one1 (cur++h) n++lfrom t (n+1)|[]=>[]
  | [],cur,n=>by simp[lf,spl,lfrom]
  | c::r,cur,n=>by
    rw[lf,spl]
    by_cases hc:c=10
    · rw[if_pos hc,if_pos hc,lf_spl r [] (n+1)]
      obtain ⟨h,t,e⟩:=spl_ne r
      rw[e]
      simp[lfrom]
    · rw[if_neg hc,if_neg hc,lf_spl r (cur++[c]) n]
      obtain ⟨h,t,e⟩:=spl_ne r
      rw[e]
      simp
theorem linesOf_lf (s:ByteArray):linesOf s=lf [] s.data.toList 0:=by
  unfold linesOf
  rw[linesFrom_eq,splitL_spl,lf_spl]
  obtain ⟨h,t,e⟩:=spl_ne s.data.toList
  rw[e];rfl
theorem spl_length (l:List UInt8):(spl l).length≤l.length+1:=by
  induction l with
  | nil=>exact Nat.le_refl _
  | cons c r ih =>
    unfold spl
    split
    · simpa using ih
    · obtain ⟨h,t,e⟩:=spl_ne r
      rw[e]at ih ⊢
      simp only[List.length_cons]at ih ⊢;omega
theorem spl_mem : ∀ (l:List UInt8) (x:List UInt8),x∈spl l→x.length≤l.length
  | [],x,h=>by simp[spl]at h;subst h;exact Nat.le_refl _
  | c::r,x,h=>by
    unfold spl at h
    split at h
    · rcases List.mem_cons.1 h with rfl|h
      · exact Nat.zero_le _
      · have:=spl_mem r x h;simp only[List.length_cons];omega
    · obtain ⟨a,t,e⟩:=spl_ne r
      rw[e]at h
      rcases List.mem_cons.1 h with rfl|h
      · have:=spl_mem r a (by rw[e];simp);simp only[List.length_cons];omega
      · have:=spl_mem r x (by rw[e];simp[h]);simp only[List.length_cons];omega
theorem fit_of (s:ByteArray) (h:s.size≤900000):LinesFit s:=by
  have hl:(splitL s nl).length=(spl s.data.toList).length:=by rw[←splitL_spl,List.length_map]
  have hs:=spl_length s.data.toList
  rw[←Lib.size_eq]at hs
  have hm : ∀ l∈splitL s nl,l.size≤s.size:=fun l hl=>by
    have:l.data.toList∈spl s.data.toList:=by rw[←splitL_spl];exact List.mem_map.2 ⟨l,hl,rfl⟩
    have:=spl_mem _ _ this
    rw[←Lib.size_eq,←Lib.size_eq]at this
    exact this
  refine ⟨by omega,by omega,fun l hl=>⟨by have:=hm l hl;omega,?_⟩⟩
  have e:(cutM l).size≤l.size:=by
    show (Lib.cut l.data.toList [35]).1.length≤_
    rw[cut_while,Lib.size_eq]
    exact (List.takeWhile_prefix _).length_le
  have:=hm l hl
  omega
theorem cf_rnum (xs:Array Value) (w:World):(callFunc 30 xs).run Tryz.prog w=.ok (.enter 30 xs) w:=by kernel_rfl
theorem cf_rdig (xs:Array Value) (w:World):(callFunc 60 xs).run Tryz.prog w=.ok (.enter 60 xs) w:=by kernel_rfl
noncomputable def codS:Cod Tryz.prog:=⟨9,.str,by kernel_rfl,⟨.string ⟨#[]⟩,fun w=>by kernel_rfl⟩⟩
noncomputable def zeroSL:Zero Tryz.prog:=⟨9,ck .str ⟨#[]⟩,[.string ⟨#[]⟩],by kernel_rfl,fun w R σ=>.v rfl .nil⟩
noncomputable def codUL:Cod Tryz.prog:=⟨5,.int .u8,by kernel_rfl,⟨.int .u8 0,fun w=>by kernel_rfl⟩⟩
noncomputable def zeroUL:Zero Tryz.prog:=⟨5,ck (.int .u8) (0:Int),[.int .u8 0],by kernel_rfl,fun w R σ=>.v rfl .nil⟩
noncomputable def L6:Env Tryz.prog:=⟨L5.con,zeroSL::zeroUL::L5.zero,codS::codUL::L5.cod,L5.sure,L5.base,L5.frz⟩
end Go.Proofs.YtbkfakkkikmcbaaGreatDoor
namespace Ax
open Go Go.RowKit
abbrev Gr (α:Type):Type:=Option (List α×Nat)
def gx {α:Type}:Gr α→List α
  | none=>[]
  | some r=>r.1
def gl {α:Type}:Gr α→Nat
  | none=>0
  | some r=>r.1.length
theorem gl_eq {α:Type} (g:Gr α):gl g=(gx g).length:=by cases g <;> rfl
def gnd {α:Type} (n:Nat):Gr α→Prop
  | none=>True
  | some r=>n=r.1.length∧r.2=r.2
theorem gnd_gl {α:Type} (g:Gr α):gnd (gl g) g:=by
  cases g with
  | none=>trivial
  | some r=>exact ⟨rfl,rfl⟩
theorem gnd_app {α:Type} (g:Gr α) (v:α) (k:Nat):gnd (gl g+1) (some (gx g++[v],k)):=⟨by rw[List.length_append,gl_eq];rfl,rfl⟩
def appG {α β:Type} (b:Nat) (g:Gr α) (v:α) (K:Nat→Gr α→T β):T β:=match g with
  | none=>.need (List.length [v]*(b+1)≤140737488355328∧List.length [v]≤maxLen) (.up (List.length [v]) fun k=>K (List.length [v]) (some ([v],k)))
  | some r=>.need (List.length r.1=List.length r.1∧r.2=r.2∧(List.length r.1+List.length [v])*(b+1)≤140737488355328∧List.length r.1+List.length [v]≤maxLen) (.and (K (List.length r.1+List.length [v]) (some (r.1++[v],r.2))) (.up (List.length r.1+List.length [v]) fun k=>K (List.length r.1+List.length [v]) (some (r.1++[v],k))))
theorem appG_wp {α β:Type} {b:Nat} {g:Gr α} {v:α} {K:Nat→Gr α→T β} {R:β→Prop} (h1:(gl g+1)*(b+1)≤140737488355328) (h2:gl g+1≤maxLen)
    (h : ∀ k,(K (gl g+1) (some (gx g++[v],k))).wp R):(appG b g v K).wp R:=by
  cases g with
  | none =>
    have e:gl (none:Gr α)=0:=rfl
    rw[e]at h1 h2
    exact ⟨⟨h1,h2⟩,fun k _=>h k⟩
  | some r=>exact ⟨⟨rfl,rfl,h1,h2⟩,h r.2,fun k _=>h k⟩
def finG {α A B C:Type} (e:A) (avs:B) (y:C) (g:Gr α) (W:List α):T (A×B×C×Gr α):=match g with
  | none=>.ite W.isEmpty (.ret (e,avs,y,none)) (.up 0 fun k=>.ret (e,avs,y,some (W,k)))
  | some r=>.up 0 fun k=>.ret (e,avs,y,some (r.1++W,k))
theorem finG_nil {α A B C:Type} {e:A} {avs:B} {y:C} {g:Gr α} {Q:A×B×C×Gr α→Prop} (h:(finG e avs y g []).wp Q):Q (e,avs,y,g):=by
  cases g with
  | none=>exact h.1 rfl
  | some r =>
    have:=h r.2 (Nat.zero_le _)
    rw[List.append_nil]at this
    exact this
theorem finG_cons {α A B C:Type} {e:A} {avs:B} {y:C} {g:Gr α} {v:α} {W:List α} {Q:A×B×C×Gr α→Prop} (h:(finG e avs y g (v::W)).wp Q) (k:Nat):(finG e avs y (some (gx g++[v],k)) W).wp Q:=by
  cases g with
  | none=>exact h.2 rfl
  | some r =>
    intro j hj
    have:=h j hj
    show Q (e,avs,y,some ((r.1++[v])++W,j))
    rw[List.append_assoc]
    exact this
end Ax
namespace Go.Proofs.YtbkfakkkikmcbaaGreatDoor
open Go.RowKit Ax
theorem bl_of {c:UInt8}:bl c=decide (c.toNat=32∨c.toNat=9∨c.toNat=13):=by
  unfold bl blank
  rw[decide_eq_decide]
  simp only[List.mem_cons,List.not_mem_nil,or_false]
  omega
noncomputable def L7:Env Tryz.prog:=L6.add []
theorem nil_av2L {w:World} {R:Nat→Prop} {σ:List Nat} {c:Cd} {a:Av} {v:Value} (h:AvIs w R σ (.tup [.one (.v (.slice none 0 0)),a]) v):AvIs w R σ (.tup [.one (.ds c []),a]) v:=by
  cases h with
  | tup us hl hi =>
    refine .tup us hl fun i x u hx hu=>?_
    match i,hx with
    | 0,hx =>
      have hx:Av.one (.ds c [])=x:=by simpa using hx
      subst hx
      exact nil_av1 (hi 0 _ u rfl hu)
    | 1,hx=>exact hi 1 x u hx hu
noncomputable def L8:Env Tryz.prog:=L7.add []
noncomputable def L9:Env Tryz.prog:=L8.add []
noncomputable def LA:Env Tryz.prog:=L9.add []
def digRun (k:Nat):List Av→Mem→T (Av×Mem):=pureRun' [(false,.int .u64)] fun x=>.need (0≤(x.1:Int)∧(x.1:Int)<18446744073709551616∧(x.1:Int)<(10:Int)^k) (.ret (.one (.v (.string (mkB (Lib.decDigits (Int.toNat x.1)))))))
def DigOk (k:Nat):Prop:=ConOk Tryz.prog 60 [] (digRun k)
abbrev DigK:={ k:Nat // DigOk k }
noncomputable def conD (k:Nat) (h:DigOk k):Con Tryz.prog:=⟨60,[],digRun k,cf_rdig,h⟩
noncomputable def LD (x:DigK):Env Tryz.prog:=LA.add [conD x.1 x.2]
noncomputable def tr_dig0 (x:Els [(false,.int .u64)]):T Av:=
 .ite (decide (x.1<(10:Int)))
  (.ret (.one (.v (.string (bytesOf [IntKind.wrap .u8 (IntKind.wrap .u64 ((48:Int)+x.1))])))))
  (.need ((10:Int)≠(0:Int)) (.need ((10:Int)≠(0:Int)) (dup (.fail))))
theorem tr_dig0_eq (x:Els [(false,.int .u64)]):fnP LA (fun _=>none) Tryz.f60 (encs [(false,.int .u64)] x)=tr_dig0 x:=by kernel_rfl
noncomputable def tr_dig (x:DigK×Els [(false,.int .u64)]):T Av:=
 .ite (decide (x.2.1<(10:Int)))
  (.ret (.one (.v (.string (bytesOf [IntKind.wrap .u8 (IntKind.wrap .u64 ((48:Int)+x.2.1))])))))
  (.need ((10 : Int) ≠ (0 : Int)) (.need ((10 : Int) ≠ (0 : Int)) (dup (.need ((0 : El (Cd.int .u64)) ≤ IntKind.wrap .u64 (Int.tdiv x.2.1 (10 : Int)) ∧ IntKind.wrap .u64 (Int.tdiv x.2.1 (10 : Int)) < (18446744073709551616 : El (Cd.int .u64)) ∧ IntKind.wrap .u64 (Int.tdiv x.2.1 (10 : Int)) < (10 : Int) ^ x.1.1) (.need ((↑(ByteArray.size (mkB (Go.Lib.decDigits (Int.toNat (IntKind.wrap .u64 (Int.tdiv x.2.1 (10 : Int)))))) + ByteArray.size (bytesOf [IntKind.wrap .u8 (IntKind.wrap .u64 ((48 : Int) + Int.tmod x.2.1 (10 : Int)))])) : Int) ≤ IntKind.max .i64) (.lt (mkB (Go.Lib.decDigits (Int.toNat (IntKind.wrap .u64 (Int.tdiv x.2.1 (10 : Int))))) ++ bytesOf [IntKind.wrap .u8 (IntKind.wrap .u64 ((48 : Int) + Int.tmod x.2.1 (10 : Int)))]) (fun v0 =>
        .ret (.one (.v (.string (v0)))))))))))
theorem tr_dig_eq (x:DigK×Els [(false,.int .u64)]):fnP (LD x.1) (fun _=>none) Tryz.f60 (encs [(false,.int .u64)] x.2)=tr_dig x:=by kernel_rfl
theorem bytes_digit {z:Int} (h0:0≤z) (h1:z<10):bytesOf [IntKind.wrap .u8 (IntKind.wrap .u64 ((48:Int)+z))]=mkB [UInt8.ofNat (48+z.toNat)]:=by
  rw[IntWalk.u64_in (48+z) (by omega),IntWalk.u8_in (48+z) (by omega)]
  unfold bytesOf mkB
  simp only[List.map_cons,List.map_nil]
  congr 3
  rw[show (48+z).toNat=48+z.toNat by omega]
theorem mkB_app (a b:List UInt8):mkB a++mkB b=mkB (a++b):=by
  apply ByteArray.ext
  simp[mkB,ByteArray.data_append]
theorem dec_sizeL {z:Int} (h0:0≤z) (h1:z<18446744073709551616):(mkB (Lib.decDigits z.toNat)).size≤20:=by
  show (Lib.decDigits z.toNat).length≤20
  rw[Lib.decDigits_length]
  exact Lib.nDigits_le20 _ (by omega)
theorem dig_one:DigOk 1:=val_con (E:=LA) (L:=fun _=>none) mixedL Tryz.func60 no_loops [(false,.int .u64)] (fun x=>0≤(x.1:Int)∧(x.1:Int)<18446744073709551616∧(x.1:Int)<(10:Int)^1) (fun x=>.one (.v (.string (mkB (Lib.decDigits (Int.toNat x.1)))))) fun x hx=>by
  rw[tr_dig0_eq]
  obtain ⟨z,u⟩:=x
  revert z
  intro (z:Int) (hx:0≤z∧z<18446744073709551616∧z<(10:Int)^1)
  obtain ⟨h0,h1,h2⟩:=hx
  unfold tr_dig0
  simp only[T.wp]
  refine ⟨fun _=>?_,fun h=>?_⟩
  · have h2:z<10:=by simpa using h2
    rw[bytes_digit h0 h2,dec_small (by omega)]
  · have h:¬ z<10:=of_decide_eq_false h
    simp at h2;omega
theorem dig_next (k:Nat) (hk:DigOk k):DigOk (k+1):=val_con (E:=LD ⟨k,hk⟩) (L:=fun _=>none) mixedL Tryz.func60 no_loops [(false,.int .u64)] (fun x=>0≤(x.1:Int)∧(x.1:Int)<18446744073709551616∧(x.1:Int)<(10:Int)^(k+1)) (fun x=>.one (.v (.string (mkB (Lib.decDigits (Int.toNat x.1)))))) fun x hx=>by
  rw[tr_dig_eq (⟨k,hk⟩,x)]
  obtain ⟨z,u⟩:=x
  revert z
  intro (z:Int) (hx:0≤z∧z<18446744073709551616∧z<(10:Int)^(k+1))
  obtain ⟨h0,h1,h2⟩:=hx
  unfold tr_dig
  simp only[T.wp,dup_wp]
  refine ⟨fun h=>?_,fun h=>?_⟩
  · have h:z<10:=of_decide_eq_true h
    rw[bytes_digit h0 h,dec_small (by omega)]
  · have h:¬ z<10:=of_decide_eq_false h
    obtain ⟨n,rfl⟩ : ∃ n:Nat,z=n:=⟨z.toNat,by omega⟩
    have e1:Int.tdiv (n:Int) 10=((n/10:Nat):Int):=by rw[Int.tdiv_eq_ediv_of_nonneg (by omega)];omega
    have e2:Int.tmod (n:Int) 10=((n%10:Nat):Int):=by rw[Int.tmod_eq_emod_of_nonneg (by omega)];omega
    rw[e1,e2,IntWalk.u64_in ((n/10:Nat):Int) (by omega)]
    rw[Int.pow_succ]at h2
    have hs:=dec_sizeL (z:=((n/10:Nat):Int)) (by omega) (by omega)
    rw[Int.toNat_natCast]at hs
    rw[bytes_digit (by omega) (by omega),Int.toNat_natCast,Int.toNat_natCast,Int.toNat_natCast,mkB_app]
    refine ⟨by decide,by decide,⟨show (0:Int)≤((n/10:Nat):Int) by omega,show ((n/10:Nat):Int)<18446744073709551616 by omega,show ((n/10:Nat):Int)<(10:Int)^k by omega⟩,?_,?_⟩
    · show (((mkB (Lib.decDigits (n/10))).size+1:Nat):Int)≤9223372036854775807
      omega
    · rw[dec_big (n:=n) (by omega)]
theorem dig_ok : ∀ k,DigOk (k+1)
  | 0=>dig_one
  | k+1=>dig_next (k+1) (dig_ok k)
noncomputable def con_dig:Con Tryz.prog:=conD 20 (dig_ok 19)
noncomputable def LB:Env Tryz.prog:=LA.add [con_dig]
noncomputable def tr_num (x:Els [(false,.int .i64)]):T Av:=
 .ite (decide (x.1<(0:Int)))
  (.need ((0:El (Cd.int .u64))≤IntKind.wrap .u64 (IntKind.wrap .u64 (IntKind.wrap .i64 ((0:Int)-IntKind.wrap .i64 (x.1+(1:Int))))+(1:Int))∧IntKind.wrap .u64 (IntKind.wrap .u64 (IntKind.wrap .i64 ((0:Int)-IntKind.wrap .i64 (x.1+(1:Int))))+(1:Int))<(18446744073709551616:El (Cd.int .u64))∧IntKind.wrap .u64 (IntKind.wrap .u64 (IntKind.wrap .i64 ((0:Int)-IntKind.wrap .i64 (x.1+(1:Int))))+(1:Int))<(10:Int)^(20:Nat)) (.need ((↑(ByteArray.size { data := #[(45:UInt8)] }+ByteArray.size (mkB (Go.Lib.decDigits (Int.toNat (IntKind.wrap .u64 (IntKind.wrap .u64 (IntKind.wrap .i64 ((0:Int)-IntKind.wrap .i64 (x.1+(1:Int))))+(1:Int))))))):Int)≤IntKind.max .i64) (.lt ({ data := #[(45:UInt8)] }++mkB (Go.Lib.decDigits (Int.toNat (IntKind.wrap .u64 (IntKind.wrap .u64 (IntKind.wrap .i64 ((0:Int)-IntKind.wrap .i64 (x.1+(1:Int))))+(1:Int)))))) (fun v0 =>
     .ret (.one (.v (.string (v0))))))))
  (.need ((0:El (Cd.int .u64))≤IntKind.wrap .u64 (x.1)∧IntKind.wrap .u64 (x.1)<(18446744073709551616:El (Cd.int .u64))∧IntKind.wrap .u64 (x.1)<(10:Int)^(20:Nat)) (.ret (.one (.v (.string (mkB (Go.Lib.decDigits (Int.toNat (IntKind.wrap .u64 (x.1))))))))))
theorem tr_num_eq (x:Els [(false,.int .i64)]):fnP LB (fun _=>none) Tryz.f30 (encs [(false,.int .i64)] x)=tr_num x:=by kernel_rfl
theorem neg_chain {z:Int} (h0 : -9223372036854775808≤z) (h1:z<0):IntKind.wrap .u64 (IntKind.wrap .u64 (IntKind.wrap .i64 ((0:Int)-IntKind.wrap .i64 (z+(1:Int))))+(1:Int))=(z.natAbs:Int):=by
  rw[IntWalk.i64_in (z+1) (by omega),IntWalk.i64_in (0-(z+1)) (by omega),IntWalk.u64_in (0-(z+1)) (by omega),IntWalk.u64_in (0-(z+1)+1) (by omega)]
  omega
theorem pow20 {z:Int} (h:z<18446744073709551616):z<(10:Int)^20:=by
  have:(10:Int)^20=100000000000000000000:=by decide
  omega
theorem num_wp (z:Int) (h0 : -9223372036854775808≤z) (h1:z≤9223372036854775807):(tr_num (z,())).wp fun a=>a=.one (.v (.string (mkB (Lib.itoa z)))):=by
  unfold tr_num
  simp only[T.wp]
  refine ⟨fun h=>?_,fun h=>?_⟩
  · have h:z<0:=of_decide_eq_true h
    rw[neg_chain h0 h]
    have hs:=dec_sizeL (z:=(z.natAbs:Int)) (by omega) (by omega)
    rw[Int.toNat_natCast]at hs ⊢
    refine ⟨⟨show (0:Int)≤(z.natAbs:Int) by omega,show (z.natAbs:Int)<18446744073709551616 by omega,pow20 (by omega)⟩,?_,?_⟩
    · show ((1+(mkB (Lib.decDigits z.natAbs)).size:Nat):Int)≤9223372036854775807
      omega
    · have e:Lib.itoa z=45::Lib.decDigits z.natAbs:=by unfold Lib.itoa;rw[if_pos h]
      rw[e,show ({ data := #[(45:UInt8)] }:ByteArray)=mkB [45] from rfl,mkB_app]
      rfl
  · have h:¬ z<0:=of_decide_eq_false h
    rw[IntWalk.u64_in z (by omega)]
    refine ⟨⟨show (0:Int)≤z by omega,show z<18446744073709551616 by omega,pow20 (by omega)⟩,?_⟩
    have e:Lib.itoa z=Lib.decDigits z.toNat:=by unfold Lib.itoa;rw[if_neg h]
    rw[e]
noncomputable def con_num:Con Tryz.prog:=⟨30,[],_,cf_rnum,val_con (E:=LB) (L:=fun _=>none) mixedL Tryz.func30 no_loops [(false,.int .i64)] (fun x => -9223372036854775808≤(x.1:Int)∧(x.1:Int)≤9223372036854775807) (fun x=>.one (.v (.string (mkB (Lib.itoa x.1))))) fun x hx=>by
  rw[tr_num_eq]
  obtain ⟨z,u⟩:=x
  revert z
  intro (z:Int) (hx : -9223372036854775808≤z∧z≤9223372036854775807)
  exact num_wp z hx.1 hx.2⟩
theorem nd_le : ∀ (k u:Nat),u<10^(k+1)→Lib.nDigits u≤k+1
  | 0,u,h=>by rw[Lib.nDigits_small (by simpa using h)];exact Nat.le_refl _
  | k+1,u,h=>by
    by_cases h10:u<10
    · rw[Lib.nDigits_small h10];omega
    · rw[Nat.pow_succ]at h
      have:=nd_le k (u/10) (by omega)
      rw[Lib.nDigits_big h10];omega
theorem unm_itoa (v:Int):unm (Lib.itoa v)=Lib.decDigits v.natAbs:=by
  unfold Lib.itoa
  split
  · rfl
  · obtain ⟨c,r,e,h1,h2,h3⟩:=dec_head v.toNat
    have hc:c≠45:=fun e=>by subst e;exact absurd h1 (by decide)
    rw[show v.natAbs=v.toNat by omega,e,unm,if_neg hc]
theorem itoa_ne (v:Int):Lib.itoa v≠[]:=by
  intro e
  have h:=unm_itoa v
  rw[e]at h
  obtain ⟨c,r,e2,_⟩:=dec_head v.natAbs
  rw[e2]at h
  cases h
theorem num9 {v:Int} (h:v.natAbs<1000000000):lintB (mkB (Lib.itoa v))=true∧atoiV (mkB (Lib.itoa v))=v:=by
  have h9:(unm (Lib.itoa v)).length≤9:=by
    rw[unm_itoa,Lib.decDigits_length]
    exact nd_le 8 _ (by omega)
  obtain ⟨g1,g2⟩:=itoa_num h9
  have hb:lintB (mkB (Lib.itoa v))=true:=(lint_num _).1.trans g1
  exact ⟨hb,((lint_num _).2 hb).trans g2⟩
end Go.Proofs.YtbkfakkkikmcbaaGreatDoor
namespace Ax
open Go Go.RowKit
def pureCd:Cd→Bool
  | .sl _=>false
  | .ptr _=>false
  | .pair a b=>pureCd a&&pureCd b
  | _=>true
def ndC:Ck→Bool
  | .ds _ l=>l.isEmpty
  | .pr _=>false
  | .row c _ _=>pureCd c
  | _=>true
theorem pure_nd : ∀ (c:Cd) (x:El c),pureCd c=true→(ck c x).all ndC=true
  | .int _,_,_=>rfl
  | .bool,_,_=>rfl
  | .str,_,_=>rfl
  | .words,_,_=>rfl
  | .unit,_,_=>rfl
  | .nls,_,_=>rfl
  | .sl _,_,h=>by cases h
  | .ptr _,_,h=>by cases h
  | .pair a b,x,h=>by
    rw[pureCd,Bool.and_eq_true]at h
    rw[ck,List.all_append,pure_nd a x.1 h.1,pure_nd b x.2 h.2];rfl
theorem is_nd {w:World} {R R':Nat→Prop} {σ:List Nat} {l:List Ck} {us:List Value} (h:Is w R σ l us):l.all ndC=true→Is w R' σ l us:=by
  induction h with
  | nil=>intro _;exact .nil
  | v h _ ih=>intro hn;exact .v h (ih (by simpa [ndC] using hn))
  | kb _ ih=>intro hn;exact .kb (ih (by simpa [ndC] using hn))
  | w _ ih=>intro hn;exact .w (ih (by simpa [ndC] using hn))
  | p h _ ih=>intro hn;exact .p h (ih (by simpa [ndC] using hn))
  | dn _ ih=>intro hn;exact .dn (ih (by simpa [ndC] using hn))
  | de a cap _ ih=>intro hn;exact .de a cap (ih (by simpa [ndC] using hn))
  | ni t v _ ih=>intro hn;exact .ni t v (ih (by simpa [ndC] using hn))
  | @ds σ c xs b o cap r us g h1 h2 h3 h4 h5 _ _ ih =>
    intro hn
    rw[List.all_cons,Bool.and_eq_true]at hn
    have hx:xs=[]:=List.isEmpty_iff.1 hn.1
    subst hx
    exact .de _ cap (ih hn.2)
  | pr _ _ _ _ _ _=>intro hn;simp[ndC]at hn
  | pe h1 h2 _ ih=>intro hn;exact .pe h1 h2 (ih (by simpa [ndC] using hn))
  | os h1 h2 _ ih=>intro hn;exact .os h1 h2 (ih (by simpa [ndC] using hn))
  | row g h1 h2 h3 h4 h5 h6 h7 h8 h9 ih6 ih8 =>
    intro hn
    rw[List.all_cons,Bool.and_eq_true]at hn
    exact .row g h1 h2 h3 h4 h5 (fun i x hx=>ih6 i x hx (pure_nd _ x hn.1)) h7 (ih8 hn.2) h9
  | any h _ ih=>intro hn;exact .any h (ih (by simpa [ndC] using hn))
def nd1:Av→Bool
  | .one c=>ndC c
  | .agg l=>l.all ndC
  | .tup _=>false
  | _=>true
def ndA:Av→Bool
  | .one c=>ndC c
  | .agg l=>l.all ndC
  | .tup l=>l.all nd1
  | _=>true
theorem av_nd1 {w:World} {R R':Nat→Prop} {σ:List Nat} {a:Av} {v:Value} (h:AvIs w R σ a v) (hn:nd1 a=true):AvIs w R' σ a v:=by
  cases h with
  | one h1 h2=>exact .one h1 (is_nd h2 (by simpa [nd1] using hn))
  | agg h=>exact .agg (is_nd h hn)
  | tup=>simp[nd1]at hn
  | nope=>exact .nope
  | any=>exact .any
theorem av_nd {w:World} {R R':Nat→Prop} {σ:List Nat} {a:Av} {v:Value} (h:AvIs w R σ a v) (hn:ndA a=true):AvIs w R' σ a v:=by
  cases h with
  | one h1 h2=>exact .one h1 (is_nd h2 (by simpa [ndA] using hn))
  | agg h=>exact .agg (is_nd h hn)
  | tup us hl hi=>exact .tup us hl fun i x u hx hu=>av_nd1 (hi i x u hx hu) (List.all_eq_true.1 hn x (List.mem_of_getElem? hx))
  | nope=>exact .nope
  | any=>exact .any
def ndSt (st:St):Bool:=st.fr.all ndA&&st.mem.all fun e=>e.2.all ndC
theorem nd_sat {w0 w:World} {φ φ' σ0 σ:List Nat} {st:St} {a:Act} (hS:Sat w0 φ σ0 σ st a w) (hn:ndSt st=true) (hfo : ∀ b∈φ',b<w.heap.size) (hgl:GlobAt w (Ro w φ' σ)):Sat w0 φ' σ0 σ st a w:=by
  unfold ndSt at hn
  rw[Bool.and_eq_true]at hn
  exact ⟨⟨hS.fr.len,fun t av ht=>av_nd (hS.fr.at_ t av ht) (List.all_eq_true.1 hn.1 av (List.mem_of_getElem? ht))⟩,⟨hS.mem.len,hS.mem.nodup,hfo,hgl,fun i t cs b h1 h2=>by
    obtain ⟨us,g1,g2⟩:=hS.mem.blk i t cs b h1 h2
    exact ⟨us,g1,is_nd g2 (List.all_eq_true.1 hn.2 (t,cs) (List.mem_of_getElem? h1))⟩⟩,hS.ext,hS.keep,hS.df⟩
def bkC:Ck→Ck
  | .ds _ _=>.any
  | .pr _=>.any
  | c=>c
theorem is_bk {w:World} {R:Nat→Prop} {σ:List Nat} {l:List Ck} {us:List Value} (h:Is w R σ l us):Is w R σ (l.map bkC) us:=by
  induction h with
  | nil=>exact .nil
  | v h _ ih=>exact .v h ih
  | kb _ ih=>exact .kb ih
  | w _ ih=>exact .w ih
  | p h _ ih=>exact .p h ih
  | dn _ ih=>exact .any rfl ih
  | de a cap _ ih=>exact .any rfl ih
  | ni t v _ ih=>exact .ni t v ih
  | ds g h1 h2 h3 h4 h5 _ _ ih=>exact .any rfl ih
  | pr _ _ _ _ _ ih=>exact .any rfl ih
  | pe h1 h2 _ ih=>exact .pe h1 h2 ih
  | os h1 h2 _ ih=>exact .os h1 h2 ih
  | row g h1 h2 h3 h4 h5 h6 h7 h8 h9 ih6 ih8=>exact .row g h1 h2 h3 h4 h5 h6 h7 ih8 h9
  | any h _ ih=>exact .any h ih
def bkM (ks:List Nat):Nat→Mem→Mem
  | _,[]=>[]
  | i,e::r=>(match ks.any fun k=>decide (k=i) with
    | true=>e
    | false=>(e.1,e.2.map bkC))::bkM ks (i+1) r
theorem bkM_len (ks:List Nat) : ∀ (m:Mem) (i:Nat),(bkM ks i m).length=m.length
  | [],_=>rfl
  | e::r,i=>by rw[bkM,List.length_cons,bkM_len ks r (i+1),List.length_cons]
theorem bkM_get (ks:List Nat) : ∀ (m:Mem) (i k:Nat) (x:TypeId×List Ck),(bkM ks i m)[k]?=some x → ∃ e,m[k]?=some e∧(x=e∨x=(e.1,e.2.map bkC))
  | [],_,_,x,h=>by rw[bkM]at h;cases h
  | e::r,i,0,x,h=>by
    rw[bkM,List.getElem?_cons_zero,Option.some.injEq]at h
    refine ⟨e,rfl,?_⟩
    split at h
    · exact .inl h.symm
    · exact .inr h.symm
  | e::r,i,k+1,x,h=>by
    rw[bkM,List.getElem?_cons_succ]at h
    rw[List.getElem?_cons_succ]
    exact bkM_get ks r (i+1) k x h
theorem bk_sat {w0 w:World} {φ σ0 σ:List Nat} {st:St} {a:Act} (ks:List Nat) (hS:Sat w0 φ σ0 σ st a w):Sat w0 φ σ0 σ ⟨st.fr,bkM ks 0 st.mem⟩ a w:=
  ⟨hS.fr,⟨(bkM_len ks st.mem 0).trans hS.mem.len,hS.mem.nodup,hS.mem.fo,hS.mem.gl,fun i t cs b h1 h2=>by
    obtain ⟨e,g0,g1⟩:=bkM_get ks st.mem 0 i (t,cs) h1
    obtain ⟨us,g2,g3⟩:=hS.mem.blk i e.1 e.2 b g0 h2
    rcases g1 with g1|g1
    · cases g1;exact ⟨us,g2,g3⟩
    · cases g1;exact ⟨us,g2,is_bk g3⟩⟩,hS.ext,hS.keep,hS.df⟩
def ptrsA:Av→List Nat
  | .one c=>ptrsIn [c]
  | .agg l=>ptrsIn l
  | _=>[]
def resK (fn:Func) (st:St):List Nat:=(blankF (resSlots fn.results.toList) st.fr).flatMap ptrsA
def resB (fn:Func) (st:St):St:=⟨blankF (resSlots fn.results.toList) st.fr,bkM (resK fn st) 0 st.mem⟩
def fnL {P:Program} (E:Env P) (L:Loops) (fn:Func) (args:List Av):T (Av×Mem):=
  match fn.body with
  | some c=>(code (E.at_ 0) L c ⟨args++List.replicate (fn.ntmps-args.length) .nope,[]⟩).bind fun r=>match r.1 with
    | .ret|.normal=>(match ndSt (resB fn r.2) with
      | true=>finRun P 0 fn.results.toList (resB fn r.2)
      | false=>.fail)
    | _=>.fail
  | none=>.fail
section
variable {P:Program} {E:Env P} {L:Loops} {w:World} {φ φ':List Nat}
theorem lend_fn {f:FuncId} {fn:Func} (hm:P.follows .mixedOrders=true) (hf:P.funcs[f]?=some fn) (hL : ∀ c,fn.body=some c→LoopsOk P 0 L c) {args:List Av} {vs:List Value} {Q:Av×Mem→Prop}
    (hmem:MemOk w φ [] []) (hmem':MemOk w φ' [] []) (hlen:vs.length=args.length) (hargs : ∀ (i:Nat) x v,args[i]?=some x→vs[i]?=some v→AvIs w (Ro w φ []) [] x v) (h:(fnL E L fn args).wp Q) :
    Calls P f vs.toArray w fun e w' => ∃ v av m' σ',e=.returned v∧Q (av,m')∧Ext w [] σ'∧Keep w [] w'∧AvIs w' (Ro w' φ' σ') σ' av v∧MemOk w' φ' σ' m':=by
  unfold fnL at h
  split at h
  · rename_i c hb
    rw[T.wp_bind]at h
    have hS:Sat w φ [] [] ⟨args++List.replicate (fn.ntmps-args.length) .nope,[]⟩ { tmps:=vs.toArray++Array.replicate (fn.ntmps-vs.toArray.size) undef,defers:=[] } w:=by
      refine ⟨⟨by simp[hlen],fun t av ht=>?_⟩,hmem,Ext.refl _ _,Keep.refl _ _,rfl⟩
      simp only[]at ht ⊢
      rcases Nat.lt_or_ge t args.length with hlt|hge
      · rw[List.getElem?_append_left hlt]at ht
        have hv:vs[t]?=some (vs[t]'(by rw[hlen];exact hlt)):=List.getElem?_eq_getElem _
        have:=hargs t av _ ht hv
        have e:(vs.toArray++Array.replicate (fn.ntmps-vs.toArray.size) undef).getD t undef=vs[t]'(by rw[hlen];exact hlt):=by
          simp[Array.getElem?_append,hlen,hlt]
        rw[e];exact this
      · rw[List.getElem?_append_right hge]at ht
        have:av=.nope:=by
          have:=List.mem_of_getElem? ht
          exact List.eq_of_mem_replicate this
        subst this
        have e:(vs.toArray++Array.replicate (fn.ntmps-vs.toArray.size) undef).getD t undef=undef:=by
          simp[Array.getElem?_append,hlen,Nat.not_lt.2 hge,Array.getElem?_replicate]
          split <;> rfl
        rw[e];exact .nope
    refine calls_of_wp hf hb (wp_mono (code_ok (E:=E.at_ 0) hm (Nat.zero_le _) (by show ([]:List Nat).length≤0;exact Nat.le_refl 0) hmem.fo c _ [] _ w _ (hL c hb) hS h) fun e a' w' hr=>?_)
    obtain ⟨h1,st',σ',h2,h3⟩:=hr
    have fin:(match ndSt (resB fn st') with
        | true=>finRun P 0 fn.results.toList (resB fn st')
        | false=>.fail).wp Q→bodyPost P fn (fun e w' => ∃ v av m' σ',e=.returned v∧Q (av,m')∧Ext w [] σ'∧Keep w [] w'∧AvIs w' (Ro w' φ' σ') σ' av v∧MemOk w' φ' σ' m') .ret a' w':=by
      intro h4
      split at h4
      · rename_i hnd
        have h3:Sat w φ' [] σ' (resB fn st') a' w':=nd_sat (bk_sat _ (blank_ok _ h3)) hnd (fun b hb=>Nat.lt_of_lt_of_le (hmem'.fo b hb) h3.keep.size) (hmem'.gl.mono (h3.keep.ro h3.ext))
        have last : ∀ (st':St) (σ':List Nat),Sat w φ' [] σ' st' a' w'→((resT P st' fn.results.toList).wp fun l=>Q (resAv l,st'.mem))→bodyPost P fn (fun e w' => ∃ v av m' σ',e=.returned v∧Q (av,m')∧Ext w [] σ'∧Keep w [] w'∧AvIs w' (Ro w' φ' σ') σ' av v∧MemOk w' φ' σ' m') .ret a' w':=by
          intro st' σ' h3 h4
          obtain ⟨avs,vs',g1,g2,g3,g4⟩:=resT_ok h3 _ _ h4
          refine ⟨h3.df,_,?_,_,resAv avs,st'.mem,σ',rfl,g1,h3.ext,h3.keep,is_res g2 g3,h3.mem⟩
          rw[results_eq,Array.mapM_eq_mapM_toList]
          simp only[Sem.run_bind,Sem.run_map,Sem.run_pure,g4,Result.andThen_ok]
        unfold finRun at h4
        rw[T.wp_bind]at h4
        obtain ⟨avs,vs',g1,g2,g3,g4⟩:=resT_ok h3 _ _ h4
        split at g1
        · rw[T.wp_bind]at g1
          obtain ⟨st2,σ2,h5,h6⟩:=frzAll_ok hmem'.fo (Nat.le_refl 0) (blank_ok _ h3) g1
          rw[T.wp_bind]at h5
          exact last st2 σ2 h6 h5
        · refine ⟨h3.df,_,?_,_,resAv avs,(resB fn st').mem,σ',rfl,g1,h3.ext,h3.keep,is_res g2 g3,h3.mem⟩
          rw[results_eq,Array.mapM_eq_mapM_toList]
          simp only[Sem.run_bind,Sem.run_map,Sem.run_pure,g4,Result.andThen_ok]
      · exact h4.elim
    cases e with
    | normal=>exact fin h2
    | ret=>exact fin h2
    | panic _=>cases h1
    | outgrown=>cases h1
    | exit _=>exact h2.elim
    | goto _=>exact h2.elim
  · exact h.elim
end
def lC (m:Mem):Ck→Ck
  | .os i n cap=>match m[i]? with
    | some (_,[.row c xs _])=>.ds c (xs.take n)
    | _=>.os i n cap
  | c=>c
def lN (m:Mem):Ck→Prop
  | .os i n cap=>match m[i]? with
    | some (_,[.row c xs _])=>n≤xs.length
    | _=>True
  | c=>True
def lNl (m:Mem):List Ck→Prop
  | []=>True
  | c::r=>lN m c∧lNl m r
def lNA (m:Mem):Av→Prop
  | .one c=>lN m c
  | .agg l=>lNl m l
  | a=>True
def lNs (m:Mem):List Av→Prop
  | []=>True
  | a::r=>lNA m a∧lNs m r
theorem lNs_mem {m:Mem} {a:Av} : ∀ {l:List Av},lNs m l→a∈l→lNA m a
  | _::_,h,ha=>by
    rcases List.mem_cons.1 ha with rfl|ha
    · exact h.1
    · exact lNs_mem h.2 ha
def lA (m:Mem):Av→Av
  | .one c=>.one (lC m c)
  | .agg l=>.agg (l.map (lC m))
  | a=>a
theorem lC_cases (m:Mem) (i n cap:Nat) (hl:lN m (.os i n cap)):lC m (.os i n cap)=.os i n cap ∨ ∃ t c xs k,m[i]?=some (t,[.row c xs k])∧n≤xs.length∧lC m (.os i n cap)=.ds c (xs.take n):=by
  unfold lN at hl
  simp only[]at hl
  show (match m[i]? with
    | some (_,[.row c xs _])=>Ck.ds c (xs.take n)
    | _=>.os i n cap)=_∨_
  split
  · rename_i t c xs k hmi
    right
    rw[hmi]at hl
    refine ⟨t,c,xs,k,hmi,hl,?_⟩
    show (match m[i]? with
      | some (_,[.row c xs _])=>Ck.ds c (xs.take n)
      | _=>.os i n cap)=_
    rw[hmi]
  · left;rfl
def foL (φ σ:List Nat):List Nat:=φ.filter fun b=>decide (b ∉ σ)
theorem foL_ro {w:World} {φ σ:List Nat} {b:Nat} (h:Ro w φ σ b):Ro w (foL φ σ) [] b:=⟨h.1,fun hb=>h.2.1 (List.mem_filter.1 hb).1,by simp⟩
theorem foL_own {w:World} {φ σ:List Nat} {b:Nat} (h:b<w.heap.size) (hs:b∈σ):Ro w (foL φ σ) [] b:=⟨h,fun hb=>of_decide_eq_true (List.mem_filter.1 hb).2 hs,by simp⟩
theorem is_lC {w:World} {φ σ:List Nat} {m:Mem} (hmem:MemOk w φ σ m) {l:List Ck} {us:List Value} (h:Is w (Ro w φ σ) σ l us):lNl m l→Is w (Ro w (foL φ σ) []) σ (l.map (lC m)) us:=by
  have hR : ∀ b,Ro w φ σ b→Ro w (foL φ σ) [] b:=fun b hb=>foL_ro hb
  have hM : ∀ b,Ro w φ σ b→Ro w (foL φ σ) [] b∧w.heap[b]?=w.heap[b]?:=fun b hb=>⟨hR b hb,rfl⟩
  have hO : ∀ b,b∈σ→Ro w (foL φ σ) [] b:=fun b hb=>foL_own (hmem.lt hb) hb
  have hB:=hmem.blk
  clear hmem
  generalize Ro w φ σ=R at h hR hM hB
  generalize Ro w (foL φ σ) []=R' at hR hM hO ⊢
  induction h with
  | nil=>intro _;exact .nil
  | v h _ ih=>intro hn;exact .v h (ih hB hO hn.2)
  | kb _ ih=>intro hn;exact .kb (ih hB hO hn.2)
  | w _ ih=>intro hn;exact .w (ih hB hO hn.2)
  | p h _ ih=>intro hn;exact .p h (ih hB hO hn.2)
  | dn _ ih=>intro hn;exact .dn (ih hB hO hn.2)
  | de a cap _ ih=>intro hn;exact .de a cap (ih hB hO hn.2)
  | ni t v _ ih=>intro hn;exact .ni t v (ih hB hO hn.2)
  | ds g h1 h2 h3 h4 h5 _ _ ih=>intro hn;exact .ds g h1 (hR _ h2) h3 (fun i x hx=>(h4 i x hx).mono hM (fun _ _ h=>h)) h5 (ih hB hO hn.2)
  | pr h1 h2 h3 _ _ ih=>intro hn;exact .pr (hR _ h1) h2 (h3.mono hM (fun _ _ h=>h)) (ih hB hO hn.2)
  | pe h1 h2 _ ih=>intro hn;exact .pe h1 h2 (ih hB hO hn.2)
  | @os σ i n cap b r us h1 h2 h3 ih =>
    intro hn0
    have ih:=ih hB hO hn0.2
    rw[List.map_cons]
    rcases lC_cases m i n cap hn0.1 with e|⟨t,c,xs,k,hmi,hn,e⟩
    · rw[e];exact .os h1 h2 ih
    · rw[e]
      obtain ⟨ua,g1,g2⟩:=hB i t _ b hmi h1
      exact (is_row_ds hR (hO b (List.mem_of_getElem? h1)) g1 g2 hn h2 σ).app ih
  | row g h1 h2 h3 h4 h5 h6 h7 h8 h9 ih6 ih8=>intro hn;exact .row g h1 h2 h3 h4 h5 (fun i x hx=>(h6 i x hx).mono hM (fun _ _ h=>h)) h7 (ih8 hB hO hn.2) h9
  | any h _ ih=>intro hn;exact .any h (ih hB hO hn.2)
theorem lC_size (m:Mem) (c:Ck) (hn:lN m c) (h:c.size=1):(lC m c).size=1:=by
  cases c with
  | os i n cap =>
    rcases lC_cases m i n cap hn with e|⟨t,c,xs,k,hmi,hn,e⟩
    · rw[e];exact h
    · rw[e];rfl
  | _=>exact h
theorem av_lA {w:World} {φ σ:List Nat} {m:Mem} (hmem:MemOk w φ σ m) {a:Av} {v:Value} (hn:lNA m a) (h:AvIs w (Ro w φ σ) σ a v):AvIs w (Ro w (foL φ σ) []) σ (lA m a) v:=by
  cases h with
  | one h1 h2=>exact .one (lC_size m _ hn h1) (is_lC hmem h2 ⟨hn,trivial⟩)
  | agg h=>exact .agg (is_lC hmem h hn)
  | tup us hl hi=>exact AvIs.mono (fun b hb=>⟨foL_ro hb,rfl⟩) (fun _ _ h=>h) (.tup us hl hi)
  | nope=>exact .nope
  | any=>exact .any
def lendRun (ts:List (Bool×Cd)) (sp:Els ts→T Av) (args:List Av) (m:Mem):T (Av×Mem):=
  .need (lNs m args) (match decs ts (args.map (lA m)) with
  | some x=>(sp x).bind fun av=>.ret (av,m)
  | none=>.fail)
def fnLP {P:Program} (E:Env P) (L:Loops) (fn:Func) (args:List Av):T Av:=
  (fnL E L fn args).bind fun r=>match noA r.1 with
    | true=>.ret (nA r.1)
    | false=>.fail
theorem lend_ok {P:Program} {E:Env P} {L:Loops} {f:FuncId} {fn:Func} (hm:P.follows .mixedOrders=true) (hf:P.funcs[f]?=some fn) (hL : ∀ c,fn.body=some c→LoopsOk P 0 L c) (ts:List (Bool×Cd)) (sp:Els ts→T Av)
    (h : ∀ x Q,(sp x).wp Q→(fnLP E L fn (encs ts x)).wp fun a => ∃ b,Q b ∧ ∀ w R σ v,AvIs w R σ a v→AvIs w R σ b v):ConOk P f [] (lendRun ts sp):=by
  intro w φ σ m args vs Q hmem hlen hargs hrun
  unfold lendRun at hrun
  obtain ⟨hneed,hrun⟩:=hrun
  split at hrun
  · rename_i x hx
    rw[T.wp_bind]at hrun
    have hq:=h x _ hrun
    unfold fnLP at hq
    rw[T.wp_bind]at hq
    obtain ⟨hl,ha⟩:=decs_ok ts (args.map (lA m)) x vs hx (by rw[List.length_map];exact hlen) (fun i a v h1 h2=>by
      rw[List.getElem?_map]at h1
      cases e:args[i]? with
      | none=>rw[e]at h1;cases h1
      | some a0 =>
        rw[e]at h1
        cases h1
        exact av_lA hmem (lNs_mem hneed (List.mem_of_getElem? e)) (hargs i a0 v e h2))
    have hfo : ∀ b∈φ++σ,b<w.heap.size:=fun b hb=>by
      rcases List.mem_append.1 hb with h1|h1
      · exact hmem.fo b h1
      · exact hmem.lt h1
    have hro : ∀ b,Ro w φ σ b→Ro w (φ++σ) [] b:=fun b hb=>⟨hb.1,by simp[hb.2.1,hb.2.2],by simp⟩
    have hmem0:MemOk w (foL φ σ) [] []:=⟨rfl,by simp,fun b hb=>hmem.fo b (List.mem_filter.1 hb).1,hmem.gl.mono fun z hz=>⟨foL_ro hz,rfl⟩,fun i t cs b h1 h2=>by simp at h1⟩
    have hmem1:MemOk w (φ++σ) [] []:=⟨rfl,by simp,hfo,hmem.gl.mono fun z hz=>⟨hro z hz,rfl⟩,fun i t cs b h1 h2=>by simp at h1⟩
    refine (lend_fn (E:=E) (L:=L) hm hf hL hmem0 hmem1 hl ha hq).mono fun e w' hr=>?_
    obtain ⟨v,av,m',σ',rfl,hQ,hext,hkeep,hav,hmem'⟩:=hr
    split at hQ
    · rename_i hno
      obtain ⟨b,hQ,hb⟩:=hQ
      have hk:Keep w σ w':=⟨hkeep.os,hkeep.tape,hkeep.output,hkeep.size,fun k hk _=>hkeep.block k hk (by simp)⟩
      have hown : ∀ i b:Nat,σ[i]?=some b→w'.heap[b]?=w.heap[b]?:=fun i b hi=>hkeep.block b (hmem.lt (List.mem_of_getElem? hi)) (by simp)
      refine ⟨v,b,m,σ,rfl,hQ,Ext.refl _ _,hk,fun i b hi _=>hown i b hi,hb _ _ _ _ (nA_is ((av_no hav hno).ro (fun b hb=>⟨hb.1,?_,?_⟩) σ)),hmem.stay hk (Ext.refl _ _) rfl hown⟩
      · exact fun hb'=>hb.2.1 (by simp[hb'])
      · exact fun hb'=>hb.2.1 (by simp[hb'])
    · exact hQ.elim
  · exact hrun.elim
def lin:T Av→Option (Prop×Av)
  | .ret a=>some (True,a)
  | .need p t=>match lin t with
    | some (q,a)=>some (p∧q,a)
    | none=>none
  | .lt x k=>lin (k x)
  | _=>none
theorem lin_wp {Q:Av→Prop} : ∀ (t:T Av) {p:Prop} {a:Av},lin t=some (p,a)→p→Q a→t.wp Q
  | .ret b,p,a,h,_,hQ=>by cases h;exact hQ
  | .need q t,p,a,h,hp,hQ=>by
    unfold lin at h
    split at h
    · rename_i q' a' e
      cases h
      exact ⟨hp.1,lin_wp t e hp.2 hQ⟩
    · cases h
  | .lt x k,p,a,h,hp,hQ=>lin_wp (k x) h hp hQ
  | .ite _ _ _,_,_,h,_,_=>by cases h
  | .and _ _,_,_,h,_,_=>by cases h
  | .get _ _ _,_,_,h,_,_=>by cases h
  | .up _ _,_,_,h,_,_=>by cases h
  | .fail,_,_,h,_,_=>by cases h
structure PCon {P:Program} (con:List (Con P)):Type 1 where
  f:FuncId
  ts:List (Bool×Cd)
  sp:Els ts→T Av
  at_ : ∃ c,con.find? (fun c=>c.f==f)=some c∧c.pos=[]∧c.run=pureRun' ts sp
section
variable {P:Program} {con:List (Con P)}
def callP (PC:List (PCon con)) (fr:List Av) (o:Oper):Option (Prop×Av):=
  match o.guard,o.op with
  | none,.call c=>match calF fr c.callee with
    | some f=>match PC.find? fun c=>c.f==f with
      | some p=>match decs p.ts (c.args.toList.map (operand fr)) with
        | some x=>lin (p.sp x)
        | none=>none
      | none=>none
    | none=>none
  | _,_=>none
theorem closeI_nil (m:Mem) : ∀ k,closeI m k []=[]
  | 0=>rfl
  | k+1=>by rw[closeI];exact closeI_nil m k
theorem call_aE {E:Env P} {fr:List Av} {m:Mem} {o:Oper} {c:Call} {f:FuncId} (hop:o.op=.call c) (h:calF fr c.callee=some f):aE E fr m o=optT (E.con.find? fun c=>c.f==f) fun k=>(k.run (c.args.toList.map (operand fr)) m).bind fun (av,m')=>.ret ⟨av,m',wrOf k.pos (c.args.toList.map (operand fr)) m⟩:=by
  obtain ⟨callee,ars,ts⟩:=c
  match callee,h with
  | .value (.func g),h =>
    have:g=f:=Option.some.inj h
    subst this
    unfold aE
    rw[hop]
  | .value (.tmp t),h =>
    unfold aE
    rw[hop]
    simp only[]
    rw[h]
theorem callP_wp {PC:List (PCon con)} {E:Env P} (hE:E.con=con) {fr:List Av} {m:Mem} {o:Oper} {p:Prop} {av:Av} {K:Ef→Prop} (h:callP PC fr o=some (p,av)) (hp:p) (hK:K ⟨av,m,[]⟩):o.guard=none∧(aE E fr m o).wp K:=by
  unfold callP at h
  split at h
  · rename_i cl hg hop
    refine ⟨hg,?_⟩
    split at h
    · rename_i f hcf
      split at h
      · rename_i c hc
        split at h
        · rename_i x hx
          obtain ⟨c0,h1,h2,h3⟩:=c.at_
          have hf:c.f=f:=by simpa using List.find?_some hc
          rw[call_aE hop hcf,hE,←hf,h1]
          show ((c0.run _ m).bind _).wp K
          rw[h3,T.wp_bind]
          unfold pureRun'
          rw[hx]
          simp only[T.wp_bind]
          refine lin_wp _ h hp ?_
          show K ⟨av,m,wrOf c0.pos _ m⟩
          rw[h2]
          show K ⟨av,m,closeI m 3 []⟩
          rw[closeI_nil]
          exact hK
        · cases h
      · cases h
    · cases h
  · cases h
def bsl (E:Env P) (t:TypeId) (len:Nat) (ps:List (Nat×Av)):Option (Prop×Av):=match P.underlying t with
  | some (.slice e)=>match E.cod.find? fun c=>c.ty==e with
    | some C=>match decodes C.c ps 0 with
      | some xs=>if xs.length=len∧len*csz C.c≤16777216 then some (True,.one (.ds C.c xs)) else none
      | none=>none
    | none=>none
  | _=>none
def valP (PC:List (PCon con)) (E:Env P) (m:Mem) (fr:List Av) (o:Oper):Option (Prop×Av):=
  match o.op with
  | .load t x=>match o.guard with
    | none=>lin (aLoad P (fun _=>true) m t (operand fr x))
    | some _=>none
  | .buildSlice t len ps=>match o.guard,ownB E o with
    | none,false=>bsl E t len (ps.toList.map fun p=>(p.1,operand fr p.2))
    | _,_=>none
  | _=>callP PC fr o
theorem valP_wp {PC:List (PCon con)} {E:Env P} (hE:E.con=con) {fr:List Av} {m:Mem} {o:Oper} {p:Prop} {av:Av} {K:Ef→Prop} (h:valP PC E m fr o=some (p,av)) (hp:p) (hK:K ⟨av,m,[]⟩):o.guard=none∧(aE E fr m o).wp K:=by
  unfold valP at h
  split at h
  · rename_i t x hop
    split at h
    · rename_i hg
      refine ⟨hg,?_⟩
      unfold aE
      simp only[hop]
      rw[T.wp_bind]
      unfold aS
      simp only[hop]
      exact lin_wp _ h hp hK
    · cases h
  · rename_i t len ps hop
    split at h
    · rename_i hg hown
      refine ⟨hg,?_⟩
      unfold aE
      simp only[hop]
      unfold bsl at h
      split at h
      · rename_i e hu
        split at h
        · rename_i C hC
          split at h
          · rename_i xs hx
            split at h
            · rename_i hc
              cases h
              simp only[hu,hC,hx]
              simp only[optT,optN,hu,hC,hx,hown]
              rw[if_pos hc]
              exact hK
            · cases h
          · cases h
        · cases h
      · cases h
    · cases h
  · exact callP_wp hE h hp hK
def isT (d:Tmp):Operand→Bool
  | .tmp t=>decide (t=d)
  | _=>false
def readsB (o:Oper) (d:Tmp):Bool:=match o.op with
  | .call c=>c.args.toList.any (isT d)||(match c.callee with
    | .value x=>isT d x
    | _=>false)
  | .load _ x=>isT d x
  | .buildSlice _ _ ps=>ps.toList.any fun p=>isT d p.2
  | _=>true
theorem getD_set {fr:List Av} {d t:Tmp} {av:Av} (h:¬ t=d):(fr.set d av).getD t .any=fr.getD t .any:=by
  rw[List.getD_eq_getElem?_getD,List.getD_eq_getElem?_getD,List.getElem?_set,if_neg (fun e=>h e.symm)]
theorem operand_set {fr:List Av} {d:Tmp} {av:Av} {x:Operand} (h:isT d x=false):operand (fr.set d av) x=operand fr x:=by
  cases x with
  | tmp t=>exact getD_set (by simpa [isT] using h)
  | const v=>cases v <;> rfl
  | global g=>rfl
  | func g=>rfl
theorem callP_set {PC:List (PCon con)} {fr:List Av} {o:Oper} {d:Tmp} {av:Av} (h:readsB o d=false):callP PC (fr.set d av) o=callP PC fr o:=by
  unfold callP
  split
  · rename_i c hg hop
    unfold readsB at h
    rw[hop]at h
    simp only[Bool.or_eq_false_iff]at h
    obtain ⟨h,h2⟩:=h
    have e:c.args.toList.map (operand (fr.set d av))=c.args.toList.map (operand fr):=by
      refine List.map_congr_left fun x hx=>operand_set ?_
      have:=List.any_eq_false.1 h x hx
      simpa using this
    have e2:calF (fr.set d av) c.callee=calF fr c.callee:=by
      cases hc:c.callee with
      | value x =>
        rw[hc]at h2
        cases x with
        | tmp t =>
          unfold calF
          simp only[]
          rw[getD_set (by simpa [isT] using h2)]
        | _=>rfl
      | _=>rfl
    rw[e,e2]
  · rfl
theorem valP_set {PC:List (PCon con)} {E:Env P} {m:Mem} {fr:List Av} {o:Oper} {d:Tmp} {av:Av} (h:readsB o d=false):valP PC E m (fr.set d av) o=valP PC E m fr o:=by
  unfold valP
  split
  · rename_i t x hop
    unfold readsB at h
    rw[hop]at h
    rw[operand_set h]
  · rename_i t len ps hop
    unfold readsB at h
    rw[hop]at h
    have e:ps.toList.map (fun p=>(p.1,operand (fr.set d av) p.2))=ps.toList.map (fun p=>(p.1,operand fr p.2)):=by
      refine List.map_congr_left fun x hx=>?_
      have:=List.any_eq_false.1 h x hx
      rw[operand_set (by simpa using this)]
    rw[e]
  · exact callP_set h
def setAll (l:Array Bool):List Nat→Array Bool
  | []=>l
  | i::r=>setAll (l.setIfInBounds i true) r
def putAll (fr:List Av):List (Tmp×Av)→List Av
  | []=>fr
  | (d,av)::r=>putAll (fr.set d av) r
theorem setAll_at : ∀ (xs:List Nat) (l:Array Bool) (k:Nat),(setAll l xs)[k]?=if k∈xs∧k<l.size then some true else l[k]?
  | [],l,k=>by simp[setAll]
  | i::r,l,k=>by
    rw[setAll,setAll_at r,Array.size_setIfInBounds]
    by_cases hk:k<l.size
    · by_cases h1:k∈r
      · rw[if_pos ⟨h1,hk⟩,if_pos ⟨List.mem_cons_of_mem _ h1,hk⟩]
      · rw[if_neg (fun h=>h1 h.1)]
        by_cases h2:k=i
        · subst h2
          rw[if_pos ⟨by simp,hk⟩]
          simp[hk]
        · rw[if_neg (fun h=>by rcases List.mem_cons.1 h.1 with h|h;exact h2 h;exact h1 h),Array.getElem?_setIfInBounds_ne (Ne.symm h2)]
    · rw[if_neg (fun h=>hk h.2),if_neg (fun h=>hk h.2)]
      rw[Array.getElem?_eq_none (by simpa using hk),Array.getElem?_eq_none (by simpa using hk)]
theorem setAll_swap {l:Array Bool} {i:Nat} {xs ys:List Nat} (h : ∀ k,k∈ys↔k=i∨k∈xs):setAll (l.setIfInBounds i true) xs=setAll l ys:=by
  refine Array.ext_getElem? fun k=>?_
  rw[show setAll (l.setIfInBounds i true) xs=setAll l (i::xs) from rfl,setAll_at,setAll_at]
  have:(k∈i::xs)↔k∈ys:=by rw[h k,List.mem_cons]
  simp only[this]
theorem putAll_at : ∀ (l1 l2:List (Tmp×Av)) (fr:List Av) (d:Tmp) (av:Av),(∀ p∈l1,p.1≠d)→putAll fr (l1++(d,av)::l2)=putAll (fr.set d av) (l1++l2)
  | [],l2,fr,d,av,_=>rfl
  | (e,bv)::l1,l2,fr,d,av,h=>by
    have h1:=h (e,bv) (by simp)
    show putAll (fr.set e bv) (l1++(d,av)::l2)=putAll ((fr.set d av).set e bv) (l1++l2)
    rw[putAll_at l1 l2 _ d av fun p hp=>h p (by simp[hp]),List.set_comm _ _ (by simpa using h1)]
theorem branch_all {α:Type} {f:Nat→T α} {Q:α→Prop} : ∀ {rs:List Nat},rs≠[]→(∀ i∈rs,(f i).wp Q)→(branch f rs).wp Q
  | [],h,_=>absurd rfl h
  | [i],_,h=>h i (by simp)
  | i::j::r,_,h=>⟨h i (by simp),branch_all (rs:=j::r) (by simp) fun k hk=>h k (by simp[hk])⟩
structure Val (PC:List (PCon con)) (E:Env P) (m:Mem) (ops:Array Oper) (fr:List Av) (i:Nat) (d:Tmp) (p:Prop) (av:Av) (o:Oper):Prop where
  at_:ops[i]?=some o
  dst:o.dst=some d
  val:valP PC E m fr o=some (p,av)
def bVals (PC:List (PCon con)) (E:Env P) (m:Mem) (ops:Array Oper) (fr:List Av):List Nat→Option (Prop×List (Tmp×Av))
  | []=>some (True,[])
  | i::r=>match ops[i]? with
    | some o=>match o.dst,valP PC E m fr o,bVals PC E m ops fr r with
      | some d,some (p,av),some (q,l)=>some (p∧q,(d,av)::l)
      | _,_,_=>none
    | none=>none
def dstOf (ops:Array Oper) (i:Nat):Tmp:=((ops[i]?).bind (·.dst)).getD 0
def bOk (ops:Array Oper) (sd:Nat→Bool) (ps:List Nat) (listed:Array Bool) (B:List Nat):Bool:=
  nodB B&&nodB (B.map (dstOf ops))&&B.all fun i => !sd i&&(B.all fun j=>match ops[j]? with
    | some o => !readsB o (dstOf ops i)
    | none=>false)&&(later ops ps (setAll listed (B.erase i))).all fun j=>decide (j=i)
structure Bun (PC:List (PCon con)) (E:Env P) (m:Mem) (ops:Array Oper) (sd:Nat→Bool) (ps:List Nat) (listed:Array Bool) (fr:List Av) (B:List Nat) (vs:List (Tmp×Av)):Prop where
  len:vs.length=B.length
  nd:B.Nodup
  ndd:(vs.map (·.1)).Nodup
  rdy : ∀ i∈B,i∈Region.ready .any ops listed∧i ∉ ps∧sd i=false
  val : ∀ (k i:Nat) (v:Tmp×Av),B[k]?=some i→vs[k]?=some v → ∃ o p,p∧Val PC E m ops fr i v.1 p v.2 o
  rd : ∀ i∈B,∀ o,ops[i]?=some o → ∀ v∈vs,readsB o v.1=false
  lat : ∀ i∈B,∀ j∈later ops ps (setAll listed (B.erase i)),j=i
theorem mem_later {ops:Array Oper} {ps:List Nat} {l:Array Bool} {j:Nat}:j∈later ops ps l↔l.getD j true=false∧j ∉ ps ∧ ∃ o,ops[j]?=some o ∧ ∀ e∈o.after,Region.binds .any e=true→l.getD e.on false=true∨e.on∈ps:=by
  unfold later
  rw[List.mem_filter]
  constructor
  · rintro ⟨h1,h2⟩
    simp only[Bool.and_eq_true,Bool.not_eq_true',List.contains_eq_mem,decide_eq_false_iff_not]at h2
    obtain ⟨⟨h2,h3⟩,h4⟩:=h2
    split at h4
    · rename_i o ho
      refine ⟨h2,h3,o,ho,fun e he hb=>?_⟩
      have:=Array.all_eq_true_iff_forall_mem.1 h4 e he
      simp only[hb,Bool.not_true,Bool.false_or,Bool.or_eq_true,decide_eq_true_eq]at this
      exact this
    · cases h4
  · rintro ⟨h1,h2,o,ho,h3⟩
    refine ⟨List.mem_range.2 (Array.getElem?_eq_some_iff.1 ho).1,?_⟩
    simp only[h1,ho,Bool.not_false,Bool.true_and,Bool.and_eq_true,Bool.not_eq_true',List.contains_eq_mem,decide_eq_false_iff_not]
    refine ⟨h2,Array.all_eq_true_iff_forall_mem.2 fun e he=>?_⟩
    cases hb:Region.binds .any e with
    | false=>simp
    | true =>
      have:=h3 e he hb
      simp only[Bool.not_true,Bool.false_or,Bool.or_eq_true,decide_eq_true_eq]
      exact this
theorem getD_on {l:Array Bool} {xs:List Nat} {k:Nat} (h:l.getD k false=true):(setAll l xs).getD k false=true:=by
  rw[on_iff]at h ⊢
  rw[setAll_at]
  split
  · rfl
  · exact h
theorem later_sub {PC:List (PCon con)} {E:Env P} {m:Mem} {ops:Array Oper} {sd:Nat→Bool} {ps:List Nat} {listed:Array Bool} {fr:List Av} {B:List Nat} {vs:List (Tmp×Av)} (h:Bun PC E m ops sd ps listed fr B vs) (hne:B≠[]) {j:Nat} (hj:j∈later ops ps listed):j∈B:=by
  obtain ⟨i,r,rfl⟩ : ∃ i r,B=i::r:=by
    match B,hne with
    | i::r,_=>exact ⟨i,r,rfl⟩
  refine Classical.byContradiction fun hn=>?_
  have hm:=h.lat i (by simp) j
  rw[mem_later]at hj
  obtain ⟨h1,h2,o,ho,h3⟩:=hj
  have:=hm (mem_later.2 ⟨by
    rw[off_iff]at h1 ⊢
    rw[setAll_at,if_neg (fun h=>hn (List.mem_of_mem_erase h.1))]
    exact h1,h2,o,ho,fun e he hb=>(h3 e he hb).imp getD_on id⟩)
  exact hn (by rw[this];simp)
theorem ready_later {ops:Array Oper} {ps:List Nat} {l:Array Bool} {j:Nat} (h:j∈Region.ready .any ops l) (hp:j ∉ ps):j∈later ops ps l:=by
  rw[mem_ready]at h
  obtain ⟨h1,o,ho,h2⟩:=h
  exact mem_later.2 ⟨h1,hp,o,ho,fun e he hb=>.inl (h2 e he hb)⟩
theorem bunch_wp {PC:List (PCon con)} {E:Env P} (hE:E.con=con) {ops:Array Oper} {sd ok:Nat→Bool} {ps:List Nat} {Q:St→Prop} {m:Mem} : ∀ (k:Nat) (B:List Nat) (vs:List (Tmp×Av)) (listed:Array Bool) (fr:List Av) (n:Nat),B.length=k→Bun PC E m ops sd ps listed fr B vs →
    (runAny E ops sd ok ps n (setAll listed B) ⟨putAll fr vs,m⟩).wp Q→(runAny E ops sd ok ps (n+k) listed ⟨fr,m⟩).wp Q:=by
  intro k
  induction k with
  | zero =>
    intro B vs listed fr n hk hB h
    obtain rfl:B=[]:=List.length_eq_zero_iff.1 hk
    obtain rfl:vs=[]:=List.length_eq_zero_iff.1 (by rw[hB.len];rfl)
    exact h
  | succ k ih =>
    intro B vs listed fr n hk hB h
    have hne:B≠[]:=fun e=>by rw[e]at hk;simp at hk
    have sub : ∀ j,j∈Region.ready .any ops listed→j ∉ ps→j∈B:=fun j h1 h2=>later_sub hB hne (ready_later h1 h2)
    show (runAny E ops sd ok ps (n+k+1) listed ⟨fr,m⟩).wp Q
    unfold runAny
    have hf:((Region.ready .any ops listed).find? fun i=>sd i && !ps.contains i&&Region.free .any ops listed i)=none:=by
      rw[List.find?_eq_none]
      intro j hj
      by_cases hp:j∈ps
      · simp[hp]
      · rw[(hB.rdy j (sub j hj hp)).2.2];simp
    rw[hf]
    simp only[]
    have hmemR : ∀ j,j∈((Region.ready .any ops listed).filter fun i => !ps.contains i)↔j∈B:=fun j=>by
      rw[List.mem_filter]
      constructor
      · rintro ⟨h1,h2⟩
        exact sub j h1 (by simpa using h2)
      · intro hj
        have:=hB.rdy j hj
        exact ⟨this.1,by simpa using this.2.1⟩
    split
    · rename_i he
      exfalso
      obtain ⟨i,r,rfl⟩ : ∃ i r,B=i::r:=by
        match B,hne with
        | i::r,_=>exact ⟨i,r,rfl⟩
      have:=(hmemR i).2 (by simp)
      rw[he]at this
      cases this
    · rename_i r rs he
      have hl:((later ops ps listed).all fun j=>(r::rs).contains j)=true:=List.all_eq_true.2 fun j hj=>by
        have:=(hmemR j).2 (later_sub hB hne hj)
        rw[he]at this
        simpa using this
      rw[hl]
      refine branch_all (by simp) fun i hi=>?_
      have hiB:i∈B:=(hmemR i).1 (by rw[he];exact hi)
      obtain ⟨l1,l2,e1,hn1⟩:=List.append_of_mem hiB |> fun ⟨a,b,e⟩=>(⟨a,b,e,by
        have:=hB.nd
        rw[e,List.nodup_append]at this
        exact fun hm=>this.2.2 i hm i (by simp) rfl⟩ : ∃ l1 l2,B=l1++i::l2∧i ∉ l1)
      have hlen:=hB.len
      have hk1:l1.length<vs.length:=by rw[hlen,e1];simp
      have hB1:B[l1.length]?=some i:=by rw[e1];simp
      have hv1:vs[l1.length]?=some vs[l1.length]:=List.getElem?_eq_getElem hk1
      obtain ⟨o,p,hp,hval⟩:=hB.val _ _ _ hB1 hv1
      generalize hvv:vs[l1.length]=v at hval hv1
      obtain ⟨d,av⟩:=v
      have evs:vs=vs.take l1.length++(d,av)::vs.drop (l1.length+1):=by
        have:=List.take_append_drop l1.length vs
        rw[List.drop_eq_getElem_cons hk1,hvv]at this
        exact this.symm
      simp only[hval.at_]
      obtain ⟨hg,hcall⟩:=valP_wp (E:=E) (m:=m) (K:=fun e=>(match e.wr.all fun i => !ok i with
        | true=>runAny E ops sd ok ps (n+k) (listed.setIfInBounds i true) ⟨putFr fr o.dst e.av,e.mem⟩
        | false=>.fail).wp Q) hE hval.val hp (by
        simp only[List.all_nil]
        rw[hval.dst]
        have hBe:B.erase i=l1++l2:=by
          rw[e1,List.erase_append_right _ hn1,List.erase_cons_head]
        have hnd:=hB.nd
        rw[e1]at hnd
        have hnd2:(l1++l2).Nodup:=hnd.sublist (List.Sublist.append_left (List.sublist_cons_self _ _) _)
        have hni2:i ∉ l1++l2:=fun hm=>by
          rw[List.nodup_append,List.nodup_cons]at hnd
          rcases List.mem_append.1 hm with hm|hm
          · exact hn1 hm
          · exact hnd.2.1.1 hm
        have hndd:=hB.ndd
        rw[evs,List.map_append,List.map_cons]at hndd
        have hdn : ∀ q∈vs.take l1.length++vs.drop (l1.length+1),q.1≠d:=fun q hq e=>by
          rw[List.nodup_append,List.nodup_cons]at hndd
          rcases List.mem_append.1 hq with hq|hq
          · exact hndd.2.2 _ (List.mem_map.2 ⟨q,hq,rfl⟩) d (by simp) e
          · exact hndd.2.1.1 (List.mem_map.2 ⟨q,hq,e⟩)
        have hvsub : ∀ q,q∈vs.take l1.length++vs.drop (l1.length+1)→q∈vs:=fun q hq=>by
          rcases List.mem_append.1 hq with hq|hq
          · exact List.mem_of_mem_take hq
          · exact List.mem_of_mem_drop hq
        have hdv:(d,av)∈vs:=by rw[evs];simp
        have hset : ∀ xs ys,(∀ z,z∈ys↔z=i∨z∈xs)→setAll (listed.setIfInBounds i true) xs=setAll listed ys:=fun xs ys=>setAll_swap
        refine ih (l1++l2) (vs.take l1.length++vs.drop (l1.length+1)) _ _ n (by
          rw[e1]at hk
          simp only[List.length_append,List.length_cons]at hk ⊢
          omega) ⟨?_,hnd2,?_,fun j hj=>?_,fun q j v hq hv=>?_,fun j hj o' ho' q hq=>?_,fun j hj z hz=>?_⟩ ?_
        · rw[List.length_append,List.length_take,List.length_drop,hlen,e1]
          simp only[List.length_append,List.length_cons]
          omega
        · rw[List.map_append]
          exact hndd.sublist (List.Sublist.append_left (List.sublist_cons_self _ _) _)
        · have hjB:j∈B:=List.mem_of_mem_erase (hBe ▸ hj)
          obtain ⟨h1,h2,h3⟩:=hB.rdy j hjB
          refine ⟨?_,h2,h3⟩
          rw[mem_ready]at h1 ⊢
          obtain ⟨h4,o',ho',h5⟩:=h1
          refine ⟨?_,o',ho',fun e he hb=>getD_on (xs:=[i]) (h5 e he hb)⟩
          rw[off_iff]at h4 ⊢
          exact set_off.2 ⟨h4,fun e=>hni2 (e ▸ hj)⟩
        · have key : ∃ q':Nat,B[q']?=some j∧vs[q']?=some v:=by
            have hl2:(vs.take l1.length).length=l1.length:=by rw[List.length_take];omega
            rcases Nat.lt_or_ge q l1.length with hlt|hge
            · refine ⟨q,?_,?_⟩
              · rw[List.getElem?_append_left hlt]at hq
                rw[e1,List.getElem?_append_left hlt];exact hq
              · rw[List.getElem?_append_left (by omega),List.getElem?_take,if_pos hlt]at hv
                exact hv
            · refine ⟨q+1,?_,?_⟩
              · rw[List.getElem?_append_right hge]at hq
                rw[e1,List.getElem?_append_right (by omega),show q+1-l1.length=(q-l1.length)+1 by omega,List.getElem?_cons_succ];exact hq
              · rw[List.getElem?_append_right (by omega),hl2,List.getElem?_drop]at hv
                rw[show q+1=l1.length+1+(q-l1.length) by omega];exact hv
          obtain ⟨q',k1,k2⟩:=key
          obtain ⟨o',p',hp',hv'⟩:=hB.val _ _ _ k1 k2
          refine ⟨o',p',hp',hv'.at_,hv'.dst,?_⟩
          have:readsB o' d=false:=hB.rd j (List.mem_of_getElem? k1) o' hv'.at_ _ hdv
          exact (valP_set this).trans hv'.val
        · exact hB.rd j (List.mem_of_mem_erase (hBe ▸ hj)) o' ho' q (hvsub q hq)
        · refine hB.lat j (List.mem_of_mem_erase (hBe ▸ hj)) z ?_
          have e2:=hset ((l1++l2).erase j) (B.erase j) fun z=>by
            have hjB:j∈B:=List.mem_of_mem_erase (hBe ▸ hj)
            have hji:j≠i:=fun e=>hni2 (e ▸ hj)
            rw[hB.nd.mem_erase_iff,hnd2.mem_erase_iff,e1]
            simp only[List.mem_append,List.mem_cons]
            constructor
            · rintro ⟨h1,h2|h2|h2⟩
              · exact .inr ⟨h1,.inl h2⟩
              · exact .inl h2
              · exact .inr ⟨h1,.inr h2⟩
            · rintro (h1|⟨h1,h2|h2⟩)
              · exact ⟨h1 ▸ (Ne.symm hji),.inr (.inl h1)⟩
              · exact ⟨h1,.inl h2⟩
              · exact ⟨h1,.inr (.inr h2)⟩
          rw[←e2];exact hz
        · have e3:=hset (l1++l2) B fun z=>by
            rw[e1]
            simp only[List.mem_append,List.mem_cons]
            constructor
            · rintro (h1|h1|h1)
              · exact .inr (.inl h1)
              · exact .inl h1
              · exact .inr (.inr h1)
            · rintro (h1|h1|h1)
              · exact .inr (.inl h1)
              · exact .inl h1
              · exact .inr (.inr h1)
          rw[e3]
          rw[evs,putAll_at _ _ _ _ _ fun q hq=>hdn q (List.mem_append_left _ hq)]at h
          exact h)
      unfold guarded
      rw[hg]
      simp only[]
      rw[T.wp_bind]
      exact hcall
end
section
variable {P:Program} {con:List (Con P)}
theorem bVals_spec {PC:List (PCon con)} {E:Env P} {m:Mem} {ops:Array Oper} {fr:List Av} : ∀ (B:List Nat) {p:Prop} {vs:List (Tmp×Av)},bVals PC E m ops fr B=some (p,vs)→p →
    vs.map (·.1)=B.map (dstOf ops) ∧ ∀ (k i:Nat) (v:Tmp×Av),B[k]?=some i→vs[k]?=some v → ∃ o p,p∧Val PC E m ops fr i v.1 p v.2 o
  | [],p,vs,h,hp=>by cases h;exact ⟨rfl,fun k i v h=>by simp at h⟩
  | i::r,p,vs,h,hp=>by
    unfold bVals at h
    split at h
    · rename_i o ho
      split at h
      · rename_i d q av q' l hd hc hr
        cases h
        obtain ⟨i1,i2⟩:=bVals_spec r hr hp.2
        refine ⟨by simp[i1,dstOf,ho,hd],fun k j v hk hv=>?_⟩
        rcases k with _|k
        · cases hk;cases hv
          exact ⟨o,q,hp.1,ho,hd,hc⟩
        · exact i2 k j v (by simpa using hk) (by simpa using hv)
      · cases h
    · cases h
def bunchQ (PC:List (PCon con)) (E:Env P) (m:Mem) (ops:Array Oper) (sd:Nat→Bool) (ps:List Nat) (listed:Array Bool) (fr:List Av) (n:Nat) (B:List Nat):Option (Prop×List (Tmp×Av)):=
  match decide (2≤B.length)&&decide (B.length≤n)&&bOk ops sd ps listed B with
  | true=>bVals PC E m ops fr B
  | false=>none
theorem bun_of {PC:List (PCon con)} {E:Env P} {m:Mem} {ops:Array Oper} {sd:Nat→Bool} {ps:List Nat} {listed:Array Bool} {fr:List Av} {n:Nat} {B:List Nat} {p:Prop} {vs:List (Tmp×Av)} (h:bunchQ PC E m ops sd ps listed fr n B=some (p,vs)) (hp:p)
    (hr : ∀ i∈B,i∈Region.ready .any ops listed∧i ∉ ps):B.length≤n∧Bun PC E m ops sd ps listed fr B vs:=by
  unfold bunchQ at h
  split at h
  · rename_i hb
    simp only[Bool.and_eq_true,decide_eq_true_eq]at hb
    obtain ⟨⟨_,hn⟩,hb⟩:=hb
    unfold bOk at hb
    simp only[Bool.and_eq_true,List.all_eq_true,decide_eq_true_eq,Bool.not_eq_true']at hb
    obtain ⟨⟨h1,h2⟩,h3⟩:=hb
    obtain ⟨e1,e2⟩:=bVals_spec B h hp
    refine ⟨hn,?_,nodB_ok h1,?_,fun i hi=>⟨(hr i hi).1,(hr i hi).2,(h3 i hi).1.1⟩,e2,fun i hi o ho v hv=>?_,fun i hi j hj=>(h3 i hi).2 j hj⟩
    · have:=congrArg List.length e1
      simpa using this
    · rw[e1];exact nodB_ok h2
    · have hm:v.1∈B.map (dstOf ops):=e1 ▸ List.mem_map.2 ⟨v,hv,rfl⟩
      obtain ⟨j,hj,ej⟩:=List.mem_map.1 hm
      have:=(h3 j hj).1.2 i hi
      rw[ho]at this
      rw[←ej]
      simpa using this
  · cases h
theorem guarded_mono {α:Type} {sure:Bool} {ops:Array Oper} {o:Oper} {st:St} {yes no yes' no':St→T α} {Q:α→Prop} (hy : ∀ st,(yes st).wp Q→(yes' st).wp Q) (hn : ∀ st,(no st).wp Q→(no' st).wp Q)
    (h:(guarded sure ops o st yes no).wp Q):(guarded sure ops o st yes' no').wp Q:=by
  have hb : ∀ (b want:Bool) (x y x' y':T α),(x.wp Q→x'.wp Q)→(y.wp Q→y'.wp Q)→(bsel b want x y).wp Q→(bsel b want x' y').wp Q:=fun b want x y x' y' h1 h2 h=>by
    cases b <;> cases want <;> first|exact h1 h|exact h2 h
  unfold guarded at h ⊢
  split at h
  · exact hy _ h
  · split at h
    · split at h
      · exact hb _ _ _ _ _ _ (hy _) (hn _) h
      · split at h
        · exact ⟨h.1,hy _ h.2⟩
        · exact ⟨fun e=>hb _ _ _ _ _ _ (hy _) (hn _) (h.1 e),fun e=>hb _ _ _ _ _ _ (hy _) (hn _) (h.2 e)⟩
      · exact hn _ h
      · exact h
    · exact h
def runAnyB (PC:List (PCon con)) (E:Env P) (ops:Array Oper) (sd ok:Nat→Bool) (ps:List Nat):Nat→Nat→Array Bool→St→T St
  | 0,_,_,_=>.fail
  | _+1,0,listed,st=>match Region.ready .any ops listed with
    | []=>.ret st
    | _=>.fail
  | k+1,n+1,listed,st=>fSt st fun st =>
    match (Region.ready .any ops listed).find? fun i=>sd i && !ps.contains i&&Region.free .any ops listed i with
    | some i=>match ops[i]? with
      | none=>.fail
      | some o=>guarded (E.sure 0) ops o st (fun st=>(aS P E.zero ok st.mem st.fr o).bind fun av=>runAnyB PC E ops sd ok ps k n (listed.setIfInBounds i true) ⟨putFr st.fr o.dst av,st.mem⟩)
          (fun st=>runAnyB PC E ops sd ok ps k n (listed.setIfInBounds i true) ⟨putFr st.fr o.dst .nope,st.mem⟩)
    | none=>match (Region.ready .any ops listed).filter fun i => !ps.contains i with
      | []=>match Region.ready .any ops listed with
        | []=>.ret st
        | i::_=>match (later ops ps listed).all (waits ops i),ops[i]? with
          | true,some o=>match o.op with
            | .alloc t=>optT (E.zero.find? fun z=>z.ty==t) fun z=>runAnyB PC E ops sd ok ps k n (listed.setIfInBounds i true) ⟨putFr st.fr o.dst (.one (.p st.mem.length 0)),st.mem++[(t,z.cs)]⟩
            | _=>.fail
          | _,_=>.fail
      | r::rs=>match bunchQ PC E st.mem ops sd ps listed st.fr (n+1) (r::rs) with
        | some (p,vs)=>.need p (runAnyB PC E ops sd ok ps k (n+1-(r::rs).length) (setAll listed (r::rs)) ⟨putAll st.fr vs,st.mem⟩)
        | none=>match (later ops ps listed).all fun j=>(r::rs).contains j with
          | false=>.fail
          | true=>branch (fun i=>match ops[i]? with
            | none=>.fail
            | some o=>guarded (E.sure 0) ops o st
              (fun st=>(aE E st.fr st.mem o).bind fun e=>match e.wr.all fun i => !ok i with
                | true=>runAnyB PC E ops sd ok ps k n (listed.setIfInBounds i true) ⟨putFr st.fr o.dst e.av,e.mem⟩
                | false=>.fail)
              (fun st=>runAnyB PC E ops sd ok ps k n (listed.setIfInBounds i true) ⟨putFr st.fr o.dst .nope,st.mem⟩)) (r::rs)
theorem runAnyB_wp {PC:List (PCon con)} {E:Env P} (hE:E.con=con) {ops:Array Oper} {sd ok:Nat→Bool} {ps:List Nat} {Q:St→Prop} : ∀ (k n:Nat) (listed:Array Bool) (st:St),(runAnyB PC E ops sd ok ps k n listed st).wp Q→(runAny E ops sd ok ps n listed st).wp Q:=by
  intro k
  induction k with
  | zero=>intro n listed st h;unfold runAnyB at h;exact h.elim
  | succ k ih =>
    intro n listed st h
    cases n with
    | zero=>unfold runAnyB at h;unfold runAny;exact h
    | succ n =>
      unfold runAnyB at h
      rw[fSt_eq]at h
      have hfull:(runAny E ops sd ok ps (n+1) listed st).wp Q↔(runAny E ops sd ok ps (n+1) listed st).wp Q:=Iff.rfl
      conv=>unfold runAny
      split at h
      · rename_i i hi
        rw[hi]
        simp only[]
        split at h
        · exact h.elim
        · rename_i o ho
          rw[ho]
          simp only[]
          refine guarded_mono (fun st h=>?_) (fun st h=>ih _ _ _ h) h
          rw[T.wp_bind]at h ⊢
          exact T.wp_mono (fun av h=>ih _ _ _ h) h
      · rename_i hi
        rw[hi]
        simp only[]
        split at h
        · rename_i he
          rw[he]
          simp only[]
          split at h
          · rename_i hr
            rw[hr]
            exact h
          · rename_i i r hr
            rw[hr]
            simp only[]
            split at h
            · rename_i o hl ho
              rw[hl,ho]
              simp only[]
              split at h
              · rename_i t hop
                rw[hop]
                simp only[]
                obtain ⟨z,hz,h⟩:=optT_wp h
                rw[hz]
                exact ih _ _ _ h
              · exact h.elim
            · exact h.elim
        · rename_i r rs he
          rw[he]
          simp only[]
          split at h
          · rename_i p vs hb
            obtain ⟨hp,h⟩:=h
            have hmem : ∀ i∈r::rs,i∈Region.ready .any ops listed∧i ∉ ps:=fun i hm=>by
              rw[←he,List.mem_filter]at hm
              exact ⟨hm.1,by simpa using hm.2⟩
            obtain ⟨hn,hbun⟩:=bun_of hb hp hmem
            have:=bunch_wp (m:=st.mem) (ok:=ok) (Q:=Q) (E:=E) hE _ _ vs listed st.fr (n+1-(r::rs).length) rfl hbun (ih _ _ _ h)
            rw[Nat.sub_add_cancel hn]at this
            unfold runAny at this
            rw[hi]at this
            simp only[]at this
            rw[he]at this
            exact this
          · split at h
            · exact h.elim
            · rename_i hl
              rw[hl]
              refine branch_all (by simp) fun i hm=>?_
              have h:=branch_wp h i hm
              split at h
              · exact h.elim
              · rename_i o ho
                rw[ho]
                refine guarded_mono (fun st h=>?_) (fun st h=>ih _ _ _ h) h
                rw[T.wp_bind]at h ⊢
                refine T.wp_mono (fun e h=>?_) h
                split at h
                · rename_i hw
                  rw[hw]
                  exact ih _ _ _ h
                · exact h.elim
def runDrawB (PC:List (PCon con)) (E:Env P) (ops:Array Oper) (st:St):T St:=
  let W:=writes E ops.toList st.fr++(match ops.toList.any (reaches E) with
    | true=>rowsIn st.mem
    | false=>[])
  let ps:=(List.range ops.size).filter (early E ops st.fr.length)
  match Region.noSelect ops with
  | true=>runAnyB PC E ops (fun i=>match ops[i]? with|some o=>steady o.op && !loadsOf ops.toList st.fr W o|none=>false) (fun i=>decide (i<st.mem.length) && !W.contains i) ps (ops.size+1) ops.size (Array.replicate ops.size false) ⟨hide ops ps st.fr,st.mem⟩
  | false=>.fail
theorem runDrawB_wp {PC:List (PCon con)} {E:Env P} (hE:E.con=con) {ops:Array Oper} {st:St} {Q:St→Prop} (h:(runDrawB PC E ops st).wp Q):(runDraw E ops st).wp Q:=by
  unfold runDrawB at h
  unfold runDraw
  simp only[]at h ⊢
  split at h
  · rename_i hs
    rw[hs]
    exact runAnyB_wp hE _ _ _ _ h
  · exact h.elim
theorem bsel_mono {α:Type} {b want:Bool} {x y x' y':T α} {Q:α→Prop} (h1:x.wp Q→x'.wp Q) (h2:y.wp Q→y'.wp Q) (h:(bsel b want x y).wp Q):(bsel b want x' y').wp Q:=by
  cases b <;> cases want <;> first|exact h1 h|exact h2 h
end
def noFz:Nat→Nat→Option Ck:=fun _ _=>none
def subMem (I:List Nat) (m:Mem):Mem:=I.map fun i=>match m[i]? with
  | some e=>(e.1,e.2.map (reC (posOf I) noFz))
  | none=>(0,[])
def backI (I:List Nat) (n p:Nat):Option Nat:=match I[p]? with
  | some i=>some i
  | none=>some (n+(p-I.length))
def backMem (I:List Nat) (m m1:Mem):Mem:=((List.range m.length).map fun i=>match posOf I i with
    | some p=>(match m1[p]? with
      | some e=>(e.1,e.2.map (reC (backI I m.length) noFz))
      | none=>(0,[]))
    | none=>m.getD i (0,[]))++(m1.drop I.length).map fun e=>(e.1,e.2.map (reC (backI I m.length) noFz))
def inlRun {P:Program} (E:Env P) (L:Loops) (fn:Func) (K:Nat) (pos:List Nat) (args:List Av) (m:Mem):T (Av×Mem):=
  fAvs args fun args=>fMem m fun m=>fNats (wrOf pos args m) fun I=>match I.all (fun i=>decide (i<m.length))&&nodB I&&decide (I.length≤K) with
  | true=>fAvs (args.map (reA (posOf I) noFz)) fun args'=>fMem (subMem I m) fun m'=>(fnRun E L fn args' m').bind fun r=>fMem r.2 fun m1=>fAv (reA (backI I m.length) noFz r.1) fun av=>fMem (backMem I m m1) fun m2=>.ret (av,m2)
  | false=>.fail
theorem no_fz {w:World} {R':Nat→Prop} {σ σ':List Nat} {f:Nat→Option Nat} (i n:Nat):FzOk w R' σ σ' f noFz i n:=fun b cap c _ _ _ h=>by cases h
theorem inl_ok {P:Program} {E:Env P} {L:Loops} {f:FuncId} {fn:Func} (hm:P.follows .mixedOrders=true) (hf:P.funcs[f]?=some fn) (K:Nat) (hL : ∀ c,fn.body=some c→LoopsOk P K L c) (pos:List Nat):ConOk P f pos (inlRun E L fn K pos):=by
  intro w φ σ m args vs Q hmem hlen hargs hrun
  unfold inlRun at hrun
  simp only[fAvs_eq,fAv_eq,fMem_eq,fNats_eq]at hrun
  generalize hIe:wrOf pos args m=I at hrun ⊢
  split at hrun
  case h_2=>exact hrun.elim
  rename_i hI
  simp only[Bool.and_eq_true,decide_eq_true_eq]at hI
  obtain ⟨⟨hI1,hI2⟩,hI3⟩:=hI
  have hnd:=nodB_ok hI2
  have hml:m.length=σ.length:=hmem.len
  have hlt : ∀ i∈I,i<σ.length:=fun i hi=>by
    have:=of_decide_eq_true (List.all_eq_true.1 hI1 i hi)
    omega
  have get : ∀ i,i<σ.length → ∃ b,σ[i]?=some b∧σ.getD i 0=b:=fun i hi=>⟨σ[i],List.getElem?_eq_getElem hi,by simp[hi]⟩
  have inj : ∀ i j b,σ[i]?=some b→σ[j]?=some b→i=j:=fun i j b h1 h2=>by
    obtain ⟨l1,e1⟩:=List.getElem?_eq_some_iff.1 h1
    obtain ⟨l2,e2⟩:=List.getElem?_eq_some_iff.1 h2
    exact (List.getElem_inj hmem.nodup).1 (e1.trans e2.symm)
  generalize hs0:(I.map fun i=>σ.getD i 0)=σ0
  have hs0l:σ0.length=I.length:=by rw[←hs0,List.length_map]
  have at0 : ∀ (p i:Nat) b,I[p]?=some i→σ[i]?=some b→σ0[p]?=some b:=fun p i b h1 h2=>by
    rw[←hs0,List.getElem?_map,h1,Option.map_some]
    obtain ⟨b',h3,h4⟩:=get i (List.getElem?_eq_some_iff.1 h2).1
    rw[h4]
    rw[h2]at h3
    exact h3.symm
  have mem0 : ∀ b,b∈σ0 → ∃ i∈I,σ[i]?=some b:=fun b hb=>by
    rw[←hs0]at hb
    obtain ⟨i,hi,rfl⟩:=List.mem_map.1 hb
    obtain ⟨b,h1,h2⟩:=get i (hlt i hi)
    exact ⟨i,hi,by rw[h2];exact h1⟩
  have sub0 : ∀ b,b∈σ0→b∈σ:=fun b hb=>by
    obtain ⟨i,_,h⟩:=mem0 b hb
    exact List.mem_of_getElem? h
  have nd0:σ0.Nodup:=by
    rw[←hs0]
    unfold List.Nodup
    rw[List.pairwise_map]
    refine hnd.imp_of_mem fun {i j} hi hj hne e=>hne ?_
    obtain ⟨b,h1,h2⟩:=get i (hlt i hi)
    obtain ⟨b',h3,h4⟩:=get j (hlt j hj)
    rw[h2,h4]at e
    subst e
    exact inj i j b h1 h3
  have out0 : ∀ i b,σ[i]?=some b→i ∉ I→b ∉ σ0:=fun i b hb hn hm0=>by
    obtain ⟨j,hj,hb'⟩:=mem0 b hm0
    exact hn (inj i j b hb hb' ▸ hj)
  generalize hφe:φ++σ.filter (fun b => !decide (b∈σ0))=φ'
  have inφ : ∀ b,b∈φ'↔b∈φ∨(b∈σ∧b ∉ σ0):=fun b=>by
    rw[←hφe,List.mem_append,List.mem_filter]
    simp
  have hro : ∀ b,Ro w φ σ b→Ro w φ' σ0 b:=fun b hb=>⟨hb.1,fun h=>by
    rcases (inφ b).1 h with h1|h1
    · exact hb.2.1 h1
    · exact hb.2.2 h1.1,fun h=>hb.2.2 (sub0 b h)⟩
  have hf0 : ∀ i b j:Nat,σ[i]?=some b→posOf I i=some j→σ0[j]?=some b:=fun i b j hb hj=>at0 j i b (posOf_get hj) hb
  have hmem0:MemOk w φ' σ0 (subMem I m):=⟨by simp[subMem,hs0l],nd0,fun b hb=>by
      rcases (inφ b).1 hb with h1|h1
      · exact hmem.fo b h1
      · exact hmem.lt h1.1,hmem.gl.mono fun z hz=>⟨hro z hz,rfl⟩,fun j t cs b hj hb=>by
      unfold subMem at hj
      rw[List.getElem?_map]at hj
      cases hq:I[j]? with
      | none=>rw[hq]at hj;simp at hj
      | some i =>
        rw[hq]at hj
        simp only[Option.map_some,Option.some.injEq]at hj
        obtain ⟨b',h1,_⟩:=get i (hlt i (List.mem_of_getElem? hq))
        have hb':=at0 j i b' hq h1
        rw[hb]at hb'
        cases hb'
        cases hmi:m[i]? with
        | none =>
          have:=List.getElem?_eq_none_iff.1 hmi
          have:=hlt i (List.mem_of_getElem? hq)
          omega
        | some e =>
          obtain ⟨t0,cs0⟩:=e
          rw[hmi]at hj
          cases hj
          obtain ⟨us,h3,h4⟩:=hmem.blk i t0 cs0 b hmi h1
          exact ⟨us,h3,h4.re hro hf0 fun i n cap _=>no_fz i n⟩⟩
  rw[T.wp_bind]at hrun
  refine (fn_ok (E:=E) (L:=L) hm hf hL (by simp[subMem];exact hI3) hmem0 (by rw[List.length_map];exact hlen) (fun i a v ha hv=>by
    rw[List.getElem?_map]at ha
    cases hq:args[i]? with
    | none=>rw[hq]at ha;simp at ha
    | some a0 =>
      rw[hq]at ha
      simp only[Option.map_some,Option.some.injEq]at ha
      subst ha
      exact (hargs i a0 v hq hv).re hro hf0 fun i n cap _=>no_fz i n) hrun).mono fun e w' hr=>?_
  obtain ⟨v,av,m1,σ1,rfl,hQ,hext,hkeep,hav,hmem1⟩:=hr
  obtain ⟨τ,rfl,hτ⟩:=hext.pre
  have hm1:m1.length=I.length+τ.length:=by
    have:=hmem1.len
    rw[List.length_append,hs0l]at this
    exact this
  have hro1 : ∀ b,Ro w' φ' (σ0++τ) b→Ro w' φ (σ++τ) b:=fun b hb=>⟨hb.1,fun h=>hb.2.1 ((inφ b).2 (.inl h)),fun h=>by
    rcases List.mem_append.1 h with h1|h1
    · by_cases h2:b∈σ0
      · exact hb.2.2 (List.mem_append_left _ h2)
      · exact hb.2.1 ((inφ b).2 (.inr ⟨h1,h2⟩))
    · exact hb.2.2 (List.mem_append_right _ h1)⟩
  have hback : ∀ p b i:Nat,(σ0++τ)[p]?=some b→backI I m.length p=some i→(σ++τ)[i]?=some b:=fun p b i hb hi=>by
    unfold backI at hi
    split at hi
    · rename_i j hj
      have hji:j=i:=Option.some.inj hi
      subst hji
      have hjl:=hlt j (List.mem_of_getElem? hj)
      have hpl:=(List.getElem?_eq_some_iff.1 hj).1
      obtain ⟨b',h1,_⟩:=get j hjl
      have:=at0 p j b' hj h1
      rw[List.getElem?_append_left (by omega),this]at hb
      cases hb
      rw[List.getElem?_append_left hjl]
      exact h1
    · rename_i hj
      cases hi
      have hpl:=List.getElem?_eq_none_iff.1 hj
      rw[List.getElem?_append_right (by omega),hs0l]at hb
      rw[List.getElem?_append_right (by omega),show m.length+(p-I.length)-σ.length=p-I.length by omega]
      exact hb
  have hold : ∀ i b:Nat,σ[i]?=some b→i ∉ I→w'.heap[b]?=w.heap[b]?:=fun i b hb hi=>hkeep.block b (hmem.lt (List.mem_of_getElem? hb)) (out0 i b hb hi)
  refine ⟨v,_,_,σ++τ,rfl,hQ,⟨⟨τ,rfl,hτ⟩⟩,⟨hkeep.os,hkeep.tape,hkeep.output,hkeep.size,fun k hk hn=>hkeep.block k hk fun h=>hn (sub0 k h)⟩,fun i b hb hn=>hold i b hb hn,hav.re hro1 hback fun i n cap _=>no_fz i n,?_⟩
  refine ⟨by simp[backMem,hm1];omega,?_,fun b hb=>Nat.lt_of_lt_of_le (hmem.fo b hb) hkeep.size,hmem1.gl.mono fun z hz=>⟨hro1 z hz,rfl⟩,fun i t cs b hi hb=>?_⟩
  · rw[List.nodup_append]
    refine ⟨hmem.nodup,(List.nodup_append.1 hmem1.nodup).2.1,fun x hx y hy e=>?_⟩
    have h1:=hmem.lt hx
    have h2:=hτ y hy
    omega
  · unfold backMem at hi
    rcases Nat.lt_or_ge i m.length with hil|hil
    · rw[List.getElem?_append_left (by simpa using hil),List.getElem?_map,List.getElem?_range hil,Option.map_some]at hi
      rw[List.getElem?_append_left (by omega)]at hb
      split at hi
      · rename_i p hp
        have hIp:=posOf_get hp
        have hpl:=(List.getElem?_eq_some_iff.1 hIp).1
        have hb1:(σ0++τ)[p]?=some b:=by
          rw[List.getElem?_append_left (by omega)]
          exact at0 p i b hIp hb
        cases hm1p:m1[p]? with
        | none =>
          have:=List.getElem?_eq_none_iff.1 hm1p
          omega
        | some e =>
          obtain ⟨t0,cs0⟩:=e
          rw[hm1p]at hi
          cases hi
          obtain ⟨us,h3,h4⟩:=hmem1.blk p t0 cs0 b hm1p hb1
          exact ⟨us,h3,h4.re hro1 hback fun i n cap _=>no_fz i n⟩
      · rename_i hp
        have hni:=posOf_none hp
        have hmi:m[i]?=some (t,cs):=by
          rw[List.getElem?_eq_getElem hil]at *
          simpa [hil] using hi
        obtain ⟨us,h3,h4⟩:=hmem.blk i t cs b hmi hb
        refine ⟨us,(hold i b hb hni).trans h3,h4.mono (fun z hz=>⟨⟨Nat.lt_of_lt_of_le hz.1 hkeep.size,hz.2.1,fun h=>?_⟩,hkeep.block z hz.1 fun h=>hz.2.2 (sub0 z h)⟩) (fun j z hj=>by rw[List.getElem?_append_left (List.getElem?_eq_some_iff.1 hj).1];exact hj)⟩
        rcases List.mem_append.1 h with h1|h1
        · exact hz.2.2 h1
        · have:=hτ z h1
          have:=hz.1
          omega
    · rw[List.getElem?_append_right (by simpa using hil),List.getElem?_map,List.getElem?_drop]at hi
      rw[List.length_map,List.length_range]at hi
      rw[List.getElem?_append_right (by omega)]at hb
      cases hm1p:m1[I.length+(i-m.length)]? with
      | none=>rw[hm1p]at hi;simp at hi
      | some e =>
        obtain ⟨t0,cs0⟩:=e
        rw[hm1p]at hi
        cases hi
        have hb1:(σ0++τ)[I.length+(i-m.length)]?=some b:=by
          rw[List.getElem?_append_right (by omega),hs0l,show I.length+(i-m.length)-I.length=i-σ.length by omega]
          exact hb
        obtain ⟨us,h3,h4⟩:=hmem1.blk _ t0 cs0 b hm1p hb1
        exact ⟨us,h3,h4.re hro1 hback fun i n cap _=>no_fz i n⟩
structure Opt {P:Program} (con:List (Con P)):Type 1 where
  pc:List (PCon con)
  cs:List Tmp
  fc:Tmp→Option Bool
theorem swI_of {z:Int} {f:Nat→T Av} {K:Av→Prop} (h:(f z.toNat).wp K) : ∀ (k i:Nat),(i:Int)≤z→z≤(i+k:Nat)→(swI z f k i).wp K
  | 0,i,h1,h2=>by
    have:z.toNat=i:=by omega
    rw[this]at h;exact h
  | k+1,i,h1,h2=>by
    refine ⟨fun e=>?_,fun e=>?_⟩
    · have e:z=i:=by simpa using e
      have:z.toNat=i:=by omega
      rw[this]at h;exact h
    · have e:¬ z=i:=by simpa using e
      exact swI_of h k (i+1) (by omega) (by omega)
theorem index_T {P:Program} {t:TypeId} {x ix:Av} {K:Av→Prop} (h:(aIndex P t x ix).wp K):(aIndexT P t x ix).wp K:=by
  unfold aIndexT
  split
  · rename_i cs k z
    unfold aIndex at h
    simp only[]at h
    split at h
    · rename_i len e hu
      obtain ⟨n,hn,h1⟩:=optN_wp h
      obtain ⟨row,hrow,h2⟩:=optN_wp h1
      obtain ⟨hb,h3⟩:=h2
      rw[hn,hrow]
      exact ⟨hb,swI_of (f:=fun i=>optT (sub (i*n) n cs) fun m=>optT (mkOf row m) .ret) h3 _ _ (by omega) (by omega)⟩
    · exact h.elim
  · exact h
theorem indexAddr_T {P:Program} {m:Mem} {t:TypeId} {x ix:Av} {K:Av→Prop} (h:(aIndexAddr P m t x ix).wp K):(aIndexAddrT P m t x ix).wp K:=by
  unfold aIndexAddrT
  split
  · rename_i i off k z
    split
    · rename_i len e hu
      split
      · unfold aIndexAddr at h
        simp only[hu]at h
        obtain ⟨n,hn,h1⟩:=optN_wp h
        obtain ⟨hb,h3⟩:=h1
        rw[hn]
        refine ⟨hb,?_⟩
        split at h3
        · exact h3
        · exact swI_of (f:=fun j=>.ret (.one (.p i (off+j*n)))) h3 _ _ (by omega) (by omega)
      · exact h
    · rename_i hu
      unfold aIndexAddr at h
      simp only[]at h
      exact h
  · rename_i cs k z
    split
    · rename_i len e hu
      split
      · unfold aIndexAddr at h
        simp only[hu]at h
        obtain ⟨n,hn,h1⟩:=optN_wp h
        obtain ⟨hb,h3⟩:=h1
        rw[hn]
        exact ⟨hb,swI_of (f:=fun j=>optT (cut (j*n) cs) fun (_,r)=>.ret (.one (.pr r))) h3 _ _ (by omega) (by omega)⟩
      · exact h
    · rename_i hu
      unfold aIndexAddr at h
      simp only[]at h
      exact h
  · exact h
section
variable {P:Program} {con:List (Con P)}
def aEC (cs:List Tmp) (E:Env P) (fr:List Av) (m:Mem) (o:Oper):T Ef:=
  match o.op with
  | .index t x (.tmp k)=>match cs.contains k with
    | true=>(aIndex P t (operand fr x) (operand fr (.tmp k))).bind fun av=>.ret ⟨av,m,[]⟩
    | false=>aE E fr m o
  | .indexAddr t x (.tmp k)=>match cs.contains k with
    | true=>(aIndexAddr P m t (operand fr x) (operand fr (.tmp k))).bind fun av=>.ret ⟨av,m,[]⟩
    | false=>aE E fr m o
  | _=>aE E fr m o
theorem aEC_wp {cs:List Tmp} {E:Env P} {fr:List Av} {m:Mem} {o:Oper} {K:Ef→Prop} (h:(aEC cs E fr m o).wp K):(aE E fr m o).wp K:=by
  unfold aEC at h
  split at h
  · rename_i t x k hop
    split at h
    · rw[T.wp_bind]at h
      unfold aE
      simp only[hop]
      rw[T.wp_bind]
      unfold aS
      simp only[hop]
      exact index_T h
    · exact h
  · rename_i t x k hop
    split at h
    · rw[T.wp_bind]at h
      unfold aE
      simp only[hop]
      rw[T.wp_bind]
      unfold aS
      simp only[hop]
      exact indexAddr_T h
    · exact h
  · exact h
def runOpsC (cs:List Tmp) (E:Env P) (ops:Array Oper):List Oper→St→T St
  | [],st=>.ret st
  | o::r,st=>fSt st fun st=>guarded (E.sure 0) ops o st (fun st=>(aEC cs E st.fr st.mem o).bind fun e=>runOpsC cs E ops r ⟨putFr st.fr o.dst e.av,e.mem⟩) (fun st=>runOpsC cs E ops r ⟨putFr st.fr o.dst .nope,st.mem⟩)
theorem runOpsC_wp {cs:List Tmp} {E:Env P} {ops:Array Oper} {Q:St→Prop} : ∀ (l:List Oper) (st:St),(runOpsC cs E ops l st).wp Q→(runOps E ops l st).wp Q
  | [],_,h=>h
  | o::r,st,h=>by
    rw[runOpsC,fSt_eq]at h
    rw[runOps]
    refine guarded_mono (fun st h=>?_) (fun st h=>runOpsC_wp r _ h) h
    rw[T.wp_bind]at h ⊢
    exact aEC_wp (T.wp_mono (fun e h=>runOpsC_wp r _ h) h)
def codeC (O:Opt con) (E:Env P) (L:Loops):Code→St→T (Exit×St)
  | .skip,st=>.ret (.normal,st)
  | .label _,st=>.ret (.normal,st)
  | .region id ops false,st=>fSt st fun st=>(frzL E.base (E.frz id) st).bind fun st=>(runOpsC O.cs (E.sel id) ops ops.toList st).bind fun st=>.ret (.normal,st)
  | .region id ops true,st=>fSt st fun st=>(frzL E.base (E.frz id) st).bind fun st=>(runDrawB O.pc (E.sel id) ops st).bind fun st=>.ret (.normal,st)
  | .seq x y,st=>(codeC O E L x st).bind fun r=>match r.1 with
    | .normal=>codeC O E L y r.2
    | e=>.ret (e,r.2)
  | .cond (.tmp t) x y,st=>match st.fr[t]? with
    | some (.one (.kb b))=>bsel b true (codeC O E L x st) (codeC O E L y st)
    | some (.one (.v (.bool b)))=>match O.fc t with
      | some true=>.need (b=true) (codeC O E L x (know st t true))
      | some false=>.need (b=false) (codeC O E L y (know st t false))
      | none=>.ite b (codeC O E L x (know st t true)) (codeC O E L y (know st t false))
    | _=>.fail
  | .cond (.const (.bool b)) x y,st=>bsel b true (codeC O E L x st) (codeC O E L y st)
  | .block id c,st=>(codeC O E L c st).bind fun r=>.ret (exitBlock id r.1,r.2)
  | .loop c,st=>match L (Code.first c) with
    | some run=>run st
    | none=>.fail
  | .exit id,st=>.ret (.exit id,st)
  | .ret,st=>.ret (.ret,st)
  | _,_=>.fail
theorem codeC_wp {O:Opt con} {E:Env P} (hE:E.con=con) {L:Loops} : ∀ (c:Code) (st:St) {Q:Exit×St→Prop},(codeC O E L c st).wp Q→(code E L c st).wp Q:=by
  intro c
  induction c with
  | skip=>intro st Q h;exact h
  | label _=>intro st Q h;exact h
  | region id ops b =>
    intro st Q h
    cases b with
    | false =>
      rw[codeC,fSt_eq,T.wp_bind]at h
      rw[code,T.wp_bind]
      refine T.wp_mono (fun st h=>?_) h
      rw[T.wp_bind]at h ⊢
      exact runOpsC_wp _ _ h
    | true =>
      rw[codeC,fSt_eq,T.wp_bind]at h
      rw[code,T.wp_bind]
      refine T.wp_mono (fun st h=>?_) h
      rw[T.wp_bind]at h ⊢
      exact runDrawB_wp (E:=E.sel id) hE h
  | seq x y ihx ihy =>
    intro st Q h
    rw[codeC,T.wp_bind]at h
    rw[code,T.wp_bind]
    refine T.wp_mono (fun r h=>?_) (ihx st h)
    obtain ⟨e,st'⟩:=r
    cases e with
    | normal=>exact ihy _ h
    | _=>exact h
  | cond o x y ihx ihy =>
    intro st Q h
    cases o with
    | tmp t =>
      rw[codeC]at h
      rw[code]
      split at h
      · rename_i hx
        rw[hx]
        exact bsel_mono (ihx st) (ihy st) h
      · rename_i b hx
        rw[hx]
        split at h
        · obtain ⟨hb,h⟩:=h
          exact ⟨fun _=>ihx _ h,fun e=>Bool.noConfusion (e.symm.trans hb)⟩
        · obtain ⟨hb,h⟩:=h
          exact ⟨fun e=>Bool.noConfusion (e.symm.trans hb),fun _=>ihy _ h⟩
        · exact ⟨fun e=>ihx _ (h.1 e),fun e=>ihy _ (h.2 e)⟩
      · exact h.elim
    | const v =>
      cases v with
      | bool b =>
        rw[codeC]at h
        rw[code]
        exact bsel_mono (ihx st) (ihy st) h
      | _=>exact h.elim
    | global _=>exact h.elim
    | func _=>exact h.elim
  | block id c ih =>
    intro st Q h
    rw[codeC,T.wp_bind]at h
    rw[code,T.wp_bind]
    exact ih st h
  | _=>intro st Q h;exact h
def fcs (l:List (Tmp×Bool)):Tmp→Option Bool:=fun k=>match l.find? fun p=>p.1==k with
  | some p=>some p.2
  | none=>none
def fnRunC (O:Opt con) (E:Env P) (L:Loops) (fn:Func) (args:List Av) (m:Mem):T (Av×Mem):=
  match fn.body with
  | some c=>(codeC O (E.at_ m.length) L c ⟨args++List.replicate (fn.ntmps-args.length) .nope,m⟩).bind fun r=>match r.1 with
    | .ret|.normal=>fSt r.2 fun st=>finRun P m.length fn.results.toList st
    | _=>.fail
  | none=>.fail
theorem fnRunC_wp {O:Opt con} {E:Env P} (hE:E.con=con) {L:Loops} {fn:Func} {args:List Av} {m:Mem} {Q:Av×Mem→Prop} (h:(fnRunC O E L fn args m).wp Q):(fnRun E L fn args m).wp Q:=by
  unfold fnRunC at h
  unfold fnRun
  cases hb:fn.body with
  | none=>rw[hb]at h;exact h.elim
  | some c =>
    rw[hb]at h
    simp only[fSt_eq]at h ⊢
    rw[T.wp_bind]at h ⊢
    exact codeC_wp (E:=E.at_ m.length) hE c _ h
def fnPC (O:Opt con) (E:Env P) (L:Loops) (fn:Func) (args:List Av):T Av:=
  (fnRunC O E L fn args []).bind fun r=>match noA r.1 with
    | true=>.ret (nA r.1)
    | false=>.fail
theorem fnPC_wp {O:Opt con} {E:Env P} (hE:E.con=con) {L:Loops} {fn:Func} {args:List Av} {Q:Av→Prop} (h:(fnPC O E L fn args).wp Q):(fnP E L fn args).wp Q:=by
  unfold fnPC at h
  unfold fnP
  rw[T.wp_bind]at h ⊢
  exact fnRunC_wp hE h
def inlRunC (O:Opt con) (E:Env P) (L:Loops) (fn:Func) (K:Nat) (pos:List Nat) (args:List Av) (m:Mem):T (Av×Mem):=
  fAvs args fun args=>fMem m fun m=>fNats (wrOf pos args m) fun I=>match I.all (fun i=>decide (i<m.length))&&nodB I&&decide (I.length≤K) with
  | true=>fAvs (args.map (reA (posOf I) noFz)) fun args'=>fMem (subMem I m) fun m'=>(fnRunC O E L fn args' m').bind fun r=>fMem r.2 fun m1=>fAv (reA (backI I m.length) noFz r.1) fun av=>fMem (backMem I m m1) fun m2=>.ret (av,m2)
  | false=>.fail
theorem inlC_ok {O:Opt con} {E:Env P} (hE:E.con=con) {L:Loops} {f:FuncId} {fn:Func} (hm:P.follows .mixedOrders=true) (hf:P.funcs[f]?=some fn) (K:Nat) (hL : ∀ c,fn.body=some c→LoopsOk P K L c) (pos:List Nat):ConOk P f pos (inlRunC O E L fn K pos):=by
  refine con_weaken (inl_ok (E:=E) (L:=L) hm hf K hL pos) fun args m Q h=>?_
  unfold inlRunC at h
  unfold inlRun
  simp only[fAvs_eq,fAv_eq,fMem_eq,fNats_eq]at h ⊢
  split at h
  · rename_i hI
    try rw[hI]
    simp only[T.wp_bind]at h ⊢
    refine T.wp_mono (fun r hr=>?_) (fnRunC_wp hE h)
    exact ⟨_,hr,fun _ _ _ _ h=>h⟩
  · exact h.elim
theorem fnPC_of {O:Opt con} {E:Env P} (hE:E.con=con) {L:Loops} {fn:Func} {args:List Av} {Q:Av→Prop} {t:T Av} (e:fnPC O E L fn args=t) (h:t.wp Q):(fnP E L fn args).wp Q:=
  fnPC_wp hE (by rw[e];exact h)
theorem val_conC {O:Opt con} {E:Env P} (hE:E.con=con) {L:Loops} {f:FuncId} {fn:Func} (hm:P.follows .mixedOrders=true) (hf:P.funcs[f]?=some fn) (hL : ∀ c,fn.body=some c→LoopsOk P 0 L c) (ts:List (Bool×Cd)) (pre:Els ts→Prop) (F:Els ts→Av)
    (t:Els ts→T Av) (e : ∀ x,fnPC O E L fn (encs ts x)=t x) (h : ∀ x,pre x→(t x).wp (· = F x)):ConOk P f [] (pureRun' ts fun x=>.need (pre x) (.ret (F x))):=
  val_con (E:=E) (L:=L) hm hf hL ts pre F fun x hx=>fnPC_of hE (e x) (h x hx)
end
def zE:(c:Cd)→El c
  | .int _=>(0:Int)
  | .bool=>false
  | .str=>ByteArray.mk #[]
  | .words=>⟨0,Pq.bp_pos 32⟩
  | .unit=>()
  | .pair a b=>(zE a,zE b)
  | .sl _=>[]
  | .ptr c=>zE c
  | .nls=>()
def zU:Cd→List Value
  | .int k=>[.int k 0]
  | .bool=>[.bool false]
  | .str=>[.string (ByteArray.mk #[])]
  | .words=>Pq.am 32 0
  | .unit=>[]
  | .pair a b=>zU a++zU b
  | .sl _=>[.slice none 0 0]
  | .ptr _=>[]
  | .nls=>[.slice none 0 0]
def noPt:Cd→Bool
  | .ptr _=>false
  | .pair a b=>noPt a&&noPt b
  | _=>true
theorem z_is (w:World) (R:Nat→Prop) (σ:List Nat) : ∀ c:Cd,noPt c=true→Is w R σ (ck c (zE c)) (zU c)
  | .int _,_=>.v rfl .nil
  | .bool,_=>.v rfl .nil
  | .str,_=>.v rfl .nil
  | .words,_=>by
    have:Is w R σ [.w ⟨0,Pq.bp_pos 32⟩] (Pq.am 32 0++[]):=.w .nil
    rwa [List.append_nil]at this
  | .unit,_=>.nil
  | .pair a b,h=>by
    rw[noPt,Bool.and_eq_true]at h
    exact (z_is w R σ a h.1).app (z_is w R σ b h.2)
  | .sl _,_=>.dn .nil
  | .ptr _,h=>by cases h
  | .nls,_=>.v rfl .nil
def zOf {P:Program} (ty:TypeId) (c:Cd) (hn:noPt c=true) (h:(match P.info? ty with|some i=>i.zero.map (·.cells)|none=>none)=some (zU c).toArray):Zero P:=⟨ty,ck c (zE c),zU c,h,fun w R σ=>z_is w R σ c hn⟩
def zU0:List Cd→List Value
  | []=>[]
  | c::r=>zU c++zU0 r
def zC0:List Cd→List Ck
  | []=>[]
  | .sl _::r=>.v (.slice none 0 0)::zC0 r
  | c::r=>ck c (zE c)++zC0 r
theorem zC_is (w:World) (R:Nat→Prop) (σ:List Nat) : ∀ l:List Cd,l.all noPt=true→Is w R σ (zC0 l) (zU0 l)
  | [],_=>.nil
  | .sl _::r,h=>.v rfl (zC_is w R σ r (by simpa [noPt] using h))
  | .int k::r,h=>(z_is w R σ (.int k) rfl).app (zC_is w R σ r (by simpa [noPt] using h))
  | .bool::r,h=>(z_is w R σ .bool rfl).app (zC_is w R σ r (by simpa [noPt] using h))
  | .str::r,h=>(z_is w R σ .str rfl).app (zC_is w R σ r (by simpa [noPt] using h))
  | .words::r,h=>(z_is w R σ .words rfl).app (zC_is w R σ r (by simpa [noPt] using h))
  | .unit::r,h=>(z_is w R σ .unit rfl).app (zC_is w R σ r (by simpa [noPt] using h))
  | .nls::r,h=>(z_is w R σ .nls rfl).app (zC_is w R σ r (by simpa [noPt] using h))
  | .pair a b::r,h=>by
    rw[List.all_cons,Bool.and_eq_true]at h
    exact (z_is w R σ (.pair a b) h.1).app (zC_is w R σ r h.2)
  | .ptr _::r,h=>by simp[noPt]at h
def zRow {P:Program} (ty:TypeId) (l:List Cd) (hn:l.all noPt=true) (h:(match P.info? ty with|some i=>i.zero.map (·.cells)|none=>none)=some (zU0 l).toArray):Zero P:=⟨ty,zC0 l,zU0 l,h,fun w R σ=>zC_is w R σ l hn⟩
end Ax
