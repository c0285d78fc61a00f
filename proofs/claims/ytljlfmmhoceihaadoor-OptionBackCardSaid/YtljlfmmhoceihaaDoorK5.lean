import Derived.Test.YtljlfmmhoceihaaDoorK4
/-
option.Parse: rows are lent to it.
-/
set_option linter.unusedSimpArgs false
set_option linter.unusedVariables false
namespace Go.Proofs.YtljlfmmhoceihaaDoor
open Go.RowKit Ax
def pTreeL (inv : Prop) (F : StO) : T Av := .need inv (.ite F.2.2.2
  (.ite (List.isEmpty F.2.2.1) (.need ((True ∧ True ∧ True ∧ True) ∧ True) (.need True (.ite (!optB (F.1, F.2.1, [])) pNo (.ret (.tup [.agg [.v (.int .i64 F.1), .v (.int .i64 F.2.1), nilZ], .one (.v (.bool true))])))))
    (.up 0 fun _ => .need ((True ∧ True ∧ List.length F.2.2.1 ≤ List.length F.2.2.1 ∧ True) ∧ True) (.need True (.ite (!optB (F.1, F.2.1, List.take (List.length F.2.2.1) F.2.2.1)) pNo (.need (List.length F.2.2.1 ≤ List.length F.2.2.1) (.need (List.length F.2.2.1 ≤ List.length F.2.2.1) (.ret (.tup [.agg [.v (.int .i64 F.1), .v (.int .i64 F.2.1), .ds cSz (List.take (List.length F.2.2.1) F.2.2.1)], .one (.v (.bool true))]))))))))
  (.ite (List.isEmpty F.2.2.1) pZ (.up 0 fun _ => pZ)))
theorem tr_oparseL_eq (l : List ByteArray) : fnLP OL lpOp Tryd.f11 (encs [(false, .sl .str)] (l, ())) = pTreeL ((0 : Int) ≤ 0 ∧ (List.length l : Int) = (List.length l : Int) ∧ List.length l ≤ 1000 ∧ (∀ w ∈ l, w.size ≤ 900000) ∧ (List.length (gx (none : GZ)) : Int) ≤ 0) (foldO stF (List.drop (Int.toNat (0 : Int)) l) 64 4096) := by kernel_rfl
end Go.Proofs.YtljlfmmhoceihaaDoor
/-
option.Parse: its contract, rows lent.
-/
set_option linter.unusedSimpArgs false
set_option linter.unusedVariables false
namespace Go.Proofs.YtljlfmmhoceihaaDoor
open Go.RowKit Ax
theorem pTreeL_wp (inv : Prop) (F : StO) (hinv : inv) : (pTreeL inv F).wp fun a => ∀ w R σ v, AvIs w R σ a v → AvIs w R σ (resO F) v := by
  obtain ⟨h, c, W, b⟩ := F
  unfold pTreeL pNo pZ resO outV outB
  simp only [T.wp]
  refine ⟨hinv, fun hb => ⟨fun he => ⟨⟨⟨trivial, trivial, trivial, trivial⟩, trivial⟩, trivial, fun ho w R σ v hv => ?_, fun ho w R σ v hv => ?_⟩, fun he k _ => ⟨⟨⟨trivial, trivial, Nat.le_refl _, trivial⟩, trivial⟩, trivial, fun ho w R σ v hv => ?_, fun ho => ⟨Nat.le_refl _, Nat.le_refl _, fun w R σ v hv => ?_⟩⟩⟩, fun hb => ⟨fun _ w R σ v hv => ?_, fun _ k _ w R σ v hv => ?_⟩⟩
  · have hW : W = [] := List.isEmpty_iff.1 he
    subst hW
    rw [hb, Bool.true_and, not_b ho, if_neg Bool.false_ne_true]
    exact nil_agg hv
  · have hW : W = [] := List.isEmpty_iff.1 he
    subst hW
    rw [hb, Bool.true_and, not_b' ho, if_pos rfl]
    exact nil_agg hv
  · rw [List.take_length] at ho
    rw [hb, Bool.true_and, not_b ho, if_neg Bool.false_ne_true]
    exact nil_agg hv
  · rw [List.take_length] at ho hv
    rw [hb, Bool.true_and, not_b' ho, if_pos rfl]
    exact hv
  · rw [hb, Bool.false_and, if_neg Bool.false_ne_true]
    exact hv
  · rw [hb, Bool.false_and, if_neg Bool.false_ne_true]
    exact hv
noncomputable def con_oparseL : Con Tryd.prog := ⟨11, [], _, cf_oparse, lend_eq (E := OL) (L := lpOp) mixed Tryd.func11 (one_loop opL_ok (by kernel_rfl)) [(false, .sl .str)] (fun x => WordsFit x.1) (fun x => resO (foldO stF x.1 64 4096)) fun x hx => by
  obtain ⟨l, ⟨⟩⟩ := x
  rw [tr_oparseL_eq l]
  exact pTreeL_wp _ _ ⟨Int.le_refl 0, rfl, hx.1, hx.2, Int.le_refl 0⟩⟩
noncomputable def OM : Env Tryd.prog := O9.add [con_oparseL]
end Go.Proofs.YtljlfmmhoceihaaDoor
/-
OptionSides: its tree (its like parts told once).
-/
set_option linter.unusedSimpArgs false
set_option linter.unusedVariables false
namespace Go.Proofs.YtljlfmmhoceihaaDoor
open Go.RowKit Ax
def catN (a b : ByteArray) (K : ByteArray → T Av) : T Av := .need (((ByteArray.size a + ByteArray.size b : Nat) : Int) ≤ IntKind.max .i64) (.lt (a ++ b) K)
def numN (k : Int) (K : ByteArray → T Av) : T Av := .need ((-9223372036854775808 : Int) ≤ k ∧ k ≤ (9223372036854775807 : Int)) (K (mkB (Lib.itoa k)))
def noN : T Av := .ret (.one (.v (.bool false)))
def sTail (k m x y : Int) (C : ByteArray → ByteArray → ByteArray → T Av) : T Av :=
  numN k fun nk => catN ⟨#[104]⟩ nk fun v0 => .need (WordsFit [v0]) (numN m fun nm => catN ⟨#[99]⟩ nm fun v1 => .need (WordsFit [v1]) (numN x fun nx => catN ⟨#[115]⟩ nx fun v2 => catN v2 ⟨#[44]⟩ fun v3 => numN y fun ny => catN v3 ny fun v4 => catN v4 ⟨#[44]⟩ fun v5 => numN k fun nk => catN v5 nk fun v6 => .need (WordsFit [v6]) (C v0 v1 v6)))
def oneB (w : ByteArray) : Bool := outB (foldO stF [w] 64 4096)
def sC (m : Int) (p : Bool) (Q : ByteArray → T Av) (v0 v1 v6 : ByteArray) : T Av := .ite (oneB v0 == p) (.ite (oneB v1 == decide (m ≤ 4096)) (Q v6) noN) noN
def sQ (k : Int) (p q : Bool) (v6 : ByteArray) : T Av := .ite (oneB v6 == q) (.ret (.one (.v (.bool (optB (k, 1, []) == p))))) noN
def sIn (k m x y : Int) : T Av := .ite (decide (x ≤ 64)) (sTail k m x y (sC m true (sQ k true (decide (y ≤ 64))))) (sTail k m x y (sC m true (sQ k true false)))
def sOut (k m x y : Int) (p : Bool) : T Av := .ite (decide (x ≤ 64)) (sTail k m x y (sC m p fun v => .ite p (sQ k p (decide (y ≤ 64)) v) (sQ k p false v))) (sTail k m x y (sC m p fun v => .ite p (sQ k p false v) (sQ k p false v)))
def tr_osides (k m x y : Int) : T Av := .ite (!true) noN (.need ((4 : Int) ≠ 0) (.ite (k == 1) (sIn k m x y) (.ite (k == 2) (sIn k m x y) (.ite (k == 4) (sIn k m x y) (.ite (k == 8) (sIn k m x y) (.ite (k == 16) (sIn k m x y) (.ite (k == 32) (sIn k m x y) (sOut k m x y (k == 64)))))))))
theorem tr_osides_eq (z c x y : Int) : fnP O9 (fun _ => none) Tryd.f5 (encs [(false, .int .u8), (false, .int .u16), (false, .int .u8), (false, .int .u8)] (z, c, x, y, ())) = tr_osides (IntKind.wrap .i64 z) (IntKind.wrap .i64 ((4094 : Int) + IntKind.wrap .i64 (Int.tmod c 4))) (IntKind.wrap .i64 x) (IntKind.wrap .i64 y) := by kernel_rfl
end Go.Proofs.YtljlfmmhoceihaaDoor
/-
The run in normal forms: the same, but each step's state is reckoned once.
-/
set_option linter.unusedSimpArgs false
set_option linter.unusedVariables false
namespace Ax
open Go Go.RowKit
def runOpsF {P : Program} (E : Env P) (ops : Array Oper) : List Oper → St → T St
  | [], st => .ret st
  | o :: r, st => fSt st fun st => guarded (E.sure 0) ops o st (fun st => (aE E st.fr st.mem o).bind fun e => runOpsF E ops r ⟨putFr st.fr o.dst e.av, e.mem⟩) (fun st => runOpsF E ops r ⟨putFr st.fr o.dst .nope, st.mem⟩)
theorem runOpsF_eq {P : Program} (E : Env P) (ops : Array Oper) : ∀ (l : List Oper) (st : St), runOpsF E ops l st = runOps E ops l st
  | [], _ => rfl
  | o :: r, st => by
    rw [runOpsF, fSt_eq, runOps]
    have e : runOpsF E ops r = runOps E ops r := funext fun st => runOpsF_eq E ops r st
    rw [e]
def codeF {P : Program} (E : Env P) (L : Loops) : Code → St → T (Exit × St)
  | .skip, st => .ret (.normal, st)
  | .label _, st => .ret (.normal, st)
  | .region id ops false, st => fSt st fun st => (frzL E.base (E.frz id) st).bind fun st => (runOpsF (E.sel id) ops ops.toList st).bind fun st => .ret (.normal, st)
  | .region id ops true, st => fSt st fun st => (frzL E.base (E.frz id) st).bind fun st => (runDraw (E.sel id) ops st).bind fun st => .ret (.normal, st)
  | .seq x y, st => (codeF E L x st).bind fun r => match r.1 with
    | .normal => codeF E L y r.2
    | e => .ret (e, r.2)
  | .cond (.tmp t) x y, st => match st.fr[t]? with
    | some (.one (.kb b)) => bsel b true (codeF E L x st) (codeF E L y st)
    | some (.one (.v (.bool b))) => .ite b (codeF E L x (know st t true)) (codeF E L y (know st t false))
    | _ => .fail
  | .cond (.const (.bool b)) x y, st => bsel b true (codeF E L x st) (codeF E L y st)
  | .block id c, st => (codeF E L c st).bind fun r => .ret (exitBlock id r.1, r.2)
  | .loop c, st => match L (Code.first c) with
    | some run => run st
    | none => .fail
  | .exit id, st => .ret (.exit id, st)
  | .ret, st => .ret (.ret, st)
  | _, _ => .fail
theorem codeF_eq {P : Program} (E : Env P) (L : Loops) : ∀ c : Code, codeF E L c = code E L c := by
  intro c
  induction c with
  | skip => funext st; rfl
  | label _ => funext st; rfl
  | region id ops b =>
    funext st
    cases b with
    | false =>
      have e : runOpsF (E.sel id) ops ops.toList = runOps (E.sel id) ops ops.toList := funext fun st => runOpsF_eq _ _ _ st
      rw [codeF, fSt_eq, e]; rfl
    | true => rw [codeF, fSt_eq]; rfl
  | seq x y ihx ihy => funext st; rw [codeF, ihx, ihy]; rfl
  | cond o x y ihx ihy =>
    funext st
    cases o with
    | tmp t => rw [codeF, ihx, ihy]; rfl
    | const v =>
      cases v with
      | bool b => rw [codeF, ihx, ihy]; rfl
      | _ => rfl
    | global _ => rfl
    | func _ => rfl
  | block id c ih => funext st; rw [codeF, ih]; rfl
  | _ => funext st; rfl
def fnRunF {P : Program} (E : Env P) (L : Loops) (fn : Func) (args : List Av) (m : Mem) : T (Av × Mem) :=
  match fn.body with
  | some c => (codeF (E.at_ m.length) L c ⟨args ++ List.replicate (fn.ntmps - args.length) .nope, m⟩).bind fun r => match r.1 with
    | .ret | .normal => fSt r.2 fun st => finRun P m.length fn.results.toList st
    | _ => .fail
  | none => .fail
theorem fnRunF_eq {P : Program} (E : Env P) (L : Loops) (fn : Func) (args : List Av) (m : Mem) : fnRunF E L fn args m = fnRun E L fn args m := by
  unfold fnRunF fnRun
  cases fn.body with
  | none => rfl
  | some c =>
    simp only [codeF_eq, fSt_eq]
    congr 1
def fnPF {P : Program} (E : Env P) (L : Loops) (fn : Func) (args : List Av) : T Av :=
  (fnRunF E L fn args []).bind fun r => match noA r.1 with
    | true => .ret (nA r.1)
    | false => .fail
theorem fnPF_eq {P : Program} (E : Env P) (L : Loops) (fn : Func) (args : List Av) : fnPF E L fn args = fnP E L fn args := by
  unfold fnPF fnP
  rw [fnRunF_eq]
  congr 1
end Ax
/-
OptionBack: its tree.
-/
set_option linter.unusedSimpArgs false
set_option linter.unusedVariables false
namespace Go.Proofs.YtljlfmmhoceihaaDoor
open Go.RowKit Ax
def yesN : T Av := .ret (.one (.v (.bool true)))
def bX (h : Int) : Int := IntKind.wrap .i64 (1 * 2 ^ min (Int.toNat (IntKind.wrap .u64 (Int.tmod h 7))) 64)
def bC (c : Int) : Int := IntKind.wrap .i64 (IntKind.wrap .i64 c + 1)
def bInv (s : ByteArray) : Prop := 0 ≤ (0 : Int) ∧ (0 : Int) ≤ (ByteArray.size s : Int) + 1 ∧ 0 ≤ (0 : Int) ∧ (0 : Int) ≤ (0 : Int) ∧ ByteArray.size s ≤ 900000 ∧ (List.length (gx (none : GW)) : Int) ≤ (0 : Int)
def bLen (n : Nat) (W : List ByteArray) (K : List ByteArray → T Av) : T Av := .need (n ≤ W.length ∧ True) (K (W.take n))
def bTail (o : Op) (h c : Int) (F1 F2 : StO) : T Av := .ite (outB F1) (.need (List.length (outV F1).2.2 ≤ 1000) (.ite (decide (outV F1 = o)) (.ite (outB F2) (.ite ((outV F2).1 == bX h) (.ite ((outV F2).2.1 == bC c) (.ret (.one (.v (.bool ((List.length (outV F2).2.2 : Int) == (List.length o.2.2 : Int)))))) noN) noN) noN) noN)) noN
def bRest (o : Op) (h c : Int) (W : List ByteArray) (A : ByteArray → ByteArray → (List ByteArray → T Av) → T Av) : T Av := .need (WordsFit W) (.need ((7 : Int) ≠ 0) (.need ((0 : Int) ≤ IntKind.wrap .u64 (Int.tmod h 7)) (numN (bX h) fun nx => catN ⟨#[104]⟩ nx fun v0 => numN (bC c) fun nc => catN ⟨#[99]⟩ nc fun v1 => A v0 v1 fun W2 => .need (WordsFit W2) (bTail o h c (foldO stF W 64 4096) (foldO stF W2 64 4096)))))
def bNil (o : Op) (h c : Int) : T Av := .need (True ∧ True) (bRest o h c [] fun v0 v1 K => .need (List.length [v0, v1] * (15 + 1) ≤ 140737488355328 ∧ List.length [v0, v1] ≤ maxLen) (.up (List.length [v0, v1]) fun _ => bLen (List.length [v0, v1]) [v0, v1] K))
def bCons (o : Op) (h c : Int) (W : List ByteArray) (k : Nat) : T Av := .need ((W.length ≤ W.length) ∧ True) (bRest o h c (W.take W.length) fun v0 v1 K => .need (List.length W = List.length W ∧ k = k ∧ (List.length W + List.length [v0, v1]) * (15 + 1) ≤ 140737488355328 ∧ List.length W + List.length [v0, v1] ≤ maxLen) (.and (bLen (List.length W + List.length [v0, v1]) (W ++ [v0, v1]) K) (.up (List.length W + List.length [v0, v1]) fun _ => bLen (List.length W + List.length [v0, v1]) (W ++ [v0, v1]) K)))
def tr_oback (o : Op) (h c : Int) : T Av := .ite (!true) noN (.ite (decide ((List.length o.2.2 : Int) > 8)) yesN (.ite (!optB o) yesN (.need (OFit o) (.need True (.need (bInv (prB o)) (.ite (List.isEmpty (bLeft (prB o) 0 0)) (bNil o h c) (.up 0 fun k => bCons o h c (bLeft (prB o) 0 0) k)))))))
theorem tr_oback_eq (o : Op) (h c : Int) : fnPF OM lpBk Tryd.f4 (encs [(true, cOp), (false, .int .u8), (false, .int .u8)] (o, h, c, ())) = tr_oback o h c := by kernel_rfl
end Go.Proofs.YtljlfmmhoceihaaDoor
/-
A printed text's words.
-/
set_option linter.unusedSimpArgs false
set_option linter.unusedVariables false
namespace Go.Proofs.YtljlfmmhoceihaaDoor
open Go.RowKit Ax
theorem spb_app : ∀ (a r cur : List UInt8), (∀ c ∈ a, c ≠ 32) → spb cur (a ++ 32 :: r) = (cur ++ a) :: spb [] r
  | [], r, cur, _ => by rw [List.nil_append, spb, if_pos rfl, List.append_nil]
  | c :: a, r, cur, h => by
    rw [List.cons_append, spb, if_neg (h c (by simp)), spb_app a r _ fun x hx => h x (by simp [hx]), List.append_assoc]; rfl
theorem spb_no : ∀ (a cur : List UInt8), (∀ c ∈ a, c ≠ 32) → spb cur a = [cur ++ a]
  | [], cur, _ => by rw [spb, List.append_nil]
  | c :: a, cur, h => by
    rw [spb, if_neg (h c (by simp)), spb_no a _ fun x hx => h x (by simp [hx]), List.append_assoc]; rfl
theorem s3_no {s : Sz} {c : UInt8} (h : c ∈ 115 :: s3 s) : c ≠ 32 := by
  unfold s3 at h
  simp only [List.mem_cons, List.mem_append] at h
  rcases h with rfl | h | rfl | h | rfl | h
  · decide
  · exact (itoa_no h).2
  · decide
  · exact (itoa_no h).2
  · decide
  · exact (itoa_no h).2
theorem szL_eq (s : Sz) : szL s = 32 :: (115 :: s3 s) := by
  unfold szL s3
  simp only [List.append_assoc, List.cons_append, List.nil_append]
theorem spb_szs : ∀ (l : List Sz) (a cur : List UInt8), (∀ c ∈ a, c ≠ 32) → spb cur (a ++ szsL l) = (cur ++ a) :: l.map fun s => 115 :: s3 s
  | [], a, cur, h => by rw [szsL, List.append_nil, spb_no a cur h]; rfl
  | s :: r, a, cur, h => by
    rw [szsL, szL_eq, List.cons_append, spb_app a _ cur h, spb_szs r (115 :: s3 s) [] fun c hc => s3_no hc]
    rfl
theorem hw_no {k : UInt8} {v : Int} {c : UInt8} (hk : k ≠ 32) (h : c ∈ k :: Lib.itoa v) : c ≠ 32 := by
  rcases List.mem_cons.1 h with rfl | h
  · exact hk
  · exact (itoa_no h).2
theorem prB_words (o : Op) : spb [] (prB o).data.toList = (104 :: Lib.itoa o.1) :: (99 :: Lib.itoa o.2.1) :: o.2.2.map fun s => 115 :: s3 s := by
  have e : (prB o).data.toList = (104 :: Lib.itoa o.1) ++ 32 :: ((99 :: Lib.itoa o.2.1) ++ szsL o.2.2) := by
    show [104] ++ Lib.itoa o.1 ++ [32, 99] ++ Lib.itoa o.2.1 ++ szsL o.2.2 = _
    simp only [List.append_assoc, List.cons_append, List.nil_append]
  rw [e, spb_app _ _ [] fun c hc => hw_no (by decide) hc, spb_szs _ _ [] fun c hc => hw_no (by decide) hc]
  rfl
theorem fold_szs (h c : Int) (r : List ByteArray) : ∀ l : List Sz, (∀ s ∈ l, N9 s.1 ∧ N9 s.2.1 ∧ N9 s.2.2) → foldO stF ((l.map fun s => mkB (115 :: s3 s)) ++ r) h c = ((foldO stF r h c).1, (foldO stF r h c).2.1, l ++ (foldO stF r h c).2.2.1, (foldO stF r h c).2.2.2)
  | [], _ => rfl
  | s :: l, hs => by
    rw [List.map_cons, List.cons_append, fold_ok (stF_s (hs s (by simp)) h c), fold_szs h c r l fun x hx => hs x (by simp [hx])]
    rfl
end Go.Proofs.YtljlfmmhoceihaaDoor
/-
OptionSides: its run answers true.
-/
set_option linter.unusedSimpArgs false
set_option linter.unusedVariables false
namespace Go.Proofs.YtljlfmmhoceihaaDoor
open Go.RowKit Ax
theorem catN_wp {a b : List UInt8} {K : ByteArray → T Av} {R : Av → Prop} (h : a.length + b.length ≤ 1000) (hk : (K (mkB (a ++ b))).wp R) : (catN (mkB a) (mkB b) K).wp R := by
  unfold catN
  simp only [T.wp]
  rw [mkB_app]
  refine ⟨?_, hk⟩
  have hM : IntKind.max .i64 = 9223372036854775807 := rfl
  rw [hM, mkB_size, mkB_size]
  omega
theorem numN_wp {k : Int} {K : ByteArray → T Av} {R : Av → Prop} (h : N9 k) (hk : (K (mkB (Lib.itoa k))).wp R) : (numN k K).wp R := by
  unfold numN
  simp only [T.wp]
  unfold N9 at h
  exact ⟨by omega, hk⟩
theorem fit_one {l : List UInt8} (h : l.length ≤ 1000) : WordsFit [mkB l] := ⟨(by decide : (1 : Nat) ≤ 1000), fun w hw => by
  rw [List.mem_singleton] at hw
  subst hw
  rw [mkB_size]; omega⟩
theorem itoa_10 {v : Int} (h : N9 v) : (Lib.itoa v).length ≤ 10 := itoa_size h
theorem need_wp {p : Prop} {A : T Av} {R : Av → Prop} (h : p) (hA : A.wp R) : (T.need p A).wp R := ⟨h, hA⟩
theorem sTail_wp {k m x y : Int} {C : ByteArray → ByteArray → ByteArray → T Av} {R : Av → Prop} (hk : N9 k) (hm : N9 m) (hx : N9 x) (hy : N9 y)
    (hC : (C (mkB (104 :: Lib.itoa k)) (mkB (99 :: Lib.itoa m)) (mkB (115 :: s3 (x, y, k)))).wp R) : (sTail k m x y C).wp R := by
  have lk := itoa_10 hk
  have lm := itoa_10 hm
  have lx := itoa_10 hx
  have ly := itoa_10 hy
  unfold sTail
  refine numN_wp hk (catN_wp (a := [104]) (by simp only [List.length_cons, List.length_nil]; omega) (need_wp (fit_one (by simp only [List.length_append, List.length_cons, List.length_nil]; omega)) ?_))
  refine numN_wp hm (catN_wp (a := [99]) (by simp only [List.length_cons, List.length_nil]; omega) (need_wp (fit_one (by simp only [List.length_append, List.length_cons, List.length_nil]; omega)) ?_))
  refine numN_wp hx (catN_wp (a := [115]) (by simp only [List.length_cons, List.length_nil]; omega) ?_)
  refine catN_wp (b := [44]) (by simp only [List.length_append, List.length_cons, List.length_nil]; omega) ?_
  refine numN_wp hy (catN_wp (by simp only [List.length_append, List.length_cons, List.length_nil]; omega) ?_)
  refine catN_wp (b := [44]) (by simp only [List.length_append, List.length_cons, List.length_nil]; omega) ?_
  refine numN_wp hk (catN_wp (by simp only [List.length_append, List.length_cons, List.length_nil]; omega) (need_wp (fit_one (by simp only [List.length_append, List.length_cons, List.length_nil]; omega)) ?_))
  have e : [115] ++ Lib.itoa x ++ [44] ++ Lib.itoa y ++ [44] ++ Lib.itoa k = 115 :: s3 (x, y, k) := by
    unfold s3
    simp only [List.append_assoc, List.cons_append, List.nil_append]
  rw [e]
  exact hC
theorem one_h {k : Int} (hk : N9 k) : oneB (mkB (104 :: Lib.itoa k)) = sideB k := by
  unfold oneB
  rw [fold_ok (stF_h hk 64 4096)]
  unfold foldO outB optB
  simp
theorem one_c {m : Int} (hm : N9 m) (h1 : 1 ≤ m) : oneB (mkB (99 :: Lib.itoa m)) = decide (m ≤ 4096) := by
  unfold oneB
  rw [fold_ok (stF_c hm 64 4096)]
  unfold foldO outB optB
  rw [show sideB 64 = true from rfl]
  simp [h1]
theorem one_s {s : Sz} (hs : N9 s.1 ∧ N9 s.2.1 ∧ N9 s.2.2) : oneB (mkB (115 :: s3 s)) = szB s := by
  unfold oneB
  rw [fold_ok (stF_s hs 64 4096)]
  unfold foldO outB optB
  rw [show sideB 64 = true from rfl]
  simp
theorem opt_1 (k : Int) : optB (k, 1, []) = sideB k := by
  unfold optB
  simp
theorem ite_t {b : Bool} {A B : T Av} {R : Av → Prop} (h : b = true) (hA : A.wp R) : (T.ite b A B).wp R := ⟨fun _ => hA, fun h' => by rw [h] at h'; cases h'⟩
theorem ite_2 {b : Bool} {A B : T Av} {R : Av → Prop} (hA : b = true → A.wp R) (hB : b = false → B.wp R) : (T.ite b A B).wp R := ⟨hA, hB⟩
abbrev TT : Av → Prop := fun av => av = .one (.v (.bool true))
theorem beq_t {a b : Bool} (h : a = b) : (a == b) = true := by subst h; cases a <;> rfl
theorem sQ_wp {k : Int} {p q : Bool} {v : ByteArray} (h1 : oneB v = q) (h2 : sideB k = p) : (sQ k p q v).wp TT := by
  unfold sQ
  refine ite_t (beq_t h1) ?_
  show Av.one (.v (.bool (optB (k, 1, []) == p))) = _
  rw [opt_1, beq_t h2]
theorem sC_wp {m : Int} {p : Bool} {Q : ByteArray → T Av} {v0 v1 v6 : ByteArray} (h0 : oneB v0 = p) (h1 : oneB v1 = decide (m ≤ 4096)) (hQ : (Q v6).wp TT) : (sC m p Q v0 v1 v6).wp TT := by
  unfold sC
  exact ite_t (beq_t h0) (ite_t (beq_t h1) hQ)
theorem sz_b {k x y : Int} (hx : 0 ≤ x) (hy : 0 ≤ y) : szB (x, y, k) = (sideB k && (decide (x ≤ 64) && decide (y ≤ 64))) := by
  unfold szB
  simp [hx, hy]
section
variable {k m x y : Int} (hk : N9 k) (hm : N9 m) (hx : N9 x) (hy : N9 y) (m1 : 1 ≤ m) (x0 : 0 ≤ x) (y0 : 0 ≤ y)
include hk hm hx hy m1 x0 y0
theorem sIn_wp (hs : sideB k = true) : (sIn k m x y).wp TT := by
  have h6 := one_s (s := (x, y, k)) ⟨hx, hy, hk⟩
  rw [sz_b x0 y0, hs, Bool.true_and] at h6
  unfold sIn
  refine ite_2 (fun h => ?_) fun h => ?_
  · rw [h, Bool.true_and] at h6
    exact sTail_wp hk hm hx hy (sC_wp ((one_h hk).trans hs) (one_c hm m1) (sQ_wp h6 hs))
  · rw [h, Bool.false_and] at h6
    exact sTail_wp hk hm hx hy (sC_wp ((one_h hk).trans hs) (one_c hm m1) (sQ_wp h6 hs))
theorem sOut_wp {p : Bool} (hs : sideB k = p) : (sOut k m x y p).wp TT := by
  have h6 := one_s (s := (x, y, k)) ⟨hx, hy, hk⟩
  rw [sz_b x0 y0, hs] at h6
  unfold sOut
  refine ite_2 (fun h => ?_) fun h => ?_
  · rw [h, Bool.true_and] at h6
    refine sTail_wp hk hm hx hy (sC_wp ((one_h hk).trans hs) (one_c hm m1) (ite_2 (fun hp => sQ_wp ?_ hs) fun hp => sQ_wp ?_ hs))
    · rw [hp, Bool.true_and] at h6; exact h6
    · rw [hp, Bool.false_and] at h6; exact h6
  · rw [h, Bool.false_and, Bool.and_false] at h6
    exact sTail_wp hk hm hx hy (sC_wp ((one_h hk).trans hs) (one_c hm m1) (ite_2 (fun hp => sQ_wp h6 hs) fun hp => sQ_wp h6 hs))
end
theorem osides_wp (z c x y : Int) (hz : 0 ≤ z ∧ z ≤ 255) (hc : 0 ≤ c ∧ c ≤ 65535) (hx : 0 ≤ x ∧ x ≤ 255) (hy : 0 ≤ y ∧ y ≤ 255) : (tr_osides (IntKind.wrap .i64 z) (IntKind.wrap .i64 ((4094 : Int) + IntKind.wrap .i64 (Int.tmod c 4))) (IntKind.wrap .i64 x) (IntKind.wrap .i64 y)).wp fun av => av = .one (.v (.bool true)) := by
  have t1 : Int.tmod c 4 = c % 4 := Int.tmod_eq_emod_of_nonneg hc.1
  rw [t1, IntWalk.i64_in z (by omega), IntWalk.i64_in x (by omega), IntWalk.i64_in y (by omega), IntWalk.i64_in (c % 4) (by omega), IntWalk.i64_in (4094 + c % 4) (by omega)]
  have hm : N9 (4094 + c % 4) := by unfold N9; omega
  have m1 : 1 ≤ 4094 + c % 4 := by omega
  have kz : N9 z := by unfold N9; omega
  have kx : N9 x := by unfold N9; omega
  have ky : N9 y := by unfold N9; omega
  generalize 4094 + c % 4 = m at *
  have sin : ∀ t : Int, sideB t = true → (z == t) = true → (sIn z m x y).wp TT := fun t ht h => by
    have : z = t := by simpa using h
    subst this
    exact sIn_wp kz hm kx ky m1 hx.1 hy.1 ht
  unfold tr_osides
  refine ite_2 (fun h => Bool.noConfusion h) fun _ => need_wp (by decide) ?_
  refine ite_2 (sin 1 rfl) fun h1 => ite_2 (sin 2 rfl) fun h2 => ite_2 (sin 4 rfl) fun h3 => ite_2 (sin 8 rfl) fun h4 => ite_2 (sin 16 rfl) fun h5 => ite_2 (sin 32 rfl) fun h6 => sOut_wp kz hm kx ky m1 hx.1 hy.1 ?_
  simp only [beq_eq_false_iff_ne, ne_eq] at h1 h2 h3 h4 h5 h6
  unfold sideB
  simp only [h1, h2, h3, h4, h5, h6, false_or]
  by_cases h : z = 64
  · subst h; rfl
  · rw [decide_eq_false h]; simp [h]
end Go.Proofs.YtljlfmmhoceihaaDoor
/-
OptionBack: its run answers true.
-/
set_option linter.unusedSimpArgs false
set_option linter.unusedVariables false
namespace Go.Proofs.YtljlfmmhoceihaaDoor
open Go.RowKit Ax
theorem side_n9 {z : Int} (h : sideB z = true) : N9 z := by
  unfold sideB at h
  have h := of_decide_eq_true h
  unfold N9
  omega
theorem sz_n9 {s : Sz} (h : szB s = true) : N9 s.1 ∧ N9 s.2.1 ∧ N9 s.2.2 := by
  unfold szB at h
  simp only [Bool.and_eq_true, decide_eq_true_eq] at h
  obtain ⟨h1, h2, h3⟩ := h
  have h4 := side_n9 h1
  unfold N9 at *
  omega
theorem s3_len {s : Sz} (h : N9 s.1 ∧ N9 s.2.1 ∧ N9 s.2.2) : (s3 s).length ≤ 32 := by
  have h1 := itoa_10 h.1
  have h2 := itoa_10 h.2.1
  have h3 := itoa_10 h.2.2
  unfold s3
  simp only [List.length_append, List.length_cons]
  omega
theorem szs_len : ∀ l : List Sz, (∀ s ∈ l, N9 s.1 ∧ N9 s.2.1 ∧ N9 s.2.2) → (szsL l).length ≤ 34 * l.length
  | [], _ => Nat.le_refl _
  | s :: l, h => by
    have h1 := s3_len (h s (by simp))
    have h2 := szs_len l fun x hx => h x (by simp [hx])
    rw [szsL, szL_eq]
    simp only [List.length_append, List.length_cons]
    omega
theorem left_0 (s : ByteArray) : bLeft s 0 0 = (spb [] s.data.toList).map mkB := by
  unfold bLeft
  have hnil : rcur s 0 0 = [] := by
    unfold rcur Lib.pieceU
    rw [Nat.sub_self, List.take_zero]
  rw [if_pos (by omega), hnil]
  rfl
def wordsO (o : Op) : List ByteArray := mkB (104 :: Lib.itoa o.1) :: mkB (99 :: Lib.itoa o.2.1) :: o.2.2.map fun s => mkB (115 :: s3 s)
theorem left_words (o : Op) : bLeft (prB o) 0 0 = wordsO o := by
  rw [left_0, prB_words]
  unfold wordsO
  rw [List.map_cons, List.map_cons, List.map_map]
  rfl
theorem fold_words {o : Op} (h1 : N9 o.1) (h2 : N9 o.2.1) (h3 : ∀ s ∈ o.2.2, N9 s.1 ∧ N9 s.2.1 ∧ N9 s.2.2) (r : List ByteArray) : foldO stF (wordsO o ++ r) 64 4096 = ((foldO stF r o.1 o.2.1).1, (foldO stF r o.1 o.2.1).2.1, o.2.2 ++ (foldO stF r o.1 o.2.1).2.2.1, (foldO stF r o.1 o.2.1).2.2.2) := by
  unfold wordsO
  rw [List.cons_append, List.cons_append, fold_ok (stF_h h1 64 4096), fold_ok (stF_c h2 o.1 4096), fold_szs o.1 o.2.1 r o.2.2 h3]
  rfl
theorem bX_side {h : Int} (hh : 0 ≤ h ∧ h ≤ 255) : sideB (bX h) = true ∧ 0 ≤ IntKind.wrap .u64 (Int.tmod h 7) := by
  unfold bX
  have e : Int.tmod h 7 = 0 ∨ Int.tmod h 7 = 1 ∨ Int.tmod h 7 = 2 ∨ Int.tmod h 7 = 3 ∨ Int.tmod h 7 = 4 ∨ Int.tmod h 7 = 5 ∨ Int.tmod h 7 = 6 := by
    rw [Int.tmod_eq_emod_of_nonneg hh.1]; omega
  rcases e with e | e | e | e | e | e | e <;> rw [e] <;> exact ⟨by kernel_rfl, by decide⟩
theorem bC_eq {c : Int} (hc : 0 ≤ c ∧ c ≤ 255) : bC c = c + 1 := by
  unfold bC
  rw [IntWalk.i64_in c (by omega), IntWalk.i64_in (c + 1) (by omega)]
theorem bTail_wp {o : Op} {h c : Int} {F1 F2 : StO} (b1 : outB F1 = true) (e1 : outV F1 = o) (hl : o.2.2.length ≤ 1000) (b2 : outB F2 = true) (e2 : outV F2 = (bX h, bC c, o.2.2)) : (bTail o h c F1 F2).wp TT := by
  unfold bTail
  rw [e1, e2]
  refine ite_t b1 (need_wp hl (ite_t (decide_eq_true rfl) (ite_t b2 (ite_t ?_ (ite_t ?_ ?_)))))
  · exact beq_self_eq_true _
  · exact beq_self_eq_true _
  · show Av.one (.v (.bool (_ == _))) = _
    rw [beq_self_eq_true]
theorem fit_w {l : List UInt8} (h : l.length ≤ 900000) : (mkB l).size ≤ 900000 := by rw [mkB_size]; exact h
theorem oback_wp (o : Op) (h c : Int) (ho : OIn o) (hh : 0 ≤ h ∧ h ≤ 255) (hc : 0 ≤ c ∧ c ≤ 255) : (tr_oback o h c).wp TT := by
  obtain ⟨f1, f2, f3⟩ := ho
  unfold tr_oback
  refine ite_2 (fun h => Bool.noConfusion h) fun _ => ite_2 (fun _ => rfl) fun h1 => ite_2 (fun _ => rfl) fun h2 => ?_
  have h1 : ¬ (o.2.2.length : Int) > 8 := of_decide_eq_false h1
  have h2 : optB o = true := not_b' h2
  have hO : OFit o := ⟨f1, f2, by omega, f3⟩
  have hb := h2
  unfold optB at hb
  simp only [Bool.and_eq_true, decide_eq_true_eq] at hb
  obtain ⟨g1, g2, g3, g4⟩ := hb
  have n1 := side_n9 g1
  have n2 : N9 o.2.1 := by unfold N9; omega
  have n3 : ∀ s ∈ o.2.2, N9 s.1 ∧ N9 s.2.1 ∧ N9 s.2.2 := fun s hs => sz_n9 (List.all_eq_true.1 g4 s hs)
  have l1 := itoa_10 n1
  have l2 := itoa_10 n2
  have l3 := szs_len o.2.2 n3
  have hsz : (prB o).size ≤ 900000 := by
    unfold prB
    rw [mkB_size]
    simp only [List.length_append, List.length_cons, List.length_nil]
    omega
  have hw : ∀ w ∈ wordsO o, w.size ≤ 900000 := fun w hw => by
    unfold wordsO at hw
    rcases List.mem_cons.1 hw with rfl | hw
    · exact fit_w (by simp only [List.length_cons]; omega)
    rcases List.mem_cons.1 hw with rfl | hw
    · exact fit_w (by simp only [List.length_cons]; omega)
    · obtain ⟨s, hs, rfl⟩ := List.mem_map.1 hw
      have := s3_len (n3 s hs)
      exact fit_w (by simp only [List.length_cons]; omega)
  have hwl : (wordsO o).length ≤ 6 := by
    unfold wordsO
    simp only [List.length_cons, List.length_map]
    omega
  obtain ⟨x1, x2⟩ := bX_side hh
  have xn := side_n9 x1
  have lx := itoa_10 xn
  have cn : N9 (bC c) := by rw [bC_eq hc]; unfold N9; omega
  have lc := itoa_10 cn
  refine need_wp hO (need_wp trivial (need_wp ?_ (ite_2 (fun he => ?_) fun _ k _ => ?_)))
  · unfold bInv
    exact ⟨by omega, by omega, by omega, by omega, hsz, Int.le_refl 0⟩
  · rw [left_words] at he
    unfold wordsO at he
    simp at he
  · rw [left_words]
    unfold bCons bRest
    rw [List.take_length]
    refine need_wp ⟨Nat.le_refl _, trivial⟩ (need_wp ⟨by omega, hw⟩ (need_wp (by decide) (need_wp x2 ?_)))
    refine numN_wp xn (catN_wp (a := [104]) (by simp only [List.length_cons, List.length_nil]; omega) ?_)
    refine numN_wp cn (catN_wp (a := [99]) (by simp only [List.length_cons, List.length_nil]; omega) ?_)
    have fin : (bLen (List.length (wordsO o) + List.length [mkB ([104] ++ Lib.itoa (bX h)), mkB ([99] ++ Lib.itoa (bC c))]) (wordsO o ++ [mkB ([104] ++ Lib.itoa (bX h)), mkB ([99] ++ Lib.itoa (bC c))]) fun W2 =>
        .need (WordsFit W2) (bTail o h c (foldO stF (wordsO o) 64 4096) (foldO stF W2 64 4096))).wp TT := by
      unfold bLen
      rw [← List.length_append, List.take_length]
      refine need_wp ⟨Nat.le_refl _, trivial⟩ (need_wp ⟨?_, fun w hm => ?_⟩ ?_)
      · rw [List.length_append]; simp only [List.length_cons, List.length_nil]; omega
      · rcases List.mem_append.1 hm with hm | hm
        · exact hw w hm
        · rcases List.mem_cons.1 hm with rfl | hm
          · exact fit_w (by simp only [List.length_append, List.length_cons, List.length_nil]; omega)
          · rw [List.mem_singleton] at hm
            subst hm
            exact fit_w (by simp only [List.length_append, List.length_cons, List.length_nil]; omega)
      · have q1 := fold_words n1 n2 n3 []
        rw [List.append_nil, show foldO stF [] o.1 o.2.1 = (o.1, o.2.1, [], true) from rfl] at q1
        have q2 := fold_words n1 n2 n3 [mkB ([104] ++ Lib.itoa (bX h)), mkB ([99] ++ Lib.itoa (bC c))]
        have e : foldO stF [mkB ([104] ++ Lib.itoa (bX h)), mkB ([99] ++ Lib.itoa (bC c))] o.1 o.2.1 = (bX h, bC c, [], true) := by
          show foldO stF [mkB (104 :: Lib.itoa (bX h)), mkB (99 :: Lib.itoa (bC c))] o.1 o.2.1 = _
          rw [fold_ok (stF_h xn o.1 o.2.1), fold_ok (stF_c cn (bX h) o.2.1)]
          rfl
        rw [e] at q2
        rw [q1, q2]
        have k1 : outB (o.1, o.2.1, o.2.2 ++ [], true) = true := by
          unfold outB
          rw [List.append_nil]
          exact h2
        have k2 : outB (bX h, bC c, o.2.2 ++ [], true) = true := by
          unfold outB optB
          rw [List.append_nil, bC_eq hc]
          simp only [Bool.true_and, Bool.and_eq_true, decide_eq_true_eq]
          exact ⟨x1, by omega, g3, g4⟩
        refine bTail_wp k1 ?_ (by omega) k2 ?_
        · unfold outV
          rw [if_pos k1, List.append_nil]
        · unfold outV
          rw [if_pos k2, List.append_nil]
    refine need_wp ⟨rfl, rfl, ?_, ?_⟩ ⟨fin, fun k _ => fin⟩
    · simp only [List.length_cons, List.length_nil]; omega
    · simp only [List.length_cons, List.length_nil, Go.maxLen]; omega
end Go.Proofs.YtljlfmmhoceihaaDoor
