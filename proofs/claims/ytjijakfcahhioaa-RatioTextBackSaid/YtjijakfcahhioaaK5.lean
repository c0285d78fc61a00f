import Derived.ProofKit
import Derived.OpenShut
import Derived.Deep.Slices
import Derived.Test.YtjijakfcahhioaaRows
import Derived.Test.YtjijakfcahhioaaK4
/-
Fractions: Sub, Floor, the loops of Sum and Least.
-/
set_option linter.unusedSimpArgs false
set_option linter.unusedVariables false
namespace Go.Proofs.Ytjijakfcahhioaa
open Go.RowKit Ax
noncomputable def tr_rsub (x : Els [(true, cF), (true, cF)]) : T Av :=
 .ite (smB (x.1) && smB x.2.1)
  (.need (in63 (IntKind.wrap .i64 (IntKind.wrap .i64 (zW x.1.1 * zW x.2.1.2) - IntKind.wrap .i64 (zW x.2.1.1 * zW x.1.2))) ∧ in63 (IntKind.wrap .i64 (zW x.1.2 * zW x.2.1.2)) ∧ IntKind.wrap .i64 (zW x.1.2 * zW x.2.1.2) ≠ (0 : El (Cd.int .i64))) (.lt (rOf (Rat.divInt (IntKind.wrap .i64 (IntKind.wrap .i64 (zW x.1.1 * zW x.2.1.2) - IntKind.wrap .i64 (zW x.2.1.1 * zW x.1.2))) (IntKind.wrap .i64 (zW x.1.2 * zW x.2.1.2)))) (fun v0 =>
    .ret (.tup [(.agg [.v (.bool v0.1.1), .w v0.1.2, .v (.bool v0.2.1), .w v0.2.2]), (.one (.v (.bool (true))))]))))
  (.need (lenOk (List.length [x.1, x.2.1])) (.ite (!List.all [x.1, x.2.1] (safeF (500 : Int)))
    (.ret (.tup [(.agg [.v (.bool w0.1), .w w0.2, .v (.bool w0.1), .w w0.2]), (.one (.v (.bool (false))))]))
    (.ite (both (x.1) (wOf (-zW x.2.1.1), x.2.1.2))
     (.lt (rOf (qF (x.1) + qF (wOf (-zW x.2.1.1), x.2.1.2))) (fun v0 =>
      .ret (.tup [(.agg [.v (.bool v0.1.1), .w v0.1.2, .v (.bool v0.2.1), .w v0.2.2]), (.one (.v (.bool (true))))])))
     (.ret (.tup [(.agg [.v (.bool w0.1), .w w0.2, .v (.bool w0.1), .w w0.2]), (.one (.v (.bool (false))))])))))
theorem tr_rsub_eq (x : Els [(true, cF), (true, cF)]) : fnP E7 (fun _ => none) Try.f26 (encs [(true, cF), (true, cF)] x) = tr_rsub x := by kernel_rfl
noncomputable def tr_rfloor (x : Els [(true, cF)]) : T Av :=
 .ite (!okF (x.1))
  (.ret (.tup [(.agg [.v (.bool w0.1), .w w0.2]), (.one (.v (.bool (false))))]))
  (.lt (zW x.1.1) (fun v0 =>
   .lt (zW x.1.2) (fun v1 =>
    .ite (!(wOf (if v1 = (0 : Int) then (0 : Int) else Int.tmod v0 v1)).1)
     (.ret (.tup [(.agg [.v (.bool (wOf (if v1 = (0 : Int) then (0 : Int) else Int.tdiv v0 v1)).1), .w (wOf (if v1 = (0 : Int) then (0 : Int) else Int.tdiv v0 v1)).2]), (.one (.v (.bool (true))))]))
     (.lt (zW (wOf (if v1 = (0 : Int) then (0 : Int) else Int.tdiv v0 v1)) - zW (wOf (1 : Int))) (fun v2 =>
      .ret (.tup [(.agg [.v (.bool (wOf v2).1), .w (wOf v2).2]), (.one (.v (.bool (Pq.fits v2))))]))))))
theorem tr_rfloor_eq (x : Els [(true, cF)]) : fnP E7 (fun _ => none) Try.f11 (encs [(true, cF)] x) = tr_rfloor x := by kernel_rfl
noncomputable def tr_sumL (x : LSpec.X spSum × LSpec.Y spSum) : T (Rd spSum) :=
 .ite (decide (x.1.2.2.1 < x.1.2.1))
  (.get x.1.1 x.1.2.2.1 (fun v0 =>
   .ite (both x.2.2.1 v0)
    (.lt (rOf (qF x.2.2.1 + qF v0)) (fun v1 =>
     .ite (!true)
      (.ret (.out (Go.Exit.ret) [(.one (.v (.bool (false))))] ((w0, w0), (x.2.2.1, ()))))
      (.ret (.again (x.1.1, (x.1.2.1, (IntKind.wrap .i64 (x.1.2.2.1 + (1 : Int)), ()))) (x.2.1, (v1, ()))))))
    (.ite (!false)
     (.ret (.out (Go.Exit.ret) [(.one (.v (.bool (false))))] ((w0, w0), (x.2.2.1, ()))))
     (.ret (.again (x.1.1, (x.1.2.1, (IntKind.wrap .i64 (x.1.2.2.1 + (1 : Int)), ()))) (x.2.1, ((w0, w0), ())))))))
  (.ret (.out (Go.Exit.exit (0 : Nat)) [] (x.2.1, (x.2.2.1, ()))))
theorem tr_sumL_eq (x : LSpec.X spSum × LSpec.Y spSum) : LSpec.round spSum E7 (fun _ => none) (bodyOf Try.f24 0) x.1 x.2 = tr_sumL x := by kernel_rfl
noncomputable def tr_leastL (x : LSpec.X spLeast × LSpec.Y spLeast) : T (Rd spLeast) :=
 .ite (decide (x.1.2.2.1 < x.1.2.1))
  (.get x.1.1 x.1.2.2.1 (fun v0 =>
   .ite (both v0 x.2.2.1)
    (.lt (cq (qF v0) (qF x.2.2.1)) (fun v1 =>
     .ite (!true)
      (.ret (.out (Go.Exit.ret) [(.one (.v (.bool (false))))] ((w0, w0), (x.2.2.1, ()))))
      (.ite (decide (v1 < (0 : Int)))
       (.ret (.again (x.1.1, (x.1.2.1, (IntKind.wrap .i64 (x.1.2.2.1 + (1 : Int)), ()))) (x.2.1, (v0, ()))))
       (.ret (.again (x.1.1, (x.1.2.1, (IntKind.wrap .i64 (x.1.2.2.1 + (1 : Int)), ()))) (x.2.1, (x.2.2.1, ())))))))
    (.ite (!false)
     (.ret (.out (Go.Exit.ret) [(.one (.v (.bool (false))))] ((w0, w0), (x.2.2.1, ()))))
     (.ite (decide ((0 : Int) < (0 : Int)))
      (.ret (.again (x.1.1, (x.1.2.1, (IntKind.wrap .i64 (x.1.2.2.1 + (1 : Int)), ()))) (x.2.1, (v0, ()))))
      (.ret (.again (x.1.1, (x.1.2.1, (IntKind.wrap .i64 (x.1.2.2.1 + (1 : Int)), ()))) (x.2.1, (x.2.2.1, ()))))))))
  (.ret (.out (Go.Exit.exit (0 : Nat)) [] (x.2.1, (x.2.2.1, ()))))
theorem tr_leastL_eq (x : LSpec.X spLeast × LSpec.Y spLeast) : LSpec.round spLeast E7 (fun _ => none) (bodyOf Try.f23 0) x.1 x.2 = tr_leastL x := by kernel_rfl
def sumS : F → List F → Bool × F
  | t, [] => (true, t)
  | t, x :: r => if both t x then sumS (rOf (qF t + qF x)) r else (false, t)
def leastS : F → List F → Bool × F
  | t, [] => (true, t)
  | t, x :: r => if both x t then leastS (if cq (qF x) (qF t) < 0 then x else t) r else (false, t)
def outSum (x : LSpec.X spSum) (y : LSpec.Y spSum) : T (Exit × List Av × LSpec.Y spSum) :=
  .need (x.2.1 = x.1.length ∧ 0 ≤ x.2.2.1 ∧ x.2.2.1 ≤ x.1.length ∧ lenOk x.1.length) (.lt (sumS y.2.1 (x.1.drop x.2.2.1.toNat)) fun r => .ite r.1 (.ret (.exit 0, [], (y.1, r.2, ()))) (.ret (.ret, [aB false], ((w0, w0), r.2, ()))))
theorem sumL_core (l : List F) (n i : Int) (r t : F) (Q : Exit × List Av × LSpec.Y spSum → Prop) (h : (outSum (l, n, i, ()) (r, t, ())).wp Q) : (tr_sumL ((l, n, i, ()), (r, t, ()))).wp fun r => match r with
      | .again x' y' => (x'.1.length - x'.2.2.1).toNat < (l.length - i).toNat ∧ (outSum x' y').wp Q
      | .out e avs y' => Q (e, avs, y') := by
  unfold tr_sumL
  unfold outSum at h ⊢
  simp only [T.wp] at h ⊢
  dsimp only [El, vts] at h ⊢
  obtain ⟨⟨hn, h0, h1, hl⟩, ht, hf⟩ := h
  refine ⟨fun hlt => ?_, fun hge => ?_⟩
  · have hlt := of_decide_eq_true hlt
    rw [hn] at hlt
    obtain ⟨v, hv⟩ := elem_at h0 hlt
    have hd := drop_at h0 hv
    refine ⟨v, h0, hv, fun hs => ⟨fun e => (by cases e), fun _ => ?_⟩, fun hs => ⟨fun _ => ?_, fun e => (by cases e)⟩⟩
    · rw [wrap_next h0 hlt hl]
      rw [hd, sumS, if_pos hs] at ht hf
      exact ⟨by omega, ⟨hn, by omega, by omega, hl⟩, ht, hf⟩
    · rw [hd, sumS, if_neg (by rw [hs]; simp)] at hf
      exact hf rfl
  · have hge := of_decide_eq_false hge
    rw [hn] at hge
    rw [drop_end (by omega), sumS] at ht
    exact ht rfl
theorem sumL_ok : LoopOk Try.prog 0 (bodyOf Try.f24 0) (spSum.run outSum) :=
  loop_ok (E := E7) (L := fun _ => none) mixed 0 (loops_none _ _ _) spSum (Nat.zero_le _) outSum (fun x _ => (x.1.length - x.2.2.1).toNat) (by
    rintro ⟨l, n, i, ⟨⟩⟩ ⟨r, t, ⟨⟩⟩ Q h
    rw [tr_sumL_eq ((l, n, i, ()), (r, t, ()))]
    exact sumL_core l n i r t Q h)
noncomputable def lpSum : Loops := oneL 3 (spSum.run outSum)
def outLeast (x : LSpec.X spLeast) (y : LSpec.Y spLeast) : T (Exit × List Av × LSpec.Y spLeast) :=
  .need (x.2.1 = x.1.length ∧ 0 ≤ x.2.2.1 ∧ x.2.2.1 ≤ x.1.length ∧ lenOk x.1.length) (.lt (leastS y.2.1 (x.1.drop x.2.2.1.toNat)) fun r => .ite r.1 (.ret (.exit 0, [], (y.1, r.2, ()))) (.ret (.ret, [aB false], ((w0, w0), r.2, ()))))
theorem leastL_core (l : List F) (n i : Int) (r t : F) (Q : Exit × List Av × LSpec.Y spLeast → Prop) (h : (outLeast (l, n, i, ()) (r, t, ())).wp Q) : (tr_leastL ((l, n, i, ()), (r, t, ()))).wp fun r => match r with
      | .again x' y' => (x'.1.length - x'.2.2.1).toNat < (l.length - i).toNat ∧ (outLeast x' y').wp Q
      | .out e avs y' => Q (e, avs, y') := by
  unfold tr_leastL
  unfold outLeast at h ⊢
  simp only [T.wp] at h ⊢
  dsimp only [El, vts] at h ⊢
  obtain ⟨⟨hn, h0, h1, hl⟩, ht, hf⟩ := h
  refine ⟨fun hlt => ?_, fun hge => ?_⟩
  · have hlt := of_decide_eq_true hlt
    rw [hn] at hlt
    obtain ⟨v, hv⟩ := elem_at h0 hlt
    have hd := drop_at h0 hv
    refine ⟨v, h0, hv, fun hs => ⟨fun e => (by cases e), fun _ => ⟨fun hc => ?_, fun hc => ?_⟩⟩, fun hs => ⟨fun _ => ?_, fun e => (by cases e)⟩⟩
    · rw [wrap_next h0 hlt hl]
      rw [hd, leastS, if_pos hs, if_pos (of_decide_eq_true hc)] at ht hf
      exact ⟨by omega, ⟨hn, by omega, by omega, hl⟩, ht, hf⟩
    · rw [wrap_next h0 hlt hl]
      rw [hd, leastS, if_pos hs, if_neg (of_decide_eq_false hc)] at ht hf
      exact ⟨by omega, ⟨hn, by omega, by omega, hl⟩, ht, hf⟩
    · rw [hd, leastS, if_neg (by rw [hs]; simp)] at hf
      exact hf rfl
  · have hge := of_decide_eq_false hge
    rw [hn] at hge
    rw [drop_end (by omega), leastS] at ht
    exact ht rfl
theorem leastL_ok : LoopOk Try.prog 0 (bodyOf Try.f23 0) (spLeast.run outLeast) :=
  loop_ok (E := E7) (L := fun _ => none) mixed 0 (loops_none _ _ _) spLeast (Nat.zero_le _) outLeast (fun x _ => (x.1.length - x.2.2.1).toNat) (by
    rintro ⟨l, n, i, ⟨⟩⟩ ⟨r, t, ⟨⟩⟩ Q h
    rw [tr_leastL_eq ((l, n, i, ()), (r, t, ()))]
    exact leastL_core l n i r t Q h)
noncomputable def lpLeast : Loops := oneL 5 (spLeast.run outLeast)
theorem rsub_ok (x : Els [(true, cF), (true, cF)]) : (tr_rsub x).wp (· = ansF (both x.1 x.2.1) (rOf (qF x.1 - qF x.2.1))) := by
  obtain ⟨x, y, u⟩ := x
  revert x y
  intro (x : F) (y : F)
  unfold tr_rsub
  simp only [T.wp]
  rw [all_both]
  refine ⟨fun h => ?_, fun h => ⟨len2 _ _, fun hb => ?_, fun hb => ?_⟩⟩
  · rw [both_sm h]
    rw [Bool.and_eq_true] at h
    obtain ⟨a1, a2, a3⟩ := sm_qF h.1
    obtain ⟨b1, b2, b3⟩ := sm_qF h.2
    have m1 := mul_s a1 b2
    have m2 := mul_s b1 a2
    have m3 := mul_s a2 b2
    have hp := Int.mul_pos a3 b3
    rw [mul_w a1 b2, mul_w b1 a2, mul_w a2 b2, IntWalk.i64_in (zW x.1 * zW y.2 - zW y.1 * zW x.2) (by omega), ← sub_q a3 b3]
    exact ⟨⟨⟨by omega, by omega⟩, ⟨by omega, by omega⟩, by omega⟩, rfl⟩
  · rw [show both x y = false from by simpa using hb]; rfl
  · have hb' : both x y = true := by simpa using hb
    rw [hb', neg_both hb', neg_q, ← Rat.sub_eq_add_neg]
    exact ⟨fun _ => rfl, fun e => (by cases e)⟩
theorem rfloor_ok (x : Els [(true, cF)]) : (tr_rfloor x).wp (· = ansA true cW (okF x.1) (wOf (qF x.1).floor) w0) := by
  obtain ⟨x, u⟩ := x
  revert x
  intro (x : F)
  unfold tr_rfloor
  simp only [T.wp]
  refine ⟨fun h => ?_, fun h => ?_⟩
  · rw [show okF x = false from by simpa using h]; rfl
  · have hok : OkF x := of_decide_eq_true (show okF x = true from by simpa using h)
    have hpos := hok.2.1
    obtain ⟨k1, k2⟩ := floor_law hok
    rw [show okF x = true from by simpa using h, if_neg (by omega), if_neg (by omega)]
    refine ⟨fun hr => ?_, fun hr => ?_⟩
    · rw [k1 (by simpa using hr)]; rfl
    · obtain ⟨e1, e2⟩ := k2 (by simpa using hr)
      rw [e1, e2]; rfl
end Go.Proofs.Ytjijakfcahhioaa
/-
Fractions: Sum, Least.
-/
set_option linter.unusedSimpArgs false
set_option linter.unusedVariables false
namespace Go.Proofs.Ytjijakfcahhioaa
open Go.RowKit Ax
noncomputable def tr_rsum (x : Els [(false, .sl cF)]) : T Av :=
 .need ((↑(List.length (x.1)) : Int) = (↑(List.length (x.1)) : El (Cd.int .i64)) ∧ (0 : El (Cd.int .i64)) ≤ (0 : Int) ∧ (0 : Int) ≤ (↑(List.length (x.1)) : El (Cd.int .i64)) ∧ lenOk (List.length (x.1))) (.lt (sumS (w0, wOf (1 : Int)) (List.drop (Int.toNat (0 : Int)) (x.1))) (fun v0 =>
   .ite v0.1
    (.ret (.tup [(.agg [.v (.bool v0.2.1.1), .w v0.2.1.2, .v (.bool v0.2.2.1), .w v0.2.2.2]), (.one (.v (.bool (true))))]))
    (.ret (.tup [(.agg [.v (.bool w0.1), .w w0.2, .v (.bool w0.1), .w w0.2]), (.one (.v (.bool (false))))]))))
theorem tr_rsum_eq (x : Els [(false, .sl cF)]) : fnP E7 lpSum Try.f24 (encs [(false, .sl cF)] x) = tr_rsum x := by kernel_rfl
noncomputable def tr_rleast (x : Els [(false, .sl cF)]) : T Av :=
 .ite ((↑(List.length (x.1)) : Int) == (0 : Int))
  (.ret (.tup [(.agg [.v (.bool w0.1), .w w0.2, .v (.bool w0.1), .w w0.2]), (.one (.v (.bool (false))))]))
  (.get (x.1) ((0 : Int)) (fun v0 =>
   .need ((0 : Int) ≤ (1 : Int) ∧ (1 : Int) ≤ (↑(List.length (x.1)) : Int) ∧ (↑(List.length (x.1)) : Int) ≤ (↑(List.length (x.1)) : Int)) (.need ((↑(List.length (List.drop (Int.toNat (1 : Int)) (List.take (Int.toNat (↑(List.length (x.1)) : Int)) (x.1)))) : Int) = (↑(List.length (List.drop (Int.toNat (1 : Int)) (List.take (Int.toNat (↑(List.length (x.1)) : Int)) (x.1)))) : El (Cd.int .i64)) ∧ (0 : El (Cd.int .i64)) ≤ (0 : Int) ∧ (0 : Int) ≤ (↑(List.length (List.drop (Int.toNat (1 : Int)) (List.take (Int.toNat (↑(List.length (x.1)) : Int)) (x.1)))) : El (Cd.int .i64)) ∧ lenOk (List.length (List.drop (Int.toNat (1 : Int)) (List.take (Int.toNat (↑(List.length (x.1)) : Int)) (x.1))))) (.lt (leastS v0 (List.drop (Int.toNat (0 : Int)) (List.drop (Int.toNat (1 : Int)) (List.take (Int.toNat (↑(List.length (x.1)) : Int)) (x.1))))) (fun v1 =>
      .ite v1.1
       (.ret (.tup [(.agg [.v (.bool v1.2.1.1), .w v1.2.1.2, .v (.bool v1.2.2.1), .w v1.2.2.2]), (.one (.v (.bool (true))))]))
       (.ret (.tup [(.agg [.v (.bool w0.1), .w w0.2, .v (.bool w0.1), .w w0.2]), (.one (.v (.bool (false))))])))))))
theorem tr_rleast_eq (x : Els [(false, .sl cF)]) : fnP E7 lpLeast Try.f23 (encs [(false, .sl cF)] x) = tr_rleast x := by kernel_rfl
noncomputable def con_rsub : Con Try.prog := ⟨26, [], _, cf_rsub, ans_con0 (E := E7) mixed Try.func26 no_loops [(true, cF), (true, cF)] true cF (fun x => both x.1 x.2.1) (fun x => rOf (qF x.1 - qF x.2.1)) (fun _ => (w0, w0)) fun x => by rw [tr_rsub_eq]; exact rsub_ok x⟩
noncomputable def con_rfloor : Con Try.prog := ⟨11, [], _, cf_rfloor, ans_con0 (E := E7) mixed Try.func11 no_loops [(true, cF)] true cW (fun x => okF x.1) (fun x => wOf (qF x.1).floor) (fun _ => w0) fun x => by rw [tr_rfloor_eq]; exact rfloor_ok x⟩
/-- a sum, if every step may be taken -/
def sumF (l : List F) : Bool × F := sumS (w0, wOf 1) l
def leastF : List F → Bool × F
  | [] => (false, (w0, w0))
  | x :: r => leastS x r
noncomputable def con_rsum : Con Try.prog := ⟨24, [], _, cf_rsum, ans_con (E := E7) (L := lpSum) mixed Try.func24 (one_loop sumL_ok (by kernel_rfl)) [(false, .sl cF)] (fun x => lenOk x.1.length) true cF (fun x => (sumF x.1).1) (fun x => (sumF x.1).2) (fun _ => (w0, w0)) fun x hx => by
  rw [tr_rsum_eq]
  unfold tr_rsum
  simp only [T.wp]
  dsimp only [El]
  refine ⟨⟨by simp, by simp, by simp, hx⟩, fun h => ?_, fun h => ?_⟩
  · simp only [Int.toNat_zero, List.drop_zero] at h ⊢; unfold sumF; rw [h]; rfl
  · simp only [Int.toNat_zero, List.drop_zero] at h ⊢; unfold sumF; rw [h]; rfl⟩
noncomputable def con_rleast : Con Try.prog := ⟨23, [], _, cf_rleast, ans_con (E := E7) (L := lpLeast) mixed Try.func23 (one_loop leastL_ok (by kernel_rfl)) [(false, .sl cF)] (fun x => lenOk x.1.length) true cF (fun x => (leastF x.1).1) (fun x => (leastF x.1).2) (fun _ => (w0, w0)) fun x hx => by
  rw [tr_rleast_eq]
  obtain ⟨l, u⟩ := x
  revert l
  intro (l : List F) (hx : lenOk l.length)
  unfold tr_rleast
  simp only [T.wp]
  dsimp only [El]
  cases l with
  | nil => exact ⟨fun _ => rfl, fun h => by cases h⟩
  | cons f r =>
    refine ⟨fun h => ?_, fun _ => ⟨f, by simp, rfl, ⟨by simp, by simp; omega, by simp⟩, ⟨by simp, by simp, by simp, ?_⟩, fun h => ?_, fun h => ?_⟩⟩
    · simp at h; omega
    · unfold lenOk at hx ⊢; simp at hx ⊢; omega
    · simp only [Int.toNat_zero, List.drop_zero, List.length_cons, Int.toNat_natCast, List.take_succ_cons, show (1 : Int).toNat = 1 from rfl, List.drop_succ_cons, List.take_length] at h ⊢; rw [show leastF (f :: r) = leastS f r from rfl, h]; rfl
    · simp only [Int.toNat_zero, List.drop_zero, List.length_cons, Int.toNat_natCast, List.take_succ_cons, show (1 : Int).toNat = 1 from rfl, List.drop_succ_cons, List.take_length] at h ⊢; rw [show leastF (f :: r) = leastS f r from rfl, h]; rfl⟩
noncomputable def E8 : Env Try.prog := ⟨con_rsub :: con_rfloor :: con_rsum :: con_rleast :: E7.con, E7.zero, E7.cod, E7.sure, E7.base, E7.frz⟩
end Go.Proofs.Ytjijakfcahhioaa
/-
Texts of numbers: the order of bytes turned about; what a number's amount is asked.
-/
set_option linter.unusedSimpArgs false
set_option linter.unusedVariables false
namespace Go.Proofs.Ytjijakfcahhioaa
open Go.RowKit Ax
theorem cf_reverse (xs : Array Value) (w : World) : (callFunc 73 xs).run Try.prog w = .ok (.enter 73 xs) w := by kernel_rfl
noncomputable def codB : Cod Try.prog := ⟨5, .int .u8, by kernel_rfl, ⟨.int .u8 0, fun w => by kernel_rfl⟩⟩
def spRev : RSpec := ⟨28, [(2, false, .int .i64), (3, false, .int .i64)], [], [], fun _ => [], 0, 5, .int .u8, true⟩
end Go.Proofs.Ytjijakfcahhioaa
/-
Plain laws: a list turned about in place; the digits of a number.
-/
set_option linter.unusedSimpArgs false
set_option linter.unusedVariables false
namespace Ax
/-- the stretch from i to j turned about -/
def revSeg (xs : List Int) (i j : Int) : List Int := (List.range xs.length).map fun (k : Nat) => if i ≤ (k : Int) ∧ (k : Int) ≤ j then xs.getD (i + j - k).toNat 0 else xs.getD k 0
theorem revSeg_len (xs : List Int) (i j : Int) : (revSeg xs i j).length = xs.length := by simp [revSeg]
theorem revSeg_at {xs : List Int} {i j : Int} {k : Nat} (h : k < xs.length) : (revSeg xs i j)[k]? = some (if i ≤ k ∧ (k : Int) ≤ j then xs.getD (i + j - k).toNat 0 else xs.getD k 0) := by
  unfold revSeg
  rw [List.getElem?_map, List.getElem?_range h]; rfl
theorem revSeg_end {xs : List Int} {i j : Int} (h : j ≤ i) : revSeg xs i j = xs := by
  apply List.ext_getElem?
  intro k
  rcases Nat.lt_or_ge k xs.length with hk | hk
  · rw [revSeg_at hk, List.getElem?_eq_getElem hk]
    congr 1
    split
    · rw [show (i + j - k).toNat = k from by omega, List.getD_eq_getElem?_getD, List.getElem?_eq_getElem hk]; rfl
    · rw [List.getD_eq_getElem?_getD, List.getElem?_eq_getElem hk]; rfl
  · rw [List.getElem?_eq_none (by rw [revSeg_len]; exact hk), List.getElem?_eq_none hk]
theorem revSeg_step {xs : List Int} {i j : Int} {a b : Int} (h0 : 0 ≤ i) (hij : i < j) (hj : j < xs.length) (ha : xs[i.toNat]? = some a) (hb : xs[j.toNat]? = some b) : revSeg ((xs.set i.toNat b).set j.toNat a) (i + 1) (j - 1) = revSeg xs i j := by
  apply List.ext_getElem?
  intro k
  rcases Nat.lt_or_ge k xs.length with hk | hk
  · rw [revSeg_at hk, revSeg_at (by simpa using hk)]
    congr 1
    have get : ∀ q : Nat, ((xs.set i.toNat b).set j.toNat a).getD q 0 = if q = j.toNat then a else if q = i.toNat then b else xs.getD q 0 := fun q => by
      simp only [List.getD_eq_getElem?_getD, List.getElem?_set, List.length_set]
      by_cases e1 : j.toNat = q
      · rw [if_pos e1, if_pos (by omega), if_pos e1.symm]; rfl
      · rw [if_neg e1, if_neg (Ne.symm e1)]
        by_cases e2 : i.toNat = q
        · rw [if_pos e2, if_pos (by omega), if_pos e2.symm]; rfl
        · rw [if_neg e2, if_neg (Ne.symm e2)]
    have ga : xs.getD i.toNat 0 = a := by rw [List.getD_eq_getElem?_getD, ha]; rfl
    have gb : xs.getD j.toNat 0 = b := by rw [List.getD_eq_getElem?_getD, hb]; rfl
    by_cases c1 : i + 1 ≤ (k : Int) ∧ (k : Int) ≤ j - 1
    · rw [if_pos c1, if_pos (by omega), get, if_neg (by omega), if_neg (by omega), show i + 1 + (j - 1) - (k : Int) = i + j - k from by omega]
    · rw [if_neg c1, get]
      by_cases e1 : k = j.toNat
      · rw [if_pos e1, if_pos (by omega), show (i + j - (k : Int)).toNat = i.toNat from by omega, ga]
      · rw [if_neg e1]
        by_cases e2 : k = i.toNat
        · rw [if_pos e2, if_pos (by omega), show (i + j - (k : Int)).toNat = j.toNat from by omega, gb]
        · rw [if_neg e2, if_neg (by omega)]
  · rw [List.getElem?_eq_none (by rw [revSeg_len]; simpa using hk), List.getElem?_eq_none (by rw [revSeg_len]; exact hk)]
theorem revSeg_all (xs : List Int) : revSeg xs 0 ((xs.length : Int) - 1) = xs.reverse := by
  apply List.ext_getElem?
  intro k
  rcases Nat.lt_or_ge k xs.length with hk | hk
  · rw [revSeg_at hk, if_pos (by omega), List.getElem?_reverse hk, List.getD_eq_getElem?_getD, show (0 + ((xs.length : Int) - 1) - k).toNat = xs.length - 1 - k from by omega, List.getElem?_eq_getElem (by omega)]; rfl
  · rw [List.getElem?_eq_none (by rw [revSeg_len]; exact hk), List.getElem?_eq_none (by simpa using hk)]
end Ax
/-
The order of bytes turned about.
-/
set_option linter.unusedSimpArgs false
set_option linter.unusedVariables false
namespace Go.Proofs.Ytjijakfcahhioaa
open Go.RowKit Ax
noncomputable def tr_revL (x : RSpec.X spRev × RSpec.Y spRev × (List (El (RSpec.c spRev)) × Nat)) : T (RRd spRev) :=
 .ite (decide (x.1.1 < x.1.2.1))
  (.need ((0 : Int) ≤ x.1.2.1 ∧ x.1.2.1 < (↑(List.length x.2.2.1) : Int)) (.need ((0 : Int) ≤ x.1.1 ∧ x.1.1 < (↑(List.length x.2.2.1) : Int)) (.and
     (.get x.2.2.1 x.1.2.1 (fun v0 =>
      .get x.2.2.1 x.1.1 (fun v1 =>
       .need ((0 : Int) ≤ x.1.1 ∧ x.1.1 < (↑(List.length x.2.2.1) : Int)) (.need (x.1.1 < (↑(List.length x.2.2.1) : Int)) (.need ((0 : Int) ≤ x.1.2.1 ∧ x.1.2.1 < (↑(List.length x.2.2.1) : Int)) (.need (x.1.2.1 < (↑(List.length (List.set x.2.2.1 (Int.toNat x.1.1) v0)) : Int)) (.need (List.length x.2.2.1 = List.length (List.set (List.set x.2.2.1 (Int.toNat x.1.1) v0) (Int.toNat x.1.2.1) v1) ∧ x.2.2.2 = x.2.2.2) (.ret (.again (IntKind.wrap .i64 (x.1.1 + (1 : Int)), (IntKind.wrap .i64 (x.1.2.1 - (1 : Int)), ())) () (some ((List.set (List.set x.2.2.1 (Int.toNat x.1.1) v0) (Int.toNat x.1.2.1) v1, x.2.2.2))))))))))))
     (.get x.2.2.1 x.1.1 (fun v0 =>
      .get x.2.2.1 x.1.2.1 (fun v1 =>
       .need ((0 : Int) ≤ x.1.1 ∧ x.1.1 < (↑(List.length x.2.2.1) : Int)) (.need (x.1.1 < (↑(List.length x.2.2.1) : Int)) (.need ((0 : Int) ≤ x.1.2.1 ∧ x.1.2.1 < (↑(List.length x.2.2.1) : Int)) (.need (x.1.2.1 < (↑(List.length (List.set x.2.2.1 (Int.toNat x.1.1) v1)) : Int)) (.need (List.length x.2.2.1 = List.length (List.set (List.set x.2.2.1 (Int.toNat x.1.1) v1) (Int.toNat x.1.2.1) v0) ∧ x.2.2.2 = x.2.2.2) (.ret (.again (IntKind.wrap .i64 (x.1.1 + (1 : Int)), (IntKind.wrap .i64 (x.1.2.1 - (1 : Int)), ())) () (some ((List.set (List.set x.2.2.1 (Int.toNat x.1.1) v1) (Int.toNat x.1.2.1) v0, x.2.2.2)))))))))))))))
  (.need (List.length x.2.2.1 = List.length x.2.2.1 ∧ x.2.2.2 = x.2.2.2) (.ret (.out (Go.Exit.exit (0 : Nat)) [] () (some x.2.2))))
theorem tr_revL_eq (x : RSpec.X spRev × RSpec.Y spRev × (List (El (RSpec.c spRev)) × Nat)) : RSpec.round spRev E8 (fun _ => none) (bodyOf Try.f73 0) x.1 x.2.1 (some x.2.2) = tr_revL x := by kernel_rfl
def outRev (x : RSpec.X spRev) (y : RSpec.Y spRev) (g : RSpec.G spRev) : T (Exit × List Av × RSpec.Y spRev × RSpec.G spRev) :=
  match g with
  | none => .fail
  | some r => .need (0 ≤ x.1 ∧ x.2.1 < r.1.length ∧ lenOk r.1.length) (.ret (.exit 0, [], (), some (revSeg r.1 x.1 x.2.1, r.2)))
theorem revL_core (i j : Int) (xs : List Int) (cap : Nat) (Q : Exit × List Av × RSpec.Y spRev × RSpec.G spRev → Prop) (h : (outRev (i, j, ()) () (some (xs, cap))).wp Q) : (tr_revL ((i, j, ()), (), (xs, cap))).wp fun r => match r with
      | .again x' y' g' => (x'.2.1 - x'.1).toNat < (j - i).toNat ∧ (outRev x' y' g').wp Q
      | .out e avs y' g' => Q (e, avs, y', g') := by
  unfold tr_revL
  unfold outRev at h ⊢
  simp only [T.wp] at h ⊢
  dsimp only [El, vts, spRev] at h ⊢
  obtain ⟨⟨h0, h1, hl⟩, hq⟩ := h
  refine ⟨fun hlt => ?_, fun hge => ?_⟩
  · have hlt := of_decide_eq_true hlt
    obtain ⟨a, ha⟩ := elem_at (l := xs) h0 (by omega)
    obtain ⟨b, hb⟩ := elem_at (l := xs) (i := j) (by omega) h1
    have hl' := hl
    unfold lenOk at hl'
    have e1 : IntKind.i64.wrap (i + 1) = i + 1 := IntWalk.i64_in _ (by omega)
    have e2 : IntKind.i64.wrap (j - 1) = j - 1 := IntWalk.i64_in _ (by omega)
    have key : (j - 1 - (i + 1)).toNat < (j - i).toNat ∧ (0 ≤ i + 1 ∧ j - 1 < (((xs.set i.toNat b).set j.toNat a).length : Int) ∧ lenOk ((xs.set i.toNat b).set j.toNat a).length) ∧ Q (.exit 0, [], (), some (revSeg ((xs.set i.toNat b).set j.toNat a) (i + 1) (j - 1), cap)) := by
      rw [revSeg_step h0 hlt h1 ha hb]
      simp only [List.length_set]
      exact ⟨by omega, ⟨by omega, by omega, hl⟩, hq⟩
    rw [e1, e2]
    refine ⟨⟨by omega, h1⟩, ⟨h0, by omega⟩, ⟨b, by omega, hb, a, h0, ha, ⟨h0, by omega⟩, by omega, ⟨by omega, h1⟩, by simp only [List.length_set]; exact h1, ⟨by simp only [List.length_set], trivial⟩, key⟩, ⟨a, h0, ha, b, by omega, hb, ⟨h0, by omega⟩, by omega, ⟨by omega, h1⟩, by simp only [List.length_set]; exact h1, ⟨by simp only [List.length_set], trivial⟩, key⟩⟩
  · have hge := of_decide_eq_false hge
    rw [revSeg_end (by omega)] at hq
    exact ⟨⟨trivial, trivial⟩, hq⟩
theorem revL_ok : LoopOk Try.prog 1 (bodyOf Try.f73 0) (spRev.run outRev) :=
  loopR_ok (E := E8) (L := fun _ => none) mixed 1 (loops_none _ _ _) spRev (Nat.le_refl _) outRev (fun x _ _ => (x.2.1 - x.1).toNat) (by
    rintro ⟨i, j, ⟨⟩⟩ ⟨⟩ g Q h
    match g, h with
    | some (xs, cap), h =>
      rw [tr_revL_eq ((i, j, ()), (), (xs, cap))]
      exact revL_core i j xs cap Q h)
noncomputable def lpRev : Loops := oneL 1 (spRev.run outRev)
end Go.Proofs.Ytjijakfcahhioaa
/-
Texts of numbers: the functions that a number's text asks.
-/
set_option linter.unusedSimpArgs false
set_option linter.unusedVariables false
namespace Ax
open Go Go.RowKit
theorem fresh_con {P : Program} {f : FuncId} (ts : List (Bool × Cd)) (sp : Els ts → T Av)
    (h : ∀ x vs w R Q, ArgsAre w R ts x vs → (sp x).wp Q → ∃ av, Q av ∧ Calls P f vs.toArray w fun e w' => ∃ v, e = .returned v ∧ Below w.heap.size w w' ∧ AvIs w' (fun b => w.heap.size ≤ b ∧ b < w'.heap.size) [] av v) : ConOk P f [] (pureRun' ts sp) := by
  intro w φ σ m args vs Q hmem hlen hargs hrun
  unfold pureRun' at hrun
  split at hrun
  · rename_i x hx
    rw [T.wp_bind] at hrun
    obtain ⟨av, hQ, hc⟩ := h x vs w _ _ (decs_ok ts args x vs hx hlen hargs) hrun
    refine hc.mono fun e w' hr => ?_
    obtain ⟨v, rfl, hb, hv⟩ := hr
    have hk := Keep.of_below hb σ
    have hown : ∀ i b : Nat, σ[i]? = some b → w'.heap[b]? = w.heap[b]? := fun i b hi => hb.block b (hmem.lt (List.mem_of_getElem? hi))
    refine ⟨v, av, m, σ, rfl, hQ, Ext.refl _ _, hk, fun i b hi _ => hown i b hi, hv.ro (fun b hb' => ⟨hb'.2, fun hm => ?_, fun hm => ?_⟩) σ, hmem.stay hk (Ext.refl _ _) rfl hown⟩
    · have := hmem.fo b hm; omega
    · have := hmem.lt hm; omega
  · exact hrun.elim
theorem arg_ptr {w : World} {R : Nat → Prop} {x : Amt} {v : Value} (h : AvIs w R [] (encA false (.ptr .words) x) v) : ∃ b o, v = .pointer (some ⟨b, o, none⟩) ∧ w.rangeAt b o (Pq.am 32 x.1) := by
  obtain ⟨b, o, vs, hR, hrg, hcs, rfl⟩ := is_one_pr (σ := []) (cs := [.w x]) h
  cases hcs with | w h2 => cases h2; rw [List.append_nil] at hrg; exact ⟨b, o, rfl, hrg⟩
theorem ptr_av {w : World} {R : Nat → Prop} {x : Amt} {b : Nat} (hR : R b) (h : w.rangeAt b 0 (Pq.am 32 x.1)) : AvIs w R [] (.one (.pr [.w x])) (.pointer (some ⟨b, 0, none⟩)) := by
  refine .one rfl (.pr hR (vs := Pq.am 32 x.1) h ?_ .nil)
  have := Is.w (w := w) (R := R) (σ := []) (x := x) .nil
  rwa [List.append_nil] at this
def divA (x : Amt) (d : Nat) : Amt := ⟨x.1 / d, Nat.lt_of_le_of_lt (Nat.div_le_self _ _) x.2⟩
end Ax
namespace Go.Proofs.Ytjijakfcahhioaa
open Go.RowKit Ax
theorem cf_wof (xs : Array Value) (w : World) : (callFunc 57 xs).run Try.prog w = .ok (.enter 57 xs) w := by kernel_rfl
theorem cf_wsize (xs : Array Value) (w : World) : (callFunc 58 xs).run Try.prog w = .ok (.enter 58 xs) w := by kernel_rfl
theorem cf_wbyword (xs : Array Value) (w : World) : (callFunc 61 xs).run Try.prog w = .ok (.enter 61 xs) w := by kernel_rfl
theorem cf_wtext (xs : Array Value) (w : World) : (callFunc 48 xs).run Try.prog w = .ok (.enter 48 xs) w := by kernel_rfl
noncomputable def con_wof : Con Try.prog := ⟨57, [], pureRun' [(true, cW)] (fun x => .ret (.one (.pr [.w x.1.2]))), cf_wof, fresh_con _ _ fun x vs w R Q ha hQ => by
  obtain ⟨v, rfl, hv⟩ := args1 ha
  have hv := av_w hv
  subst hv
  refine ⟨_, hQ, (of_ptr x.1.1 x.1.2.1 w).mono fun e w' hr => ?_⟩
  obtain ⟨b, rfl, hrg, hb, h1, h2⟩ := hr
  exact ⟨_, rfl, hb, ptr_av ⟨h1, h2⟩ hrg⟩⟩
noncomputable def con_wsize : Con Try.prog := ⟨58, [], pureRun' [(false, .ptr .words)] (fun x => .ret (aI .i64 ((Pq.szn 32 x.1.1 : Nat) : Int))), cf_wsize, ret_con _ _ fun x vs w R Q ha hQ => by
  obtain ⟨v, rfl, hv⟩ := args1 ha
  obtain ⟨b, o, rfl, hrg⟩ := arg_ptr hv
  refine ⟨_, _, hQ, (size_any b o x.1.1 _ rfl w hrg).mono fun e w' hr => ?_, fun w' R' => .val rfl⟩
  obtain ⟨rfl, rfl⟩ := hr
  exact ⟨rfl, Below.refl _ _⟩⟩
noncomputable def con_wbyword : Con Try.prog := ⟨61, [], pureRun' [(false, .ptr .words), (false, .int .u32)] (fun x => .need (0 < x.2.1 ∧ x.2.1 < 4294967296) (.lt (divA x.1 x.2.1.toNat) fun q => .ret (.tup [.one (.pr [.w q]), aI .u32 ((x.1.1 % x.2.1.toNat : Nat) : Int)]))), cf_wbyword, fresh_con _ _ fun x vs w R Q => by
  obtain ⟨x, d, u⟩ := x
  revert x d
  intro (x : Amt) (d : Int) ha hQ
  obtain ⟨v, v', rfl, hv, hv'⟩ := args2 ha
  obtain ⟨b, o, rfl, hrg⟩ := arg_ptr hv
  have hv' := is_int hv'
  subst hv'
  obtain ⟨⟨h0, h1⟩, hQ⟩ := hQ
  dsimp only [El, vts] at h0 h1
  refine ⟨_, hQ, ?_⟩
  have hz : ((d.toNat : Nat) : Int) = d := Int.toNat_of_nonneg (by omega)
  have := byword_any b o x.1 d.toNat w x.2 (by omega) (by omega) hrg
  rw [hz] at this
  refine this.mono fun e w' hr => ?_
  obtain ⟨b, rfl, hrg, hb, h1, h2⟩ := hr
  refine ⟨_, rfl, hb, .tup [_, _] rfl fun i a u hi hu => ?_⟩
  match i, hi, hu with
  | 0, hi, hu => cases hi; cases hu; exact ptr_av (x := divA x d.toNat) ⟨h1, h2⟩ hrg
  | 1, hi, hu => cases hi; cases hu; exact .val rfl⟩
noncomputable def tr_reverse (x : List (El (.int .u8)) × Nat × Nat) : T (Av × List (El (.int .u8))) :=
 .need (x.2.1 = List.length (x.1) ∧ x.2.2 = x.2.2) (.need ((0 : El (Cd.int .i64)) ≤ (0 : Int) ∧ IntKind.wrap .i64 ((↑x.2.1 : Int) - (1 : Int)) < (↑(List.length (x.1)) : El (Cd.int .i64)) ∧ lenOk (List.length (x.1))) (.need (x.2.2 = x.2.2) (.ret ((.tup []), revSeg (x.1) (0 : Int) (IntKind.wrap .i64 ((↑x.2.1 : Int) - (1 : Int)))))))
theorem tr_reverse_eq (x : List (El (.int .u8)) × Nat × Nat) : row1 E8 lpRev Try.f73 5 (.int .u8) x.1 x.2.1 x.2.2 = tr_reverse x := by kernel_rfl
noncomputable def con_reverse : Con Try.prog := ⟨73, [0], row1Run 5 (.int .u8) (fun xs n cap => .need (n = xs.length ∧ lenOk xs.length) (.ret (.tup [], List.reverse (α := Int) xs))), cf_reverse,
  row1_ok (E := E8) (L := lpRev) mixed Try.func73 (one_loop revL_ok (by kernel_rfl)) _ _ _ fun xs n cap Q h => by
  rw [tr_reverse_eq (xs, n, cap)]
  unfold tr_reverse
  simp only [T.wp] at h ⊢
  obtain ⟨⟨hn, hl⟩, hQ⟩ := h
  subst hn
  have hl' := hl
  unfold lenOk at hl'
  have e : IntKind.i64.wrap ((xs.length : Int) - 1) = (xs.length : Int) - 1 := IntWalk.i64_in _ (by omega)
  rw [e, revSeg_all]
  exact ⟨⟨rfl, trivial⟩, ⟨by simp, by dsimp only [El]; omega, hl⟩, trivial, hQ⟩⟩
noncomputable def zeroY : Zero Try.prog := ⟨5, ck (.int .u8) (0 : Int), [.int .u8 0], by kernel_rfl, fun w R σ => .v rfl .nil⟩
noncomputable def E9 : Env Try.prog := ⟨con_wof :: con_wsize :: con_wbyword :: con_reverse :: E8.con, zeroY :: E8.zero, codB :: E8.cod, E8.sure, E8.base, E8.frz⟩
abbrev spText : RSpec := ⟨36, [(3, false, .ptr .words)], [(1, 0, 0)], [(25, cW)], fun _ => [], 4, 5, .int .u8, false⟩
end Go.Proofs.Ytjijakfcahhioaa
/-
Plain laws: the digits of a number.
-/
set_option linter.unusedSimpArgs false
set_option linter.unusedVariables false
namespace Ax
/-- the digits of a number, the last one first, as bytes -/
def dg (x : Nat) : List Int := if h : x = 0 then [] else (48 + (x % 10 : Nat) : Int) :: dg (x / 10)
decreasing_by exact Nat.div_lt_self (by omega) (by omega)
theorem dg_zero : dg 0 = [] := by rw [dg]; simp
theorem dg_pos {x : Nat} (h : x ≠ 0) : dg x = (48 + (x % 10 : Nat) : Int) :: dg (x / 10) := by rw [dg, dif_neg h]
theorem dg_len {n : Nat} : ∀ {x : Nat}, x < 2 ^ n → (dg x).length ≤ n := by
  induction n with
  | zero => intro x h; rw [show x = 0 from by simpa using h, dg_zero]; simp
  | succ n ih =>
    intro x h
    by_cases h0 : x = 0
    · rw [h0, dg_zero]; simp
    · rw [dg_pos h0, List.length_cons]
      have := ih (x := x / 10) (by rw [Nat.pow_succ] at h; omega)
      omega
end Ax
/-
A number's text: its digits, one by one.
-/
set_option linter.unusedSimpArgs false
set_option linter.unusedVariables false
namespace Go.Proofs.Ytjijakfcahhioaa
open Go.RowKit Ax
noncomputable def tr_textL (x : RSpec.X spText × RSpec.Y spText × (List (El (RSpec.c spText)) × Nat)) : T (RRd spText) :=
 .ite (decide ((↑(Pq.szn (32 : Nat) x.1.1.1) : Int) > (0 : Int)))
  (.need ((0 : El (Cd.int .u32)) < (10 : Int) ∧ (10 : Int) < (4294967296 : El (Cd.int .u32))) (.lt (divA x.1.1 (Int.toNat (10 : Int))) (fun v0 =>
    .need (List.length x.2.2.1 = List.length x.2.2.1 ∧ x.2.2.2 = x.2.2.2 ∧ (List.length x.2.2.1 + List.length [IntKind.wrap .u8 (IntKind.wrap .u32 ((48 : Int) + (↑(x.1.1.1 % Int.toNat (10 : Int)) : Int)))]) * (nat_lit 0 + (1 : Nat)) ≤ (140737488355328 : Nat) ∧ List.length x.2.2.1 + List.length [IntKind.wrap .u8 (IntKind.wrap .u32 ((48 : Int) + (↑(x.1.1.1 % Int.toNat (10 : Int)) : Int)))] ≤ Go.maxLen) (.and
      (.need (List.length x.2.2.1 + List.length [IntKind.wrap .u8 (IntKind.wrap .u32 ((48 : Int) + (↑(x.1.1.1 % Int.toNat (10 : Int)) : Int)))] = List.length (x.2.2.1 ++ [IntKind.wrap .u8 (IntKind.wrap .u32 ((48 : Int) + (↑(x.1.1.1 % Int.toNat (10 : Int)) : Int)))]) ∧ x.2.2.2 = x.2.2.2) (.ret (.again (v0, ()) (x.2.1.1, ()) (some ((x.2.2.1 ++ [IntKind.wrap .u8 (IntKind.wrap .u32 ((48 : Int) + (↑(x.1.1.1 % Int.toNat (10 : Int)) : Int)))], x.2.2.2))))))
      (.up (List.length x.2.2.1 + List.length [IntKind.wrap .u8 (IntKind.wrap .u32 ((48 : Int) + (↑(x.1.1.1 % Int.toNat (10 : Int)) : Int)))]) (fun v1 =>
       .need (List.length x.2.2.1 + List.length [IntKind.wrap .u8 (IntKind.wrap .u32 ((48 : Int) + (↑(x.1.1.1 % Int.toNat (10 : Int)) : Int)))] = List.length (x.2.2.1 ++ [IntKind.wrap .u8 (IntKind.wrap .u32 ((48 : Int) + (↑(x.1.1.1 % Int.toNat (10 : Int)) : Int)))]) ∧ v1 = v1) (.ret (.again (v0, ()) (x.2.1.1, ()) (some ((x.2.2.1 ++ [IntKind.wrap .u8 (IntKind.wrap .u32 ((48 : Int) + (↑(x.1.1.1 % Int.toNat (10 : Int)) : Int)))], v1)))))))))))
  (.need (List.length x.2.2.1 = List.length x.2.2.1 ∧ x.2.2.2 = x.2.2.2) (.ret (.out (Go.Exit.exit (0 : Nat)) [] (x.2.1.1, ()) (some x.2.2))))
theorem tr_textL_eq (x : RSpec.X spText × RSpec.Y spText × (List (El (RSpec.c spText)) × Nat)) : RSpec.round spText E9 (fun _ => none) (bodyOf Try.f48 0) x.1 x.2.1 (some x.2.2) = tr_textL x := by kernel_rfl
noncomputable def tr_textL0 (x : RSpec.X spText × RSpec.Y spText) : T (RRd spText) :=
 .ite (decide ((↑(Pq.szn (32 : Nat) x.1.1.1) : Int) > (0 : Int)))
  (.need ((0 : El (Cd.int .u32)) < (10 : Int) ∧ (10 : Int) < (4294967296 : El (Cd.int .u32))) (.lt (divA x.1.1 (Int.toNat (10 : Int))) (fun v0 =>
    .need (List.length [IntKind.wrap .u8 (IntKind.wrap .u32 ((48 : Int) + (↑(x.1.1.1 % Int.toNat (10 : Int)) : Int)))] * (nat_lit 0 + (1 : Nat)) ≤ (140737488355328 : Nat) ∧ List.length [IntKind.wrap .u8 (IntKind.wrap .u32 ((48 : Int) + (↑(x.1.1.1 % Int.toNat (10 : Int)) : Int)))] ≤ Go.maxLen) (.up (List.length [IntKind.wrap .u8 (IntKind.wrap .u32 ((48 : Int) + (↑(x.1.1.1 % Int.toNat (10 : Int)) : Int)))]) (fun v1 =>
      .need (List.length [IntKind.wrap .u8 (IntKind.wrap .u32 ((48 : Int) + (↑(x.1.1.1 % Int.toNat (10 : Int)) : Int)))] = List.length [IntKind.wrap .u8 (IntKind.wrap .u32 ((48 : Int) + (↑(x.1.1.1 % Int.toNat (10 : Int)) : Int)))] ∧ v1 = v1) (.ret (.again (v0, ()) (x.2.1, ()) (some (([IntKind.wrap .u8 (IntKind.wrap .u32 ((48 : Int) + (↑(x.1.1.1 % Int.toNat (10 : Int)) : Int)))], v1))))))))))
  (.need (True) (.ret (.out (Go.Exit.exit (0 : Nat)) [] (x.2.1, ()) none)))
theorem tr_textL0_eq (x : RSpec.X spText × RSpec.Y spText) : RSpec.round spText E9 (fun _ => none) (bodyOf Try.f48 0) x.1 x.2 none = tr_textL0 x := by kernel_rfl
def outText (x : RSpec.X spText) (y : RSpec.Y spText) (g : RSpec.G spText) : T (Exit × List Av × RSpec.Y spText × RSpec.G spText) :=
  match g with
  | none => .need ((dg x.1.1).length ≤ 1000000) (.ite (decide (x.1.1 = 0)) (.ret (.exit 0, [], y, none)) (.up 0 fun k => .ret (.exit 0, [], y, some (dg x.1.1, k))))
  | some r => .need (r.1.length + (dg x.1.1).length ≤ 1000000) (.up 0 fun k => .ret (.exit 0, [], y, some ((r.1 : List Int) ++ dg x.1.1, k)))
theorem digit_wrap (x : Nat) : IntKind.u8.wrap (IntKind.u32.wrap ((48 : Int) + ((x % Int.toNat (10 : Int) : Nat) : Int))) = 48 + ((x % 10 : Nat) : Int) := by
  rw [show Int.toNat (10 : Int) = 10 from rfl, IntWalk.u32_in _ (by omega), IntWalk.u8_in _ (by omega)]
theorem textL_core (x : Amt) (y : W) (xs : List Int) (cap : Nat) (Q : Exit × List Av × RSpec.Y spText × RSpec.G spText → Prop) (h : (outText (x, ()) (y, ()) (some (xs, cap))).wp Q) : (tr_textL ((x, ()), (y, ()), (xs, cap))).wp fun r => match r with
      | .again x' y' g' => x'.1.1 < x.1 ∧ (outText x' y' g').wp Q
      | .out e avs y' g' => Q (e, avs, y', g') := by
  unfold tr_textL
  unfold outText at h ⊢
  simp only [T.wp, digit_wrap] at h ⊢
  dsimp only [El, vts, spText] at h ⊢
  obtain ⟨hl, hq⟩ := h
  refine ⟨fun hlt => ?_, fun hge => ?_⟩
  · have hne : x.1 ≠ 0 := (Pq.szn_pos x.2).1 (by have := of_decide_eq_true hlt; omega)
    rw [dg_pos hne] at hl hq
    have hd : (divA x (Int.toNat (10 : Int))).1 = x.1 / 10 := rfl
    have hlt' : x.1 / 10 < x.1 := Nat.div_lt_self (by omega) (by omega)
    simp only [hd, List.length_append, List.length_cons, List.length_nil, Go.maxLen, List.append_assoc, List.singleton_append, List.cons_append, List.nil_append] at hl ⊢
    exact ⟨⟨by omega, by omega⟩, ⟨trivial, trivial, by omega, by omega⟩, ⟨⟨trivial, trivial⟩, hlt', by omega, hq⟩, fun k hk => ⟨⟨trivial, trivial⟩, hlt', by omega, hq⟩⟩
  · have h0 : x.1 = 0 := by
      by_cases h0 : x.1 = 0
      · exact h0
      · have := (Pq.szn_pos x.2).2 h0
        have := of_decide_eq_false hge
        omega
    rw [h0, dg_zero, List.append_nil] at hq
    exact ⟨⟨trivial, trivial⟩, hq cap (Nat.zero_le _)⟩
theorem textL_core0 (x : Amt) (y : W) (Q : Exit × List Av × RSpec.Y spText × RSpec.G spText → Prop) (h : (outText (x, ()) (y, ()) none).wp Q) : (tr_textL0 ((x, ()), (y, ()))).wp fun r => match r with
      | .again x' y' g' => x'.1.1 < x.1 ∧ (outText x' y' g').wp Q
      | .out e avs y' g' => Q (e, avs, y', g') := by
  unfold tr_textL0
  unfold outText at h ⊢
  simp only [T.wp, digit_wrap] at h ⊢
  dsimp only [El, vts, spText] at h ⊢
  obtain ⟨hl, h1, h2⟩ := h
  refine ⟨fun hlt => ?_, fun hge => ?_⟩
  · have hne : x.1 ≠ 0 := (Pq.szn_pos x.2).1 (by have := of_decide_eq_true hlt; omega)
    have hq := h2 (decide_eq_false hne)
    rw [dg_pos hne] at hl hq
    have hd : (divA x (Int.toNat (10 : Int))).1 = x.1 / 10 := rfl
    have hlt' : x.1 / 10 < x.1 := Nat.div_lt_self (by omega) (by omega)
    simp only [hd, List.length_append, List.length_cons, List.length_nil, Go.maxLen, List.append_assoc, List.singleton_append, List.cons_append, List.nil_append] at hl ⊢
    exact ⟨⟨by omega, by omega⟩, ⟨by omega, by omega⟩, fun k hk => ⟨⟨trivial, trivial⟩, hlt', by omega, hq⟩⟩
  · have h0 : x.1 = 0 := by
      by_cases h0 : x.1 = 0
      · exact h0
      · have := (Pq.szn_pos x.2).2 h0
        have := of_decide_eq_false hge
        omega
    exact ⟨trivial, h1 (decide_eq_true h0)⟩
theorem textL_ok : LoopOk Try.prog 0 (bodyOf Try.f48 0) (spText.run outText) :=
  loopR_ok (E := E9) (L := fun _ => none) mixed 0 (loops_none _ _ _) spText (Nat.zero_le _) outText (fun x _ _ => x.1.1) (by
    rintro ⟨x, ⟨⟩⟩ ⟨y, ⟨⟩⟩ g Q h
    match g, h with
    | some (xs, cap), h =>
      rw [tr_textL_eq ((x, ()), (y, ()), (xs, cap))]
      exact textL_core x y xs cap Q h
    | none, h =>
      rw [tr_textL0_eq ((x, ()), (y, ()))]
      exact textL_core0 x y Q h)
noncomputable def lpText : Loops := oneL 3 (spText.run outText)
end Go.Proofs.Ytjijakfcahhioaa
/-
A number's text.
-/
set_option linter.unusedSimpArgs false
set_option linter.unusedVariables false
namespace Go.Proofs.Ytjijakfcahhioaa
open Go.RowKit Ax
noncomputable def tr_wtext (x : Els [(true, cW)]) : T Av :=
 .need (True) (.need (List.length (dg x.1.2.1) ≤ (1000000 : Nat)) (.ite (decide (x.1.2.1 = (0 : Nat)))
    (.ite ((↑(0 : Nat) : Int) == (0 : Int))
     (.ret (.one (.v (.string ({ data := #[(48 : UInt8)] })))))
     (.ite x.1.1
      (.need (List.length [(45 : Int)] * (nat_lit 0 + (1 : Nat)) ≤ (140737488355328 : Nat) ∧ List.length [(45 : Int)] ≤ Go.maxLen) (.up (List.length [(45 : Int)]) (fun v0 =>
        .need (v0 = v0) (.need (List.length [(45 : Int)] = List.length [(45 : Int)] ∧ lenOk (List.length [(45 : Int)])) (.need (List.length [(45 : Int)] ≤ List.length (List.reverse [(45 : Int)])) (.ret (.one (.v (.string (bytesOf (List.take (List.length [(45 : Int)]) (List.reverse [(45 : Int)]))))))))))))
      (.fail)))
    (.up ((0 : Nat)) (fun v0 =>
     .ite ((↑(List.length (dg x.1.2.1)) : Int) == (0 : Int))
      (.ret (.one (.v (.string ({ data := #[(48 : UInt8)] })))))
      (.ite x.1.1
       (.need (List.length (dg x.1.2.1) = List.length (dg x.1.2.1) ∧ v0 = v0 ∧ (List.length (dg x.1.2.1) + List.length [(45 : Int)]) * (nat_lit 0 + (1 : Nat)) ≤ (140737488355328 : Nat) ∧ List.length (dg x.1.2.1) + List.length [(45 : Int)] ≤ Go.maxLen) (.and
         (.need (v0 = v0) (.need (List.length (dg x.1.2.1) + List.length [(45 : Int)] = List.length (dg x.1.2.1 ++ [(45 : Int)]) ∧ lenOk (List.length (dg x.1.2.1 ++ [(45 : Int)]))) (.need (List.length (dg x.1.2.1) + List.length [(45 : Int)] ≤ List.length (List.reverse (dg x.1.2.1 ++ [(45 : Int)]))) (.ret (.one (.v (.string (bytesOf (List.take (List.length (dg x.1.2.1) + List.length [(45 : Int)]) (List.reverse (dg x.1.2.1 ++ [(45 : Int)])))))))))))
         (.up (List.length (dg x.1.2.1) + List.length [(45 : Int)]) (fun v1 =>
          .need (v1 = v1) (.need (List.length (dg x.1.2.1) + List.length [(45 : Int)] = List.length (dg x.1.2.1 ++ [(45 : Int)]) ∧ lenOk (List.length (dg x.1.2.1 ++ [(45 : Int)]))) (.need (List.length (dg x.1.2.1) + List.length [(45 : Int)] ≤ List.length (List.reverse (dg x.1.2.1 ++ [(45 : Int)]))) (.ret (.one (.v (.string (bytesOf (List.take (List.length (dg x.1.2.1) + List.length [(45 : Int)]) (List.reverse (dg x.1.2.1 ++ [(45 : Int)]))))))))))))))
       (.need (v0 = v0) (.need (List.length (dg x.1.2.1) = List.length (dg x.1.2.1) ∧ lenOk (List.length (dg x.1.2.1))) (.need (List.length (dg x.1.2.1) ≤ List.length (List.reverse (dg x.1.2.1))) (.ret (.one (.v (.string (bytesOf (List.take (List.length (dg x.1.2.1)) (List.reverse (dg x.1.2.1))))))))))))))))
theorem tr_wtext_eq (x : Els [(true, cW)]) : fnP E9 lpText Try.f48 (encs [(true, cW)] x) = tr_wtext x := by kernel_rfl
/-- a number's text -/
def txt (x : W) : ByteArray := if x.2.1 = 0 then ⟨#[48]⟩ else bytesOf ((dg x.2.1 ++ (if x.1 = true then [(45 : Int)] else [])).reverse)
theorem dg_amt (x : Amt) : (dg x.1).length ≤ 1024 := dg_len (bp_le 1024 rfl x.2)
theorem wtext_ok (x : Els [(true, cW)]) : (tr_wtext x).wp (· = .one (.v (.string (txt x.1)))) := by
  obtain ⟨⟨n, x⟩, u⟩ := x
  revert n x
  intro (n : Bool) (x : Amt)
  unfold tr_wtext
  simp only [T.wp]
  dsimp only [El]
  have hl := dg_amt x
  unfold txt
  dsimp only
  refine ⟨trivial, by omega, fun h0 => ⟨fun _ => ?_, fun h => (by cases h)⟩, fun h0 k _ => ⟨fun h1 => ?_, fun h1 => ⟨fun h2 => ?_, fun h2 => ?_⟩⟩⟩
  · rw [if_pos (of_decide_eq_true h0)]
  · exfalso
    have h0 := of_decide_eq_false h0
    rw [dg_pos h0] at h1
    simp at h1
    omega
  · subst h2
    rw [if_neg (of_decide_eq_false h0)]
    have e : List.take ((dg x.1).length + List.length [(45 : Int)]) (List.reverse (dg x.1 ++ [(45 : Int)])) = (dg x.1 ++ [(45 : Int)]).reverse := List.take_of_length_le (by simp)
    simp only [e, if_true]
    refine ⟨⟨trivial, trivial, by simp; omega, by simp [Go.maxLen]; omega⟩, ⟨trivial, ⟨by simp, by unfold lenOk; simp; omega⟩, by simp, trivial⟩, fun q hq => ⟨trivial, ⟨by simp, by unfold lenOk; simp; omega⟩, by simp, trivial⟩⟩
  · subst h2
    rw [if_neg (of_decide_eq_false h0)]
    have e : List.take ((dg x.1).length) (List.reverse (dg x.1)) = (dg x.1).reverse := List.take_of_length_le (by simp)
    simp only [e, Bool.false_eq_true, if_false, List.append_nil]
    exact ⟨trivial, ⟨trivial, by unfold lenOk; omega⟩, by simp, trivial⟩
noncomputable def con_wtext : Con Try.prog := ⟨48, [], _, cf_wtext, tot_con (E := E9) (L := lpText) mixed Try.func48 (one_loop textL_ok (by kernel_rfl)) [(true, cW)] (fun x => .one (.v (.string (txt x.1)))) fun x => by rw [tr_wtext_eq]; exact wtext_ok x⟩
noncomputable def E10 : Env Try.prog := ⟨con_wtext :: E9.con, E9.zero, E9.cod, E9.sure, E9.base, E9.frz⟩
theorem cf_rtext (xs : Array Value) (w : World) : (callFunc 19 xs).run Try.prog w = .ok (.enter 19 xs) w := by kernel_rfl
theorem cf_wparse (xs : Array Value) (w : World) : (callFunc 50 xs).run Try.prog w = .ok (.enter 50 xs) w := by kernel_rfl
theorem cf_rparse (xs : Array Value) (w : World) : (callFunc 20 xs).run Try.prog w = .ok (.enter 20 xs) w := by kernel_rfl
theorem cf_rscale (xs : Array Value) (w : World) : (callFunc 55 xs).run Try.prog w = .ok (.enter 55 xs) w := by kernel_rfl
theorem cf_rdecimal (xs : Array Value) (w : World) : (callFunc 25 xs).run Try.prog w = .ok (.enter 25 xs) w := by kernel_rfl
end Go.Proofs.Ytjijakfcahhioaa
/-
A fraction's text; a power of ten.
-/
set_option linter.unusedSimpArgs false
set_option linter.unusedVariables false
namespace Go.Proofs.Ytjijakfcahhioaa
open Go.RowKit Ax
noncomputable def tr_rtext (x : Els [(true, cF)]) : T Av :=
 .ite (!okF (x.1))
  (.ret (.one (.v (.string ({ data := #[] })))))
  (.ite (decide (zW x.1.2 = (1 : Int)))
   (.ret (.one (.v (.string (txt x.1.1)))))
   (.need ((↑(ByteArray.size (txt x.1.1) + ByteArray.size { data := #[(47 : UInt8)] }) : Int) ≤ IntKind.max .i64) (.lt (txt x.1.1 ++ { data := #[(47 : UInt8)] }) (fun v0 =>
     .need ((↑(ByteArray.size v0 + ByteArray.size (txt x.1.2)) : Int) ≤ IntKind.max .i64) (.lt (v0 ++ txt x.1.2) (fun v1 =>
       .ret (.one (.v (.string (v1))))))))))
theorem tr_rtext_eq (x : Els [(true, cF)]) : fnP E10 (fun _ => none) Try.f19 (encs [(true, cF)] x) = tr_rtext x := by kernel_rfl
/-- a fraction's text -/
def ftxt (x : F) : ByteArray := if okF x = true then (if zW x.2 = 1 then txt x.1 else txt x.1 ++ ⟨#[47]⟩ ++ txt x.2) else ⟨#[]⟩
theorem bytesOf_size (l : List Int) : (bytesOf l).size = l.length := by
  show (bytesOf l).data.size = _
  simp [bytesOf]
theorem txt_size (x : W) : (txt x).size ≤ 1025 := by
  have := dg_amt x.2
  unfold txt
  split
  · show 1 ≤ 1025; omega
  · rw [bytesOf_size, List.length_reverse, List.length_append]
    split <;> simp <;> omega
theorem rtext_ok (x : Els [(true, cF)]) : (tr_rtext x).wp (· = .one (.v (.string (ftxt x.1)))) := by
  obtain ⟨x, u⟩ := x
  revert x
  intro (x : F)
  unfold tr_rtext
  simp only [T.wp]
  unfold ftxt
  have h1 := txt_size x.1
  have h2 := txt_size x.2
  refine ⟨fun h => ?_, fun h => ⟨fun hd => ?_, fun hd => ⟨?_, ?_, ?_⟩⟩⟩
  · rw [if_neg (by simpa using h)]
  · rw [if_pos (by simpa using h), if_pos (of_decide_eq_true hd)]
  · have : (ByteArray.size ⟨#[(47 : UInt8)]⟩) = 1 := rfl
    rw [this]
    show ((_ : Nat) : Int) ≤ 9223372036854775807
    omega
  · have : (ByteArray.size ⟨#[(47 : UInt8)]⟩) = 1 := rfl
    rw [ByteArray.size_append, this]
    show ((_ : Nat) : Int) ≤ 9223372036854775807
    omega
  · rw [if_pos (by simpa using h), if_neg (of_decide_eq_false hd)]
noncomputable def con_rtext : Con Try.prog := ⟨19, [], _, cf_rtext, tot_con (E := E10) mixed Try.func19 no_loops [(true, cF)] (fun x => .one (.v (.string (ftxt x.1)))) fun x => by rw [tr_rtext_eq]; exact rtext_ok x⟩
noncomputable def E11 : Env Try.prog := ⟨con_rtext :: E10.con, E10.zero, E10.cod, E10.sure, E10.base, E10.frz⟩
abbrev spScale : LSpec := ⟨14, [(6, false, .int .i64), (7, false, .int .i64)], [(2, 0, 0), (3, 1, 0), (4, 2, 0)], [(25, cW), (25, cW), (4, .bool)], fun _ => []⟩
abbrev spPar : LSpec := ⟨89, [(4, false, .str), (5, false, .bool), (44, false, .int .i64), (45, false, .int .i64)], [(2, 0, 0), (6, 1, 0), (7, 2, 0)], [(25, cW), (25, cW), (25, cW)], fun e => match e with | .ret => [3] | .exit _ => [5] | _ => []⟩
end Go.Proofs.Ytjijakfcahhioaa
/-
The loops of scale and Parse.
-/
set_option linter.unusedSimpArgs false
set_option linter.unusedVariables false
namespace Go.Proofs.Ytjijakfcahhioaa
open Go.RowKit Ax
noncomputable def tr_scaleL (x : LSpec.X spScale × LSpec.Y spScale) : T (Rd spScale) :=
 .ite (decide (x.1.2.1 < x.1.1))
  (dup (.need (in64 (10 : Int)) (.lt (zW x.2.2.1 * zW (wOf (10 : Int))) (fun v0 =>
     .ret (.again (x.1.1, (IntKind.wrap .i64 (x.1.2.1 + (1 : Int)), ())) (x.2.1, (wOf v0, (x.2.2.2.1 && Pq.fits v0, ()))))))))
  (.ret (.out (Go.Exit.exit (0 : Nat)) [] (x.2.1, (x.2.2.1, (x.2.2.2.1, ())))))
theorem tr_scaleL_eq (x : LSpec.X spScale × LSpec.Y spScale) : LSpec.round spScale E11 (fun _ => none) (bodyOf Try.f55 0) x.1 x.2 = tr_scaleL x := by kernel_rfl
noncomputable def tr_parL (x : LSpec.X spPar × LSpec.Y spPar) : T (Rd spPar) :=
 .ite (decide (x.1.2.2.2.1 < x.1.2.2.1))
  (.get (Array.toList (ByteArray.data x.1.1)) x.1.2.2.2.1 (fun v0 =>
   .ite (decide ((↑(UInt8.toNat v0) : Int) < (48 : Int)))
    (.ret (.out (Go.Exit.ret) [(.one (.v (.bool (false))))] (w0, (x.2.2.1, (x.2.2.2.1, ())))))
    (.get (Array.toList (ByteArray.data x.1.1)) x.1.2.2.2.1 (fun v1 =>
     .ite (decide ((↑(UInt8.toNat v1) : Int) > (57 : Int)))
      (.ret (.out (Go.Exit.ret) [(.one (.v (.bool (false))))] (w0, (x.2.2.1, (x.2.2.2.1, ())))))
      (.lt (zW x.2.2.1 * zW x.2.2.2.1) (fun v2 =>
       .get (Array.toList (ByteArray.data x.1.1)) x.1.2.2.2.1 (fun v3 =>
        .need (in64 (IntKind.wrap .i64 (IntKind.wrap .u8 ((↑(UInt8.toNat v3) : Int) - (48 : Int))))) (.lt (zW (wOf v2) + zW (wOf (IntKind.wrap .i64 (IntKind.wrap .u8 ((↑(UInt8.toNat v3) : Int) - (48 : Int)))))) (fun v4 =>
          .ite (!Pq.fits v2)
           (.ret (.out (Go.Exit.ret) [(.one (.v (.bool (false))))] (w0, (x.2.2.1, (x.2.2.2.1, ())))))
           (.ite (!Pq.fits v4)
            (.ret (.out (Go.Exit.ret) [(.one (.v (.bool (false))))] (w0, (x.2.2.1, (x.2.2.2.1, ())))))
            (.ret (.again (x.1.1, (x.1.2.1, (x.1.2.2.1, (IntKind.wrap .i64 (x.1.2.2.2.1 + (1 : Int)), ())))) (x.2.1, (wOf v4, (x.2.2.2.1, ())))))))))))))))
  (.ret (.out (Go.Exit.exit (0 : Nat)) [(.one (.v (.bool x.1.2.1)))] (x.2.1, (x.2.2.1, (x.2.2.2.1, ())))))
theorem tr_parL_eq (x : LSpec.X spPar × LSpec.Y spPar) : LSpec.round spPar E11 (fun _ => none) (bodyOf Try.f50 0) x.1 x.2 = tr_parL x := by kernel_rfl
theorem pow10_lt {k : Nat} (h : k ≤ 40) : ((10 : Int) ^ k).natAbs < Pq.bp 32 := by
  rw [Int.natAbs_pow]
  refine Nat.lt_of_le_of_lt (Nat.pow_le_pow_right (by decide) h) ?_
  decide +kernel
def outScale (x : LSpec.X spScale) (y : LSpec.Y spScale) : T (Exit × List Av × LSpec.Y spScale) :=
  .need (0 ≤ x.2.1 ∧ x.2.1 ≤ x.1 ∧ x.1 ≤ 20 ∧ y.2.1 = wOf (10 ^ x.2.1.toNat)) (.ret (.exit 0, [], (y.1, wOf (10 ^ x.1.toNat), y.2.2.1, ())))
theorem scaleL_core (n i : Int) (r v : W) (b : Bool) (Q : Exit × List Av × LSpec.Y spScale → Prop) (h : (outScale (n, i, ()) (r, v, b, ())).wp Q) : (tr_scaleL ((n, i, ()), (r, v, b, ()))).wp fun r => match r with
      | .again x' y' => (x'.1 - x'.2.1).toNat < (n - i).toNat ∧ (outScale x' y').wp Q
      | .out e avs y' => Q (e, avs, y') := by
  unfold tr_scaleL
  unfold outScale at h ⊢
  simp only [T.wp, dup_wp] at h ⊢
  dsimp only [El, vts, bts, spScale] at h ⊢
  obtain ⟨⟨h0, h1, h2, hv⟩, hq⟩ := h
  refine ⟨fun hlt => ?_, fun hge => ?_⟩
  · have hlt := of_decide_eq_true hlt
    have e : zW v * zW (wOf 10) = 10 ^ (i + 1).toNat := by
      rw [hv, zW_wOf (pow10_lt (by omega)), show wOf 10 = wOf (10 ^ 1) from rfl, zW_wOf (pow10_lt (k := 1) (by omega)), show (i + 1).toNat = i.toNat + 1 from by omega, Int.pow_succ]; rfl
    have hf : Pq.fits (10 ^ (i + 1).toNat) = true := by
      unfold Pq.fits
      exact decide_eq_true (pow10_lt (by omega))
    rw [e, hf, Bool.and_true, IntWalk.i64_in _ (by omega)]
    exact ⟨⟨by omega, by omega⟩, by omega, ⟨by omega, by omega, h2, rfl⟩, hq⟩
  · have hge := of_decide_eq_false hge
    obtain rfl : i = n := by omega
    rw [← hv] at hq
    exact hq
theorem scaleL_ok : LoopOk Try.prog 0 (bodyOf Try.f55 0) (spScale.run outScale) :=
  loop_ok (E := E11) (L := fun _ => none) mixed 0 (loops_none _ _ _) spScale (Nat.zero_le _) outScale (fun x _ => (x.1 - x.2.1).toNat) (by
    rintro ⟨n, i, ⟨⟩⟩ ⟨r, v, b, ⟨⟩⟩ Q h
    rw [tr_scaleL_eq ((n, i, ()), (r, v, b, ()))]
    exact scaleL_core n i r v b Q h)
noncomputable def lpScale : Loops := oneL 3 (spScale.run outScale)
/-- digits read onto a number -/
def parD : Int → List UInt8 → Bool × Int
  | v, [] => (true, v)
  | v, b :: r => if (b.toNat : Int) < 48 ∨ (b.toNat : Int) > 57 then (false, v) else if Pq.fits (v * 10) = true ∧ Pq.fits (v * 10 + ((b.toNat : Int) - 48)) = true then parD (v * 10 + ((b.toNat : Int) - 48)) r else (false, v)
def outPar (x : LSpec.X spPar) (y : LSpec.Y spPar) : T (Exit × List Av × LSpec.Y spPar) :=
  .need (x.2.2.1 = x.1.data.toList.length ∧ 0 ≤ x.2.2.2.1 ∧ x.2.2.2.1 ≤ x.2.2.1 ∧ x.2.2.1 ≤ 1000 ∧ zW y.2.2.1 = 10 ∧ wOf (zW y.2.1) = y.2.1) (.lt (parD (zW y.2.1) (x.1.data.toList.drop x.2.2.2.1.toNat)) fun r =>
    .ite r.1 (.ret (.exit 0, [aB x.2.1], (y.1, wOf r.2, y.2.2.1, ()))) (.ret (.ret, [aB false], (w0, wOf r.2, y.2.2.1, ()))))
theorem parL_core (s : ByteArray) (ng : Bool) (n i : Int) (r v t : W) (Q : Exit × List Av × LSpec.Y spPar → Prop) (h : (outPar (s, ng, n, i, ()) (r, v, t, ())).wp Q) : (tr_parL ((s, ng, n, i, ()), (r, v, t, ()))).wp fun r => match r with
      | .again x' y' => (x'.2.2.1 - x'.2.2.2.1).toNat < (n - i).toNat ∧ (outPar x' y').wp Q
      | .out e avs y' => Q (e, avs, y') := by
  unfold tr_parL
  unfold outPar at h ⊢
  simp only [T.wp] at h ⊢
  dsimp only [El, vts, bts, spPar] at h ⊢
  generalize s.data.toList = l at *
  obtain ⟨⟨hn, h0, h1, hl, ht, hw⟩, hq1, hq2⟩ := h
  refine ⟨fun hlt => ?_, fun hge => ?_⟩
  · have hlt := of_decide_eq_true hlt
    obtain ⟨b, hb⟩ := elem_at (l := l) (i := i) h0 (by omega)
    have hd := drop_at h0 hb
    have hb8 := b.toNat_lt
    rw [hd, parD] at hq1 hq2
    refine ⟨b, h0, hb, fun c1 => ?_, fun c1 => ⟨b, h0, hb, fun c2 => ?_, fun c2 => ?_⟩⟩
    · rw [if_pos (.inl (of_decide_eq_true c1))] at hq2
      rw [hw] at hq2
      exact hq2 rfl
    · rw [if_pos (.inr (of_decide_eq_true c2))] at hq2
      rw [hw] at hq2
      exact hq2 rfl
    · have c1 := of_decide_eq_false c1
      have c2 := of_decide_eq_false c2
      rw [if_neg (by omega)] at hq1 hq2
      have e1 : IntKind.i64.wrap (IntKind.u8.wrap ((b.toNat : Int) - 48)) = (b.toNat : Int) - 48 := by
        rw [IntWalk.u8_in _ (by omega), IntWalk.i64_in _ (by omega)]
      have hz : zW (wOf ((b.toNat : Int) - 48)) = (b.toNat : Int) - 48 := zW_wOf (i64_lt (by omega) (by omega))
      refine ⟨b, h0, hb, ?_⟩
      rw [e1, ht, hz]
      refine ⟨⟨by omega, by omega⟩, fun f1 => ?_, fun f1 => ?_⟩
      · have f1 : Pq.fits (zW v * 10) = false := by simpa using f1
        rw [if_neg (by rw [f1]; simp)] at hq2
        rw [hw] at hq2
        exact hq2 rfl
      · have f1 : Pq.fits (zW v * 10) = true := by simpa using f1
        have e2 : zW (wOf (zW v * 10)) = zW v * 10 := zW_wOf (by unfold Pq.fits at f1; exact of_decide_eq_true f1)
        rw [e2]
        refine ⟨fun f2 => ?_, fun f2 => ?_⟩
        · have f2 : Pq.fits (zW v * 10 + ((b.toNat : Int) - 48)) = false := by simpa using f2
          rw [if_neg (by rw [f2]; simp)] at hq2
          rw [hw] at hq2
          exact hq2 rfl
        · have f2 : Pq.fits (zW v * 10 + ((b.toNat : Int) - 48)) = true := by simpa using f2
          rw [if_pos ⟨f1, f2⟩] at hq1 hq2
          have e3 : zW (wOf (zW v * 10 + ((b.toNat : Int) - 48))) = zW v * 10 + ((b.toNat : Int) - 48) := zW_wOf (by unfold Pq.fits at f2; exact of_decide_eq_true f2)
          rw [IntWalk.i64_in (i + 1) (by omega), e3]
          exact ⟨by omega, ⟨hn, by omega, by omega, hl, rfl, rfl⟩, hq1, hq2⟩
  · have hge := of_decide_eq_false hge
    rw [drop_end (by omega), parD] at hq1
    have := hq1 rfl
    rw [hw] at this
    exact this
theorem parL_ok : LoopOk Try.prog 0 (bodyOf Try.f50 0) (spPar.run outPar) :=
  loop_ok (E := E11) (L := fun _ => none) mixed 0 (loops_none _ _ _) spPar (Nat.zero_le _) outPar (fun x _ => (x.2.2.1 - x.2.2.2.1).toNat) (by
    rintro ⟨s, ng, n, i, ⟨⟩⟩ ⟨r, v, t, ⟨⟩⟩ Q h
    rw [tr_parL_eq ((s, ng, n, i, ()), (r, v, t, ()))]
    exact parL_core s ng n i r v t Q h)
noncomputable def lpPar : Loops := oneL 9 (spPar.run outPar)
end Go.Proofs.Ytjijakfcahhioaa
/-
scale, Parse.
-/
set_option linter.unusedSimpArgs false
set_option linter.unusedVariables false
namespace Go.Proofs.Ytjijakfcahhioaa
open Go.RowKit Ax
noncomputable def tr_rscale (x : Els [(false, .int .i64)]) : T Av :=
 .need ((0 : El (Cd.int .i64)) ≤ (0 : Int) ∧ (0 : Int) ≤ x.1 ∧ x.1 ≤ (20 : El (Cd.int .i64)) ∧ wOf (1 : Int) = wOf ((10 : Int) ^ Int.toNat (0 : Int))) (.ret (.agg [.v (.bool (wOf ((10 : Int) ^ Int.toNat (x.1))).1), .w (wOf ((10 : Int) ^ Int.toNat (x.1))).2]))
theorem tr_rscale_eq (x : Els [(false, .int .i64)]) : fnP E11 lpScale Try.f55 (encs [(false, .int .i64)] x) = tr_rscale x := by kernel_rfl
noncomputable def tr_wparse (x : Els [(false, .str)]) : T Av :=
 .ite (!ByteArray.toList (x.1) == ByteArray.toList { data := #[] })
  (.get (Array.toList (ByteArray.data (x.1))) ((0 : Int)) (fun v0 =>
   .ite ((↑(UInt8.toNat v0) : Int) == (45 : Int))
    (.need ((0 : Int) ≤ (1 : Int) ∧ (1 : Int) ≤ (↑(ByteArray.size (x.1)) : Int) ∧ (↑(ByteArray.size (x.1)) : Int) ≤ (↑(ByteArray.size (x.1)) : Int)) (.lt (ByteArray.extract (x.1) (Int.toNat (1 : Int)) (Int.toNat (↑(ByteArray.size (x.1)) : Int))) (fun v1 =>
      .ite (decide ((↑(ByteArray.size (x.1)) : Int) > (400 : Int)))
       (.ret (.tup [(.agg [.v (.bool w0.1), .w w0.2]), (.one (.v (.bool (false))))]))
       (.ite (ByteArray.toList v1 == ByteArray.toList { data := #[] })
        (.ret (.tup [(.agg [.v (.bool w0.1), .w w0.2]), (.one (.v (.bool (false))))]))
        (.get (Array.toList (ByteArray.data v1)) ((0 : Int)) (fun v2 =>
         .ite ((↑(UInt8.toNat v2) : Int) == (48 : Int))
          (.ite (!ByteArray.toList (x.1) == ByteArray.toList { data := #[(48 : UInt8)] })
           (.ret (.tup [(.agg [.v (.bool w0.1), .w w0.2]), (.one (.v (.bool (false))))]))
           (.need (in64 (10 : Int)) (.need ((↑(ByteArray.size v1) : Int) = (↑(List.length (Array.toList (ByteArray.data v1))) : El (Cd.int .i64)) ∧ (0 : El (Cd.int .i64)) ≤ (0 : Int) ∧ (0 : Int) ≤ (↑(ByteArray.size v1) : Int) ∧ (↑(ByteArray.size v1) : Int) ≤ (1000 : El (Cd.int .i64)) ∧ zW (wOf (10 : Int)) = (10 : Int) ∧ wOf (zW w0) = w0) (.lt (parD (zW w0) (List.drop (Int.toNat (0 : Int)) (Array.toList (ByteArray.data v1)))) (fun v3 =>
              .ite v3.1
               (.ite ((↑(UInt8.toNat v0) : Int) == (45 : Int))
                (.lt (-zW (wOf v3.2)) (fun v4 =>
                 .ret (.tup [(.agg [.v (.bool (wOf v4).1), .w (wOf v4).2]), (.one (.v (.bool (true))))])))
                (.ret (.tup [(.agg [.v (.bool (wOf v3.2).1), .w (wOf v3.2).2]), (.one (.v (.bool (true))))])))
               (.ret (.tup [(.agg [.v (.bool w0.1), .w w0.2]), (.one (.v (.bool (false))))])))))))
          (.need (in64 (10 : Int)) (.need ((↑(ByteArray.size v1) : Int) = (↑(List.length (Array.toList (ByteArray.data v1))) : El (Cd.int .i64)) ∧ (0 : El (Cd.int .i64)) ≤ (0 : Int) ∧ (0 : Int) ≤ (↑(ByteArray.size v1) : Int) ∧ (↑(ByteArray.size v1) : Int) ≤ (1000 : El (Cd.int .i64)) ∧ zW (wOf (10 : Int)) = (10 : Int) ∧ wOf (zW w0) = w0) (.lt (parD (zW w0) (List.drop (Int.toNat (0 : Int)) (Array.toList (ByteArray.data v1)))) (fun v3 =>
             .ite v3.1
              (.ite ((↑(UInt8.toNat v0) : Int) == (45 : Int))
               (.lt (-zW (wOf v3.2)) (fun v4 =>
                .ret (.tup [(.agg [.v (.bool (wOf v4).1), .w (wOf v4).2]), (.one (.v (.bool (true))))])))
               (.ret (.tup [(.agg [.v (.bool (wOf v3.2).1), .w (wOf v3.2).2]), (.one (.v (.bool (true))))])))
              (.ret (.tup [(.agg [.v (.bool w0.1), .w w0.2]), (.one (.v (.bool (false))))]))))))))))))
    (.ite (decide ((↑(ByteArray.size (x.1)) : Int) > (400 : Int)))
     (.ret (.tup [(.agg [.v (.bool w0.1), .w w0.2]), (.one (.v (.bool (false))))]))
     (.ite (ByteArray.toList (x.1) == ByteArray.toList { data := #[] })
      (.ret (.tup [(.agg [.v (.bool w0.1), .w w0.2]), (.one (.v (.bool (false))))]))
      (.get (Array.toList (ByteArray.data (x.1))) ((0 : Int)) (fun v1 =>
       .ite ((↑(UInt8.toNat v1) : Int) == (48 : Int))
        (.ite (!ByteArray.toList (x.1) == ByteArray.toList { data := #[(48 : UInt8)] })
         (.ret (.tup [(.agg [.v (.bool w0.1), .w w0.2]), (.one (.v (.bool (false))))]))
         (.need (in64 (10 : Int)) (.need ((↑(ByteArray.size (x.1)) : Int) = (↑(List.length (Array.toList (ByteArray.data (x.1)))) : El (Cd.int .i64)) ∧ (0 : El (Cd.int .i64)) ≤ (0 : Int) ∧ (0 : Int) ≤ (↑(ByteArray.size (x.1)) : Int) ∧ (↑(ByteArray.size (x.1)) : Int) ≤ (1000 : El (Cd.int .i64)) ∧ zW (wOf (10 : Int)) = (10 : Int) ∧ wOf (zW w0) = w0) (.lt (parD (zW w0) (List.drop (Int.toNat (0 : Int)) (Array.toList (ByteArray.data (x.1))))) (fun v2 =>
            .ite v2.1
             (.ite ((↑(UInt8.toNat v0) : Int) == (45 : Int))
              (.lt (-zW (wOf v2.2)) (fun v3 =>
               .ret (.tup [(.agg [.v (.bool (wOf v3).1), .w (wOf v3).2]), (.one (.v (.bool (true))))])))
              (.ret (.tup [(.agg [.v (.bool (wOf v2.2).1), .w (wOf v2.2).2]), (.one (.v (.bool (true))))])))
             (.ret (.tup [(.agg [.v (.bool w0.1), .w w0.2]), (.one (.v (.bool (false))))])))))))
        (.need (in64 (10 : Int)) (.need ((↑(ByteArray.size (x.1)) : Int) = (↑(List.length (Array.toList (ByteArray.data (x.1)))) : El (Cd.int .i64)) ∧ (0 : El (Cd.int .i64)) ≤ (0 : Int) ∧ (0 : Int) ≤ (↑(ByteArray.size (x.1)) : Int) ∧ (↑(ByteArray.size (x.1)) : Int) ≤ (1000 : El (Cd.int .i64)) ∧ zW (wOf (10 : Int)) = (10 : Int) ∧ wOf (zW w0) = w0) (.lt (parD (zW w0) (List.drop (Int.toNat (0 : Int)) (Array.toList (ByteArray.data (x.1))))) (fun v2 =>
           .ite v2.1
            (.ite ((↑(UInt8.toNat v0) : Int) == (45 : Int))
             (.lt (-zW (wOf v2.2)) (fun v3 =>
              .ret (.tup [(.agg [.v (.bool (wOf v3).1), .w (wOf v3).2]), (.one (.v (.bool (true))))])))
             (.ret (.tup [(.agg [.v (.bool (wOf v2.2).1), .w (wOf v2.2).2]), (.one (.v (.bool (true))))])))
            (.ret (.tup [(.agg [.v (.bool w0.1), .w w0.2]), (.one (.v (.bool (false))))]))))))))))))
  (.ite (decide ((↑(ByteArray.size (x.1)) : Int) > (400 : Int)))
   (.ret (.tup [(.agg [.v (.bool w0.1), .w w0.2]), (.one (.v (.bool (false))))]))
   (.ite (ByteArray.toList (x.1) == ByteArray.toList { data := #[] })
    (.ret (.tup [(.agg [.v (.bool w0.1), .w w0.2]), (.one (.v (.bool (false))))]))
    (.get (Array.toList (ByteArray.data (x.1))) ((0 : Int)) (fun v0 =>
     .ite ((↑(UInt8.toNat v0) : Int) == (48 : Int))
      (.ite (!ByteArray.toList (x.1) == ByteArray.toList { data := #[(48 : UInt8)] })
       (.ret (.tup [(.agg [.v (.bool w0.1), .w w0.2]), (.one (.v (.bool (false))))]))
       (.need (in64 (10 : Int)) (.need ((↑(ByteArray.size (x.1)) : Int) = (↑(List.length (Array.toList (ByteArray.data (x.1)))) : El (Cd.int .i64)) ∧ (0 : El (Cd.int .i64)) ≤ (0 : Int) ∧ (0 : Int) ≤ (↑(ByteArray.size (x.1)) : Int) ∧ (↑(ByteArray.size (x.1)) : Int) ≤ (1000 : El (Cd.int .i64)) ∧ zW (wOf (10 : Int)) = (10 : Int) ∧ wOf (zW w0) = w0) (.lt (parD (zW w0) (List.drop (Int.toNat (0 : Int)) (Array.toList (ByteArray.data (x.1))))) (fun v1 =>
          .ite v1.1
           (.ite (false)
            (.lt (-zW (wOf v1.2)) (fun v2 =>
             .ret (.tup [(.agg [.v (.bool (wOf v2).1), .w (wOf v2).2]), (.one (.v (.bool (true))))])))
            (.ret (.tup [(.agg [.v (.bool (wOf v1.2).1), .w (wOf v1.2).2]), (.one (.v (.bool (true))))])))
           (.ret (.tup [(.agg [.v (.bool w0.1), .w w0.2]), (.one (.v (.bool (false))))])))))))
      (.need (in64 (10 : Int)) (.need ((↑(ByteArray.size (x.1)) : Int) = (↑(List.length (Array.toList (ByteArray.data (x.1)))) : El (Cd.int .i64)) ∧ (0 : El (Cd.int .i64)) ≤ (0 : Int) ∧ (0 : Int) ≤ (↑(ByteArray.size (x.1)) : Int) ∧ (↑(ByteArray.size (x.1)) : Int) ≤ (1000 : El (Cd.int .i64)) ∧ zW (wOf (10 : Int)) = (10 : Int) ∧ wOf (zW w0) = w0) (.lt (parD (zW w0) (List.drop (Int.toNat (0 : Int)) (Array.toList (ByteArray.data (x.1))))) (fun v1 =>
         .ite v1.1
          (.ite (false)
           (.lt (-zW (wOf v1.2)) (fun v2 =>
            .ret (.tup [(.agg [.v (.bool (wOf v2).1), .w (wOf v2).2]), (.one (.v (.bool (true))))])))
           (.ret (.tup [(.agg [.v (.bool (wOf v1.2).1), .w (wOf v1.2).2]), (.one (.v (.bool (true))))])))
          (.ret (.tup [(.agg [.v (.bool w0.1), .w w0.2]), (.one (.v (.bool (false))))]))))))))))
theorem tr_wparse_eq (x : Els [(false, .str)]) : fnP E11 lpPar Try.f50 (encs [(false, .str)] x) = tr_wparse x := by kernel_rfl
noncomputable def con_rscale : Con Try.prog := ⟨55, [], _, cf_rscale, val_con (E := E11) (L := lpScale) mixed Try.func55 (one_loop scaleL_ok (by kernel_rfl)) [(false, .int .i64)] (fun x => (0 : Int) ≤ x.1 ∧ x.1 ≤ (20 : Int)) (fun x => .agg (ck cW (wOf ((10 : Int) ^ Int.toNat x.1)))) fun x hx => by
  rw [tr_rscale_eq]
  unfold tr_rscale
  simp only [T.wp]
  dsimp only [El] at hx ⊢
  exact ⟨⟨by omega, hx.1, hx.2, rfl⟩, rfl⟩⟩
theorem ext_list (s : ByteArray) (i n : Nat) : (s.extract i n).data.toList = (s.data.toList.take n).drop i := by
  rw [ByteArray.data_extract, Array.toList_extract]
  simp [List.extract, List.drop_take]
/-- a number out of its text -/
def pzB (neg : Bool) (l d : List UInt8) : Option Int :=
  if 400 < l.length then none else match d with
  | [] => none
  | b :: r => if b.toNat = 48 ∧ l ≠ [48] then none else if (parD 0 (b :: r)).1 = true then some (if neg then -(parD 0 (b :: r)).2 else (parD 0 (b :: r)).2) else none
def pz (l : List UInt8) : Option Int := match l with
  | [] => none
  | b :: r => if b.toNat = 45 then pzB true (b :: r) r else pzB false (b :: r) (b :: r)
theorem parD_fits : ∀ (l : List UInt8) (v : Int), Pq.fits v = true → Pq.fits (parD v l).2 = true
  | [], v, h => h
  | b :: r, v, h => by
    unfold parD
    split
    · exact h
    · split
      · rename_i h2; exact parD_fits r _ h2.2
      · exact h
abbrev noW : Av := .tup [.agg [.v (.bool w0.1), .w w0.2], .one (.v (.bool false))]
abbrev yesW (z : Int) : Av := .tup [.agg [.v (.bool (wOf z).1), .w (wOf z).2], .one (.v (.bool true))]
theorem par_tail {l d : List UInt8} {neg f : Bool} {G : Av} (hG : G = ansA true cW (pzB neg l d).isSome (wOf ((pzB neg l d).getD 0)) w0) (hd : d.length ≤ l.length) (hf : f = neg) :
    (decide ((l.length : Int) > 400) = true → noW = G) ∧ (decide ((l.length : Int) > 400) = false → ((d == []) = true → noW = G) ∧ ((d == []) = false → ∃ x, (0 : Int) ≤ 0 ∧ d[0]? = some x ∧
      (((x.toNat : Int) == 48) = true → ((!l == [48]) = true → noW = G) ∧ ((!l == [48]) = false → in64 10 ∧ (True ∧ (0 : Int) ≤ 0 ∧ (0 : Int) ≤ (d.length : Int) ∧ (d.length : Int) ≤ 1000 ∧ True ∧ True) ∧
          ((parD 0 d).1 = true → (f = true → yesW (-(parD 0 d).2) = G) ∧ (f = false → yesW (parD 0 d).2 = G)) ∧ ((parD 0 d).1 = false → noW = G))) ∧
      (((x.toNat : Int) == 48) = false → in64 10 ∧ (True ∧ (0 : Int) ≤ 0 ∧ (0 : Int) ≤ (d.length : Int) ∧ (d.length : Int) ≤ 1000 ∧ True ∧ True) ∧
          ((parD 0 d).1 = true → (f = true → yesW (-(parD 0 d).2) = G) ∧ (f = false → yesW (parD 0 d).2 = G)) ∧ ((parD 0 d).1 = false → noW = G)))) := by
  subst hf
  have no : pzB f l d = none → noW = G := fun h => by rw [hG, h]; rfl
  have yes : ∀ z, pzB f l d = some z → yesW z = G := fun z h => by rw [hG, h]; rfl
  have i10 : in64 10 := ⟨by omega, by omega⟩
  refine ⟨fun h => no ?_, fun h => ⟨fun h1 => no ?_, fun h1 => ?_⟩⟩
  · have h := of_decide_eq_true h
    unfold pzB; rw [if_pos (by omega)]
  · have : d = [] := by simpa using h1
    subst this
    unfold pzB; split <;> rfl
  · have h := of_decide_eq_false h
    rcases d with _ | ⟨b, r⟩
    · simp at h1
    · have tail : ¬ (b.toNat = 48 ∧ l ≠ [48]) → in64 10 ∧ (True ∧ (0 : Int) ≤ 0 ∧ (0 : Int) ≤ ((b :: r).length : Int) ∧ ((b :: r).length : Int) ≤ 1000 ∧ True ∧ True) ∧
          ((parD 0 (b :: r)).1 = true → (f = true → yesW (-(parD 0 (b :: r)).2) = G) ∧ (f = false → yesW (parD 0 (b :: r)).2 = G)) ∧ ((parD 0 (b :: r)).1 = false → noW = G) := fun hn => by
        refine ⟨i10, ⟨trivial, by omega, by omega, by omega, trivial, trivial⟩, fun hp => ⟨fun hf => yes _ ?_, fun hf => yes _ ?_⟩, fun hp => no ?_⟩
        · unfold pzB; rw [if_neg (by omega)]; simp only; rw [if_neg hn, if_pos hp, if_pos hf]
        · unfold pzB; rw [if_neg (by omega)]; simp only; rw [if_neg hn, if_pos hp, if_neg (by rw [hf]; simp)]
        · unfold pzB; rw [if_neg (by omega)]; simp only; rw [if_neg hn, if_neg (by rw [hp]; simp)]
      refine ⟨b, Int.le_refl _, rfl, fun h48 => ⟨fun hl => no ?_, fun hl => tail ?_⟩, fun h48 => tail ?_⟩
      · have h48 : b.toNat = 48 := by have := beq_iff_eq.1 h48; omega
        unfold pzB; rw [if_neg (by omega)]; simp only
        rw [if_pos ⟨h48, fun e => by rw [e] at hl; simp at hl⟩]
      · intro hn; exact hn.2 (by simpa using hl)
      · intro hn; rw [hn.1] at h48; simp at h48
theorem wparse_ok (x : Els [(false, .str)]) : (tr_wparse x).wp (· = ansA true cW (pz x.1.data.toList).isSome (wOf ((pz x.1.data.toList).getD 0)) w0) := by
  obtain ⟨s, u⟩ := x
  revert s
  intro (s : ByteArray)
  have hs : s.size = s.data.toList.length := rfl
  have z0 : zW w0 = 0 := rfl
  have w00 : wOf 0 = w0 := by
    unfold wOf
    rw [dif_pos (show (0 : Int).natAbs < Pq.bp 32 from Pq.bp_pos 32)]; rfl
  have z10 : zW (wOf 10) = 10 := zW_wOf (i64_lt (by omega) (by omega))
  have i10 : in64 10 := ⟨by omega, by omega⟩
  have fz : ∀ l, zW (wOf (parD 0 l).2) = (parD 0 l).2 := fun l => zW_wOf (by
    have := parD_fits l 0 (by unfold Pq.fits; exact decide_eq_true (Pq.bp_pos 32))
    unfold Pq.fits at this
    exact of_decide_eq_true this)
  unfold tr_wparse
  simp only [T.wp, ByteArray.toList_eq, hs, ext_list, Int.toNat_natCast, List.take_length, show Int.toNat (1 : Int) = 1 from rfl, show Int.toNat (0 : Int) = 0 from rfl, List.drop_zero, z0, w00, z10, fz]
  have hsz : ∀ n, (s.extract 1 n).size = (s.extract 1 n).data.toList.length := fun n => rfl
  simp only [hsz, ext_list, List.take_length]
  generalize s.data.toList = l
  dsimp only [El]
  rcases l with _ | ⟨b, r⟩
  · exact ⟨fun h => by simp at h, fun _ => ⟨fun h => by simp at h, fun _ => ⟨fun _ => rfl, fun h => by simp at h⟩⟩⟩
  · refine ⟨fun _ => ⟨b, Int.le_refl _, rfl, fun hb => ⟨⟨by omega, by simp only [List.length_cons]; omega, Int.le_refl _⟩, ?_⟩, fun hb => ?_⟩, fun h => by simp at h⟩
    · have hb' : b.toNat = 45 := by have := beq_iff_eq.1 hb; omega
      have e : pz (b :: r) = pzB true (b :: r) r := if_pos hb'
      have tl := par_tail (l := b :: r) (d := r) (neg := true) (f := ((b.toNat : Int) == 45)) (G := ansA true cW (pz (b :: r)).isSome (wOf ((pz (b :: r)).getD 0)) w0) (by rw [e]) (by simp) hb
      exact tl
    · have hb' : ¬ b.toNat = 45 := fun e => by rw [e] at hb; cases hb
      have e : pz (b :: r) = pzB false (b :: r) (b :: r) := if_neg hb'
      have tl := par_tail (l := b :: r) (d := b :: r) (neg := false) (f := ((b.toNat : Int) == 45)) (G := ansA true cW (pz (b :: r)).isSome (wOf ((pz (b :: r)).getD 0)) w0) (by rw [e]) (Nat.le_refl _) hb
      exact tl
noncomputable def con_wparse : Con Try.prog := ⟨50, [], _, cf_wparse, ans_con0 (E := E11) (L := lpPar) mixed Try.func50 (one_loop parL_ok (by kernel_rfl)) [(false, .str)] true cW (fun x => (pz x.1.data.toList).isSome) (fun x => wOf ((pz x.1.data.toList).getD 0)) (fun _ => w0) fun x => by rw [tr_wparse_eq]; exact wparse_ok x⟩
noncomputable def E12 : Env Try.prog := ⟨con_rscale :: con_wparse :: E11.con, E11.zero, E11.cod, E11.sure, E11.base, E11.frz⟩
end Go.Proofs.Ytjijakfcahhioaa
/-
Where a byte stands in a text.
-/
set_option linter.unusedSimpArgs false
set_option linter.unusedVariables false
namespace Go.Proofs.Ytjijakfcahhioaa
open Go.RowKit Ax
theorem cf_ibyte (xs : Array Value) (w : World) : (callFunc 85 xs).run Try.prog w = .ok (.enter 85 xs) w := by kernel_rfl
theorem cf_sindex (xs : Array Value) (w : World) : (callFunc 84 xs).run Try.prog w = .ok (.enter 84 xs) w := by kernel_rfl
theorem cf_scut (xs : Array Value) (w : World) : (callFunc 74 xs).run Try.prog w = .ok (.enter 74 xs) w := by kernel_rfl
theorem cf_cut (xs : Array Value) (w : World) : (callFunc 49 xs).run Try.prog w = .ok (.enter 49 xs) w := by kernel_rfl
def slash : ByteArray := ⟨#[47]⟩
noncomputable def con_ibyte : Con Try.prog := ⟨85, [], pureRun' [(false, .str), (false, .int .u8)] (fun x => .ret (aI .i64 (Lib.indexByte x.1.data.toList (Int.toNat x.2.1).toUInt8))), cf_ibyte, ret_con _ _ fun x vs w R Q => by
  obtain ⟨s, c, u⟩ := x
  revert s c
  intro (s : ByteArray) (c : Int) ha hQ
  obtain ⟨v, v', rfl, hv, hv'⟩ := args2 ha
  have hv := is_str hv
  have hv' := is_int hv'
  subst hv
  subst hv'
  refine ⟨_, _, hQ, (Try.stringslite_IndexByte s c w).mono fun e w' hr => ?_, fun w' R' => .val rfl⟩
  obtain ⟨rfl, rfl⟩ := hr
  exact ⟨rfl, Below.refl _ _⟩⟩
noncomputable def E13 : Env Try.prog := ⟨con_ibyte :: E12.con, E12.zero, E12.cod, E12.sure, E12.base, E12.frz⟩
end Go.Proofs.Ytjijakfcahhioaa
/-
Where a slash stands in a text.
-/
set_option linter.unusedSimpArgs false
set_option linter.unusedVariables false
namespace Go.Proofs.Ytjijakfcahhioaa
open Go.RowKit Ax
noncomputable def tr_sindex (x : ByteArray) : T Av :=
 .ite ((↑(ByteArray.size slash) : Int) == (0 : Int))
  (.ret (.one (.v (.int .i64 ((0 : Int))))))
  (.ite (ByteArray.toList slash == ByteArray.toList x)
   (.ret (.one (.v (.int .i64 ((0 : Int))))))
   (.ite ((↑(ByteArray.size slash) : Int) == (1 : Int))
    (.get (Array.toList (ByteArray.data slash)) ((0 : Int)) (fun v0 =>
     .ret (.one (.v (.int .i64 (Go.Lib.indexByte (Array.toList (ByteArray.data x)) (Nat.toUInt8 (Int.toNat (↑(UInt8.toNat v0) : Int)))))))))
    (.ite (decide ((↑(ByteArray.size slash) : Int) ≥ (↑(ByteArray.size x) : Int)))
     (.ret (.one (.v (.int .i64 ((-1 : Int))))))
     (.fail))))
theorem tr_sindex_eq (x : ByteArray) : fnP E13 (fun _ => none) Try.f84 (encs [(false, .str), (false, .str)] (x, slash, ())) = tr_sindex x := by kernel_rfl
/-- where a slash stands -/
def slashAt (s : ByteArray) : Int := Lib.indexByte s.data.toList 47
noncomputable def con_sindex : Con Try.prog := ⟨84, [], _, cf_sindex, val_con (E := E13) mixed Try.func84 no_loops [(false, .str), (false, .str)] (fun x => x.2.1 = slash) (fun x => aI .i64 (slashAt x.1)) fun x hx => by
  obtain ⟨s, t, ⟨⟩⟩ := x
  revert s t
  intro (s : ByteArray) (t : ByteArray) (hx : t = slash)
  subst hx
  rw [tr_sindex_eq]
  unfold tr_sindex
  simp only [T.wp, ByteArray.toList_eq]
  unfold slashAt
  refine ⟨fun h => (by cases h), fun _ => ⟨fun h => ?_, fun _ => ⟨fun _ => ⟨47, Int.le_refl _, rfl, rfl⟩, fun h => (by cases h)⟩⟩⟩
  have h' : [47] = s.data.toList := beq_iff_eq.1 h
  rw [← h']
  rfl⟩
noncomputable def E14 : Env Try.prog := ⟨con_sindex :: E13.con, E13.zero, E13.cod, E13.sure, E13.base, E13.frz⟩
end Go.Proofs.Ytjijakfcahhioaa
/-
A text cut at a slash.
-/
set_option linter.unusedSimpArgs false
set_option linter.unusedVariables false
namespace Go.Proofs.Ytjijakfcahhioaa
open Go.RowKit Ax
noncomputable def tr_scut (x : ByteArray) : T Av :=
 .need (slash = slash) (.ite (decide (slashAt x ≥ (0 : Int)))
   (.need ((0 : Int) ≤ (0 : Int) ∧ (0 : Int) ≤ slashAt x ∧ slashAt x ≤ (↑(ByteArray.size x) : Int)) (.lt (ByteArray.extract x (Int.toNat (0 : Int)) (Int.toNat (slashAt x))) (fun v0 =>
     .need ((0 : Int) ≤ IntKind.wrap .i64 (slashAt x + (↑(ByteArray.size slash) : Int)) ∧ IntKind.wrap .i64 (slashAt x + (↑(ByteArray.size slash) : Int)) ≤ (↑(ByteArray.size x) : Int) ∧ (↑(ByteArray.size x) : Int) ≤ (↑(ByteArray.size x) : Int)) (.lt (ByteArray.extract x (Int.toNat (IntKind.wrap .i64 (slashAt x + (↑(ByteArray.size slash) : Int)))) (Int.toNat (↑(ByteArray.size x) : Int))) (fun v1 =>
       .ret (.tup [(.one (.v (.string (v0)))), (.one (.v (.string (v1)))), (.one (.v (.bool (true))))]))))))
   (.ret (.tup [(.one (.v (.string (x)))), (.one (.v (.string ({ data := #[] })))), (.one (.v (.bool (false))))])))
theorem tr_scut_eq (x : ByteArray) : fnP E14 (fun _ => none) Try.f74 (encs [(false, .str), (false, .str)] (x, slash, ())) = tr_scut x := by kernel_rfl
theorem slash_lt : ∀ (l : List UInt8) (c : UInt8), Lib.indexByte l c < l.length
  | [], c => by simp [Lib.indexByte]
  | b :: l, c => by
    have := slash_lt l c
    simp only [Lib.indexByte, List.length_cons]
    split
    · omega
    · split <;> omega
def cutA (s : ByteArray) : ByteArray := if 0 ≤ slashAt s then s.extract 0 (slashAt s).toNat else s
def cutB (s : ByteArray) : ByteArray := if 0 ≤ slashAt s then s.extract (slashAt s + 1).toNat s.size else ⟨#[]⟩
theorem scut_ok (s : ByteArray) (hs : lenOk s.size) : (tr_scut s).wp (· = .tup [.one (.v (.string (cutA s))), .one (.v (.string (cutB s))), aB (decide (0 ≤ slashAt s))]) := by
  unfold tr_scut
  have h1 : slashAt s < s.size := slash_lt _ _
  have h2 : (slash.size : Int) = 1 := rfl
  unfold lenOk at hs
  simp only [T.wp, h2]
  refine ⟨trivial, fun h => ?_, fun h => ?_⟩
  · have h := of_decide_eq_true h
    have e : IntKind.i64.wrap (slashAt s + 1) = slashAt s + 1 := IntWalk.i64_in _ (by omega)
    rw [e]
    unfold cutA cutB
    rw [if_pos h, if_pos h, decide_eq_true h]
    exact ⟨⟨by omega, h, by omega⟩, ⟨by omega, by omega, by omega⟩, rfl⟩
  · have h := of_decide_eq_false h
    have h : ¬ (0 ≤ slashAt s) := h
    unfold cutA cutB
    rw [if_neg h, if_neg h, decide_eq_false h]
    rfl
noncomputable def con_scut : Con Try.prog := ⟨74, [], _, cf_scut, val_con (E := E14) mixed Try.func74 no_loops [(false, .str), (false, .str)] (fun x => x.2.1 = slash ∧ lenOk (ByteArray.size x.1)) (fun x => .tup [.one (.v (.string (cutA x.1))), .one (.v (.string (cutB x.1))), aB (decide (0 ≤ slashAt x.1))]) fun x hx => by
  obtain ⟨s, t, ⟨⟩⟩ := x
  revert s t
  intro (s : ByteArray) (t : ByteArray) (hx : t = slash ∧ lenOk s.size)
  have hs := hx.2
  have hx := hx.1
  subst hx
  rw [tr_scut_eq]
  exact scut_ok s hs⟩
noncomputable def E15 : Env Try.prog := ⟨con_scut :: E14.con, E14.zero, E14.cod, E14.sure, E14.base, E14.frz⟩
noncomputable def con_cut : Con Try.prog := ⟨49, [], _, cf_cut, val_con (E := E15) mixed Try.func49 no_loops [(false, .str), (false, .str)] (fun x => x.2.1 = slash ∧ lenOk (ByteArray.size x.1)) (fun x => .tup [.one (.v (.string (cutA x.1))), .one (.v (.string (cutB x.1))), aB (decide (0 ≤ slashAt x.1))]) fun x hx => by
  obtain ⟨s, t, ⟨⟩⟩ := x
  revert s t
  intro (s : ByteArray) (t : ByteArray) (hx : t = slash ∧ lenOk s.size)
  have hs := hx.2
  have hx := hx.1
  subst hx
  have e : fnP E15 (fun _ => none) Try.f49 (encs [(false, .str), (false, .str)] (s, slash, ())) = .need (slash = slash ∧ lenOk s.size) (.ret (.tup [.one (.v (.string (cutA s))), .one (.v (.string (cutB s))), aB (decide (0 ≤ slashAt s))])) := by kernel_rfl
  rw [e]
  exact ⟨⟨rfl, hs⟩, rfl⟩⟩
noncomputable def E16 : Env Try.prog := ⟨con_cut :: E15.con, E15.zero, E15.cod, E15.sure, E15.base, E15.frz⟩
end Go.Proofs.Ytjijakfcahhioaa
/-
A fraction out of its text.
-/
set_option linter.unusedSimpArgs false
set_option linter.unusedVariables false
namespace Go.Proofs.Ytjijakfcahhioaa
open Go.RowKit Ax
noncomputable def tr_rparse (x : Els [(false, .str)]) : T Av :=
 .need ({ data := #[(47 : UInt8)] } = slash ∧ lenOk (ByteArray.size (x.1))) (.ite (Option.isSome (pz (Array.toList (ByteArray.data (cutA (x.1))))))
   (.lt (wOf (Option.getD (pz (Array.toList (ByteArray.data (cutA (x.1))))) (0 : Int))) (fun v0 =>
    .ite (decide ((0 : Int) ≤ slashAt (x.1)))
     (.ite (Option.isSome (pz (Array.toList (ByteArray.data (cutB (x.1))))))
      (.lt (wOf (Option.getD (pz (Array.toList (ByteArray.data (cutB (x.1))))) (0 : Int))) (fun v1 =>
       .ite (!!decide (zW v1 = (1 : Int)))
        (.ret (.tup [(.agg [.v (.bool w0.1), .w w0.2, .v (.bool w0.1), .w w0.2]), (.one (.v (.bool (false))))]))
        (.ite (!okF (v0, v1))
         (.ret (.tup [(.agg [.v (.bool w0.1), .w w0.2, .v (.bool w0.1), .w w0.2]), (.one (.v (.bool (false))))]))
         (.ret (.tup [(.agg [.v (.bool v0.1), .w v0.2, .v (.bool v1.1), .w v1.2]), (.one (.v (.bool (true))))])))))
      (.ite (!false)
       (.ret (.tup [(.agg [.v (.bool w0.1), .w w0.2, .v (.bool w0.1), .w w0.2]), (.one (.v (.bool (false))))]))
       (.ite (!okF (v0, w0))
        (.ret (.tup [(.agg [.v (.bool w0.1), .w w0.2, .v (.bool w0.1), .w w0.2]), (.one (.v (.bool (false))))]))
        (.ret (.tup [(.agg [.v (.bool v0.1), .w v0.2, .v (.bool w0.1), .w w0.2]), (.one (.v (.bool (true))))])))))
     (.ite (!true)
      (.ret (.tup [(.agg [.v (.bool w0.1), .w w0.2, .v (.bool w0.1), .w w0.2]), (.one (.v (.bool (false))))]))
      (.ite (!okF (v0, wOf (1 : Int)))
       (.ret (.tup [(.agg [.v (.bool w0.1), .w w0.2, .v (.bool w0.1), .w w0.2]), (.one (.v (.bool (false))))]))
       (.ret (.tup [(.agg [.v (.bool v0.1), .w v0.2, .v (.bool (wOf (1 : Int)).1), .w (wOf (1 : Int)).2]), (.one (.v (.bool (true))))]))))))
   (.ite (decide ((0 : Int) ≤ slashAt (x.1)))
    (.ite (Option.isSome (pz (Array.toList (ByteArray.data (cutB (x.1))))))
     (.lt (wOf (Option.getD (pz (Array.toList (ByteArray.data (cutB (x.1))))) (0 : Int))) (fun v0 =>
      .ite (!false)
       (.ret (.tup [(.agg [.v (.bool w0.1), .w w0.2, .v (.bool w0.1), .w w0.2]), (.one (.v (.bool (false))))]))
       (.ite (!okF (w0, v0))
        (.ret (.tup [(.agg [.v (.bool w0.1), .w w0.2, .v (.bool w0.1), .w w0.2]), (.one (.v (.bool (false))))]))
        (.ret (.tup [(.agg [.v (.bool w0.1), .w w0.2, .v (.bool v0.1), .w v0.2]), (.one (.v (.bool (true))))])))))
     (.ite (!false)
      (.ret (.tup [(.agg [.v (.bool w0.1), .w w0.2, .v (.bool w0.1), .w w0.2]), (.one (.v (.bool (false))))]))
      (.ite (!okF (w0, w0))
       (.ret (.tup [(.agg [.v (.bool w0.1), .w w0.2, .v (.bool w0.1), .w w0.2]), (.one (.v (.bool (false))))]))
       (.ret (.tup [(.agg [.v (.bool w0.1), .w w0.2, .v (.bool w0.1), .w w0.2]), (.one (.v (.bool (true))))])))))
    (.ite (!false)
     (.ret (.tup [(.agg [.v (.bool w0.1), .w w0.2, .v (.bool w0.1), .w w0.2]), (.one (.v (.bool (false))))]))
     (.ite (!okF (w0, wOf (1 : Int)))
      (.ret (.tup [(.agg [.v (.bool w0.1), .w w0.2, .v (.bool w0.1), .w w0.2]), (.one (.v (.bool (false))))]))
      (.ret (.tup [(.agg [.v (.bool w0.1), .w w0.2, .v (.bool (wOf (1 : Int)).1), .w (wOf (1 : Int)).2]), (.one (.v (.bool (true))))]))))))
theorem tr_rparse_eq (x : Els [(false, .str)]) : fnP E16 (fun _ => none) Try.f20 (encs [(false, .str)] x) = tr_rparse x := by kernel_rfl
/-- a fraction out of its text -/
def pR (s : ByteArray) : Option F := match pz (cutA s).data.toList with
  | none => none
  | some n => if 0 ≤ slashAt s then (match pz (cutB s).data.toList with
      | none => none
      | some d => if zW (wOf d) = 1 then none else if okF (wOf n, wOf d) = true then some (wOf n, wOf d) else none)
    else if okF (wOf n, wOf 1) = true then some (wOf n, wOf 1) else none
theorem rparse_ok (x : Els [(false, .str)]) (hs : lenOk (ByteArray.size x.1)) : (tr_rparse x).wp (· = ansF (pR x.1).isSome ((pR x.1).getD (w0, w0))) := by
  obtain ⟨s, u⟩ := x
  revert s
  intro (s : ByteArray) (hs : lenOk s.size)
  unfold tr_rparse
  simp only [T.wp]
  have no : pR s = none → Av.tup [.agg [.v (.bool w0.1), .w w0.2, .v (.bool w0.1), .w w0.2], .one (.v (.bool false))] = ansF (pR s).isSome ((pR s).getD (w0, w0)) := fun h => by rw [h]; rfl
  have yes : ∀ f : F, pR s = some f → Av.tup [.agg [.v (.bool f.1.1), .w f.1.2, .v (.bool f.2.1), .w f.2.2], .one (.v (.bool true))] = ansF (pR s).isSome ((pR s).getD (w0, w0)) := fun f h => by rw [h]; rfl
  refine ⟨⟨rfl, hs⟩, fun hA => ⟨fun h0 => ⟨fun hB => ⟨fun h1 => no ?_, fun h1 => ⟨fun h2 => no ?_, fun h2 => yes (wOf ((pz (cutA s).data.toList).getD 0), wOf ((pz (cutB s).data.toList).getD 0)) ?_⟩⟩, fun hB => ⟨fun _ => no ?_, fun h => (by cases h)⟩⟩, fun h0 => ⟨fun h => (by cases h), fun _ => ⟨fun h2 => no ?_, fun h2 => yes (wOf ((pz (cutA s).data.toList).getD 0), wOf 1) ?_⟩⟩⟩,
    fun hA => ⟨fun h0 => ⟨fun hB => ⟨fun _ => no ?_, fun h => (by cases h)⟩, fun hB => ⟨fun _ => no ?_, fun h => (by cases h)⟩⟩, fun h0 => ⟨fun _ => no ?_, fun h => (by cases h)⟩⟩⟩
  all_goals unfold pR
  · obtain ⟨n, hn⟩ := Option.isSome_iff_exists.1 hA
    obtain ⟨d, hd⟩ := Option.isSome_iff_exists.1 hB
    rw [hd] at h1
    have h1' : zW (wOf d) = 1 := by simpa using h1
    simp only [hn, hd, of_decide_eq_true h0, if_true, h1']
  · obtain ⟨n, hn⟩ := Option.isSome_iff_exists.1 hA
    obtain ⟨d, hd⟩ := Option.isSome_iff_exists.1 hB
    rw [hd] at h1 h2
    rw [hn] at h2
    have h1' : ¬ zW (wOf d) = 1 := by simpa using h1
    have h2' : okF (wOf n, wOf d) = false := by simpa using h2
    simp only [hn, hd, of_decide_eq_true h0, if_true, h1', if_false, h2', Bool.false_eq_true]
  · obtain ⟨n, hn⟩ := Option.isSome_iff_exists.1 hA
    obtain ⟨d, hd⟩ := Option.isSome_iff_exists.1 hB
    rw [hd] at h1 h2
    rw [hn] at h2
    have h1' : ¬ zW (wOf d) = 1 := by simpa using h1
    have h2' : okF (wOf n, wOf d) = true := by simpa using h2
    simp only [hn, hd, of_decide_eq_true h0, if_true, h1', if_false, h2', Option.getD_some]
  · obtain ⟨n, hn⟩ := Option.isSome_iff_exists.1 hA
    have hd := Option.isSome_eq_false_iff.1 hB
    rw [Option.isNone_iff_eq_none] at hd
    simp only [hn, hd, of_decide_eq_true h0, if_true]
  · obtain ⟨n, hn⟩ := Option.isSome_iff_exists.1 hA
    rw [hn] at h2
    have h2' : okF (wOf n, wOf 1) = false := by simpa using h2
    simp only [hn, of_decide_eq_false h0, if_false, h2', Bool.false_eq_true]
  · obtain ⟨n, hn⟩ := Option.isSome_iff_exists.1 hA
    rw [hn] at h2
    have h2' : okF (wOf n, wOf 1) = true := by simpa using h2
    simp only [hn, of_decide_eq_false h0, if_false, h2', if_true, Option.getD_some]
  all_goals
    have hn := Option.isSome_eq_false_iff.1 hA
    rw [Option.isNone_iff_eq_none] at hn
    simp only [hn]
noncomputable def con_rparse : Con Try.prog := ⟨20, [], _, cf_rparse, ans_con (E := E16) mixed Try.func20 no_loops [(false, .str)] (fun x => lenOk (ByteArray.size x.1)) true cF (fun x => (pR x.1).isSome) (fun x => (pR x.1).getD (w0, w0)) (fun _ => (w0, w0)) fun x hx => by
  rw [tr_rparse_eq]
  exact rparse_ok x hx⟩
noncomputable def E17 : Env Try.prog := ⟨con_rparse :: E16.con, E16.zero, E16.cod, E16.sure, E16.base, E16.frz⟩
end Go.Proofs.Ytjijakfcahhioaa
/-
What the loop of Decimal looks like.
-/
set_option linter.unusedSimpArgs false
set_option linter.unusedVariables false
namespace Go.Proofs.Ytjijakfcahhioaa
open Go.RowKit Ax
abbrev spDec : LSpec := ⟨85, [(1, false, .int .i64), (12, false, .str)], [(2, 0, 0), (6, 1, 0), (7, 2, 0), (8, 3, 0)], [(27, cF), (25, cW), (4, .bool), (25, cW)], fun e => match e with | .exit _ => [1, 12] | _ => []⟩
end Go.Proofs.Ytjijakfcahhioaa
/-
The loop of Decimal.
-/
set_option linter.unusedSimpArgs false
set_option linter.unusedVariables false
namespace Go.Proofs.Ytjijakfcahhioaa
open Go.RowKit Ax
noncomputable def tr_decL (x : LSpec.X spDec × LSpec.Y spDec) : T (Rd spDec) :=
 .ite (decide ((↑(ByteArray.size x.1.2.1) : Int) ≤ x.1.1))
  (.need ((↑(ByteArray.size { data := #[(48 : UInt8)] } + ByteArray.size x.1.2.1) : Int) ≤ IntKind.max .i64) (.lt ({ data := #[(48 : UInt8)] } ++ x.1.2.1) (fun v0 =>
    .ret (.again (x.1.1, (v0, ())) (x.2.1, (x.2.2.1, (x.2.2.2.1, (x.2.2.2.2.1, ()))))))))
  (.ret (.out (Go.Exit.exit (0 : Nat)) [(.one (.v (.int .i64 x.1.1))), (.one (.v (.string x.1.2.1)))] (x.2.1, (x.2.2.1, (x.2.2.2.1, (x.2.2.2.2.1, ()))))))
theorem tr_decL_eq (x : LSpec.X spDec × LSpec.Y spDec) : LSpec.round spDec E17 (fun _ => none) (bodyOf Try.f25 0) x.1 x.2 = tr_decL x := by kernel_rfl
/-- noughts ahead, until there are more than so many -/
def padS (d : Int) (s : ByteArray) : ByteArray := ⟨(List.replicate (d + 1 - s.size).toNat 48 ++ s.data.toList).toArray⟩
theorem padS_end {d : Int} {s : ByteArray} (h : ¬ (s.size : Int) ≤ d) : padS d s = s := by
  unfold padS
  rw [show (d + 1 - (s.size : Int)).toNat = 0 from by omega]
  simp
theorem padS_step {d : Int} {s : ByteArray} (h : (s.size : Int) ≤ d) : padS d (⟨#[48]⟩ ++ s) = padS d s := by
  unfold padS
  have e : (ByteArray.size (⟨#[48]⟩ ++ s)) = 1 + s.size := by rw [ByteArray.size_append]; rfl
  rw [e]
  obtain ⟨k, hk⟩ : ∃ k : Nat, (d + 1 - (s.size : Int)).toNat = k + 1 := ⟨(d - s.size).toNat, by omega⟩
  rw [show (d + 1 - ((1 + s.size : Nat) : Int)).toNat = k from by omega, hk]
  have e2 : (⟨#[48]⟩ ++ s : ByteArray).data.toList = 48 :: s.data.toList := by
    rw [ByteArray.data_append]; simp
  rw [e2, List.replicate_succ', List.append_assoc]; rfl
def outDec (x : LSpec.X spDec) (y : LSpec.Y spDec) : T (Exit × List Av × LSpec.Y spDec) :=
  .need (x.1 ≤ 20 ∧ (ByteArray.size x.2.1 : Int) ≤ 2000) (.lt (padS x.1 x.2.1) fun u => .ret (.exit 0, [aI .i64 x.1, .one (.v (.string u))], y))
theorem decL_core (d : Int) (s : ByteArray) (y : LSpec.Y spDec) (Q : Exit × List Av × LSpec.Y spDec → Prop) (h : (outDec (d, s, ()) y).wp Q) : (tr_decL ((d, s, ()), y)).wp fun r => match r with
      | .again x' y' => (x'.1 + 1 - (ByteArray.size x'.2.1 : Int)).toNat < (d + 1 - s.size).toNat ∧ (outDec x' y').wp Q
      | .out e avs y' => Q (e, avs, y') := by
  unfold tr_decL
  unfold outDec at h ⊢
  simp only [T.wp] at h ⊢
  dsimp only [El, vts, bts, spDec] at h ⊢
  obtain ⟨⟨h1, h2⟩, hq⟩ := h
  have e1 : ByteArray.size (⟨#[48]⟩ : ByteArray) = 1 := rfl
  refine ⟨fun hlt => ?_, fun hge => ?_⟩
  · have hlt := of_decide_eq_true hlt
    rw [ByteArray.size_append, e1, padS_step hlt]
    refine ⟨?_, by omega, ⟨h1, by omega⟩, hq⟩
    show ((_ : Nat) : Int) ≤ 9223372036854775807
    omega
  · have hge := of_decide_eq_false hge
    rw [padS_end hge] at hq
    exact hq
theorem decL_ok : LoopOk Try.prog 0 (bodyOf Try.f25 0) (spDec.run outDec) :=
  loop_ok (E := E17) (L := fun _ => none) mixed 0 (loops_none _ _ _) spDec (Nat.zero_le _) outDec (fun x _ => (x.1 + 1 - (ByteArray.size x.2.1 : Int)).toNat) (by
    rintro ⟨d, s, ⟨⟩⟩ y Q h
    rw [tr_decL_eq ((d, s, ()), y)]
    exact decL_core d s y Q h)
noncomputable def lpDec : Loops := oneL 12 (spDec.run outDec)
end Go.Proofs.Ytjijakfcahhioaa
/-
Decimal.
-/
set_option linter.unusedSimpArgs false
set_option linter.unusedVariables false
namespace Go.Proofs.Ytjijakfcahhioaa
open Go.RowKit Ax
noncomputable def tr_rdecimal (x : Els [(true, cF), (false, .int .i64)]) : T Av :=
 .need (lenOk (List.length [x.1])) (.ite (!List.all [x.1] (safeF (500 : Int)))
   (.ret (.tup [(.one (.v (.string ({ data := #[] })))), (.one (.v (.bool (false))))]))
   (.lt (if (0 : Int) > x.2.1 then (0 : Int) else x.2.1) (fun v0 =>
    .lt (if (20 : Int) < v0 then (20 : Int) else v0) (fun v1 =>
     dup (.need ((0 : Int) ≤ v1 ∧ v1 ≤ (20 : Int)) (.lt (zW (false, x.1.1.2) * zW (wOf ((10 : Int) ^ Int.toNat v1))) (fun v2 =>
        .lt (zW (wOf v2)) (fun v3 =>
         .lt (zW x.1.2) (fun v4 =>
          .need (in64 (2 : Int)) (.lt (zW (wOf (if v4 = (0 : Int) then (0 : Int) else Int.tmod v3 v4)) * zW (wOf (2 : Int))) (fun v5 =>
            .ite (decide (Pq.cz (zW (wOf v5)) (zW x.1.2) ≥ (0 : Int)))
             (dup (.lt (zW (wOf (if v4 = (0 : Int) then (0 : Int) else Int.tdiv v3 v4)) + zW (wOf (1 : Int))) (fun v6 =>
               .need (v1 ≤ (20 : El (Cd.int .i64)) ∧ (↑(ByteArray.size (txt (wOf v6))) : Int) ≤ (2000 : Int)) (.lt (padS v1 (txt (wOf v6))) (fun v7 =>
                 .ite (decide (v1 > (0 : Int)))
                  (.need ((0 : Int) ≤ (0 : Int) ∧ (0 : Int) ≤ IntKind.wrap .i64 ((↑(ByteArray.size v7) : Int) - v1) ∧ IntKind.wrap .i64 ((↑(ByteArray.size v7) : Int) - v1) ≤ (↑(ByteArray.size v7) : Int)) (.lt (ByteArray.extract v7 (Int.toNat (0 : Int)) (Int.toNat (IntKind.wrap .i64 ((↑(ByteArray.size v7) : Int) - v1)))) (fun v8 =>
                    .need ((↑(ByteArray.size v8 + ByteArray.size { data := #[(46 : UInt8)] }) : Int) ≤ IntKind.max .i64) (.lt (v8 ++ { data := #[(46 : UInt8)] }) (fun v9 =>
                      .need ((0 : Int) ≤ IntKind.wrap .i64 ((↑(ByteArray.size v7) : Int) - v1) ∧ IntKind.wrap .i64 ((↑(ByteArray.size v7) : Int) - v1) ≤ (↑(ByteArray.size v7) : Int) ∧ (↑(ByteArray.size v7) : Int) ≤ (↑(ByteArray.size v7) : Int)) (.lt (ByteArray.extract v7 (Int.toNat (IntKind.wrap .i64 ((↑(ByteArray.size v7) : Int) - v1))) (Int.toNat (↑(ByteArray.size v7) : Int))) (fun v10 =>
                        .need ((↑(ByteArray.size v9 + ByteArray.size v10) : Int) ≤ IntKind.max .i64) (.lt (v9 ++ v10) (fun v11 =>
                          .ite (decide (Pq.cz (zW x.1.1) (0 : Int) < (0 : Int)))
                           (.ite (decide ((↑(Pq.bitn (Int.natAbs (zW (wOf v6)))) : Int) > (0 : Int)))
                            (.need ((↑(ByteArray.size { data := #[(45 : UInt8)] } + ByteArray.size v11) : Int) ≤ IntKind.max .i64) (.lt ({ data := #[(45 : UInt8)] } ++ v11) (fun v12 =>
                              .ret (.tup [(.one (.v (.string (v12)))), (.one (.v (.bool (true && Pq.fits v2 && Pq.fits v5))))]))))
                            (.ret (.tup [(.one (.v (.string (v11)))), (.one (.v (.bool (true && Pq.fits v2 && Pq.fits v5))))])))
                           (.ret (.tup [(.one (.v (.string (v11)))), (.one (.v (.bool (true && Pq.fits v2 && Pq.fits v5))))])))))))))))
                  (.ite (decide (Pq.cz (zW x.1.1) (0 : Int) < (0 : Int)))
                   (.ite (decide ((↑(Pq.bitn (Int.natAbs (zW (wOf v6)))) : Int) > (0 : Int)))
                    (.need ((↑(ByteArray.size { data := #[(45 : UInt8)] } + ByteArray.size v7) : Int) ≤ IntKind.max .i64) (.lt ({ data := #[(45 : UInt8)] } ++ v7) (fun v8 =>
                      .ret (.tup [(.one (.v (.string (v8)))), (.one (.v (.bool (true && Pq.fits v2 && Pq.fits v5))))]))))
                    (.ret (.tup [(.one (.v (.string (v7)))), (.one (.v (.bool (true && Pq.fits v2 && Pq.fits v5))))])))
                   (.ret (.tup [(.one (.v (.string (v7)))), (.one (.v (.bool (true && Pq.fits v2 && Pq.fits v5))))]))))))))
             (.need (v1 ≤ (20 : El (Cd.int .i64)) ∧ (↑(ByteArray.size (txt (wOf (if v4 = (0 : Int) then (0 : Int) else Int.tdiv v3 v4)))) : Int) ≤ (2000 : Int)) (.lt (padS v1 (txt (wOf (if v4 = (0 : Int) then (0 : Int) else Int.tdiv v3 v4)))) (fun v6 =>
               .ite (decide (v1 > (0 : Int)))
                (.need ((0 : Int) ≤ (0 : Int) ∧ (0 : Int) ≤ IntKind.wrap .i64 ((↑(ByteArray.size v6) : Int) - v1) ∧ IntKind.wrap .i64 ((↑(ByteArray.size v6) : Int) - v1) ≤ (↑(ByteArray.size v6) : Int)) (.lt (ByteArray.extract v6 (Int.toNat (0 : Int)) (Int.toNat (IntKind.wrap .i64 ((↑(ByteArray.size v6) : Int) - v1)))) (fun v7 =>
                  .need ((↑(ByteArray.size v7 + ByteArray.size { data := #[(46 : UInt8)] }) : Int) ≤ IntKind.max .i64) (.lt (v7 ++ { data := #[(46 : UInt8)] }) (fun v8 =>
                    .need ((0 : Int) ≤ IntKind.wrap .i64 ((↑(ByteArray.size v6) : Int) - v1) ∧ IntKind.wrap .i64 ((↑(ByteArray.size v6) : Int) - v1) ≤ (↑(ByteArray.size v6) : Int) ∧ (↑(ByteArray.size v6) : Int) ≤ (↑(ByteArray.size v6) : Int)) (.lt (ByteArray.extract v6 (Int.toNat (IntKind.wrap .i64 ((↑(ByteArray.size v6) : Int) - v1))) (Int.toNat (↑(ByteArray.size v6) : Int))) (fun v9 =>
                      .need ((↑(ByteArray.size v8 + ByteArray.size v9) : Int) ≤ IntKind.max .i64) (.lt (v8 ++ v9) (fun v10 =>
                        .ite (decide (Pq.cz (zW x.1.1) (0 : Int) < (0 : Int)))
                         (.ite (decide ((↑(Pq.bitn (Int.natAbs (zW (wOf (if v4 = (0 : Int) then (0 : Int) else Int.tdiv v3 v4))))) : Int) > (0 : Int)))
                          (.need ((↑(ByteArray.size { data := #[(45 : UInt8)] } + ByteArray.size v10) : Int) ≤ IntKind.max .i64) (.lt ({ data := #[(45 : UInt8)] } ++ v10) (fun v11 =>
                            .ret (.tup [(.one (.v (.string (v11)))), (.one (.v (.bool (true && Pq.fits v2 && Pq.fits v5))))]))))
                          (.ret (.tup [(.one (.v (.string (v10)))), (.one (.v (.bool (true && Pq.fits v2 && Pq.fits v5))))])))
                         (.ret (.tup [(.one (.v (.string (v10)))), (.one (.v (.bool (true && Pq.fits v2 && Pq.fits v5))))])))))))))))
                (.ite (decide (Pq.cz (zW x.1.1) (0 : Int) < (0 : Int)))
                 (.ite (decide ((↑(Pq.bitn (Int.natAbs (zW (wOf (if v4 = (0 : Int) then (0 : Int) else Int.tdiv v3 v4))))) : Int) > (0 : Int)))
                  (.need ((↑(ByteArray.size { data := #[(45 : UInt8)] } + ByteArray.size v6) : Int) ≤ IntKind.max .i64) (.lt ({ data := #[(45 : UInt8)] } ++ v6) (fun v7 =>
                    .ret (.tup [(.one (.v (.string (v7)))), (.one (.v (.bool (true && Pq.fits v2 && Pq.fits v5))))]))))
                  (.ret (.tup [(.one (.v (.string (v6)))), (.one (.v (.bool (true && Pq.fits v2 && Pq.fits v5))))])))
                 (.ret (.tup [(.one (.v (.string (v6)))), (.one (.v (.bool (true && Pq.fits v2 && Pq.fits v5))))])))))))))))))))))
theorem tr_rdecimal_eq (x : Els [(true, cF), (false, .int .i64)]) : fnP E17 lpDec Try.f25 (encs [(true, cF), (false, .int .i64)] x) = tr_rdecimal x := by kernel_rfl
def sgnT (z nz : Int) (ok : Bool) (s : ByteArray) : T Av :=
  .ite (decide (Pq.cz nz 0 < 0)) (.ite (decide ((Pq.bitn (zW (wOf z)).natAbs : Int) > 0)) (.need (((ByteArray.size ⟨#[45]⟩ + s.size : Nat) : Int) ≤ IntKind.i64.max) (.lt (⟨#[45]⟩ ++ s) fun u => .ret (.tup [.one (.v (.string u)), aB ok]))) (.ret (.tup [.one (.v (.string s)), aB ok]))) (.ret (.tup [.one (.v (.string s)), aB ok]))
def decT (z v1 nz : Int) (ok : Bool) : T Av :=
  .need (v1 ≤ 20 ∧ ((ByteArray.size (txt (wOf z)) : Nat) : Int) ≤ 2000) (.lt (padS v1 (txt (wOf z))) fun v7 =>
    .ite (decide (v1 > 0))
      (.need ((0 : Int) ≤ 0 ∧ 0 ≤ IntKind.i64.wrap ((ByteArray.size v7 : Int) - v1) ∧ IntKind.i64.wrap ((ByteArray.size v7 : Int) - v1) ≤ (ByteArray.size v7 : Int)) (.lt (ByteArray.extract v7 (Int.toNat 0) (Int.toNat (IntKind.i64.wrap ((ByteArray.size v7 : Int) - v1)))) fun v8 =>
        .need (((ByteArray.size v8 + ByteArray.size ⟨#[46]⟩ : Nat) : Int) ≤ IntKind.i64.max) (.lt (v8 ++ ⟨#[46]⟩) fun v9 =>
          .need (0 ≤ IntKind.i64.wrap ((ByteArray.size v7 : Int) - v1) ∧ IntKind.i64.wrap ((ByteArray.size v7 : Int) - v1) ≤ (ByteArray.size v7 : Int) ∧ (ByteArray.size v7 : Int) ≤ (ByteArray.size v7 : Int)) (.lt (ByteArray.extract v7 (Int.toNat (IntKind.i64.wrap ((ByteArray.size v7 : Int) - v1))) (Int.toNat (ByteArray.size v7 : Int))) fun v10 =>
            .need (((ByteArray.size v9 + ByteArray.size v10 : Nat) : Int) ≤ IntKind.i64.max) (.lt (v9 ++ v10) fun v11 => sgnT z nz ok v11)))))
      (sgnT z nz ok v7))
theorem dec_shape (x : Els [(true, cF), (false, .int .i64)]) : tr_rdecimal x = .need (lenOk (List.length [x.1])) (.ite (!List.all [x.1] (safeF 500)) (.ret (.tup [.one (.v (.string ⟨#[]⟩)), aB false]))
    (.lt (if (0 : Int) > x.2.1 then (0 : Int) else x.2.1) fun v0 => .lt (if (20 : Int) < v0 then (20 : Int) else v0) fun v1 => dup (.need (0 ≤ v1 ∧ v1 ≤ 20) (.lt (zW (false, x.1.1.2) * zW (wOf (10 ^ Int.toNat v1))) fun v2 => .lt (zW (wOf v2)) fun v3 => .lt (zW x.1.2) fun v4 =>
      .need (in64 2) (.lt (zW (wOf (if v4 = 0 then 0 else Int.tmod v3 v4)) * zW (wOf 2)) fun v5 => .ite (decide (Pq.cz (zW (wOf v5)) (zW x.1.2) ≥ 0))
        (dup (.lt (zW (wOf (if v4 = 0 then 0 else Int.tdiv v3 v4)) + zW (wOf 1)) fun v6 => decT v6 v1 (zW x.1.1) (true && Pq.fits v2 && Pq.fits v5)))
        (decT (if v4 = 0 then 0 else Int.tdiv v3 v4) v1 (zW x.1.1) (true && Pq.fits v2 && Pq.fits v5))))))) := rfl
/-- a point so many places from the end; a sign -/
def pointS (k : Int) (s : ByteArray) : ByteArray := if 0 < k then s.extract 0 ((s.size : Int) - k).toNat ++ ⟨#[46]⟩ ++ s.extract ((s.size : Int) - k).toNat s.size else s
def signS (neg : Bool) (s : ByteArray) : ByteArray := if neg = true then ⟨#[45]⟩ ++ s else s
def decS (z k nz : Int) : ByteArray := signS (decide (nz < 0 ∧ z ≠ 0)) (pointS k (padS k (txt (wOf z))))
theorem padS_size (k : Int) (s : ByteArray) : (padS k s).size = (k + 1 - s.size).toNat + s.size := by
  show (padS k s).data.size = _
  unfold padS
  simp
theorem sgnT_ok {z nz : Int} {ok : Bool} {s : ByteArray} (hz : z.natAbs < Pq.bp 32) (hs : s.size ≤ 3000) : (sgnT z nz ok s).wp (· = .tup [.one (.v (.string (signS (decide (nz < 0 ∧ z ≠ 0)) s))), aB ok]) := by
  unfold sgnT
  simp only [T.wp]
  have hb : (Pq.bitn z.natAbs : Int) > 0 ↔ z ≠ 0 := by
    have := @Pq.bitn_eq0 z.natAbs
    constructor
    · intro h e; rw [e] at h; simp [Pq.bitn_zero] at h
    · intro h; have : Pq.bitn z.natAbs ≠ 0 := fun e => h (by have := this.1 e; omega)
      omega
  rw [zW_wOf hz]
  have e1 : ByteArray.size (⟨#[45]⟩ : ByteArray) = 1 := rfl
  refine ⟨fun h => ⟨fun h2 => ⟨?_, ?_⟩, fun h2 => ?_⟩, fun h => ?_⟩
  · rw [e1]; show ((_ : Nat) : Int) ≤ 9223372036854775807; omega
  · rw [decide_eq_true (show nz < 0 ∧ z ≠ 0 from ⟨(cz_lt _ _).1 (of_decide_eq_true h), hb.1 (of_decide_eq_true h2)⟩)]; rfl
  · rw [decide_eq_false (show ¬ (nz < 0 ∧ z ≠ 0) from fun k => of_decide_eq_false h2 (hb.2 k.2))]; rfl
  · rw [decide_eq_false (show ¬ (nz < 0 ∧ z ≠ 0) from fun k => of_decide_eq_false h ((cz_lt _ _).2 k.1))]; rfl
theorem decT_ok {z k nz : Int} {ok : Bool} (hz : z.natAbs < Pq.bp 32) (h0 : 0 ≤ k) (hk : k ≤ 20) : (decT z k nz ok).wp (· = .tup [.one (.v (.string (decS z k nz))), aB ok]) := by
  unfold decT
  simp only [T.wp]
  have ht := txt_size (wOf z)
  have hp := padS_size k (txt (wOf z))
  unfold decS
  generalize padS k (txt (wOf z)) = s at *
  generalize txt (wOf z) = u at *
  have hs1 : s.size ≤ 2000 := by omega
  have hs2 : k < (s.size : Int) := by omega
  have e : IntKind.i64.wrap ((s.size : Int) - k) = (s.size : Int) - k := IntWalk.i64_in _ (by omega)
  have e1 : ByteArray.size (⟨#[46]⟩ : ByteArray) = 1 := rfl
  rw [e]
  refine ⟨⟨hk, by omega⟩, fun h => ⟨⟨by omega, by omega, by omega⟩, ?_, ⟨by omega, by omega, by omega⟩, ?_, ?_⟩, fun h => ?_⟩
  · rw [ByteArray.size_extract, e1]; show ((_ : Nat) : Int) ≤ 9223372036854775807; omega
  · rw [ByteArray.size_append, ByteArray.size_extract, ByteArray.size_extract, e1]; show ((_ : Nat) : Int) ≤ 9223372036854775807; omega
  · have hk' := of_decide_eq_true h
    have : pointS k s = s.extract (Int.toNat 0) ((s.size : Int) - k).toNat ++ ⟨#[46]⟩ ++ s.extract ((s.size : Int) - k).toNat (Int.toNat (s.size : Int)) := by
      unfold pointS; rw [if_pos hk', Int.toNat_natCast]; rfl
    rw [← this]
    refine sgnT_ok hz ?_
    rw [this, ByteArray.size_append, ByteArray.size_append, ByteArray.size_extract, ByteArray.size_extract, e1]; omega
  · have hk' := of_decide_eq_false h
    have : pointS k s = s := by unfold pointS; rw [if_neg hk']
    rw [this]
    exact sgnT_ok hz (by omega)
def clampD (d : Int) : Int := if (20 : Int) < (if (0 : Int) > d then (0 : Int) else d) then (20 : Int) else (if (0 : Int) > d then (0 : Int) else d)
theorem clampD_in (d : Int) : 0 ≤ clampD d ∧ clampD d ≤ 20 := by unfold clampD; split <;> split <;> omega
/-- the digits as a whole number, the nearest -/
def qdec (f : F) (k : Int) : Int :=
  if ((zW f.1).natAbs : Int) * 10 ^ k.toNat % zW f.2 * 2 ≥ zW f.2 then ((zW f.1).natAbs : Int) * 10 ^ k.toNat / zW f.2 + 1 else ((zW f.1).natAbs : Int) * 10 ^ k.toNat / zW f.2
theorem dec_bounds {n b : Int} {j m : Nat} (hn0 : 0 ≤ n) (hb : 0 < b) (hnb : n.natAbs < 2 ^ m) (hbj : b.natAbs < 2 ^ j) : (n / b).natAbs < 2 ^ m ∧ (n / b + 1).natAbs < 2 ^ (m + 1) ∧ (n % b).natAbs < 2 ^ j ∧ (n % b * 2).natAbs < 2 ^ (j + 1) := by
  have hq := Nat.lt_of_le_of_lt (Int.natAbs_ediv_le_natAbs n b) hnb
  have hr0 := Int.emod_nonneg n (show b ≠ 0 from by omega)
  have hr1 := Int.emod_lt_of_pos n hb
  have hm : 0 < 2 ^ m := Nat.two_pow_pos m
  refine ⟨hq, ?_, by omega, ?_⟩
  · rw [Nat.pow_succ]
    have := Int.natAbs_add_le (n / b) 1
    omega
  · rw [Nat.pow_succ]; omega
theorem rdecimal_ok (x : Els [(true, cF), (false, .int .i64)]) : (tr_rdecimal x).wp (· = ansA false .str (safeF 500 x.1) (decS (qdec x.1 (clampD x.2.1)) (clampD x.2.1) (zW x.1.1)) ⟨#[]⟩) := by
  rw [dec_shape]
  obtain ⟨f, d, u⟩ := x
  revert f d
  intro (f : F) (d : Int)
  simp only [T.wp, dup_wp]
  obtain ⟨c0, c1⟩ := clampD_in d
  have hc : (if (20 : Int) < (if (0 : Int) > d then (0 : Int) else d) then (20 : Int) else (if (0 : Int) > d then (0 : Int) else d)) = clampD d := rfl
  rw [hc]
  generalize clampD d = k at *
  have hall : List.all [f] (safeF 500) = safeF 500 f := by simp
  rw [hall]
  refine ⟨by unfold lenOk; simp, fun h => ?_, fun h => ⟨⟨c0, c1⟩, ⟨by omega, by omega⟩, ?_⟩⟩
  · have h : safeF 500 f = false := by simpa using h
    rw [h]; rfl
  · have hsf : safeF 500 f = true := by simpa using h
    obtain ⟨a1, a2, a3⟩ := safe_b (of_decide_eq_true hsf)
    rw [hsf]
    have ez : zW (false, f.1.2) = ((zW f.1).natAbs : Int) := by
      unfold zW; rw [Pq.zv_abs]; rfl
    have p10 : ((10 : Int) ^ k.toNat).natAbs < 2 ^ 100 := by
      rw [Int.natAbs_pow]
      exact Nat.lt_of_le_of_lt (Nat.pow_le_pow_right (by decide) (show k.toNat ≤ 20 from by omega)) (by decide +kernel)
    have hp0 : (0 : Int) ≤ 10 ^ k.toNat := Int.pow_nonneg (by decide)
    rw [ez, zW_wOf (pow10_lt (by omega))]
    unfold qdec
    have hn0 : (0 : Int) ≤ ((zW f.1).natAbs : Int) * 10 ^ k.toNat := Int.mul_nonneg (by omega) hp0
    have a1' : ((zW f.1).natAbs : Int).natAbs < 2 ^ 500 := by rw [Int.natAbs_natCast]; exact a1
    have hnb : (((zW f.1).natAbs : Int) * 10 ^ k.toNat).natAbs < 2 ^ 600 := pow_mul_ez (j := 500) (k := 100) (n := 600) rfl a1' p10
    generalize ((zW f.1).natAbs : Int) * 10 ^ k.toNat = n at *
    generalize zW f.2 = b at *
    have up : ∀ z : Int, z.natAbs < 2 ^ 600 → z.natAbs < 2 ^ 1001 := fun z hz => pow_to (j := 600) (k := 1001) hz (by decide)
    obtain ⟨d1, d2, d3, d4⟩ := dec_bounds hn0 a3 hnb a2
    have hq : (n / b).natAbs < 2 ^ 600 := d1
    have hq1 : (n / b + 1).natAbs < 2 ^ 1001 := pow_to (j := 600 + 1) (k := 1001) d2 (by decide)
    have hrb : (n % b * 2).natAbs < 2 ^ 1001 := pow_to (j := 500 + 1) (k := 1001) d4 (by decide)
    have hrw : (n % b).natAbs < 2 ^ 1001 := pow_to (j := 500) (k := 1001) d3 (by decide)
    clear d1 d2 d3 d4
    have z2 : zW (wOf 2) = 2 := zW_wOf (i64_lt (by omega) (by omega))
    have z1 : zW (wOf 1) = 1 := zW_wOf (i64_lt (by omega) (by omega))
    rw [zW_b (up _ hnb), if_neg (show ¬ b = 0 by omega), if_neg (show ¬ b = 0 by omega), Int.tmod_eq_emod_of_nonneg hn0, Int.tdiv_eq_ediv_of_nonneg hn0, zW_b hrw, zW_b (up _ hq), z2, z1, zW_b hrb, fits_b (up _ hnb), fits_b hrb]
    refine ⟨fun hcz => ?_, fun hcz => ?_⟩
    · have hge : n % b * 2 ≥ b := by
        have := of_decide_eq_true hcz
        have := cz_lt (n % b * 2) b
        omega
      rw [if_pos hge]
      exact decT_ok (big_b hq1).1 c0 c1
    · have hlt : ¬ n % b * 2 ≥ b := by
        have := of_decide_eq_false hcz
        have := cz_lt (n % b * 2) b
        omega
      rw [if_neg hlt]
      exact decT_ok (big_b (up _ hq)).1 c0 c1
noncomputable def con_rdecimal : Con Try.prog := ⟨25, [], _, cf_rdecimal, ans_con0 (E := E17) (L := lpDec) mixed Try.func25 (one_loop decL_ok (by kernel_rfl)) [(true, cF), (false, .int .i64)] false .str (fun x => safeF 500 x.1) (fun x => decS (qdec x.1 (clampD x.2.1)) (clampD x.2.1) (zW x.1.1)) (fun _ => ⟨#[]⟩) fun x => by rw [tr_rdecimal_eq]; exact rdecimal_ok x⟩
noncomputable def E18 : Env Try.prog := ⟨con_rdecimal :: E17.con, E17.zero, E17.cod, E17.sure, E17.base, E17.frz⟩
end Go.Proofs.Ytjijakfcahhioaa
/-
The reference: what the loop of trim looks like.
-/
set_option linter.unusedSimpArgs false
set_option linter.unusedVariables false
namespace Go.Proofs.Ytjijakfcahhioaa
open Go.RowKit Ax
theorem cf_trim (xs : Array Value) (w : World) : (callFunc 65 xs).run Try.prog w = .ok (.enter 65 xs) w := by kernel_rfl
theorem cf_pwide (xs : Array Value) (w : World) : (callFunc 38 xs).run Try.prog w = .ok (.enter 38 xs) w := by kernel_rfl
theorem cf_pfrom (xs : Array Value) (w : World) : (callFunc 14 xs).run Try.prog w = .ok (.enter 14 xs) w := by kernel_rfl
theorem cf_pwhole (xs : Array Value) (w : World) : (callFunc 12 xs).run Try.prog w = .ok (.enter 12 xs) w := by kernel_rfl
noncomputable def codU : Cod Try.prog := ⟨22, .int .u32, by kernel_rfl, ⟨.int .u32 0, fun w => by kernel_rfl⟩⟩
noncomputable def zeroU : Zero Try.prog := ⟨22, ck (.int .u32) (0 : Int), [.int .u32 0], by kernel_rfl, fun w R σ => .v rfl .nil⟩
noncomputable def E19 : Env Try.prog := ⟨E18.con, zeroU :: E18.zero, codU :: E18.cod, E18.sure, E18.base, E18.frz⟩
abbrev spTrim : LSpec := ⟨21, [(0, false, .sl (.int .u32)), (3, false, .int .i64)], [], [], fun e => match e with | .exit _ => [0, 3] | _ => []⟩
end Go.Proofs.Ytjijakfcahhioaa
/-
The reference: trim.
-/
set_option linter.unusedSimpArgs false
set_option linter.unusedVariables false
namespace Go.Proofs.Ytjijakfcahhioaa
open Go.RowKit Ax
noncomputable def tr_trimL (x : LSpec.X spTrim × LSpec.Y spTrim) : T (Rd spTrim) :=
 .ite (decide (x.1.2.1 > (0 : Int)))
  (.get x.1.1 (IntKind.wrap .i64 (x.1.2.1 - (1 : Int))) (fun v0 =>
   .ite (v0 == (0 : Int))
    (.ret (.again (x.1.1, (IntKind.wrap .i64 (x.1.2.1 - (1 : Int)), ())) ()))
    (.ret (.out (Go.Exit.exit (0 : Nat)) [(.one (.ds (Cd.int .u32) x.1.1)), (.one (.v (.int .i64 x.1.2.1)))] ()))))
  (.ret (.out (Go.Exit.exit (0 : Nat)) [(.one (.ds (Cd.int .u32) x.1.1)), (.one (.v (.int .i64 x.1.2.1)))] ()))
theorem tr_trimL_eq (x : LSpec.X spTrim × LSpec.Y spTrim) : LSpec.round spTrim E19 (fun _ => none) (bodyOf Try.f65 0) x.1 x.2 = tr_trimL x := by kernel_rfl
/-- how many there are without noughts on top -/
def trimN (l : List Int) : Nat → Nat
  | 0 => 0
  | n + 1 => if l[n]? = some 0 then trimN l n else n + 1
theorem trimN_le (l : List Int) : ∀ n, trimN l n ≤ n
  | 0 => Nat.le_refl _
  | n + 1 => by
    unfold trimN
    have := trimN_le l n
    split <;> omega
def outTrim (x : LSpec.X spTrim) (y : LSpec.Y spTrim) : T (Exit × List Av × LSpec.Y spTrim) :=
  .need (0 ≤ x.2.1 ∧ x.2.1 ≤ x.1.length ∧ lenOk x.1.length) (.ret (.exit 0, [.one (.ds (.int .u32) x.1), aI .i64 ((trimN x.1 x.2.1.toNat : Nat) : Int)], y))
theorem trimL_core (l : List Int) (n : Int) (Q : Exit × List Av × LSpec.Y spTrim → Prop) (h : (outTrim (l, n, ()) ()).wp Q) : (tr_trimL ((l, n, ()), ())).wp fun r => match r with
      | .again x' y' => x'.2.1.toNat < n.toNat ∧ (outTrim x' y').wp Q
      | .out e avs y' => Q (e, avs, y') := by
  unfold tr_trimL
  unfold outTrim at h ⊢
  simp only [T.wp] at h ⊢
  dsimp only [El, vts, spTrim] at h ⊢
  obtain ⟨⟨h0, h1, hl⟩, hq⟩ := h
  unfold lenOk at hl
  refine ⟨fun hlt => ?_, fun hge => ?_⟩
  · have hlt := of_decide_eq_true hlt
    obtain ⟨m, rfl⟩ : ∃ m : Nat, n = (m : Int) + 1 := ⟨(n - 1).toNat, by omega⟩
    have e : IntKind.i64.wrap ((m : Int) + 1 - 1) = m := by rw [IntWalk.i64_in _ (by omega)]; omega
    rw [e]
    obtain ⟨v, hv⟩ := elem_at (l := l) (i := (m : Int)) (by omega) (by omega)
    rw [show ((m : Int) + 1).toNat = m + 1 from by omega, trimN] at hq
    refine ⟨v, by omega, hv, fun hz => ?_, fun hz => ?_⟩
    · have hz : v = 0 := by simpa using hz
      rw [Int.toNat_natCast] at hv
      rw [if_pos (by rw [hv, hz])] at hq
      exact ⟨by omega, ⟨by omega, by omega, hl⟩, by rw [Int.toNat_natCast]; exact hq⟩
    · have hz : ¬ v = 0 := by simpa using hz
      rw [Int.toNat_natCast] at hv
      rw [if_neg (by rw [hv]; simp [hz])] at hq
      exact hq
  · have hge := of_decide_eq_false hge
    obtain rfl : n = 0 := by omega
    exact hq
theorem trimL_ok : LoopOk Try.prog 0 (bodyOf Try.f65 0) (spTrim.run outTrim) :=
  loop_ok (E := E19) (L := fun _ => none) mixed 0 (loops_none _ _ _) spTrim (Nat.zero_le _) outTrim (fun x _ => x.2.1.toNat) (by
    rintro ⟨l, n, ⟨⟩⟩ ⟨⟩ Q h
    rw [tr_trimL_eq ((l, n, ()), ())]
    exact trimL_core l n Q h)
noncomputable def lpTrim : Loops := oneL 2 (spTrim.run outTrim)
end Go.Proofs.Ytjijakfcahhioaa
/-
The reference: trim.
-/
set_option linter.unusedSimpArgs false
set_option linter.unusedVariables false
namespace Go.Proofs.Ytjijakfcahhioaa
open Go.RowKit Ax
noncomputable def tr_trim (x : Els [(false, .sl (.int .u32))]) : T Av :=
 .need ((0 : El (Cd.int .i64)) ≤ (↑(List.length (x.1)) : Int) ∧ (↑(List.length (x.1)) : Int) ≤ (↑(List.length (x.1)) : El (Cd.int .i64)) ∧ lenOk (List.length (x.1))) (.need ((0 : Int) ≤ (0 : Int) ∧ (0 : Int) ≤ (↑(trimN (x.1) (Int.toNat (↑(List.length (x.1)) : Int))) : Int) ∧ (↑(trimN (x.1) (Int.toNat (↑(List.length (x.1)) : Int))) : Int) ≤ (↑(List.length (x.1)) : Int)) (.ret (.one (.ds (Cd.int .u32) (List.drop (Int.toNat (0 : Int)) (List.take (Int.toNat (↑(trimN (x.1) (Int.toNat (↑(List.length (x.1)) : Int))) : Int)) (x.1)))))))
theorem tr_trim_eq (x : Els [(false, .sl (.int .u32))]) : fnP E19 lpTrim Try.f65 (encs [(false, .sl (.int .u32))] x) = tr_trim x := by kernel_rfl
def trimmed (l : List Int) : List Int := l.take (trimN l l.length)
noncomputable def con_trim : Con Try.prog := ⟨65, [], _, cf_trim, val_con (E := E19) (L := lpTrim) mixed Try.func65 (one_loop trimL_ok (by kernel_rfl)) [(false, .sl (.int .u32))] (fun x => lenOk (List.length x.1)) (fun x => .one (.ds (.int .u32) (trimmed x.1))) fun x hx => by
  rw [tr_trim_eq]
  obtain ⟨l, u⟩ := x
  revert l
  intro (l : List Int) (hx : lenOk l.length)
  unfold tr_trim
  simp only [T.wp]
  dsimp only [El]
  have := trimN_le l l.length
  rw [Int.toNat_natCast, Int.toNat_natCast]
  exact ⟨⟨by omega, by omega, hx⟩, ⟨by omega, by omega, by omega⟩, rfl⟩⟩
noncomputable def E20 : Env Try.prog := ⟨con_trim :: E19.con, E19.zero, E19.cod, E19.sure, E19.base, E19.frz⟩
abbrev spWide : LSpec := ⟨36, [(6, false, .sl (.int .u32)), (8, false, .int .i64)], [(4, 0, 0), (7, 1, 0)], [(25, cW), (25, cW)], fun _ => []⟩
end Go.Proofs.Ytjijakfcahhioaa
/-
The reference: the loop of wide.
-/
set_option linter.unusedSimpArgs false
set_option linter.unusedVariables false
namespace Go.Proofs.Ytjijakfcahhioaa
open Go.RowKit Ax
noncomputable def tr_pwideL (x : LSpec.X spWide × LSpec.Y spWide) : T (Rd spWide) :=
 .ite (decide (x.1.2.1 < (↑(List.length x.1.1) : Int)))
  (.get x.1.1 x.1.2.1 (fun v0 =>
   .need ((0 : Int) ≤ x.1.2.1 ∧ x.1.2.1 < (↑(32 : Nat) : Int)) (.need (x.1.2.1 < (32 : Int) ∧ (0 : Int) ≤ v0 ∧ v0 < (4294967296 : Int)) (.ret (.again (x.1.1, (IntKind.wrap .i64 (x.1.2.1 + (1 : Int)), ())) (x.2.1, ((x.2.2.1.1, stA x.2.2.1.2 (Int.toNat x.1.2.1) v0), ())))))))
  (.ret (.out (Go.Exit.exit (0 : Nat)) [] (x.2.1, (x.2.2.1, ()))))
theorem tr_pwideL_eq (x : LSpec.X spWide × LSpec.Y spWide) : LSpec.round spWide E20 (fun _ => none) (bodyOf Try.f38 0) x.1 x.2 = tr_pwideL x := by kernel_rfl
/-- words put in from a place on -/
def stL : Amt → List Int → Nat → Amt
  | a, [], _ => a
  | a, v :: r, i => stL (stA a i v) r (i + 1)
/-- the amount of words -/
def valL : List Int → Nat
  | [] => 0
  | v :: r => v.toNat + 4294967296 * valL r
def Words (l : List Int) : Prop := ∀ v ∈ l, 0 ≤ v ∧ v < 4294967296
theorem stL_val : ∀ (l : List Int) (a : Amt) (i : Nat), a.1 < Pq.bp i → i + l.length ≤ 32 → Words l → (stL a l i).1 = a.1 + Pq.bp i * valL l
  | [], a, i, h, hl, hw => by simp [stL, valL]
  | v :: r, a, i, h, hl, hw => by
    rw [List.length_cons] at hl
    obtain ⟨h0, h1⟩ := hw v (by simp)
    have e : (stA a i v).1 = a.1 + Pq.bp i * v.toNat := by
      rw [stA_val (by omega) h0 h1]
      unfold Pq.st
      have hlt : a.1 < Pq.bp (i + 1) := Nat.lt_of_lt_of_le h (Pq.bp_mono (by omega))
      rw [show Pq.lo a.1 i = a.1 from Nat.mod_eq_of_lt h, Nat.div_eq_of_lt hlt, Nat.mul_zero, Nat.add_zero]
    have hb : (stA a i v).1 < Pq.bp (i + 1) := by
      rw [e, Pq.bp_succ i]
      have h2 := Nat.mul_le_mul_left (Pq.bp i) (show v.toNat + 1 ≤ 4294967296 by omega)
      rw [Nat.mul_add, Nat.mul_one] at h2
      omega
    rw [stL, stL_val r (stA a i v) (i + 1) hb (by omega) (fun x hx => hw x (by simp [hx])), e, valL, Pq.bp_succ i, Nat.mul_add, Nat.mul_assoc]
    omega
def outPw (x : LSpec.X spWide) (y : LSpec.Y spWide) : T (Exit × List Av × LSpec.Y spWide) :=
  .need (0 ≤ x.2.1 ∧ x.2.1 ≤ x.1.length ∧ x.1.length ≤ 32 ∧ Words x.1) (.ret (.exit 0, [], (y.1, (y.2.1.1, stL y.2.1.2 (x.1.drop x.2.1.toNat) x.2.1.toNat), ())))
theorem pwideL_core (l : List Int) (i : Int) (r : W) (b : Bool) (a : Amt) (Q : Exit × List Av × LSpec.Y spWide → Prop) (h : (outPw (l, i, ()) (r, (b, a), ())).wp Q) : (tr_pwideL ((l, i, ()), (r, (b, a), ()))).wp fun r => match r with
      | .again x' y' => (x'.1.length - x'.2.1).toNat < (l.length - i).toNat ∧ (outPw x' y').wp Q
      | .out e avs y' => Q (e, avs, y') := by
  unfold tr_pwideL
  unfold outPw at h ⊢
  simp only [T.wp] at h ⊢
  dsimp only [El, vts, bts, spWide] at h ⊢
  obtain ⟨⟨h0, h1, h2, hw⟩, hq⟩ := h
  refine ⟨fun hlt => ?_, fun hge => ?_⟩
  · have hlt := of_decide_eq_true hlt
    obtain ⟨v, hv⟩ := elem_at (l := l) h0 hlt
    have hd := drop_at h0 hv
    obtain ⟨v0, v1⟩ := hw v (List.mem_of_getElem? hv)
    rw [hd, stL, show i.toNat + 1 = (i + 1).toNat from by omega] at hq
    refine ⟨v, h0, hv, ⟨h0, by omega⟩, ⟨by omega, v0, v1⟩, ?_⟩
    rw [IntWalk.i64_in (i + 1) (by omega)]
    exact ⟨by omega, ⟨by omega, by omega, h2, hw⟩, hq⟩
  · have hge := of_decide_eq_false hge
    rw [drop_end (by omega), stL] at hq
    exact hq
theorem pwideL_ok : LoopOk Try.prog 0 (bodyOf Try.f38 0) (spWide.run outPw) :=
  loop_ok (E := E20) (L := fun _ => none) mixed 0 (loops_none _ _ _) spWide (Nat.zero_le _) outPw (fun x _ => (x.1.length - x.2.1).toNat) (by
    rintro ⟨l, i, ⟨⟩⟩ ⟨r, ⟨b, a⟩, ⟨⟩⟩ Q h
    rw [tr_pwideL_eq ((l, i, ()), (r, (b, a), ()))]
    exact pwideL_core l i r b a Q h)
noncomputable def lpPw : Loops := oneL 6 (spWide.run outPw)
end Go.Proofs.Ytjijakfcahhioaa
/-
The reference: wide.
-/
set_option linter.unusedSimpArgs false
set_option linter.unusedVariables false
namespace Go.Proofs.Ytjijakfcahhioaa
open Go.RowKit Ax
noncomputable def tr_pwide (x : Els [(false, .bool), (false, .sl (.int .u32))]) : T Av :=
 .need (lenOk (List.length x.2.1)) (.ite (decide ((↑(List.length (trimmed x.2.1)) : Int) > (32 : Int)))
   (.ret (.tup [(.agg [.v (.bool w0.1), .w w0.2]), (.one (.v (.bool (false))))]))
   (.ite (x.1)
    (.need ((0 : El (Cd.int .i64)) ≤ (0 : Int) ∧ (0 : Int) ≤ (↑(List.length (trimmed x.2.1)) : El (Cd.int .i64)) ∧ List.length (trimmed x.2.1) ≤ (32 : Nat) ∧ Words (trimmed x.2.1)) (.ret (.tup [(.agg [.v (.bool (decide ((↑(List.length (trimmed x.2.1)) : Int) > (0 : Int)))), .w (stL w0.2 (List.drop (Int.toNat (0 : Int)) (trimmed x.2.1)) (Int.toNat (0 : Int)))]), (.one (.v (.bool (true))))])))
    (.need ((0 : El (Cd.int .i64)) ≤ (0 : Int) ∧ (0 : Int) ≤ (↑(List.length (trimmed x.2.1)) : El (Cd.int .i64)) ∧ List.length (trimmed x.2.1) ≤ (32 : Nat) ∧ Words (trimmed x.2.1)) (.ret (.tup [(.agg [.v (.bool (false)), .w (stL w0.2 (List.drop (Int.toNat (0 : Int)) (trimmed x.2.1)) (Int.toNat (0 : Int)))]), (.one (.v (.bool (true))))])))))
theorem tr_pwide_eq (x : Els [(false, .bool), (false, .sl (.int .u32))]) : fnP E20 lpPw Try.f38 (encs [(false, .bool), (false, .sl (.int .u32))] x) = tr_pwide x := by kernel_rfl
/-- a number of words -/
def pW (neg : Bool) (t : List Int) : W := (neg && decide (0 < t.length), stL w0.2 t 0)
noncomputable def con_pwide : Con Try.prog := ⟨38, [], _, cf_pwide, ans_con (E := E20) (L := lpPw) mixed Try.func38 (one_loop pwideL_ok (by kernel_rfl)) [(false, .bool), (false, .sl (.int .u32))] (fun x => lenOk (List.length x.2.1) ∧ Words x.2.1) true cW (fun x => decide ((trimmed x.2.1).length ≤ 32)) (fun x => pW x.1 (trimmed x.2.1)) (fun _ => w0) fun x hx => by
  rw [tr_pwide_eq]
  obtain ⟨n, l, u⟩ := x
  revert n l
  intro (n : Bool) (l : List Int) (hx : lenOk l.length ∧ Words l)
  unfold tr_pwide
  simp only [T.wp]
  dsimp only [El]
  have hw : Words (trimmed l) := fun v hv => hx.2 v (List.mem_of_mem_take hv)
  refine ⟨hx.1, fun h => ?_, fun h => ⟨fun hn => ⟨?_, ?_⟩, fun hn => ⟨?_, ?_⟩⟩⟩
  · rw [decide_eq_false (by have := of_decide_eq_true h; omega)]; rfl
  · have := of_decide_eq_false h
    exact ⟨by omega, by omega, by omega, hw⟩
  · subst hn
    rw [decide_eq_true (show (trimmed l).length ≤ 32 by have := of_decide_eq_false h; omega)]
    have e : decide (((trimmed l).length : Int) > 0) = decide (0 < (trimmed l).length) := by
      rw [decide_eq_decide]; omega
    rw [e]; rfl
  · have := of_decide_eq_false h
    exact ⟨by omega, by omega, by omega, hw⟩
  · subst hn
    rw [decide_eq_true (show (trimmed l).length ≤ 32 by have := of_decide_eq_false h; omega)]
    rfl⟩
noncomputable def E21 : Env Try.prog := ⟨con_pwide :: E20.con, E20.zero, E20.cod, E20.sure, E20.base, E20.frz⟩
end Go.Proofs.Ytjijakfcahhioaa
/-
The reference: From.
-/
set_option linter.unusedSimpArgs false
set_option linter.unusedVariables false
namespace Go.Proofs.Ytjijakfcahhioaa
open Go.RowKit Ax
noncomputable def tr_pfrom (x : Els [(false, .int .i64)]) : T Av :=
 .ite (decide (x.1 < (0 : Int)))
  (.need (lenOk (List.length [IntKind.wrap .u32 (IntKind.wrap .u64 ((0 : Int) - IntKind.wrap .u64 (x.1))), IntKind.wrap .u32 (Int.fdiv (IntKind.wrap .u64 ((0 : Int) - IntKind.wrap .u64 (x.1))) ((2 : Int) ^ Min.min (Int.toNat (32 : Int)) (IntKind.bits .u64)))]) ∧ Words [IntKind.wrap .u32 (IntKind.wrap .u64 ((0 : Int) - IntKind.wrap .u64 (x.1))), IntKind.wrap .u32 (Int.fdiv (IntKind.wrap .u64 ((0 : Int) - IntKind.wrap .u64 (x.1))) ((2 : Int) ^ Min.min (Int.toNat (32 : Int)) (IntKind.bits .u64)))]) (.ite (decide (List.length (trimmed [IntKind.wrap .u32 (IntKind.wrap .u64 ((0 : Int) - IntKind.wrap .u64 (x.1))), IntKind.wrap .u32 (Int.fdiv (IntKind.wrap .u64 ((0 : Int) - IntKind.wrap .u64 (x.1))) ((2 : Int) ^ Min.min (Int.toNat (32 : Int)) (IntKind.bits .u64)))]) ≤ (32 : Nat)))
    (.lt (pW (decide (x.1 < (0 : Int))) (trimmed [IntKind.wrap .u32 (IntKind.wrap .u64 ((0 : Int) - IntKind.wrap .u64 (x.1))), IntKind.wrap .u32 (Int.fdiv (IntKind.wrap .u64 ((0 : Int) - IntKind.wrap .u64 (x.1))) ((2 : Int) ^ Min.min (Int.toNat (32 : Int)) (IntKind.bits .u64)))])) (fun v0 =>
     .ret (.agg [.v (.bool v0.1), .w v0.2])))
    (.ret (.agg [.v (.bool w0.1), .w w0.2]))))
  (.need (lenOk (List.length [IntKind.wrap .u32 (IntKind.wrap .u64 (x.1)), IntKind.wrap .u32 (Int.fdiv (IntKind.wrap .u64 (x.1)) ((2 : Int) ^ Min.min (Int.toNat (32 : Int)) (IntKind.bits .u64)))]) ∧ Words [IntKind.wrap .u32 (IntKind.wrap .u64 (x.1)), IntKind.wrap .u32 (Int.fdiv (IntKind.wrap .u64 (x.1)) ((2 : Int) ^ Min.min (Int.toNat (32 : Int)) (IntKind.bits .u64)))]) (.ite (decide (List.length (trimmed [IntKind.wrap .u32 (IntKind.wrap .u64 (x.1)), IntKind.wrap .u32 (Int.fdiv (IntKind.wrap .u64 (x.1)) ((2 : Int) ^ Min.min (Int.toNat (32 : Int)) (IntKind.bits .u64)))]) ≤ (32 : Nat)))
    (.lt (pW (decide (x.1 < (0 : Int))) (trimmed [IntKind.wrap .u32 (IntKind.wrap .u64 (x.1)), IntKind.wrap .u32 (Int.fdiv (IntKind.wrap .u64 (x.1)) ((2 : Int) ^ Min.min (Int.toNat (32 : Int)) (IntKind.bits .u64)))])) (fun v0 =>
     .ret (.agg [.v (.bool v0.1), .w v0.2])))
    (.ret (.agg [.v (.bool w0.1), .w w0.2]))))
theorem tr_pfrom_eq (x : Els [(false, .int .i64)]) : fnP E21 (fun _ => none) Try.f14 (encs [(false, .int .i64)] x) = tr_pfrom x := by kernel_rfl
theorem trim_two (a b : Int) : trimmed [a, b] = if b = 0 then (if a = 0 then [] else [a]) else [a, b] := by
  unfold trimmed
  by_cases hb : b = 0
  · by_cases ha : a = 0
    · simp [trimN, ha, hb]
    · simp [trimN, ha, hb]
  · simp [trimN, hb]
theorem two_words {a b x : Int} (ha : 0 ≤ a ∧ a < 4294967296) (hb : 0 ≤ b ∧ b < 4294967296) (hx : (x.natAbs : Int) = a + 4294967296 * b) (hf : x.natAbs < Pq.bp 32) : pW (decide (x < 0)) (trimmed [a, b]) = wOf x := by
  have hw : ∀ t : List Int, t.length ≤ 2 → Words t → (stL w0.2 t 0).1 = valL t := fun t h1 h2 => by
    have := stL_val t w0.2 0 (by decide) (by omega) h2
    rw [this]
    show 0 + Pq.bp 0 * valL t = valL t
    rw [Pq.bp_zero]; omega
  have fin : ∀ t : List Int, t.length ≤ 2 → Words t → valL t = x.natAbs → (0 < t.length ↔ x ≠ 0) → pW (decide (x < 0)) t = wOf x := fun t h1 h2 h3 h4 => by
    unfold pW wOf
    rw [dif_pos hf]
    refine Prod.ext ?_ (Subtype.ext ((hw t h1 h2).trans h3))
    by_cases hn : x < 0
    · simp [hn, h4.2 (by omega)]
    · simp [hn]
  rw [trim_two]
  by_cases h0 : b = 0
  · rw [if_pos h0]
    by_cases h1 : a = 0
    · rw [if_pos h1]
      exact fin [] (by simp) (fun v hv => by cases hv) (by simp [valL]; omega) (by simp; omega)
    · rw [if_neg h1]
      exact fin [a] (by simp) (fun v hv => by rw [List.mem_singleton] at hv; subst hv; exact ha) (by simp [valL]; omega) (by simp; omega)
  · rw [if_neg h0]
    exact fin [a, b] (by simp) (fun v hv => by
      rcases List.mem_cons.1 hv with rfl | hv
      · exact ha
      · rw [List.mem_singleton] at hv; subst hv; exact hb) (by simp only [valL]; omega) (by simp; omega)
noncomputable def con_pfrom : Con Try.prog := ⟨14, [], _, cf_pfrom, val_con (E := E21) mixed Try.func14 no_loops [(false, .int .i64)] (fun x => in64 x.1) (fun x => .agg (ck cW (wOf x.1))) fun x hx => by
  rw [tr_pfrom_eq]
  obtain ⟨x, u⟩ := x
  revert x
  intro (x : Int) (hx : in64 x)
  obtain ⟨h0, h1⟩ := hx
  have hf := i64_lt h0 h1
  unfold tr_pfrom
  simp only [T.wp]
  dsimp only [El]
  have p32 : (2 : Int) ^ min (Int.toNat 32) (IntKind.bits .u64) = 4294967296 := by decide
  rw [p32]
  have key : ∀ y : Int, 0 ≤ y → y < 18446744073709551616 → IntKind.u32.wrap y = y % 4294967296 ∧ IntKind.u32.wrap (y.fdiv 4294967296) = y / 4294967296 := fun y hy0 hy1 => by
    rw [Int.fdiv_eq_ediv_of_nonneg _ (by decide)]
    constructor
    · rw [IntKind.wrap_u32]
    · rw [IntKind.wrap_u32]; omega
  refine ⟨fun h => ?_, fun h => ?_⟩
  · have hn := of_decide_eq_true h
    have e : IntKind.u64.wrap (0 - IntKind.u64.wrap x) = -x := by rw [IntKind.wrap_u64, IntKind.wrap_u64]; omega
    rw [e]
    obtain ⟨k1, k2⟩ := key (-x) (by omega) (by omega)
    rw [k1, k2]
    have tw := two_words (a := -x % 4294967296) (b := -x / 4294967296) (x := x) ⟨by omega, by omega⟩ ⟨by omega, by omega⟩ (by omega) hf
    refine ⟨⟨len2 _ _, fun v hv => ?_⟩, fun _ => ?_, fun hl => ?_⟩
    · rcases List.mem_cons.1 hv with rfl | hv
      · omega
      · rw [List.mem_singleton] at hv; subst hv; omega
    · rw [tw]; rfl
    · exfalso
      have := of_decide_eq_false hl
      have h2 : (trimmed [-x % 4294967296, -x / 4294967296]).length ≤ 2 := by unfold trimmed; rw [List.length_take]; simp; omega
      omega
  · have hn := of_decide_eq_false h
    have e : IntKind.u64.wrap x = x := by rw [IntKind.wrap_u64]; omega
    rw [e]
    obtain ⟨k1, k2⟩ := key x (by omega) (by omega)
    rw [k1, k2]
    have tw := two_words (a := x % 4294967296) (b := x / 4294967296) (x := x) ⟨by omega, by omega⟩ ⟨by omega, by omega⟩ (by omega) hf
    refine ⟨⟨len2 _ _, fun v hv => ?_⟩, fun _ => ?_, fun hl => ?_⟩
    · rcases List.mem_cons.1 hv with rfl | hv
      · omega
      · rw [List.mem_singleton] at hv; subst hv; omega
    · rw [tw]; rfl
    · exfalso
      have := of_decide_eq_false hl
      have h2 : (trimmed [x % 4294967296, x / 4294967296]).length ≤ 2 := by unfold trimmed; rw [List.length_take]; simp; omega
      omega⟩
noncomputable def E22 : Env Try.prog := ⟨con_pfrom :: E21.con, E21.zero, E21.cod, E21.sure, E21.base, E21.frz⟩
end Go.Proofs.Ytjijakfcahhioaa
/-
The reference: Whole.
-/
set_option linter.unusedSimpArgs false
set_option linter.unusedVariables false
namespace Go.Proofs.Ytjijakfcahhioaa
open Go.RowKit Ax
theorem cf_known (xs : Array Value) (w : World) : (callFunc 9 xs).run Try.prog w = .ok (.enter 9 xs) w := by kernel_rfl
noncomputable def con_pwhole : Con Try.prog := ⟨12, [], _, cf_pwhole, val_con (E := E22) mixed Try.func12 no_loops [(false, .int .i64)] (fun x => in64 x.1) (fun x => .agg (ck cF (wOf x.1, wOf 1))) fun x hx => by
  have e : fnP E22 (fun _ => none) Try.f12 (encs [(false, .int .i64)] x) = .need (in64 x.1) (.need (in64 1) (.ret (.agg (ck cF (wOf x.1, wOf 1))))) := by kernel_rfl
  rw [e]
  exact ⟨hx, ⟨by omega, by omega⟩, rfl⟩⟩
noncomputable def E23 : Env Try.prog := ⟨con_pwhole :: E22.con, E22.zero, E22.cod, E22.sure, E22.base, E22.frz⟩
end Go.Proofs.Ytjijakfcahhioaa
/-
Contracts for calls that are known to succeed, or to fail: no fork.
-/
set_option linter.unusedSimpArgs false
set_option linter.unusedVariables false
namespace Ax
open Go Go.RowKit
theorem must_con {P : Program} {f : FuncId} {ts : List (Bool × Cd)} {pre : Els ts → Prop} {row : Bool} {c : Cd} {b : Els ts → Bool} {F d : Els ts → El c}
    (h : ConOk P f [] (pureRun' ts fun x => .need (pre x) (ansT row c (b x) (F x) (d x)))) : ConOk P f [] (pureRun' ts fun x => .need (pre x ∧ b x = true) (.lt (F x) fun g => .ret (.tup [encA row c g, .one (.kb true)]))) := by
  refine con_weaken h fun args m Q hq => ?_
  unfold pureRun' at hq ⊢
  split at hq
  · rw [T.wp_bind] at hq ⊢
    obtain ⟨⟨hp, hb⟩, hq⟩ := hq
    refine ⟨hp, fun _ => ⟨_, hq, fun _ _ _ _ h => h⟩, fun e => by rw [hb] at e; cases e⟩
  · exact hq.elim
theorem must_con0 {P : Program} {f : FuncId} {ts : List (Bool × Cd)} {row : Bool} {c : Cd} {b : Els ts → Bool} {F d : Els ts → El c}
    (h : ConOk P f [] (pureRun' ts fun x => ansT row c (b x) (F x) (d x))) : ConOk P f [] (pureRun' ts fun x => .need (b x = true) (.lt (F x) fun g => .ret (.tup [encA row c g, .one (.kb true)]))) := by
  refine con_weaken h fun args m Q hq => ?_
  unfold pureRun' at hq ⊢
  split at hq
  · rw [T.wp_bind] at hq ⊢
    obtain ⟨hb, hq⟩ := hq
    refine ⟨fun _ => ⟨_, hq, fun _ _ _ _ h => h⟩, fun e => by rw [hb] at e; cases e⟩
  · exact hq.elim
theorem fail_con0 {P : Program} {f : FuncId} {ts : List (Bool × Cd)} {row : Bool} {c : Cd} {b : Els ts → Bool} {F d : Els ts → El c}
    (h : ConOk P f [] (pureRun' ts fun x => ansT row c (b x) (F x) (d x))) : ConOk P f [] (pureRun' ts fun x => .need (b x = false) (.ret (.tup [encA row c (d x), .one (.kb false)]))) := by
  refine con_weaken h fun args m Q hq => ?_
  unfold pureRun' at hq ⊢
  split at hq
  · rw [T.wp_bind] at hq ⊢
    obtain ⟨hb, hq⟩ := hq
    refine ⟨fun e => (by rw [hb] at e; cases e), fun _ => ⟨_, hq, fun _ _ _ _ h => h⟩⟩
  · exact hq.elim
end Ax
/-
What known needs: its calls are known to succeed.
-/
set_option linter.unusedSimpArgs false
set_option linter.unusedVariables false
namespace Go.Proofs.Ytjijakfcahhioaa
open Go.RowKit Ax
noncomputable def m_rof : Con Try.prog := ⟨17, [], _, cf_rof, must_con con_rof.ok⟩
noncomputable def m_radd : Con Try.prog := ⟨15, [], _, cf_radd, must_con0 con_radd.ok⟩
noncomputable def m_rcmp : Con Try.prog := ⟨16, [], _, cf_rcmp, must_con0 con_rcmp.ok⟩
noncomputable def m_rdecimal : Con Try.prog := ⟨25, [], _, cf_rdecimal, must_con0 con_rdecimal.ok⟩
noncomputable def m_rparse : Con Try.prog := ⟨20, [], _, cf_rparse, must_con con_rparse.ok⟩
noncomputable def m_rleast : Con Try.prog := ⟨23, [], _, cf_rleast, must_con con_rleast.ok⟩
noncomputable def m_rsum : Con Try.prog := ⟨24, [], _, cf_rsum, must_con con_rsum.ok⟩
noncomputable def m_rfloor : Con Try.prog := ⟨11, [], _, cf_rfloor, must_con0 con_rfloor.ok⟩
noncomputable def m_rdiv0 : Con Try.prog := ⟨29, [], _, cf_rdiv, fail_con0 con_rdiv.ok⟩
noncomputable def EK : Env Try.prog := ⟨m_rof :: m_radd :: m_rcmp :: m_rdecimal :: m_rparse :: m_rleast :: m_rsum :: m_rfloor :: m_rdiv0 :: E23.con, E23.zero, E23.cod, fun _ => true, 0, fun _ => []⟩
end Go.Proofs.Ytjijakfcahhioaa
/-
known.
-/
set_option linter.unusedSimpArgs false
set_option linter.unusedVariables false
namespace Go.Proofs.Ytjijakfcahhioaa
open Go.RowKit Ax
noncomputable def tr_known (x : Els []) : T Av :=
 .need ((in64 (1 : Int) ∧ in64 (2 : Int)) ∧ decide ((2 : Int) ≠ (0 : El (Cd.int .i64))) = true) (.lt (rOf (Rat.divInt (1 : Int) (2 : Int))) (fun v0 =>
   .need ((in64 (-2 : Int) ∧ in64 (-6 : Int)) ∧ decide ((-6 : Int) ≠ (0 : El (Cd.int .i64))) = true) (.lt (rOf (Rat.divInt (-2 : Int) (-6 : Int))) (fun v1 =>
     .need (both v0 v1 = true) (.lt (rOf (qF v0 + qF v1)) (fun v2 =>
       .need (both v0 v1 = true) (.lt (cq (qF v0) (qF v1)) (fun v3 =>
         .need (safeF (500 : Int) v2 = true) (.lt (decS (qdec v2 (clampD (2 : Int))) (clampD (2 : Int)) (zW v2.1)) (fun v4 =>
           .need (lenOk (ByteArray.size { data := #[(53 : UInt8), (47 : UInt8), (54 : UInt8)] }) ∧ Option.isSome (pR { data := #[(53 : UInt8), (47 : UInt8), (54 : UInt8)] }) = true) (.lt (Option.getD (pR { data := #[(53 : UInt8), (47 : UInt8), (54 : UInt8)] }) (w0, w0)) (fun v5 =>
             .need (in64 (0 : Int)) (.need ((both v0 (wOf (0 : Int), wOf (1 : Int)) && decide (qF (wOf (0 : Int), wOf (1 : Int)) ≠ (0 : Rat))) = false) (.need (lenOk (List.length [v0, v1]) ∧ (leastF [v0, v1]).1 = true) (.lt (leastF [v0, v1]).2 (fun v6 =>
                 .need (lenOk (List.length [v0, v0]) ∧ (sumF [v0, v0]).1 = true) (.lt (sumF [v0, v0]).2 (fun v7 =>
                   .need (in64 (-3 : Int)) (.need (okF (wOf (-3 : Int), wOf (1 : Int)) = true) (.lt (wOf (Rat.floor (qF (wOf (-3 : Int), wOf (1 : Int))))) (fun v8 =>
                      .need ((ByteArray.toList (ftxt v2) == ByteArray.toList { data := #[(53 : UInt8), (47 : UInt8), (54 : UInt8)] }) = true) (.need ((v3 == (1 : Int)) = true) (.need ((ByteArray.toList v4 == ByteArray.toList { data := #[(48 : UInt8), (46 : UInt8), (56 : UInt8), (51 : UInt8)] }) = true) (.need ((v5.1.1 == v2.1.1 && (v5.1.2.1 == v2.1.2.1 && true) && (v5.2.1 == v2.2.1 && (v5.2.2.1 == v2.2.2.1 && true) && true)) = true) (.need ((!false) = true) (.need ((v6.1.1 == v1.1.1 && (v6.1.2.1 == v1.1.2.1 && true) && (v6.2.1 == v1.2.1 && (v6.2.2.1 == v1.2.2.1 && true) && true)) = true) (.need (in64 (1 : Int)) (.need ((v7.1.1 == (wOf (1 : Int)).1 && (v7.1.2.1 == (wOf (1 : Int)).2.1 && true) && (v7.2.1 == (wOf (1 : Int)).1 && (v7.2.2.1 == (wOf (1 : Int)).2.1 && true) && true)) = true) (.need (in64 (-3 : Int)) (.need ((v8.1 == (wOf (-3 : Int)).1 && (v8.2.1 == (wOf (-3 : Int)).2.1 && true)) = true) (.need (okF v2 = true) (.need (safeF (3 : Int) v2 = true) (.need ((!safeF (2 : Int) v2) = true) (.need ((Pq.cz (zW v2.1) (0 : Int) == (1 : Int)) = true) (.ret (.one (.v (.bool (!okF (w0, w0))))))))))))))))))))))))))))))))))))))))
theorem tr_known_eq (x : Els []) : fnP EK (fun _ => none) Try.f9 (encs [] x) = tr_known x := by kernel_rfl
end Go.Proofs.Ytjijakfcahhioaa
/-
known tells true.
-/
set_option linter.unusedSimpArgs false
set_option linter.unusedVariables false
namespace Go.Proofs.Ytjijakfcahhioaa
open Go.RowKit Ax
theorem known_wp : (tr_known ()).wp fun av => av = .one (.v (.bool true)) := by
  unfold tr_known
  simp only [T.wp]
  and_intros
  all_goals first
    | (show _ = true; kernel_rfl)
    | (show _ = false; kernel_rfl)
    | (unfold lenOk; decide)
    | omega
    | kernel_rfl
theorem kb_con {P : Program} {f : FuncId} {ts : List (Bool × Cd)} (h : ConOk P f [] (pureRun' ts fun _ => .ret (aB true))) : ConOk P f [] (pureRun' ts fun _ => .ret (.one (.kb true))) := by
  intro w φ σ m args vs Q hmem hlen hargs hrun
  unfold pureRun' at hrun
  split at hrun
  · rename_i x hx
    have h1 := h w φ σ m args vs (fun r => r = (aB true, m)) hmem hlen hargs (by
      unfold pureRun'
      rw [hx]
      rfl)
    refine h1.mono fun e w' hr => ?_
    obtain ⟨v, av, m', σ', rfl, hq, h2, h3, h4, h5, h6⟩ := hr
    cases hq
    have hv : v = .bool true := val_of h5 rfl
    subst hv
    exact ⟨_, .one (.kb true), m, σ', rfl, hrun, h2, h3, h4, .one rfl (.kb .nil), h6⟩
  · exact hrun.elim
noncomputable def con_known : Con Try.prog := ⟨9, [], _, cf_known, kb_con (tot_con (E := EK) mixed Try.func9 no_loops [] (fun _ => aB true) fun x => by
  rw [tr_known_eq]
  exact known_wp)⟩
noncomputable def E24 : Env Try.prog := ⟨con_known :: E23.con, E23.zero, E23.cod, E23.sure, E23.base, E23.frz⟩
noncomputable def EL : Env Try.prog := ⟨con_known :: EK.con, EK.zero, EK.cod, fun _ => false, 0, fun _ => []⟩
end Go.Proofs.Ytjijakfcahhioaa
/-
Contracts without forks for the laws.
-/
set_option linter.unusedSimpArgs false
set_option linter.unusedVariables false
namespace Go.Proofs.Ytjijakfcahhioaa
open Go.RowKit Ax
noncomputable def m_rsub : Con Try.prog := ⟨26, [], _, cf_rsub, must_con0 con_rsub.ok⟩
noncomputable def m_rmul : Con Try.prog := ⟨28, [], _, cf_rmul, must_con0 con_rmul.ok⟩
noncomputable def m_rdiv : Con Try.prog := ⟨29, [], _, cf_rdiv, must_con0 con_rdiv.ok⟩
noncomputable def m_rnew : Con Try.prog := ⟨13, [], _, cf_rnew, must_con0 con_rnew.ok⟩
/-- of laws: all calls succeed, but Div -/
noncomputable def EM : Env Try.prog := ⟨con_known :: m_rof :: m_radd :: m_rcmp :: m_rsub :: m_rmul :: m_rnew :: m_rdecimal :: m_rparse :: m_rleast :: m_rsum :: m_rfloor :: E23.con, E23.zero, E23.cod, fun _ => false, 0, fun _ => []⟩
end Go.Proofs.Ytjijakfcahhioaa
/-
Arguments out of their readings; a law's row out of its contract.
-/
set_option linter.unusedSimpArgs false
set_option linter.unusedVariables false
namespace Ax
open Go Go.RowKit Go.ChangeShapes Go.WideShapes

/-- the bounds that a reading gives -/
def Fit : (c : Cd) → El c → Prop
  | .int k, z => (Lit.int k z).wf = true
  | .bool, _ => True
  | .str, s => s.size ≤ maxLen
  | .words, _ => True
  | .unit, _ => True
  | .pair a b, x => Fit a x.1 ∧ Fit b x.2
  | .sl c, xs => xs.length ≤ maxLen ∧ ∀ x ∈ xs, Fit c x
  | .ptr c, x => Fit c x

abbrev Rw (w : World) : Nat → Prop := fun b => b < w.heap.size

structure Opens (P : Program) (t : TypeId) (c : Cd) : Prop where
  size : P.cellsOf t = csz c
  ok : ∀ {H : Type} (enc : TypeId × Value → H) (w : World) (fuel : Nat) (cs : List Value) (x : DataW H × List MemPlace),
    DataW.trod enc P w 0 (fun _ => true) true fuel t cs = some x → ∃ y : El c, Fit c y ∧ Is w (Rw w) [] (ck c y) cs

section
variable {P : Program}
theorem opens_int {t : TypeId} {k : IntKind} (hu : P.underlying t = some (.int k)) (hs : P.cellsOf t = 1) : Opens P t (.int k) :=
  ⟨hs, fun enc w fuel cs x h => by
    obtain ⟨n, rfl, rfl, hw⟩ := DataW.trod_int hu h
    exact ⟨n, hw, .v rfl .nil⟩⟩
theorem opens_bool {t : TypeId} (hu : P.underlying t = some .bool) (hs : P.cellsOf t = 1) : Opens P t .bool :=
  ⟨hs, fun enc w fuel cs x h => by
    obtain ⟨b, rfl, rfl⟩ := DataW.trod_bool hu h
    exact ⟨b, trivial, .v rfl .nil⟩⟩
theorem opens_str {t : TypeId} (hu : P.underlying t = some .string) (hs : P.cellsOf t = 1) : Opens P t .str :=
  ⟨hs, fun enc w fuel cs x h => by
    obtain ⟨s, rfl, rfl, hs⟩ := DataW.trod_string hu h
    exact ⟨s, hs, .v rfl .nil⟩⟩

theorem am_of : ∀ (n : Nat) (l : List Value), l.length = n → (∀ v ∈ l, ∃ z : Int, v = .int .u32 z ∧ 0 ≤ z ∧ z < 4294967296) → ∃ x, x < Pq.bp n ∧ l = Pq.am n x
  | 0, l, h, _ => ⟨0, Pq.bp_pos 0, by rw [List.length_eq_zero_iff.1 h]; rfl⟩
  | n + 1, [], h, _ => by simp at h
  | n + 1, v :: r, h, hv => by
    obtain ⟨x, hx, rfl⟩ := am_of n r (by simpa using h) (fun v hv' => hv v (by simp [hv']))
    obtain ⟨z, rfl, h0, h1⟩ := hv v (by simp)
    refine ⟨Pq.lo z.toNat 1 + Pq.bp 1 * x, ?_, ?_⟩
    · have e : Pq.bp (n + 1) = Pq.bp 1 * Pq.bp n := by unfold Pq.bp; rw [← Nat.pow_add]; congr 1; omega
      have hl : Pq.lo z.toNat 1 < Pq.bp 1 := by unfold Pq.lo; exact Nat.mod_lt _ (Pq.bp_pos 1)
      rw [e]
      have : Pq.bp 1 * x + Pq.bp 1 ≤ Pq.bp 1 * Pq.bp n := by rw [← Nat.mul_succ]; exact Nat.mul_le_mul_left _ hx
      omega
    · have := Pq.am_app 1 n z.toNat x
      rw [show n + 1 = 1 + n from by omega, ← this]
      have e1 : Pq.am 1 z.toNat = [Value.int .u32 z] := by
        refine (Pq.am_ext (n := 1) (l := [Value.int .u32 z]) rfl fun i hi => ?_).symm
        obtain rfl : i = 0 := by omega
        have : Pq.wd z.toNat 0 = z.toNat := by
          unfold Pq.wd
          rw [Pq.bp_zero, Nat.div_one]
          exact Nat.mod_eq_of_lt (by omega)
        rw [this]
        simp
        omega
      rw [e1]; rfl
theorem opens_words {t e : TypeId} (hu : P.underlying t = some (.array 32 e)) (he : P.underlying e = some (.int .u32)) (hs : P.cellsOf t = 32) (hc : P.cellsOf e = 1) : Opens P t .words :=
  ⟨hs, fun enc w fuel cs x h => by
    obtain ⟨xs, m, rfl, rfl, hlen, hxl, hx⟩ := DataW.trod_array hu h
    rw [hs] at hlen
    obtain ⟨a, ha, rfl⟩ := am_of 32 cs hlen (fun v hv => by
      obtain ⟨i, hi, rfl⟩ := List.getElem_of_mem hv
      have := hx i (by omega)
      rw [hc, List.getElem?_eq_getElem (by omega : i < xs.length)] at this
      obtain ⟨n, h1, _, h3⟩ := DataW.trod_int he this
      have e1 : (cs.drop (i * 1)).take 1 = [cs[i]] := by
        rw [Nat.mul_one, List.drop_eq_getElem_cons hi]; rfl
      rw [e1] at h1
      have := bounds_u32 h3
      exact ⟨n, by injection h1, this.1, by omega⟩)
    exact ⟨⟨a, ha⟩, trivial, by have := Is.w (w := w) (R := Rw w) (σ := []) (x := ⟨a, ha⟩) .nil; rwa [List.append_nil] at this⟩⟩

def OpensF (P : Program) : List Field → Nat → Cd → Prop
  | [f], o, c => f.offset = o ∧ Opens P f.type c
  | f :: g :: r, o, .pair a b => f.offset = o ∧ Opens P f.type a ∧ OpensF P (g :: r) (o + csz a) b
  | _, _, _ => False
theorem opensF_ok {H : Type} {enc : TypeId × Value → H} {w : World} {n : Nat} {cs : List Value} : ∀ (fs : List Field) (o : Nat) (c : Cd), OpensF P fs o c → cs.length = o + csz c →
    (∀ f ∈ fs, ∃ x, DataW.trod enc P w 0 (fun _ => true) true n f.type ((cs.drop f.offset).take (P.cellsOf f.type)) = some x) → ∃ y : El c, Fit c y ∧ Is w (Rw w) [] (ck c y) (cs.drop o)
  | [], _, _, h, _, _ => h.elim
  | [f], o, c, h, hl, hx => by
    obtain ⟨rfl, h'⟩ : f.offset = o ∧ Opens P f.type c := by unfold OpensF at h; exact h
    obtain ⟨x, hx⟩ := hx f (by simp)
    obtain ⟨y, h1, h2⟩ := h'.ok enc w n _ x hx
    rw [h'.size, List.take_of_length_le (by rw [List.length_drop]; omega)] at h2
    exact ⟨y, h1, h2⟩
  | f :: g :: r, o, .pair a b, h, hl, hx => by
    obtain ⟨rfl, ha, hr⟩ : f.offset = o ∧ Opens P f.type a ∧ OpensF P (g :: r) (o + csz a) b := by unfold OpensF at h; exact h
    obtain ⟨x, hx0⟩ := hx f (by simp)
    obtain ⟨y, h1, h2⟩ := ha.ok enc w n _ x hx0
    obtain ⟨z, h3, h4⟩ := opensF_ok (g :: r) _ b hr (by simp only [csz] at hl; omega) (fun f' hf' => hx f' (by simp only [List.mem_cons] at hf' ⊢; exact .inr hf'))
    refine ⟨(y, z), ⟨h1, h3⟩, ?_⟩
    rw [ha.size] at h2
    have e : cs.drop f.offset = (cs.drop f.offset).take (csz a) ++ cs.drop (f.offset + csz a) := by
      rw [← List.drop_drop]; exact (List.take_append_drop _ _).symm
    rw [e]
    exact h2.app h4
  | f :: g :: r, o, .int _, h, _, _ => by unfold OpensF at h; exact h.elim
  | f :: g :: r, o, .bool, h, _, _ => by unfold OpensF at h; exact h.elim
  | f :: g :: r, o, .str, h, _, _ => by unfold OpensF at h; exact h.elim
  | f :: g :: r, o, .words, h, _, _ => by unfold OpensF at h; exact h.elim
  | f :: g :: r, o, .unit, h, _, _ => by unfold OpensF at h; exact h.elim
  | f :: g :: r, o, .sl _, h, _, _ => by unfold OpensF at h; exact h.elim
  | f :: g :: r, o, .ptr _, h, _, _ => by unfold OpensF at h; exact h.elim
theorem opens_struct {t : TypeId} {c : Cd} {fs : Array Field} (hu : P.underlying t = some (.struct fs)) (hs : P.cellsOf t = csz c) (h : OpensF P fs.toList 0 c) : Opens P t c :=
  ⟨hs, fun enc w fuel cs x hx => by
    obtain ⟨xs, n, rfl, rfl, hlen, hxl, hf⟩ := DataW.trod_struct hu hx
    have := opensF_ok (enc := enc) (w := w) (n := n) (cs := cs) fs.toList 0 c h (by omega) (fun f hm => by
      obtain ⟨i, hi, rfl⟩ := List.getElem_of_mem hm
      have hi' : i < fs.size := by simpa using hi
      have h1 := hf i fs[i] (by simp [hi'])
      rw [List.getElem?_eq_getElem (by omega : i < xs.length)] at h1
      exact ⟨_, by simpa using h1⟩)
    simpa using this⟩

theorem cells_at {w : World} {a : Addr} {n : Nat} {cs : List Value} (h : w.cells? 0 a n = some cs) : cs.length = n ∧ ∀ j v, cs[j]? = some v → w.cell? (a.add j) = some v := by
  unfold World.cells? at h
  rw [if_pos (Nat.zero_le _)] at h
  have hl := mapM_some_length h
  refine ⟨by simpa using hl, fun j v hj => ?_⟩
  have hj' : j < n := by have := (List.getElem?_eq_some_iff.1 hj).1; simp at hl; omega
  rw [← hj]
  exact mapM_some_get h j j (by simp [hj'])
theorem opens_slice {t e : TypeId} {c : Cd} (hu : P.underlying t = some (.slice e)) (hs : P.cellsOf t = 1) (he : Opens P e c) (hc : 0 < csz c) : Opens P t (.sl c) :=
  ⟨hs, fun enc w fuel cs x hx => by
    rcases Deep.open_slice hu hx with ⟨rfl, rfl⟩ | ⟨a, len, cap, m, n, D, Pl, rfl, _, hl, hm, hmm, rfl, hel⟩
    · exact ⟨[], ⟨Nat.zero_le _, by simp⟩, .dn .nil⟩
    · have hlm : len ≤ m := by rw [hmm]; simp; omega
      have hex : ∀ i, i < len → ∃ p : List Value × El c, w.cells? 0 (a.add (i * csz c)) (csz c) = some p.1 ∧ Fit c p.2 ∧ Is w (Rw w) [] (ck c p.2) p.1 := fun i hi => by
        obtain ⟨cs', h1, h2⟩ := hel i (by omega)
        obtain ⟨y, h3, h4⟩ := he.ok enc w n cs' _ h2
        rw [he.size] at h1
        exact ⟨(cs', y), h1, h3, h4⟩
      by_cases h0 : len = 0
      · subst h0
        exact ⟨[], ⟨Nat.zero_le _, by simp⟩, .de a cap .nil⟩
      · obtain ⟨p0, hp0⟩ := hex 0 (by omega)
        have : Inhabited (List Value × El c) := ⟨p0⟩
        obtain ⟨g, hg⟩ := Deep.choose_lt hex
        have hl0 := cells_at (hg 0 (by omega)).1
        obtain ⟨b, o, spot⟩ := a
        have hne : (g 0).1 ≠ [] := by intro e; rw [e] at hl0; simp at hl0; omega
        obtain ⟨v, r, hvr⟩ := List.exists_cons_of_ne_nil hne
        have hcell := hl0.2 0 v (by rw [hvr]; rfl)
        rw [Nat.zero_mul] at hcell
        have hspot : spot = none := by simpa [Addr.add] using World.cell?_spot hcell
        subst hspot
        have hb : b < w.heap.size := by
          simp only [Addr.add, World.cell?] at hcell
          rcases Nat.lt_or_ge b w.heap.size with h | h
          · exact h
          · simp [Array.getElem?_eq_none h] at hcell
        have hxlen : ((List.range len).map fun i => (g i).2).length = len := by simp
        refine ⟨(List.range len).map fun i => (g i).2, ⟨by rw [hxlen]; omega, fun x hx => ?_⟩, ?_⟩
        · obtain ⟨i, hi, rfl⟩ := List.mem_map.1 hx
          exact (hg i (List.mem_range.1 hi)).2.1
        · have key : ∀ (i : Nat) x, ((List.range len).map fun i => (g i).2)[i]? = some x → i < len ∧ x = (g i).2 := fun i x hx => by
            have h := (List.getElem?_eq_some_iff.1 hx).1
            rw [hxlen] at h
            refine ⟨h, ?_⟩
            simp [h] at hx
            exact hx.symm
          have : Is w (Rw w) [] [.ds c ((List.range len).map fun i => (g i).2)] [.slice (some ⟨b, o, none⟩) ((List.range len).map fun i => (g i).2).length cap] :=
            .ds (fun i => (g i).1) (by rw [hxlen]; exact hl) hb (fun i x hx => (cells_at (hg i (key i x hx).1).1).1) (fun i x hx => by
              obtain ⟨h1, rfl⟩ := key i x hx
              exact (hg i h1).2.2) (fun i x hx => by
              obtain ⟨h1, rfl⟩ := key i x hx
              intro j v hj
              have := (cells_at (hg i h1).1).2 j v hj
              rw [Addr.add_mid, Addr.add_mid] at this
              exact this) .nil
          rw [hxlen] at this
          exact this⟩

/-! ### a call's arguments -/
def aggT (P : Program) (t : TypeId) : Option Bool := match P.underlying t with
  | some (.struct _) | some (.array _ _) => some true
  | some .bool | some (.int _) | some .string | some (.slice _) | some (.pointer _) => some false
  | _ => none
def OpensAll (P : Program) : List TypeId → List (Bool × Cd) → Prop
  | [], [] => True
  | t :: ts, c :: cs => Opens P t c.2 ∧ aggT P t = some c.1 ∧ OpensAll P ts cs
  | _, _ => False
def FitA : (ts : List (Bool × Cd)) → Els ts → Prop
  | [], _ => True
  | t :: ts, x => Fit t.2 x.1 ∧ FitA ts x.2

theorem single_cells {w : World} {r : Reach} {base : Nat} {t : TypeId} {v : Value} (ha : aggT P t = some false) (h : Value.okWide P w r base t v) : v.cells.toList = [v] := by
  unfold aggT at ha
  unfold Value.okWide at h
  cases hu : P.underlying t with
  | none => simp [hu] at ha
  | some u =>
    cases u <;> simp [hu] at ha h
    all_goals
      unfold Cell.okWide Cell.ok at h
      cases v <;> simp_all [Value.cells]
theorem agg_cells {w : World} {r : Reach} {base : Nat} {t : TypeId} {v : Value} (ha : aggT P t = some true) (h : Value.okWide P w r base t v) : ∃ us : List Value, v = .agg us.toArray ∧ v.cells.toList = us := by
  unfold aggT at ha
  unfold Value.okWide at h
  cases hu : P.underlying t with
  | none => simp [hu] at ha
  | some u =>
    cases u <;> simp [hu] at ha h
    all_goals
      obtain ⟨cs, rfl, _⟩ := h
      exact ⟨cs.toList, by simp, by simp [Value.cells]⟩
theorem is_one {w : World} {R : Nat → Prop} {σ : List Nat} {l : List Ck} {us : List Value} (h : Is w R σ l us) (h1 : us.length = 1) (hc : ∀ k ∈ l, 0 < k.size) : ∃ k, l = [k] ∧ k.size = 1 := by
  match l, h with
  | [], h => cases h; simp at h1
  | k :: r, h =>
    obtain ⟨ua, ub, rfl, e, i1, i2⟩ := h.head
    have hk := hc k (by simp)
    rw [List.length_append] at h1
    have hub : ub = [] := List.length_eq_zero_iff.1 (by omega)
    subst hub
    match r, i2 with
    | [], _ => exact ⟨k, rfl, by simp at h1; omega⟩
    | k2 :: r2, i2 =>
      obtain ⟨uc, ud, e1, e2, _, _⟩ := i2.head
      have := hc k2 (by simp)
      have : uc = [] := by
        have := congrArg List.length e1
        rw [List.length_append] at this
        exact List.length_eq_zero_iff.1 (by simp at this; omega)
      subst this
      simp at e2
      omega
theorem ck_size : ∀ (c : Cd) (x : El c), ∀ k ∈ ck c x, 0 < k.size
  | .int k, x, k', h => by simp [ck] at h; subst h; simp [Ck.size]
  | .bool, x, k', h => by simp [ck] at h; subst h; simp [Ck.size]
  | .str, x, k', h => by simp [ck] at h; subst h; simp [Ck.size]
  | .words, x, k', h => by simp [ck] at h; subst h; simp [Ck.size]
  | .unit, x, k', h => by simp [ck] at h
  | .pair a b, x, k', h => by
    simp only [ck, List.mem_append] at h
    rcases h with h | h
    · exact ck_size a _ _ h
    · exact ck_size b _ _ h
  | .sl c, x, k', h => by simp [ck] at h; subst h; simp [Ck.size]
  | .ptr c, x, k', h => by simp [ck] at h; subst h; simp [Ck.size]

theorem arg_is {H : Type} {enc : TypeId × Value → H} {w : World} {r : Reach} {base : Nat} {t : TypeId} {b : Bool} {c : Cd} {v : Value} {d : DataW H} {p : List MemPlace} (hO : Opens P t c) (ha : aggT P t = some b)
    (hv : Value.okWide P w r base t v) (h : DataW.Trod enc P w 0 (fun _ => true) true t v d p) : ∃ y : El c, Fit c y ∧ AvIs w (Rw w) [] (encA b c y) v := by
  obtain ⟨fuel, hf⟩ := h
  obtain ⟨y, h1, h2⟩ := hO.ok enc w fuel _ _ hf
  refine ⟨y, h1, ?_⟩
  cases b with
  | true =>
    obtain ⟨us, rfl, e⟩ := agg_cells ha hv
    rw [e] at h2
    exact .agg h2
  | false =>
    have e := single_cells ha hv
    rw [e] at h2
    obtain ⟨k, hk, hs⟩ := is_one h2 rfl (ck_size c y)
    unfold encA
    simp only [hk] at h2 ⊢
    exact .one hs h2
theorem args_are {H : Type} {enc : TypeId × Value → H} {w : World} {r : Reach} {base : Nat} : ∀ (ts : List (Bool × Cd)) (tys : List TypeId) (vs : List Value) (ds : List (DataW H)) (p : List MemPlace), OpensAll P tys ts →
    DataW.TrodAll enc P w 0 (fun _ => true) true tys vs ds p → (∀ (j : Nat) t v, tys[j]? = some t → vs[j]? = some v → Value.okWide P w r base t v) →
    ∃ x : Els ts, FitA ts x ∧ vs.length = (encs ts x).length ∧ (∀ (i : Nat) a v, (encs ts x)[i]? = some a → vs[i]? = some v → AvIs w (Rw w) [] a v)
  | [], [], vs, ds, p, _, h, _ => by
    obtain ⟨rfl, rfl, rfl⟩ := trodAll_nil h
    exact ⟨(), trivial, rfl, fun i a v h1 => by simp [encs] at h1⟩
  | [], _ :: _, _, _, _, hO, _, _ => hO.elim
  | _ :: _, [], _, _, _, hO, _, _ => hO.elim
  | c :: ts, t :: tys, vs, ds, p, hO, h, hv => by
    obtain ⟨v, vs1, d, ds1, a, b, rfl, rfl, rfl, h1, h2⟩ := trodAll_cons h
    obtain ⟨o1, o2, o3⟩ := hO
    obtain ⟨y, f1, i1⟩ := arg_is o1 o2 (hv 0 t v rfl rfl) h1
    obtain ⟨x, f2, hl, i2⟩ := args_are ts tys vs1 ds1 b o3 h2 (fun j t' v' ht hv' => hv (j + 1) t' v' (by simpa using ht) (by simpa using hv'))
    refine ⟨(y, x), ⟨f1, f2⟩, by simp [encs, hl], fun i a' v' ha' hv' => ?_⟩
    rcases i with _ | i
    · cases ha'; cases hv'; exact i1
    · exact i2 i a' v' (by simpa [encs] using ha') (by simpa using hv')

theorem trod_stays {H : Type} {enc : TypeId × Value → H} {W W' : World} (hl : laidOutB P = true) (hb : Below W.heap.size W W') : ∀ (tys : List TypeId) (vs : List Value) (ds : List (DataW H)) (p : List MemPlace), (∀ t ∈ tys, P.readableRec t = true ∧ t < P.types.size) →
    DataW.TrodAll enc P W 0 (fun _ => true) true tys vs ds p → (∀ x ∈ p, x.block < W.heap.size) → DataW.TrodAll enc P W' 0 (fun b => decide (b < W.heap.size)) true tys vs ds p
  | [], vs, ds, p, _, h, _ => by
    obtain ⟨rfl, rfl, rfl⟩ := trodAll_nil h
    exact trodAll_mk0
  | t :: tys, vs, ds, p, ht, h, hp => by
    obtain ⟨v, vs1, d, ds1, a, b, rfl, rfl, rfl, h1, h2⟩ := trodAll_cons h
    exact trodAll_cons_mk (Below.trod hl (ht t (by simp)).1 (ht t (by simp)).2 h1 hb (fun x hx => hp x (by simp [hx])))
      (trod_stays hl hb tys vs1 ds1 b (fun t' h' => ht t' (by simp [h'])) h2 (fun x hx => hp x (by simp [hx])))

/-- what a law's call leaves -/
theorem law_post {E : Env P} {L : Loops} {f : FuncId} {fn : Func} {H : Type} {enc : TypeId × Value → H} {s : ChangeSpec} {tb : TypeId} {W : World} {base : Nat} {args : Array Value} {ds gs : List (DataW H)} {before : List MemPlace}
    (hm : P.follows .mixedOrders = true) (hf : P.funcs[f]? = some fn) (hL : ∀ c, fn.body = some c → LoopsOk P 0 L c) (hlaid : laidOutB P = true) (ts : List (Bool × Cd))
    (hrun : ∀ x : Els ts, FitA ts x → (fnP E L fn (encs ts x)).wp fun av => av = .one (.v (.bool true)))
    (tys : List TypeId) (hty : fn.params.toList = tys) (hO : OpensAll P tys ts) (hread : ∀ t ∈ tys, P.readableRec t = true ∧ t < P.types.size) (hres : fn.resultTypes = #[tb]) (hub : P.underlying tb = some .bool)
    (hvars : s.vars = []) (hspec : ∀ ds : List (DataW H), ds.length = tys.length → s.fn H ds = { results := [.lit (.bool true)], args := ds })
    (hval : ∀ (j : Nat) t v, fn.params[j]? = some t → args[j]? = some v → Value.okWide P W .any base t v) (hW : DataW.Whole enc P fn.params.toList s.vars false W args.toList ds gs before) :
    Calls P f args W fun e W' => ∃ v, e = .returned v ∧ s.post enc P fn false true false false W args v W' := by
  have hW' := hW
  obtain ⟨p, q, hA, hV, rfl, hfz, hnd⟩ := hW
  rw [hvars] at hV
  obtain ⟨rfl, rfl⟩ := trodVars_none hV
  rw [hty] at hA
  obtain ⟨x, hfit, hlen, hargs⟩ := args_are (r := .any) (base := base) ts tys args.toList ds p hO hA (fun j t v ht hv => hval j t v (by rw [← hty] at ht; simpa using ht) (by simpa using hv))
  have hdl : ds.length = tys.length := by
    have : ∀ (tys : List TypeId) (vs : List Value) (ds : List (DataW H)) (p : List MemPlace), DataW.TrodAll enc P W 0 (fun _ => true) true tys vs ds p → ds.length = tys.length := by
      intro tys
      induction tys with
      | nil => intro vs ds p h; obtain ⟨rfl, rfl, rfl⟩ := trodAll_nil h; rfl
      | cons t tys ih =>
        intro vs ds p h
        obtain ⟨v, vs1, d, ds1, a, b, rfl, rfl, rfl, h1, h2⟩ := trodAll_cons h
        simp [ih _ _ _ h2]
    exact this _ _ _ _ hA
  have hmem0 : MemOk W [] [] [] := ⟨rfl, by simp, by simp, fun i t cs b h1 h2 => by simp at h1⟩
  have hro : ∀ b, Rw W b → Ro W [] [] b := fun b hb => ⟨hb, by simp, by simp⟩
  have hw := fnP_wp (hrun x hfit)
  have hcall := fn_ok (E := E) (L := L) (w := W) (φ := []) (σ := []) hm hf hL (Nat.zero_le _) hmem0 hlen (fun i a v h1 h2 => (hargs i a v h1 h2).ro hro []) hw
  have hargsE : args.toList.toArray = args := by simp
  rw [hargsE] at hcall
  refine hcall.mono fun e W' hr => ?_
  obtain ⟨v, av, m', σ', rfl, ⟨hQ, hno⟩, hext, hkeep, hav, hmem'⟩ := hr
  have hv : v = .bool true := by
    have := nA_is hav
    rw [hQ] at this
    exact val_of this rfl
  subst hv
  have hb := hkeep.below
  have hps : ∀ y ∈ p, y.block < W.heap.size := fun y hy => by simpa using hW'.lt y (by simp [hy])
  have hst := trod_stays (enc := enc) hlaid hb tys args.toList ds p hread hA hps
  refine ⟨_, rfl, ds, [], p ++ [], [], p, [], hW', ?_, ?_, ?_, hb.frame _, fun h => by cases h⟩
  · rw [List.append_nil, hspec ds hdl, hres]
    exact trodAll_mk1 (shut_bool hub true)
  · rw [List.append_nil, hspec ds hdl, hty]
    exact hst
  · rw [List.append_nil, hspec ds hdl, hvars]
    rfl
end
end Ax
/-
The laws' runs.
-/
set_option linter.unusedSimpArgs false
set_option linter.unusedVariables false
namespace Go.Proofs.Ytjijakfcahhioaa
open Go.RowKit Ax
noncomputable def tr_lfloors (x : Els [(true, cF)]) : T Av :=
 .ite (!true)
  (.ret (.one (.v (.bool (false)))))
  (.ite (!safeF (400 : Int) (x.1))
   (.ret (.one (.v (.bool (true)))))
   (.need (okF (x.1) = true) (.lt (wOf (Rat.floor (qF (x.1)))) (fun v0 =>
     .need (in64 (1 : Int)) (.need (in64 (1 : Int)) (.need (decide (NewOk v0 (wOf (1 : Int))) = true) (.lt (newF v0 (wOf (1 : Int))) (fun v1 =>
         .need (both v1 (wOf (1 : Int), wOf (1 : Int)) = true) (.lt (rOf (qF v1 + qF (wOf (1 : Int), wOf (1 : Int)))) (fun v2 =>
           .need (both v1 (x.1) = true) (.lt (cq (qF v1) (qF (x.1))) (fun v3 =>
             .need (both (x.1) v2 = true) (.lt (cq (qF (x.1)) (qF v2)) (fun v4 =>
               .ite (decide (v3 ≤ (0 : Int)))
                (.ret (.one (.v (.bool (decide (v4 < (0 : Int)))))))
                (.ret (.one (.v (.bool (false)))))))))))))))))))
theorem tr_lfloors_eq (x : Els [(true, cF)]) : fnP EM (fun _ => none) Try.f3 (encs [(true, cF)] x) = tr_lfloors x := by kernel_rfl
noncomputable def tr_lterms (x : Els [(false, .int .i32), (false, .int .u16), (false, .int .i16)]) : T Av :=
 .ite (!true)
  (.ret (.one (.v (.bool (false)))))
  (.need (in64 (IntKind.wrap .i64 (x.1)) ∧ in64 (IntKind.wrap .i64 (IntKind.wrap .i64 x.2.1 + (1 : Int)))) (.ite (decide (IntKind.wrap .i64 (IntKind.wrap .i64 x.2.1 + (1 : Int)) ≠ (0 : El (Cd.int .i64))))
    (.lt (rOf (Rat.divInt (IntKind.wrap .i64 (x.1)) (IntKind.wrap .i64 (IntKind.wrap .i64 x.2.1 + (1 : Int))))) (fun v0 =>
     .need (in64 (IntKind.wrap .i64 (IntKind.wrap .i64 (x.1) * IntKind.wrap .i64 x.2.2.1)) ∧ in64 (IntKind.wrap .i64 (IntKind.wrap .i64 (IntKind.wrap .i64 x.2.1 + (1 : Int)) * IntKind.wrap .i64 x.2.2.1))) (.ite (decide (IntKind.wrap .i64 (IntKind.wrap .i64 (IntKind.wrap .i64 x.2.1 + (1 : Int)) * IntKind.wrap .i64 x.2.2.1) ≠ (0 : El (Cd.int .i64))))
       (.lt (rOf (Rat.divInt (IntKind.wrap .i64 (IntKind.wrap .i64 (x.1) * IntKind.wrap .i64 x.2.2.1)) (IntKind.wrap .i64 (IntKind.wrap .i64 (IntKind.wrap .i64 x.2.1 + (1 : Int)) * IntKind.wrap .i64 x.2.2.1)))) (fun v1 =>
        .need (in64 (IntKind.wrap .i64 (x.1)) ∧ in64 (0 : Int)) (.ite (decide ((0 : Int) ≠ (0 : El (Cd.int .i64))))
          (.lt (rOf (Rat.divInt (IntKind.wrap .i64 (x.1)) (0 : Int))) (fun v2 =>
           .ite (true == (x.2.2.1 != (0 : Int)))
            (.ite (!true)
             (.ite (!true)
              (.ite (okF v0)
               (.ite (x.1 != (0 : Int))
                (.ret (.one (.v (.bool (true)))))
                (.need (in64 (0 : Int)) (.ret (.one (.v (.bool (v0.1.1 == (wOf (0 : Int)).1 && (v0.1.2.1 == (wOf (0 : Int)).2.1 && true) && (v0.2.1 == (wOf (1 : Int)).1 && (v0.2.2.1 == (wOf (1 : Int)).2.1 && true) && true))))))))
               (.ret (.one (.v (.bool (false))))))
              (.ret (.one (.v (.bool (false))))))
             (.ite (v0.1.1 == v1.1.1 && (v0.1.2.1 == v1.1.2.1 && true) && (v0.2.1 == v1.2.1 && (v0.2.2.1 == v1.2.2.1 && true) && true))
              (.ite (!true)
               (.ite (okF v0)
                (.ite (x.1 != (0 : Int))
                 (.ret (.one (.v (.bool (true)))))
                 (.need (in64 (0 : Int)) (.ret (.one (.v (.bool (v0.1.1 == (wOf (0 : Int)).1 && (v0.1.2.1 == (wOf (0 : Int)).2.1 && true) && (v0.2.1 == (wOf (1 : Int)).1 && (v0.2.2.1 == (wOf (1 : Int)).2.1 && true) && true))))))))
                (.ret (.one (.v (.bool (false))))))
               (.ret (.one (.v (.bool (false))))))
              (.ret (.one (.v (.bool (false)))))))
            (.ret (.one (.v (.bool (false)))))))
          (.ite (true == (x.2.2.1 != (0 : Int)))
           (.ite (!true)
            (.ite (!false)
             (.ite (okF v0)
              (.ite (x.1 != (0 : Int))
               (.ret (.one (.v (.bool (true)))))
               (.need (in64 (0 : Int)) (.ret (.one (.v (.bool (v0.1.1 == (wOf (0 : Int)).1 && (v0.1.2.1 == (wOf (0 : Int)).2.1 && true) && (v0.2.1 == (wOf (1 : Int)).1 && (v0.2.2.1 == (wOf (1 : Int)).2.1 && true) && true))))))))
              (.ret (.one (.v (.bool (false))))))
             (.ret (.one (.v (.bool (false))))))
            (.ite (v0.1.1 == v1.1.1 && (v0.1.2.1 == v1.1.2.1 && true) && (v0.2.1 == v1.2.1 && (v0.2.2.1 == v1.2.2.1 && true) && true))
             (.ite (!false)
              (.ite (okF v0)
               (.ite (x.1 != (0 : Int))
                (.ret (.one (.v (.bool (true)))))
                (.need (in64 (0 : Int)) (.ret (.one (.v (.bool (v0.1.1 == (wOf (0 : Int)).1 && (v0.1.2.1 == (wOf (0 : Int)).2.1 && true) && (v0.2.1 == (wOf (1 : Int)).1 && (v0.2.2.1 == (wOf (1 : Int)).2.1 && true) && true))))))))
               (.ret (.one (.v (.bool (false))))))
              (.ret (.one (.v (.bool (false))))))
             (.ret (.one (.v (.bool (false)))))))
           (.ret (.one (.v (.bool (false)))))))))
       (.need (in64 (IntKind.wrap .i64 (x.1)) ∧ in64 (0 : Int)) (.ite (decide ((0 : Int) ≠ (0 : El (Cd.int .i64))))
         (.lt (rOf (Rat.divInt (IntKind.wrap .i64 (x.1)) (0 : Int))) (fun v1 =>
          .ite (false == (x.2.2.1 != (0 : Int)))
           (.ite (!false)
            (.ite (!true)
             (.ite (okF v0)
              (.ite (x.1 != (0 : Int))
               (.ret (.one (.v (.bool (true)))))
               (.need (in64 (0 : Int)) (.ret (.one (.v (.bool (v0.1.1 == (wOf (0 : Int)).1 && (v0.1.2.1 == (wOf (0 : Int)).2.1 && true) && (v0.2.1 == (wOf (1 : Int)).1 && (v0.2.2.1 == (wOf (1 : Int)).2.1 && true) && true))))))))
              (.ret (.one (.v (.bool (false))))))
             (.ret (.one (.v (.bool (false))))))
            (.ite (v0.1.1 == w0.1 && (v0.1.2.1 == w0.2.1 && true) && (v0.2.1 == w0.1 && (v0.2.2.1 == w0.2.1 && true) && true))
             (.ite (!true)
              (.ite (okF v0)
               (.ite (x.1 != (0 : Int))
                (.ret (.one (.v (.bool (true)))))
                (.need (in64 (0 : Int)) (.ret (.one (.v (.bool (v0.1.1 == (wOf (0 : Int)).1 && (v0.1.2.1 == (wOf (0 : Int)).2.1 && true) && (v0.2.1 == (wOf (1 : Int)).1 && (v0.2.2.1 == (wOf (1 : Int)).2.1 && true) && true))))))))
               (.ret (.one (.v (.bool (false))))))
              (.ret (.one (.v (.bool (false))))))
             (.ret (.one (.v (.bool (false)))))))
           (.ret (.one (.v (.bool (false)))))))
         (.ite (false == (x.2.2.1 != (0 : Int)))
          (.ite (!false)
           (.ite (!false)
            (.ite (okF v0)
             (.ite (x.1 != (0 : Int))
              (.ret (.one (.v (.bool (true)))))
              (.need (in64 (0 : Int)) (.ret (.one (.v (.bool (v0.1.1 == (wOf (0 : Int)).1 && (v0.1.2.1 == (wOf (0 : Int)).2.1 && true) && (v0.2.1 == (wOf (1 : Int)).1 && (v0.2.2.1 == (wOf (1 : Int)).2.1 && true) && true))))))))
             (.ret (.one (.v (.bool (false))))))
            (.ret (.one (.v (.bool (false))))))
           (.ite (v0.1.1 == w0.1 && (v0.1.2.1 == w0.2.1 && true) && (v0.2.1 == w0.1 && (v0.2.2.1 == w0.2.1 && true) && true))
            (.ite (!false)
             (.ite (okF v0)
              (.ite (x.1 != (0 : Int))
               (.ret (.one (.v (.bool (true)))))
               (.need (in64 (0 : Int)) (.ret (.one (.v (.bool (v0.1.1 == (wOf (0 : Int)).1 && (v0.1.2.1 == (wOf (0 : Int)).2.1 && true) && (v0.2.1 == (wOf (1 : Int)).1 && (v0.2.2.1 == (wOf (1 : Int)).2.1 && true) && true))))))))
              (.ret (.one (.v (.bool (false))))))
             (.ret (.one (.v (.bool (false))))))
            (.ret (.one (.v (.bool (false)))))))
          (.ret (.one (.v (.bool (false)))))))))))
    (.need (in64 (IntKind.wrap .i64 (IntKind.wrap .i64 (x.1) * IntKind.wrap .i64 x.2.2.1)) ∧ in64 (IntKind.wrap .i64 (IntKind.wrap .i64 (IntKind.wrap .i64 x.2.1 + (1 : Int)) * IntKind.wrap .i64 x.2.2.1))) (.ite (decide (IntKind.wrap .i64 (IntKind.wrap .i64 (IntKind.wrap .i64 x.2.1 + (1 : Int)) * IntKind.wrap .i64 x.2.2.1) ≠ (0 : El (Cd.int .i64))))
      (.lt (rOf (Rat.divInt (IntKind.wrap .i64 (IntKind.wrap .i64 (x.1) * IntKind.wrap .i64 x.2.2.1)) (IntKind.wrap .i64 (IntKind.wrap .i64 (IntKind.wrap .i64 x.2.1 + (1 : Int)) * IntKind.wrap .i64 x.2.2.1)))) (fun v0 =>
       .need (in64 (IntKind.wrap .i64 (x.1)) ∧ in64 (0 : Int)) (.ite (decide ((0 : Int) ≠ (0 : El (Cd.int .i64))))
         (.lt (rOf (Rat.divInt (IntKind.wrap .i64 (x.1)) (0 : Int))) (fun v1 =>
          .ret (.one (.v (.bool (false))))))
         (.ret (.one (.v (.bool (false))))))))
      (.need (in64 (IntKind.wrap .i64 (x.1)) ∧ in64 (0 : Int)) (.ite (decide ((0 : Int) ≠ (0 : El (Cd.int .i64))))
        (.lt (rOf (Rat.divInt (IntKind.wrap .i64 (x.1)) (0 : Int))) (fun v0 =>
         .ret (.one (.v (.bool (false))))))
        (.ret (.one (.v (.bool (false)))))))))))
theorem tr_lterms_eq (x : Els [(false, .int .i32), (false, .int .u16), (false, .int .i16)]) : fnP E24 (fun _ => none) Try.f4 (encs [(false, .int .i32), (false, .int .u16), (false, .int .i16)] x) = tr_lterms x := by kernel_rfl
noncomputable def tr_llaws (x : Els [(true, cF), (true, cF), (true, cF)]) : T Av :=
 .ite (!true)
  (.ret (.one (.v (.bool (false)))))
  (.ite (!safeF (100 : Int) (x.1))
   (.ret (.one (.v (.bool (true)))))
   (.ite (!safeF (100 : Int) x.2.1)
    (.ret (.one (.v (.bool (true)))))
    (.ite (!safeF (100 : Int) x.2.2.1)
     (.ret (.one (.v (.bool (true)))))
     (.need (both (x.1) x.2.1 = true) (.lt (rOf (qF (x.1) + qF x.2.1)) (fun v0 =>
       .need (both v0 x.2.1 = true) (.lt (rOf (qF v0 - qF x.2.1)) (fun v1 =>
         .need (both (x.1) x.2.1 = true) (.lt (rOf (qF (x.1) * qF x.2.1)) (fun v2 =>
           .need (both (x.1) x.2.2.1 = true) (.lt (rOf (qF (x.1) + qF x.2.2.1)) (fun v3 =>
             .need (both x.2.1 x.2.2.1 = true) (.lt (rOf (qF x.2.1 + qF x.2.2.1)) (fun v4 =>
               .need (both (x.1) x.2.1 = true) (.lt (cq (qF (x.1)) (qF x.2.1)) (fun v5 =>
                 .need (both v3 v4 = true) (.lt (cq (qF v3) (qF v4)) (fun v6 =>
                   .ite (!true)
                    (.ret (.one (.v (.bool (false)))))
                    (.ite (!true)
                     (.ret (.one (.v (.bool (false)))))
                     (.ite (!true)
                      (.ret (.one (.v (.bool (false)))))
                      (.ite (!true)
                       (.ret (.one (.v (.bool (false)))))
                       (.ite (!true)
                        (.ret (.one (.v (.bool (false)))))
                        (.ite (!true)
                         (.ret (.one (.v (.bool (false)))))
                         (.ite (!true)
                          (.ret (.one (.v (.bool (false)))))
                          (.ite (!(v1.1.1 == x.1.1.1 && (v1.1.2.1 == x.1.1.2.1 && true) && (v1.2.1 == x.1.2.1 && (v1.2.2.1 == x.1.2.2.1 && true) && true)))
                           (.ret (.one (.v (.bool (false)))))
                           (.ite (v5 != v6)
                            (.ret (.one (.v (.bool (false)))))
                            (.ite (!okF v0)
                             (.ret (.one (.v (.bool (false)))))
                             (.ite (!okF v2)
                              (.ret (.one (.v (.bool (false)))))
                              (.ite (both v2 x.2.1 && decide (qF x.2.1 ≠ (0 : Rat)))
                               (.lt (rOf (qF v2 / qF x.2.1)) (fun v7 =>
                                .ite (Pq.cz (zW x.2.1.1) (0 : Int) == (0 : Int))
                                 (.ret (.one (.v (.bool (!true)))))
                                 (.ite (v7.1.1 == x.1.1.1 && (v7.1.2.1 == x.1.1.2.1 && true) && (v7.2.1 == x.1.2.1 && (v7.2.2.1 == x.1.2.2.1 && true) && true))
                                  (.ret (.one (.v (.bool (Pq.cz (zW v2.1) (0 : Int) == IntKind.wrap .i64 (Pq.cz (zW x.1.1) (0 : Int) * Pq.cz (zW x.2.1.1) (0 : Int)))))))
                                  (.ret (.one (.v (.bool (false))))))))
                               (.ite (Pq.cz (zW x.2.1.1) (0 : Int) == (0 : Int))
                                (.ret (.one (.v (.bool (!false)))))
                                (.ret (.one (.v (.bool (false)))))))))))))))))))))))))))))))))))
theorem tr_llaws_eq (x : Els [(true, cF), (true, cF), (true, cF)]) : fnP EM (fun _ => none) Try.f8 (encs [(true, cF), (true, cF), (true, cF)] x) = tr_llaws x := by kernel_rfl
end Go.Proofs.Ytjijakfcahhioaa
/-
Fractions whose parts have at most so many bits.
-/
set_option linter.unusedSimpArgs false
set_option linter.unusedVariables false
namespace Ax
open Go Go.RowKit Go.Proofs.Ytjijakfcahhioaa
def Bd (k : Nat) (r : Rat) : Prop := r.num.natAbs < 2 ^ k ∧ r.den < 2 ^ k
theorem Bd.mono {j k : Nat} {r : Rat} (h : Bd j r) (hk : j ≤ k) : Bd k r :=
  ⟨Nat.lt_of_lt_of_le h.1 (Nat.pow_le_pow_right (by omega) hk), Nat.lt_of_lt_of_le h.2 (Nat.pow_le_pow_right (by omega) hk)⟩
theorem bd_divInt {a b : Int} {k : Nat} (h0 : b ≠ 0) (ha : a.natAbs < 2 ^ k) (hb : b.natAbs < 2 ^ k) : Bd k (Rat.divInt a b) := by
  obtain ⟨h1, h2⟩ := divInt_le (a := a) h0
  exact ⟨by omega, by omega⟩
theorem pow_mul {a b j k : Nat} (ha : a < 2 ^ j) (hb : b < 2 ^ k) : a * b < 2 ^ (j + k) := by
  rw [Nat.pow_add]; exact Nat.mul_lt_mul'' ha hb
theorem pow_mul_z {a b : Int} {j k : Nat} (ha : a.natAbs < 2 ^ j) (hb : b.natAbs < 2 ^ k) : (a * b).natAbs < 2 ^ (j + k) := by
  rw [Int.natAbs_mul]; exact pow_mul ha hb
theorem pow_add_z {a b : Int} {k : Nat} (ha : a.natAbs < 2 ^ k) (hb : b.natAbs < 2 ^ k) : (a + b).natAbs < 2 ^ (k + 1) := by
  have := Int.natAbs_add_le a b
  rw [Nat.pow_succ]; omega
theorem pow_up {a k : Nat} (h : a < 2 ^ k) : a < 2 ^ (k + 1) := by rw [Nat.pow_succ]; omega
theorem den_z (x : Rat) : (x.den : Int) ≠ 0 := by have := x.den_pos; omega
theorem bd_add {x y : Rat} {j k : Nat} (hx : Bd j x) (hy : Bd k y) : Bd (j + k + 1) (x + y) := by
  rw [← Rat.num_divInt_den x, ← Rat.num_divInt_den y, Rat.divInt_add_divInt _ _ (den_z x) (den_z y)]
  refine bd_divInt (Int.mul_ne_zero (den_z x) (den_z y)) ?_ (pow_up (pow_mul_z hx.2 hy.2))
  refine pow_add_z (pow_mul_z hx.1 hy.2) ?_
  rw [Nat.add_comm]
  exact pow_mul_z hy.1 hx.2
theorem bd_neg {x : Rat} {k : Nat} (h : Bd k x) : Bd k (-x) := by
  refine ⟨?_, ?_⟩
  · rw [Rat.neg_num, Int.natAbs_neg]; exact h.1
  · rw [Rat.neg_den]; exact h.2
theorem bd_sub {x y : Rat} {j k : Nat} (hx : Bd j x) (hy : Bd k y) : Bd (j + k + 1) (x - y) := by
  rw [Rat.sub_eq_add_neg]; exact bd_add hx (bd_neg hy)
theorem bd_mul {x y : Rat} {j k : Nat} (hx : Bd j x) (hy : Bd k y) : Bd (j + k) (x * y) := by
  rw [← Rat.num_divInt_den x, ← Rat.num_divInt_den y, Rat.divInt_mul_divInt]
  exact bd_divInt (Int.mul_ne_zero (den_z x) (den_z y)) (pow_mul_z hx.1 hy.1) (pow_mul_z hx.2 hy.2)
theorem bd_div {x y : Rat} {j k : Nat} (hx : Bd j x) (hy : Bd k y) (h0 : y ≠ 0) : Bd (j + k) (x / y) := by
  have hn : y.num ≠ 0 := by intro h; exact h0 (Rat.num_eq_zero.1 h)
  rw [← Rat.num_divInt_den x, ← Rat.num_divInt_den y, Rat.div_def, Rat.inv_divInt, Rat.divInt_mul_divInt]
  exact bd_divInt (Int.mul_ne_zero (den_z x) hn) (pow_mul_z hx.1 hy.2) (pow_mul_z hx.2 hy.1)
theorem bd_int {z : Int} {k : Nat} (h : z.natAbs < 2 ^ k) (hk : 0 < k) : Bd k (z : Rat) :=
  ⟨h, by show 1 < 2 ^ k; exact Nat.one_lt_two_pow (by omega)⟩
theorem bd_floor {x : Rat} {k : Nat} (h : Bd k x) : x.floor.natAbs < 2 ^ k := by
  rw [Rat.floor_def]
  refine Nat.lt_of_le_of_lt ?_ h.1
  exact Int.natAbs_ediv_le_natAbs _ _
theorem pow_bp {a k : Nat} (h : a < 2 ^ k) (hk : k ≤ 1024) : a < Pq.bp 32 := by
  exact Nat.lt_of_lt_of_le h (bp_ge 1024 rfl hk)
theorem Bd.fits {k : Nat} {r : Rat} (h : Bd k r) (hk : k ≤ 1024) : Fits r := ⟨pow_bp h.1 hk, pow_bp h.2 hk⟩
theorem safe_rOf {k : Nat} {b : Int} {r : Rat} (h : Bd k r) (hk : k ≤ 1024) (hb : (k : Int) ≤ b) : SafeF b (rOf r) ∧ qF (rOf r) = r := by
  have hf := h.fits hk
  obtain ⟨h1, h2⟩ := ok_rOf hf
  have e1 : zW (rOf r).1 = r.num := zW_wOf hf.1
  have e2 : zW (rOf r).2 = (r.den : Int) := zW_wOf (by simpa using hf.2)
  refine ⟨⟨?_, ?_, h1⟩, h2⟩
  · rw [e1]
    have := Pq.bitn_le.2 h.1
    omega
  · rw [e2, Int.natAbs_natCast]
    have := Pq.bitn_le.2 h.2
    omega
theorem safe_bd {k : Nat} {x : F} (h : SafeF k x) : Bd k (qF x) := by
  obtain ⟨h1, h2, h3⟩ := h
  obtain ⟨e1, e2⟩ := rat_parts h3
  refine ⟨?_, ?_⟩
  · rw [e1]; exact Pq.bitn_le.1 (by omega)
  · have := Pq.bitn_le.1 (show Pq.bitn (zW x.2).natAbs ≤ k by omega)
    omega
theorem safe_mono {a b : Int} {x : F} (h : SafeF a x) (hb : a ≤ b) : SafeF b x := ⟨by have := h.1; omega, by have := h.2.1; omega, h.2.2⟩
theorem safeF_iff {b : Int} {x : F} : safeF b x = true ↔ SafeF b x := by unfold safeF; simp
/-- a fraction of the program is the fraction that it tells -/
theorem f_of {x : F} (h : OkF x) : x = rOf (qF x) := (rOf_qF h).symm
theorem both_rOf {j k : Nat} {p q : Rat} (hp : Bd j p) (hq : Bd k q) (hj : j ≤ 500) (hk : k ≤ 500) : both (rOf p) (rOf q) = true :=
  both_iff.2 ⟨(safe_rOf hp (by omega) (by omega)).1, (safe_rOf hq (by omega) (by omega)).1⟩
theorem q_rOf {k : Nat} {r : Rat} (h : Bd k r) (hk : k ≤ 1024) : qF (rOf r) = r := (safe_rOf h hk (Int.le_refl _)).2
theorem eq_rOf {k : Nat} {p q : Rat} (hp : Bd k p) (hq : Bd k q) (hk : k ≤ 1024) : rOf p = rOf q ↔ p = q :=
  ⟨fun h => by rw [← q_rOf hp hk, ← q_rOf hq hk, h], fun h => by rw [h]⟩
/-- equality of fractions, as the run tells it -/
theorem eqF (a b : F) : (a.1.1 == b.1.1 && (a.1.2.1 == b.1.2.1 && true) && (a.2.1 == b.2.1 && (a.2.2.1 == b.2.2.1 && true) && true)) = decide (a = b) := by
  rw [Bool.eq_iff_iff]
  simp only [Bool.and_true, Bool.and_eq_true, beq_iff_eq, decide_eq_true_eq]
  constructor
  · rintro ⟨⟨h1, h2⟩, h3, h4⟩
    exact Prod.ext (Prod.ext h1 (Subtype.ext h2)) (Prod.ext h3 (Subtype.ext h4))
  · rintro rfl; exact ⟨⟨rfl, rfl⟩, rfl, rfl⟩
theorem eqW (a b : W) : (a.1 == b.1 && (a.2.1 == b.2.1 && true)) = decide (a = b) := by
  rw [Bool.eq_iff_iff]
  simp only [Bool.and_true, Bool.and_eq_true, beq_iff_eq, decide_eq_true_eq]
  constructor
  · rintro ⟨h1, h2⟩
    exact Prod.ext h1 (Subtype.ext h2)
  · rintro rfl; exact ⟨rfl, rfl⟩
/-- a whole number as a fraction -/
theorem rOf_int (z : Int) : rOf (z : Rat) = (wOf z, wOf 1) := rfl
theorem cq_le {p q : Rat} : cq p q ≤ 0 ↔ p ≤ q := by
  unfold cq
  split
  · rename_i h; exact ⟨fun _ => Rat.le_of_lt h, fun _ => by omega⟩
  · split
    · rename_i h; exact ⟨fun h => by omega, fun h' => absurd h (Rat.not_lt.2 h')⟩
    · rename_i h h'; exact ⟨fun _ => Rat.not_lt.1 h', fun _ => by omega⟩
theorem cq_lt {p q : Rat} : cq p q < 0 ↔ p < q := by
  unfold cq
  split
  · rename_i h; exact ⟨fun _ => h, fun _ => by omega⟩
  · rename_i h; split <;> exact ⟨fun h => by omega, fun h' => absurd h' h⟩
theorem cq_eq {p q : Rat} : cq p q = 0 ↔ p = q := by
  unfold cq
  split
  · rename_i h; exact ⟨fun h => by omega, fun e => by rw [e] at h; exact absurd h (Rat.lt_irrefl)⟩
  · split
    · rename_i h; exact ⟨fun h => by omega, fun e => by rw [e] at h; exact absurd h (Rat.lt_irrefl)⟩
    · rename_i h h'; exact ⟨fun _ => Rat.le_antisymm (Rat.not_lt.1 h') (Rat.not_lt.1 h), fun _ => rfl⟩
theorem cq_add (p q r : Rat) : cq (p + r) (q + r) = cq p q := by
  unfold cq
  simp only [Rat.add_lt_add_right]
end Ax
/-
Three laws of fractions, plain.
-/
set_option linter.unusedSimpArgs false
set_option linter.unusedVariables false
namespace Go.Proofs.Ytjijakfcahhioaa
open Go.RowKit Ax
theorem w_i64 {z : Int} (h : -9223372036854775808 ≤ z ∧ z ≤ 9223372036854775807) : IntKind.i64.wrap z = z := IntWalk.i64_in _ (by omega)
theorem pow64 {z : Int} (h : in64 z) : z.natAbs < 2 ^ 64 := by unfold in64 at h; show z.natAbs < 18446744073709551616; omega
theorem one_pow {k : Nat} (h : 0 < k) : (1 : Int).natAbs < 2 ^ k := Nat.one_lt_two_pow (by omega)
theorem lterms_wp (n d k : Int) (hn : -2147483648 ≤ n ∧ n ≤ 2147483647) (hd : 0 ≤ d ∧ d ≤ 65535) (hk : -32768 ≤ k ∧ k ≤ 32767) : (tr_lterms (n, d, k, ())).wp fun av => av = .one (.v (.bool true)) := by
  have e1 : IntKind.i64.wrap n = n := w_i64 (by omega)
  have e2 : IntKind.i64.wrap (IntKind.i64.wrap d + 1) = d + 1 := by rw [w_i64 (z := d) (by omega), w_i64 (by omega)]
  have e3 : IntKind.i64.wrap k = k := w_i64 (by omega)
  have b1 : -70368744177664 ≤ n * k ∧ n * k ≤ 70368744177664 := by
    have h : (n * k).natAbs ≤ 2147483648 * 32768 := by rw [Int.natAbs_mul]; exact Nat.mul_le_mul (by omega) (by omega)
    omega
  have b2 : -70368744177664 ≤ (d + 1) * k ∧ (d + 1) * k ≤ 70368744177664 := by
    have h : ((d + 1) * k).natAbs ≤ 65536 * 32768 := by rw [Int.natAbs_mul]; exact Nat.mul_le_mul (by omega) (by omega)
    omega
  have e4 : IntKind.i64.wrap (n * k) = n * k := w_i64 (by omega)
  have e5 : IntKind.i64.wrap ((d + 1) * k) = (d + 1) * k := w_i64 (by omega)
  have i1 : in64 n := ⟨by omega, by omega⟩
  have i2 : in64 (d + 1) := ⟨by omega, by omega⟩
  have i3 : in64 (n * k) := ⟨by omega, by omega⟩
  have i4 : in64 ((d + 1) * k) := ⟨by omega, by omega⟩
  have i0 : in64 0 := ⟨by omega, by omega⟩
  have hd0 : d + 1 ≠ 0 := by omega
  have hb : Bd 64 (Rat.divInt n (d + 1)) := bd_divInt hd0 (pow64 i1) (pow64 i2)
  have hok : okF (rOf (Rat.divInt n (d + 1))) = true := decide_eq_true (safe_rOf (b := 64) hb (by omega) (by omega)).1.2.2
  have hz0 : rOf 0 = (wOf 0, wOf 1) := rfl
  have hok0 : okF (wOf 0, wOf 1) = true := decide_eq_true (safe_rOf (b := 64) (r := ((0 : Int) : Rat)) (bd_int (k := 64) (by decide) (by omega)) (by omega) (by omega)).1.2.2
  have hk2 : k ≠ 0 → Rat.divInt (n * k) ((d + 1) * k) = Rat.divInt n (d + 1) := fun h => Rat.divInt_mul_right h
  unfold tr_lterms
  simp only [T.wp]
  dsimp only [El]
  simp only [e1, e2, e3, e4, e5, eqF]
  by_cases h0 : k = 0
  · subst h0
    by_cases hn0 : n = 0
    · simp [i1, i2, i3, i4, i0, hd0, hn0, hz0, hok0]
    · simp [i1, i2, i3, i4, i0, hd0, hok, hn0]
  · have h5 : (d + 1) * k ≠ 0 := Int.mul_ne_zero hd0 h0
    by_cases hn0 : n = 0
    · subst hn0
      simp [i1, i2, i3, i4, i0, hd0, h5, h0, hz0, hok0]
    · simp [i1, i2, i3, i4, i0, hd0, hok, hk2 h0, h5, h0, hn0]
theorem lfloors_wp (x : F) : (tr_lfloors (x, ())).wp fun av => av = .one (.v (.bool true)) := by
  unfold tr_lfloors
  simp only [T.wp]
  dsimp only [El]
  refine ⟨fun h => (by cases h), fun _ => ⟨fun _ => trivial, fun hs => ?_⟩⟩
  have hs : SafeF 400 x := safeF_iff.1 (by simpa using hs)
  have hb := safe_bd (k := 400) hs
  have hfl := bd_floor hb
  have hx := f_of hs.2.2
  have hf : Bd 401 ((qF x).floor : Rat) := (bd_int hfl (by omega)).mono (by omega)
  have h1 : Bd 1 ((1 : Int) : Rat) := bd_int (by decide) (by omega)
  have hf1 : Bd 403 (((qF x).floor : Rat) + ((1 : Int) : Rat)) := bd_add hf h1
  have hfl1 : (qF x).floor.natAbs < 2 ^ 1001 := pow_to (j := 400) (k := 1001) hfl (by decide)
  have h11 : (1 : Int).natAbs < 2 ^ 1001 := one_pow (k := 1001) (by decide)
  have en : newF (wOf (qF x).floor) (wOf 1) = rOf ((qF x).floor : Rat) := by
    rw [newF_b hfl1 h11]
    congr 1
    exact (Rat.num_divInt_den ((qF x).floor : Rat))
  have hN : NewOk (wOf (qF x).floor) (wOf 1) := new_b hfl1 h11 (by decide)
  have e1 : (wOf 1, wOf 1) = rOf ((1 : Int) : Rat) := rfl
  rw [en, e1, q_rOf hf (by omega), q_rOf h1 (by omega), q_rOf hf1 (by omega)]
  have c1 := Rat.floor_le (qF x)
  have c2 := Rat.lt_floor_add_one (qF x)
  rw [Rat.intCast_add] at c2
  refine ⟨decide_eq_true hs.2.2, ⟨by omega, by omega⟩, ⟨by omega, by omega⟩, decide_eq_true hN, both_rOf hf h1 (by omega) (by omega), ?_, ?_, fun _ => ?_, fun h => ?_⟩
  · conv => lhs; rw [hx]
    rw [q_rOf hb (by omega)]
    exact both_rOf hf hb (by omega) (by omega)
  · conv => lhs; rw [hx]
    rw [q_rOf hb (by omega)]
    exact both_rOf hb hf1 (by omega) (by omega)
  · rw [decide_eq_true (cq_lt.2 c2)]
  · exact absurd (cq_le.2 c1) (of_decide_eq_false h)
end Go.Proofs.Ytjijakfcahhioaa
/-
What the laws' rows want of the program.
-/
set_option linter.unusedSimpArgs false
set_option linter.unusedVariables false
namespace Go.Proofs.Ytjijakfcahhioaa
open Go.ChangeShapes Go.WideShapes Go.ChangeAt Go.RowKit Ax
theorem own : ownKnob Try.prog.godebug = none := by kernel_rfl
theorem laidOut : laidOutB Try.prog = true := by kernel_rfl
theorem o_i32 : Opens Try.prog 21 (.int .i32) := opens_int (by kernel_rfl) (by kernel_rfl)
theorem o_u16 : Opens Try.prog 40 (.int .u16) := opens_int (by kernel_rfl) (by kernel_rfl)
theorem o_i16 : Opens Try.prog 41 (.int .i16) := opens_int (by kernel_rfl) (by kernel_rfl)
theorem o_u8 : Opens Try.prog 5 (.int .u8) := opens_int (by kernel_rfl) (by kernel_rfl)
theorem o_bool : Opens Try.prog 4 .bool := opens_bool (by kernel_rfl) (by kernel_rfl)
theorem o_words : Opens Try.prog 23 .words := opens_words (e := 22) (by kernel_rfl) (by kernel_rfl) (by kernel_rfl) (by kernel_rfl)
theorem o_wide : Opens Try.prog 25 cW := opens_struct Try.underlying25 (by kernel_rfl) ⟨rfl, o_bool, rfl, o_words⟩
theorem o_rat : Opens Try.prog 27 cF := opens_struct Try.underlying27 (by kernel_rfl) ⟨rfl, o_wide, rfl, o_wide⟩
theorem o_rats : Opens Try.prog 49 (.sl cF) := opens_slice Try.underlying49 (by kernel_rfl) o_rat (by decide)
end Go.Proofs.Ytjijakfcahhioaa
/-
Plain laws: amounts as words without noughts on top.
-/
set_option linter.unusedSimpArgs false
set_option linter.unusedVariables false
namespace Go.Proofs.Ytjijakfcahhioaa
open Go.RowKit Ax
/-- the words of an amount, the lowest first, without noughts on top -/
def mg (x : Nat) : List Int := if h : x = 0 then [] else ((x % 4294967296 : Nat) : Int) :: mg (x / 4294967296)
decreasing_by exact Nat.div_lt_self (by omega) (by omega)
theorem mg_zero : mg 0 = [] := by rw [mg]; simp
theorem mg_pos {x : Nat} (h : x ≠ 0) : mg x = ((x % 4294967296 : Nat) : Int) :: mg (x / 4294967296) := by rw [mg, dif_neg h]
theorem mg_nil {x : Nat} : mg x = [] ↔ x = 0 := by
  constructor
  · intro h
    by_cases h0 : x = 0
    · exact h0
    · rw [mg_pos h0] at h; cases h
  · rintro rfl; exact mg_zero
theorem mg_words (x : Nat) : Words (mg x) := by
  induction x using Nat.strongRecOn with
  | ind x ih =>
    by_cases h : x = 0
    · rw [h, mg_zero]; intro v hv; cases hv
    · rw [mg_pos h]
      intro v hv
      rcases List.mem_cons.1 hv with rfl | hv
      · omega
      · exact ih (x / 4294967296) (Nat.div_lt_self (by omega) (by omega)) v hv
theorem val_mg (x : Nat) : valL (mg x) = x := by
  induction x using Nat.strongRecOn with
  | ind x ih =>
    by_cases h : x = 0
    · rw [h, mg_zero]; rfl
    · rw [mg_pos h, valL, ih (x / 4294967296) (Nat.div_lt_self (by omega) (by omega))]
      omega
theorem mg_len {n : Nat} : ∀ {x : Nat}, x < Pq.bp n ↔ (mg x).length ≤ n := by
  induction n with
  | zero =>
    intro x
    rw [Pq.bp_zero]
    constructor
    · intro h; rw [show x = 0 by omega, mg_zero]; simp
    · intro h
      have : mg x = [] := List.length_eq_zero_iff.1 (by omega)
      rw [mg_nil.1 this]; omega
  | succ n ih =>
    intro x
    by_cases h : x = 0
    · subst h; rw [mg_zero]; exact ⟨fun _ => by simp, fun _ => Pq.bp_pos _⟩
    · rw [mg_pos h, List.length_cons, Pq.bp_succ]
      have e : x < Pq.bp n * 4294967296 ↔ x / 4294967296 < Pq.bp n := (Nat.div_lt_iff_lt_mul (by omega)).symm
      rw [e, ih]
      omega
theorem val_words {l : List Int} (h : Words l) : valL l < Pq.bp l.length := by
  induction l with
  | nil => rw [valL]; exact Pq.bp_pos _
  | cons v r ih =>
    have h1 := h v (by simp)
    have h2 := ih (fun x hx => h x (by simp [hx]))
    rw [valL, List.length_cons, Pq.bp_succ]
    have : 4294967296 * valL r + 4294967296 ≤ Pq.bp r.length * 4294967296 := by
      rw [← Nat.mul_succ, Nat.mul_comm]; exact Nat.mul_le_mul_right _ h2
    omega
theorem val_app (l k : List Int) : valL (l ++ k) = valL l + Pq.bp l.length * valL k := by
  induction l with
  | nil => simp [valL, Pq.bp_zero]
  | cons v r ih =>
    rw [List.cons_append, valL, ih, valL, List.length_cons, Pq.bp_succ, Nat.mul_add, Nat.add_assoc]
    congr 2
    rw [← Nat.mul_assoc, Nat.mul_comm 4294967296]
theorem trimN_cons (v : Int) (r : List Int) : ∀ n, trimN (v :: r) (n + 1) = if trimN r n = 0 then (if v = 0 then 0 else 1) else trimN r n + 1
  | 0 => by
    rw [trimN, trimN]
    by_cases h : v = 0
    · subst h; simp [trimN]
    · simp [h]
  | n + 1 => by
    rw [trimN, trimN_cons v r n]
    conv => rhs; rw [trimN]
    rw [List.getElem?_cons_succ]
    by_cases h : r[n]? = some 0
    · rw [if_pos h, if_pos h]
    · rw [if_neg h, if_neg h, if_neg (by omega)]
theorem trimmed_cons (v : Int) (r : List Int) : trimmed (v :: r) = if trimmed r = [] then (if v = 0 then [] else [v]) else v :: trimmed r := by
  unfold trimmed
  rw [List.length_cons, trimN_cons]
  have hle := trimN_le r r.length
  by_cases h : trimN r r.length = 0
  · rw [if_pos h, h, List.take_zero, if_pos rfl]
    by_cases hv : v = 0
    · rw [if_pos hv, if_pos hv]; rfl
    · rw [if_neg hv, if_neg hv]; rfl
  · rw [if_neg h, List.take_succ_cons, if_neg]
    intro e
    have := congrArg List.length e
    rw [List.length_take, List.length_nil] at this
    omega
theorem trimmed_mg {l : List Int} (h : Words l) : trimmed l = mg (valL l) := by
  induction l with
  | nil => rw [valL, mg_zero]; rfl
  | cons v r ih =>
    have h1 := h v (by simp)
    rw [trimmed_cons, ih (fun x hx => h x (by simp [hx])), valL]
    by_cases h0 : valL r = 0
    · rw [if_pos (mg_nil.2 h0), h0, Nat.mul_zero, Nat.add_zero]
      by_cases hv : v = 0
      · subst hv; rw [if_pos rfl]; exact mg_zero.symm
      · rw [if_neg hv, mg_pos (by omega), show v.toNat / 4294967296 = 0 by omega, mg_zero, show ((v.toNat % 4294967296 : Nat) : Int) = v by omega]
    · rw [if_neg (fun e => h0 (mg_nil.1 e)), mg_pos (show v.toNat + 4294967296 * valL r ≠ 0 by omega)]
      rw [show (v.toNat + 4294967296 * valL r) / 4294967296 = valL r by omega, show (((v.toNat + 4294967296 * valL r) % 4294967296 : Nat) : Int) = v by omega]
theorem pW_mg {n : Bool} {x : Nat} (h : x < Pq.bp 32) : pW n (mg x) = (n && decide (x ≠ 0), ⟨x, h⟩) := by
  unfold pW
  have e1 : decide (0 < (mg x).length) = decide (x ≠ 0) := by
    rw [decide_eq_decide]
    constructor
    · intro hl h0; rw [h0, mg_zero] at hl; simp at hl
    · intro h0
      rcases Nat.eq_zero_or_pos (mg x).length with h' | h'
      · exact absurd (mg_nil.1 (List.length_eq_zero_iff.1 h')) h0
      · exact h'
  have e2 : (stL w0.2 (mg x) 0).1 = x := by
    rw [stL_val (mg x) w0.2 0 (by rw [Pq.bp_zero]; show 0 < 1; omega) (by have := mg_len.1 h; omega) (mg_words x), val_mg, Pq.bp_zero]
    show 0 + 1 * x = x
    omega
  rw [e1]
  exact Prod.ext rfl (Subtype.ext e2)
end Go.Proofs.Ytjijakfcahhioaa
/-
Several loops in one function.
-/
set_option linter.unusedSimpArgs false
set_option linter.unusedVariables false
namespace Ax
open Go Go.RowKit
def manyL (l : List (Nat × (St → T (Exit × St)))) : Loops := fun k => (l.find? fun p => p.1 == k).map (·.2)
theorem find_key {β : Type _} : ∀ (l : List (Nat × β)) (i : Nat) (p : Nat × β), (l.map (·.1)).Nodup → l[i]? = some p → l.find? (fun q => q.1 == p.1) = some p
  | [], i, p, _, h => by simp at h
  | q :: r, 0, p, _, h => by
    obtain rfl : q = p := by simpa using h
    simp
  | q :: r, i + 1, p, hn, h => by
    have h' : r[i]? = some p := by simpa using h
    have hm : p.1 ∈ r.map (·.1) := List.mem_map.2 ⟨p, List.mem_of_getElem? h', rfl⟩
    have hne : q.1 ≠ p.1 := fun e => (List.nodup_cons.1 hn).1 (by show q.1 ∈ _; rw [e]; exact hm)
    rw [List.find?_cons_of_neg (by simpa using hne)]
    exact find_key r i p (List.nodup_cons.1 hn).2 h'
/-- the loops' keys -/
def keysOf (fn : Func) : List Nat := match fn.body with | some c => (loopsOf c).map Code.first | none => []
theorem many_loops {P : Program} {n : Nat} {fn : Func} {l : List (Nat × (St → T (Exit × St)))} (hk : keysOf fn = l.map (·.1)) (hn : (l.map (·.1)).Nodup)
    (h : ∀ (i : Nat) p, l[i]? = some p → LoopOk P n (bodyOf fn i) p.2) : ∀ c, fn.body = some c → LoopsOk P n (manyL l) c := by
  intro c hc
  unfold keysOf at hk
  rw [hc] at hk
  replace hk : (loopsOf c).map Code.first = l.map (·.1) := hk
  refine loops_of fun b hb r hr => ?_
  obtain ⟨i, hi, rfl⟩ := List.getElem_of_mem hb
  have hl : (loopsOf c).length = l.length := by have := congrArg List.length hk; simpa using this
  have hp : l[i]? = some (l[i]'(by omega)) := List.getElem?_eq_getElem _
  have hkey : Code.first (loopsOf c)[i] = (l[i]'(by omega)).1 := by
    have h1 : ((loopsOf c).map Code.first)[i]? = (l.map (·.1))[i]? := by rw [hk]
    rw [List.getElem?_map, List.getElem?_map, hp, List.getElem?_eq_getElem hi] at h1
    simpa using h1
  unfold manyL at hr
  rw [hkey, find_key l i _ hn hp] at hr
  cases hr
  have hb : bodyOf fn i = (loopsOf c)[i] := by
    unfold bodyOf
    rw [hc]
    simp [hi]
  rw [← hb]
  exact h i _ hp
theorem two_loops {P : Program} {n k1 k2 : Nat} {fn : Func} {r1 r2 : St → T (Exit × St)} (hk : keysOf fn = [k1, k2]) (hn : k1 ≠ k2) (h1 : LoopOk P n (bodyOf fn 0) r1) (h2 : LoopOk P n (bodyOf fn 1) r2) :
    ∀ c, fn.body = some c → LoopsOk P n (manyL [(k1, r1), (k2, r2)]) c :=
  many_loops hk (by simp [hn]) fun i p hp => by
    match i, hp with
    | 0, hp => cases hp; exact h1
    | 1, hp => cases hp; exact h2
    | i + 2, hp => simp at hp
/-! ### loops within a loop's body -/
def innerOf (c : Code) (i : Nat) : Code := (loopsOf c).getD i .skip
theorem inner_loops {P : Program} {n : Nat} {c : Code} {l : List (Nat × (St → T (Exit × St)))} (hk : (loopsOf c).map Code.first = l.map (·.1)) (hn : (l.map (·.1)).Nodup)
    (h : ∀ (i : Nat) p, l[i]? = some p → LoopOk P n (innerOf c i) p.2) : LoopsOk P n (manyL l) c :=
  many_loops (fn := { (default : Func) with body := some c }) hk hn (fun i p hp => by
    have := h i p hp
    unfold innerOf at this
    exact this) c rfl
theorem inner_one {P : Program} {n k1 : Nat} {c : Code} {r1 : St → T (Exit × St)} (hk : (loopsOf c).map Code.first = [k1]) (h1 : LoopOk P n (innerOf c 0) r1) : LoopsOk P n (manyL [(k1, r1)]) c :=
  inner_loops hk (by simp) fun i p hp => by
    match i, hp with
    | 0, hp => cases hp; exact h1
    | i + 1, hp => simp at hp
end Ax
/-
The reference: what the loops of of, mul, tenth, text carry.
-/
set_option linter.unusedSimpArgs false
set_option linter.unusedVariables false
namespace Go.Proofs.Ytjijakfcahhioaa
open Go.RowKit Ax
theorem cf_pof (xs : Array Value) (w : World) : (callFunc 53 xs).run Try.prog w = .ok (.enter 53 xs) w := by kernel_rfl
theorem cf_pneg (xs : Array Value) (w : World) : (callFunc 51 xs).run Try.prog w = .ok (.enter 51 xs) w := by kernel_rfl
theorem cf_pmul (xs : Array Value) (w : World) : (callFunc 52 xs).run Try.prog w = .ok (.enter 52 xs) w := by kernel_rfl
theorem cf_pMul (xs : Array Value) (w : World) : (callFunc 21 xs).run Try.prog w = .ok (.enter 21 xs) w := by kernel_rfl
theorem cf_ptenth (xs : Array Value) (w : World) : (callFunc 75 xs).run Try.prog w = .ok (.enter 75 xs) w := by kernel_rfl
theorem cf_ptext (xs : Array Value) (w : World) : (callFunc 54 xs).run Try.prog w = .ok (.enter 54 xs) w := by kernel_rfl
theorem cf_pText (xs : Array Value) (w : World) : (callFunc 22 xs).run Try.prog w = .ok (.enter 22 xs) w := by kernel_rfl
abbrev spOf : RSpec := ⟨18, [(4, false, .int .i64)], [(1, 0, 0)], [(25, cW)], fun _ => [], 3, 22, .int .u32, false⟩
end Go.Proofs.Ytjijakfcahhioaa
/-
The reference: of.
-/
set_option linter.unusedSimpArgs false
set_option linter.unusedVariables false
namespace Go.Proofs.Ytjijakfcahhioaa
open Go.RowKit Ax
noncomputable def tr_pofL (x : RSpec.X spOf × RSpec.Y spOf × (List (El (RSpec.c spOf)) × Nat)) : T (RRd spOf) :=
 .ite (decide (x.1.1 < (32 : Int)))
  (.need ((0 : Int) ≤ x.1.1 ∧ x.1.1 < (↑(32 : Nat) : Int)) (.need (x.1.1 < (32 : Int)) (.need (List.length x.2.2.1 = List.length x.2.2.1 ∧ x.2.2.2 = x.2.2.2 ∧ (List.length x.2.2.1 + List.length [(↑(Pq.wd x.2.1.1.2.1 (Int.toNat x.1.1)) : Int)]) * (nat_lit 3 + (1 : Nat)) ≤ (140737488355328 : Nat) ∧ List.length x.2.2.1 + List.length [(↑(Pq.wd x.2.1.1.2.1 (Int.toNat x.1.1)) : Int)] ≤ Go.maxLen) (.and
      (.need (List.length x.2.2.1 + List.length [(↑(Pq.wd x.2.1.1.2.1 (Int.toNat x.1.1)) : Int)] = List.length (x.2.2.1 ++ [(↑(Pq.wd x.2.1.1.2.1 (Int.toNat x.1.1)) : Int)]) ∧ x.2.2.2 = x.2.2.2) (.ret (.again (IntKind.wrap .i64 (x.1.1 + (1 : Int)), ()) (x.2.1.1, ()) (some ((x.2.2.1 ++ [(↑(Pq.wd x.2.1.1.2.1 (Int.toNat x.1.1)) : Int)], x.2.2.2))))))
      (.up (List.length x.2.2.1 + List.length [(↑(Pq.wd x.2.1.1.2.1 (Int.toNat x.1.1)) : Int)]) (fun v0 =>
       .need (List.length x.2.2.1 + List.length [(↑(Pq.wd x.2.1.1.2.1 (Int.toNat x.1.1)) : Int)] = List.length (x.2.2.1 ++ [(↑(Pq.wd x.2.1.1.2.1 (Int.toNat x.1.1)) : Int)]) ∧ v0 = v0) (.ret (.again (IntKind.wrap .i64 (x.1.1 + (1 : Int)), ()) (x.2.1.1, ()) (some ((x.2.2.1 ++ [(↑(Pq.wd x.2.1.1.2.1 (Int.toNat x.1.1)) : Int)], v0)))))))))))
  (.need (List.length x.2.2.1 = List.length x.2.2.1 ∧ x.2.2.2 = x.2.2.2) (.ret (.out (Go.Exit.exit (0 : Nat)) [] (x.2.1.1, ()) (some x.2.2))))
theorem tr_pofL_eq (x : RSpec.X spOf × RSpec.Y spOf × (List (El (RSpec.c spOf)) × Nat)) : RSpec.round spOf E23 (fun _ => none) (bodyOf Try.f53 0) x.1 x.2.1 (some x.2.2) = tr_pofL x := by kernel_rfl
noncomputable def tr_pofL0 (x : RSpec.X spOf × RSpec.Y spOf) : T (RRd spOf) :=
 .ite (decide (x.1.1 < (32 : Int)))
  (.need ((0 : Int) ≤ x.1.1 ∧ x.1.1 < (↑(32 : Nat) : Int)) (.need (x.1.1 < (32 : Int)) (.need (List.length [(↑(Pq.wd x.2.1.2.1 (Int.toNat x.1.1)) : Int)] * (nat_lit 3 + (1 : Nat)) ≤ (140737488355328 : Nat) ∧ List.length [(↑(Pq.wd x.2.1.2.1 (Int.toNat x.1.1)) : Int)] ≤ Go.maxLen) (.up (List.length [(↑(Pq.wd x.2.1.2.1 (Int.toNat x.1.1)) : Int)]) (fun v0 =>
      .need (List.length [(↑(Pq.wd x.2.1.2.1 (Int.toNat x.1.1)) : Int)] = List.length [(↑(Pq.wd x.2.1.2.1 (Int.toNat x.1.1)) : Int)] ∧ v0 = v0) (.ret (.again (IntKind.wrap .i64 (x.1.1 + (1 : Int)), ()) (x.2.1, ()) (some (([(↑(Pq.wd x.2.1.2.1 (Int.toNat x.1.1)) : Int)], v0))))))))))
  (.need (True) (.ret (.out (Go.Exit.exit (0 : Nat)) [] (x.2.1, ()) none)))
theorem tr_pofL0_eq (x : RSpec.X spOf × RSpec.Y spOf) : RSpec.round spOf E23 (fun _ => none) (bodyOf Try.f53 0) x.1 x.2 none = tr_pofL0 x := by kernel_rfl
def wfrom (x i : Nat) : List Int := (List.range (32 - i)).map fun j => ((Pq.wd x (i + j) : Nat) : Int)
theorem wfrom_step (x : Nat) {i : Nat} (h : i < 32) : wfrom x i = ((Pq.wd x i : Nat) : Int) :: wfrom x (i + 1) := by
  unfold wfrom
  rw [show 32 - i = (32 - (i + 1)) + 1 by omega, List.range_succ_eq_map, List.map_cons, List.map_map, Nat.add_zero]
  congr 1
  refine List.map_congr_left fun j _ => ?_
  simp only [Function.comp]
  rw [show i + j.succ = i + 1 + j by omega]
theorem wfrom_end (x : Nat) {i : Nat} (h : 32 ≤ i) : wfrom x i = [] := by
  unfold wfrom
  rw [show 32 - i = 0 by omega]; rfl
theorem words_wfrom (x i : Nat) : Words (wfrom x i) := fun v hv => by
  obtain ⟨j, _, rfl⟩ := List.mem_map.1 hv
  have := Pq.wd_lt x (i + j)
  omega
theorem val_range (x : Nat) : ∀ n, valL ((List.range n).map fun j => ((Pq.wd x j : Nat) : Int)) = Pq.lo x n
  | 0 => by simp [valL, Pq.lo_zero]
  | n + 1 => by
    rw [List.range_succ, List.map_append, val_app, val_range x n, List.length_map, List.length_range, Pq.lo_succ]
    simp [valL]
theorem val_wfrom {x : Nat} (h : x < Pq.bp 32) : valL (wfrom x 0) = x := by
  unfold wfrom
  simp only [Nat.zero_add, Nat.sub_zero]
  rw [val_range]
  exact Nat.mod_eq_of_lt h
def outOf (x : RSpec.X spOf) (y : RSpec.Y spOf) (g : RSpec.G spOf) : T (Exit × List Av × RSpec.Y spOf × RSpec.G spOf) :=
  match g with
  | none => .need (x.1 = 0) (.up 0 fun k => .ret (.exit 0, [], y, some (wfrom y.1.2.1 0, k)))
  | some r => .need (0 ≤ x.1 ∧ x.1 ≤ 32 ∧ (r.1.length : Int) = x.1) (.up 0 fun k => .ret (.exit 0, [], y, some ((r.1 : List Int) ++ wfrom y.1.2.1 x.1.toNat, k)))
theorem pofL_core (i : Int) (y : W) (xs : List Int) (cap : Nat) (Q : Exit × List Av × RSpec.Y spOf × RSpec.G spOf → Prop) (h : (outOf (i, ()) (y, ()) (some (xs, cap))).wp Q) : (tr_pofL ((i, ()), (y, ()), (xs, cap))).wp fun r => match r with
      | .again x' y' g' => (32 - x'.1).toNat < (32 - i).toNat ∧ (outOf x' y' g').wp Q
      | .out e avs y' g' => Q (e, avs, y', g') := by
  unfold tr_pofL
  unfold outOf at h ⊢
  simp only [T.wp] at h ⊢
  dsimp only [El, vts, spOf] at h ⊢
  obtain ⟨⟨h0, h1, h2⟩, hq⟩ := h
  refine ⟨fun hlt => ?_, fun hge => ?_⟩
  · have hlt := of_decide_eq_true hlt
    rw [IntWalk.i64_in (i + 1) (by omega)]
    rw [wfrom_step y.2.1 (show i.toNat < 32 by omega), show i.toNat + 1 = (i + 1).toNat by omega] at hq
    simp only [List.length_append, List.length_cons, List.length_nil, Go.maxLen, List.append_assoc, List.singleton_append, List.cons_append, List.nil_append] at hq ⊢
    exact ⟨⟨by omega, by omega⟩, by omega, ⟨trivial, trivial, by omega, by omega⟩, ⟨⟨trivial, trivial⟩, by omega, ⟨by omega, by omega, by omega⟩, hq⟩, fun k hk => ⟨⟨trivial, trivial⟩, by omega, ⟨by omega, by omega, by omega⟩, hq⟩⟩
  · have hge := of_decide_eq_false hge
    obtain rfl : i = 32 := by omega
    rw [show (32 : Int).toNat = 32 from rfl, wfrom_end _ (Nat.le_refl _), List.append_nil] at hq
    exact ⟨⟨trivial, trivial⟩, hq cap (Nat.zero_le _)⟩
theorem pofL_core0 (i : Int) (y : W) (Q : Exit × List Av × RSpec.Y spOf × RSpec.G spOf → Prop) (h : (outOf (i, ()) (y, ()) none).wp Q) : (tr_pofL0 ((i, ()), (y, ()))).wp fun r => match r with
      | .again x' y' g' => (32 - x'.1).toNat < (32 - i).toNat ∧ (outOf x' y' g').wp Q
      | .out e avs y' g' => Q (e, avs, y', g') := by
  unfold tr_pofL0
  unfold outOf at h ⊢
  simp only [T.wp] at h ⊢
  dsimp only [El, vts, spOf] at h ⊢
  obtain ⟨h0, hq⟩ := h
  subst h0
  rw [wfrom_step y.2.1 (show 0 < 32 by omega)] at hq
  refine ⟨fun _ => ?_, fun hge => by simp at hge⟩
  rw [IntWalk.i64_in ((0 : Int) + 1) (by omega)]
  simp only [List.length_cons, List.length_nil, Go.maxLen] at hq ⊢
  exact ⟨⟨by omega, by omega⟩, by omega, ⟨by omega, by omega⟩, fun k hk => ⟨⟨trivial, trivial⟩, by omega, ⟨by omega, by omega, by omega⟩, hq⟩⟩
theorem pofL_ok : LoopOk Try.prog 0 (bodyOf Try.f53 0) (spOf.run outOf) :=
  loopR_ok (E := E23) (L := fun _ => none) mixed 0 (loops_none _ _ _) spOf (Nat.zero_le _) outOf (fun x _ _ => (32 - x.1).toNat) (by
    rintro ⟨i, ⟨⟩⟩ ⟨y, ⟨⟩⟩ g Q h
    match g, h with
    | some (xs, cap), h =>
      rw [tr_pofL_eq ((i, ()), (y, ()), (xs, cap))]
      exact pofL_core i y xs cap Q h
    | none, h =>
      rw [tr_pofL0_eq ((i, ()), (y, ()))]
      exact pofL_core0 i y Q h)
noncomputable def lpOf : Loops := oneL 3 (spOf.run outOf)
noncomputable def E23f : Env Try.prog := E23.fz [(6, [3])]
end Go.Proofs.Ytjijakfcahhioaa
/-
The reference: of, its run.
-/
set_option linter.unusedSimpArgs false
set_option linter.unusedVariables false
namespace Go.Proofs.Ytjijakfcahhioaa
open Go.RowKit Ax
noncomputable def tr_pof (x : Els [(true, cW)]) : T Av :=
 .need (True) (.need ((0 : Int) = (0 : El (Cd.int .i64))) (.up ((0 : Nat)) (fun v0 =>
    .need (List.length (wfrom x.1.2.1 (0 : Nat)) ≤ List.length (wfrom x.1.2.1 (0 : Nat))) (.need (lenOk (List.length (List.take (List.length (wfrom x.1.2.1 (0 : Nat))) (wfrom x.1.2.1 (0 : Nat))))) (.ret (.one (.ds (Cd.int .u32) (trimmed (List.take (List.length (wfrom x.1.2.1 (0 : Nat))) (wfrom x.1.2.1 (0 : Nat)))))))))))
theorem tr_pof_eq (x : Els [(true, cW)]) : fnP E23f lpOf Try.f53 (encs [(true, cW)] x) = tr_pof x := by kernel_rfl
noncomputable def con_pof : Con Try.prog := ⟨53, [], _, cf_pof, tot_con (E := E23f) (L := lpOf) mixed Try.func53 (one_loop pofL_ok (by kernel_rfl)) [(true, cW)] (fun x => .one (.ds (.int .u32) (mg x.1.2.1))) fun x => by
  rw [tr_pof_eq]
  obtain ⟨⟨b, a⟩, u⟩ := x
  revert b a
  intro (b : Bool) (a : Amt)
  unfold tr_pof
  simp only [T.wp]
  try dsimp only [El]
  have hl : (wfrom a.1 0).length = 32 := by unfold wfrom; simp
  have ht : List.take (wfrom a.1 0).length (wfrom a.1 0) = wfrom a.1 0 := List.take_length
  refine ⟨trivial, trivial, fun k _ => ⟨Nat.le_refl _, by rw [ht, hl]; unfold lenOk; omega, ?_⟩⟩
  rw [ht, trimmed_mg (words_wfrom _ _), val_wfrom a.2]⟩
noncomputable def E25 : Env Try.prog := E23.add [con_pof]
abbrev spMulI : RSpec := ⟨67, [(0, false, .sl (.int .u32)), (1, false, .sl (.int .u32)), (6, false, .int .i64), (7, false, .int .u64), (8, false, .int .i64)], [], [], fun e => match e with | .exit _ => [0, 1, 6, 7] | _ => [], 5, 22, .int .u32, true⟩
abbrev spMulO : RSpec := ⟨67, [(0, false, .sl (.int .u32)), (1, false, .sl (.int .u32)), (6, false, .int .i64)], [], [], fun _ => [], 5, 22, .int .u32, true⟩
abbrev spTen : RSpec := ⟨38, [(0, false, .sl (.int .u32)), (5, false, .int .u64), (6, false, .int .i64)], [], [], fun e => match e with | .exit _ => [5] | _ => [], 4, 22, .int .u32, true⟩
abbrev spPtext : LSpec := ⟨26, [(0, false, .sl (.int .u32)), (3, false, .str)], [], [], fun e => match e with | .exit _ => [3] | _ => []⟩
end Go.Proofs.Ytjijakfcahhioaa
/-
The reference: neg; the inner loop of mul; the loop of tenth.
-/
set_option linter.unusedSimpArgs false
set_option linter.unusedVariables false
namespace Go.Proofs.Ytjijakfcahhioaa
open Go.RowKit Ax
noncomputable def tr_pneg (x : Els [(true, cW)]) : T Av :=
 .ite x.1.1
  (.ret (.one (.v (.bool (decide ((↑(List.length (mg x.1.2.1)) : Int) > (0 : Int)))))))
  (.ret (.one (.v (.bool (false)))))
theorem tr_pneg_eq (x : Els [(true, cW)]) : fnP E25 (fun _ => none) Try.f51 (encs [(true, cW)] x) = tr_pneg x := by kernel_rfl
noncomputable def tr_pmulI (x : RSpec.X spMulI × RSpec.Y spMulI × (List (El (RSpec.c spMulI)) × Nat)) : T (RRd spMulI) :=
 .ite (decide (x.1.2.2.2.2.1 < (↑(List.length x.1.2.1) : Int)))
  (.get x.1.1 x.1.2.2.1 (fun v0 =>
   .get x.1.2.1 x.1.2.2.2.2.1 (fun v1 =>
    .need ((0 : Int) ≤ IntKind.wrap .i64 (x.1.2.2.1 + x.1.2.2.2.2.1) ∧ IntKind.wrap .i64 (x.1.2.2.1 + x.1.2.2.2.2.1) < (↑(List.length x.2.2.1) : Int)) (.get x.2.2.1 (IntKind.wrap .i64 (x.1.2.2.1 + x.1.2.2.2.2.1)) (fun v2 =>
      .need ((0 : Int) ≤ IntKind.wrap .i64 (x.1.2.2.1 + x.1.2.2.2.2.1) ∧ IntKind.wrap .i64 (x.1.2.2.1 + x.1.2.2.2.2.1) < (↑(List.length x.2.2.1) : Int)) (.need (IntKind.wrap .i64 (x.1.2.2.1 + x.1.2.2.2.2.1) < (↑(List.length x.2.2.1) : Int)) (.need (List.length x.2.2.1 = List.length (List.set x.2.2.1 (Int.toNat (IntKind.wrap .i64 (x.1.2.2.1 + x.1.2.2.2.2.1))) (IntKind.wrap .u32 (IntKind.wrap .u64 (IntKind.wrap .u64 (x.1.2.2.2.1 + IntKind.wrap .u64 (IntKind.wrap .u64 v0 * IntKind.wrap .u64 v1)) + IntKind.wrap .u64 v2)))) ∧ x.2.2.2 = x.2.2.2) (.ret (.again (x.1.1, (x.1.2.1, (x.1.2.2.1, (Int.fdiv (IntKind.wrap .u64 (IntKind.wrap .u64 (x.1.2.2.2.1 + IntKind.wrap .u64 (IntKind.wrap .u64 v0 * IntKind.wrap .u64 v1)) + IntKind.wrap .u64 v2)) ((2 : Int) ^ Min.min (Int.toNat (32 : Int)) (IntKind.bits .u64)), (IntKind.wrap .i64 (x.1.2.2.2.2.1 + (1 : Int)), ()))))) () (some ((List.set x.2.2.1 (Int.toNat (IntKind.wrap .i64 (x.1.2.2.1 + x.1.2.2.2.2.1))) (IntKind.wrap .u32 (IntKind.wrap .u64 (IntKind.wrap .u64 (x.1.2.2.2.1 + IntKind.wrap .u64 (IntKind.wrap .u64 v0 * IntKind.wrap .u64 v1)) + IntKind.wrap .u64 v2))), x.2.2.2))))))))))))
  (.need (List.length x.2.2.1 = List.length x.2.2.1 ∧ x.2.2.2 = x.2.2.2) (.ret (.out (Go.Exit.exit (2 : Nat)) [(.one (.ds (Cd.int .u32) x.1.1)), (.one (.ds (Cd.int .u32) x.1.2.1)), (.one (.v (.int .i64 x.1.2.2.1))), (.one (.v (.int .u64 x.1.2.2.2.1)))] () (some x.2.2))))
theorem tr_pmulI_eq (x : RSpec.X spMulI × RSpec.Y spMulI × (List (El (RSpec.c spMulI)) × Nat)) : RSpec.round spMulI E25 (fun _ => none) (innerOf (bodyOf Try.f52 0) 0) x.1 x.2.1 (some x.2.2) = tr_pmulI x := by kernel_rfl
noncomputable def tr_ptenL (x : RSpec.X spTen × RSpec.Y spTen × (List (El (RSpec.c spTen)) × Nat)) : T (RRd spTen) :=
 .ite (decide (x.1.2.2.1 ≥ (0 : Int)))
  (.get x.1.1 x.1.2.2.1 (fun v0 =>
   .need ((10 : Int) ≠ (0 : Int)) (.need ((10 : Int) ≠ (0 : Int)) (.need ((0 : Int) ≤ x.1.2.2.1 ∧ x.1.2.2.1 < (↑(List.length x.2.2.1) : Int)) (.need (x.1.2.2.1 < (↑(List.length x.2.2.1) : Int)) (.need (List.length x.2.2.1 = List.length (List.set x.2.2.1 (Int.toNat x.1.2.2.1) (IntKind.wrap .u32 (IntKind.wrap .u64 (Int.tdiv (IntKind.wrap .u64 (↑(BitVec.toNat (BitVec.ofInt (IntKind.bits .u64) (IntKind.wrap .u64 (x.1.2.1 * (2 : Int) ^ Min.min (Int.toNat (32 : Int)) (IntKind.bits .u64))) ||| BitVec.ofInt (IntKind.bits .u64) (IntKind.wrap .u64 v0))) : Int)) (10 : Int))))) ∧ x.2.2.2 = x.2.2.2) (.ret (.again (x.1.1, (Int.tmod (IntKind.wrap .u64 (↑(BitVec.toNat (BitVec.ofInt (IntKind.bits .u64) (IntKind.wrap .u64 (x.1.2.1 * (2 : Int) ^ Min.min (Int.toNat (32 : Int)) (IntKind.bits .u64))) ||| BitVec.ofInt (IntKind.bits .u64) (IntKind.wrap .u64 v0))) : Int)) (10 : Int), (IntKind.wrap .i64 (x.1.2.2.1 - (1 : Int)), ()))) () (some ((List.set x.2.2.1 (Int.toNat x.1.2.2.1) (IntKind.wrap .u32 (IntKind.wrap .u64 (Int.tdiv (IntKind.wrap .u64 (↑(BitVec.toNat (BitVec.ofInt (IntKind.bits .u64) (IntKind.wrap .u64 (x.1.2.1 * (2 : Int) ^ Min.min (Int.toNat (32 : Int)) (IntKind.bits .u64))) ||| BitVec.ofInt (IntKind.bits .u64) (IntKind.wrap .u64 v0))) : Int)) (10 : Int)))), x.2.2.2)))))))))))
  (.need (List.length x.2.2.1 = List.length x.2.2.1 ∧ x.2.2.2 = x.2.2.2) (.ret (.out (Go.Exit.exit (0 : Nat)) [(.one (.v (.int .u64 x.1.2.1)))] () (some x.2.2))))
theorem tr_ptenL_eq (x : RSpec.X spTen × RSpec.Y spTen × (List (El (RSpec.c spTen)) × Nat)) : RSpec.round spTen E25 (fun _ => none) (bodyOf Try.f75 0) x.1 x.2.1 (some x.2.2) = tr_ptenL x := by kernel_rfl
end Go.Proofs.Ytjijakfcahhioaa
/-
Plain laws: rows of words that are multiplied, divided by ten.
-/
set_option linter.unusedSimpArgs false
set_option linter.unusedVariables false
namespace Go.Proofs.Ytjijakfcahhioaa
open Go.RowKit Ax
theorem w_u64 {z : Int} (h : 0 ≤ z ∧ z < 18446744073709551616) : IntKind.u64.wrap z = z := IntWalk.u64_in _ (by omega)
theorem val_set {row : List Int} {p : Nat} {v old : Int} (hw : Words row) (hv : 0 ≤ v) (h : row[p]? = some old) : (valL (row.set p v) : Int) = valL row + Pq.bp p * (v - old) := by
  induction row generalizing p with
  | nil => simp at h
  | cons x r ih =>
    have hx := hw x (by simp)
    cases p with
    | zero =>
      simp only [List.getElem?_cons_zero, Option.some.injEq] at h
      subst h
      rw [List.set_cons_zero, valL, valL, Pq.bp_zero]
      omega
    | succ p =>
      rw [List.set_cons_succ, valL, valL, Pq.bp_succ]
      have := ih (fun y hy => hw y (by simp [hy])) (by simpa using h)
      have e1 : ((Pq.bp p * 4294967296 : Nat) : Int) * (v - old) = 4294967296 * ((Pq.bp p : Nat) * (v - old)) := by
        rw [Int.natCast_mul, Int.mul_comm ((Pq.bp p : Nat) : Int) ((4294967296 : Nat) : Int), Int.mul_assoc]; rfl
      rw [e1]
      generalize ((Pq.bp p : Nat) : Int) * (v - old) = q at *
      omega
theorem words_set {row : List Int} {p : Nat} {v : Int} (hw : Words row) (h0 : 0 ≤ v) (h1 : v < 4294967296) : Words (row.set p v) := fun x hx => by
  rcases List.mem_or_eq_of_mem_set hx with h | rfl
  · exact hw x h
  · exact ⟨h0, h1⟩
/-- a row of words, and a times the others put in from a place on -/
def inW (a : Int) : List Int → Nat → Int → List Int → Int × List Int
  | [], _, c, row => (c, row)
  | y :: bs, p, c, row => inW a bs (p + 1) ((c + a * y + row.getD p 0) / 4294967296) (row.set p ((c + a * y + row.getD p 0) % 4294967296))
theorem inW_spec {a : Int} (ha : 0 ≤ a ∧ a < 4294967296) : ∀ (bs : List Int) (p : Nat) (c : Int) (row : List Int), Words bs → Words row → 0 ≤ c → c < 4294967296 → p + bs.length ≤ row.length →
    Words (inW a bs p c row).2 ∧ (inW a bs p c row).2.length = row.length ∧ 0 ≤ (inW a bs p c row).1 ∧ (inW a bs p c row).1 < 4294967296 ∧ (∀ j, p + bs.length ≤ j → (inW a bs p c row).2[j]? = row[j]?) ∧
    (valL (inW a bs p c row).2 : Int) + Pq.bp (p + bs.length) * (inW a bs p c row).1 = valL row + Pq.bp p * (a * valL bs + c)
  | [], p, c, row, _, hr, h0, h1, hl => ⟨hr, rfl, h0, h1, fun _ _ => rfl, by simp [inW, valL]⟩
  | y :: bs, p, c, row, hb, hr, h0, h1, hl => by
    rw [List.length_cons] at hl
    obtain ⟨y0, y1⟩ := hb y (by simp)
    have hp : row[p]? = some (row.getD p 0) := by
      rw [List.getD_eq_getElem?_getD, List.getElem?_eq_getElem (by omega)]; rfl
    obtain ⟨o0, o1⟩ := hr _ (List.mem_of_getElem? hp)
    have hm0 : 0 ≤ a * y := Int.mul_nonneg ha.1 y0
    have hm1 : a * y ≤ 4294967295 * 4294967295 := Int.mul_le_mul (by omega) (by omega) y0 (by omega)
    rw [inW]
    generalize row.getD p 0 = old at *
    generalize hm : a * y = m at *
    have hw' : Words (row.set p ((c + m + old) % 4294967296)) := words_set hr (by omega) (by omega)
    obtain ⟨i1, i2, i3, i4, i5, i6⟩ := inW_spec ha bs (p + 1) ((c + m + old) / 4294967296) (row.set p ((c + m + old) % 4294967296)) (fun x hx => hb x (by simp [hx])) hw' (by omega) (by omega) (by rw [List.length_set]; omega)
    refine ⟨i1, by rw [i2, List.length_set], i3, i4, fun j hj => ?_, ?_⟩
    · rw [List.length_cons] at hj
      rw [i5 j (by omega), List.getElem?_set_ne (by omega)]
    · rw [List.length_cons, show p + (bs.length + 1) = p + 1 + bs.length by omega, i6, val_set hr (by omega) hp, valL, Pq.bp_succ]
      have e1 : ((Pq.bp p * 4294967296 : Nat) : Int) = (Pq.bp p : Nat) * 4294967296 := by simp
      have e2 : ((y.toNat + 4294967296 * valL bs : Nat) : Int) = y + 4294967296 * (valL bs : Nat) := by omega
      rw [e1, e2]
      generalize ((Pq.bp p : Nat) : Int) = b
      generalize ((valL bs : Nat) : Int) = z
      have e3 : a * (y + 4294967296 * z) = m + 4294967296 * (a * z) := by rw [Int.mul_add, hm, Int.mul_left_comm]
      rw [e3]
      generalize a * z = az
      have e4 := Int.mul_ediv_add_emod (c + m + old) 4294967296
      have e5 : (c + m + old) % 4294967296 - old + 4294967296 * (az + (c + m + old) / 4294967296) = m + 4294967296 * az + c := by omega
      rw [← e5, Int.mul_add b ((c + m + old) % 4294967296 - old), Int.mul_assoc b 4294967296]
      omega
/-- a product, word by word -/
def mulW (b : List Int) : List Int → Nat → List Int → List Int
  | [], _, row => row
  | x :: r, i, row => mulW b r (i + 1) ((inW x b i 0 row).2.set (i + b.length) (inW x b i 0 row).1)
theorem mulW_round {x : Int} {b row : List Int} {i n : Nat} (hx : 0 ≤ x ∧ x < 4294967296) (hb : Words b) (hr : Words row) (hl : row.length = i + (n + 1) + b.length) (hz : ∀ j, i + b.length ≤ j → j < row.length → row[j]? = some 0) :
    Words ((inW x b i 0 row).2.set (i + b.length) (inW x b i 0 row).1) ∧ ((inW x b i 0 row).2.set (i + b.length) (inW x b i 0 row).1).length = row.length ∧
    (∀ j, i + 1 + b.length ≤ j → j < row.length → ((inW x b i 0 row).2.set (i + b.length) (inW x b i 0 row).1)[j]? = some 0) ∧
    (valL ((inW x b i 0 row).2.set (i + b.length) (inW x b i 0 row).1) : Int) = valL row + Pq.bp i * (x * valL b) := by
  obtain ⟨h1, h2, h3, h4, h5, h6⟩ := inW_spec hx b i 0 row hb hr (by omega) (by omega) (by omega)
  have hold : (inW x b i 0 row).2[i + b.length]? = some 0 := by rw [h5 _ (Nat.le_refl _)]; exact hz _ (Nat.le_refl _) (by omega)
  refine ⟨words_set h1 h3 h4, by rw [List.length_set, h2], fun j hj hjl => ?_, ?_⟩
  · rw [List.getElem?_set_ne (by omega), h5 j (by omega)]; exact hz j (by omega) hjl
  · rw [val_set h1 h3 hold]
    rw [Int.add_zero] at h6
    rw [Int.sub_zero]
    exact h6
theorem mulW_spec {b : List Int} (hb : Words b) : ∀ (a : List Int) (i : Nat) (row : List Int), Words a → Words row → row.length = i + a.length + b.length → (∀ j, i + b.length ≤ j → j < row.length → row[j]? = some 0) →
    Words (mulW b a i row) ∧ (mulW b a i row).length = row.length ∧ (valL (mulW b a i row) : Int) = valL row + Pq.bp i * (valL a * valL b)
  | [], i, row, _, hr, hl, hz => ⟨hr, rfl, by simp [mulW, valL]⟩
  | x :: r, i, row, ha, hr, hl, hz => by
    rw [List.length_cons] at hl
    have hx := ha x (by simp)
    obtain ⟨h1, h2, h3, h4⟩ := mulW_round (n := r.length) hx hb hr hl hz
    rw [mulW]
    obtain ⟨i1, i2, i3⟩ := mulW_spec hb r (i + 1) _ (fun y hy => ha y (by simp [hy])) h1 (by rw [h2]; omega) (by rw [h2]; exact h3)
    refine ⟨i1, by rw [i2, h2], ?_⟩
    rw [i3, h4, valL, Pq.bp_succ]
    have e1 : ((Pq.bp i * 4294967296 : Nat) : Int) = (Pq.bp i : Nat) * 4294967296 := by simp
    have e2 : ((x.toNat + 4294967296 * valL r : Nat) : Int) = x + 4294967296 * (valL r : Nat) := by omega
    rw [e1, e2, Int.add_mul x, Int.mul_add, Int.mul_assoc, Int.mul_assoc 4294967296]
    omega
/-- divided by ten, from the top -/
def tenW (a : List Int) : Nat → Int → List Int → Int × List Int
  | 0, r, row => (r, row)
  | n + 1, r, row => tenW a n ((r * 4294967296 + a.getD n 0) % 10) (row.set n ((r * 4294967296 + a.getD n 0) / 10))
theorem tenW_spec {a : List Int} (ha : Words a) : ∀ (n : Nat) (r : Int) (row : List Int), n ≤ a.length → row.length = a.length → Words row → 0 ≤ r → r < 10 → (∀ j, j < n → row[j]? = some 0) →
    Words (tenW a n r row).2 ∧ (tenW a n r row).2.length = a.length ∧ 0 ≤ (tenW a n r row).1 ∧ (tenW a n r row).1 < 10 ∧ 10 * (valL (tenW a n r row).2 : Int) + (tenW a n r row).1 = 10 * valL row + valL (a.take n) + Pq.bp n * r
  | 0, r, row, _, hl, hr, h0, h1, _ => ⟨hr, hl, h0, h1, by simp [tenW, valL, Pq.bp_zero]⟩
  | n + 1, r, row, hn, hl, hr, h0, h1, hz => by
    have hp : a[n]? = some (a.getD n 0) := by
      rw [List.getD_eq_getElem?_getD, List.getElem?_eq_getElem (by omega)]; rfl
    obtain ⟨o0, o1⟩ := ha _ (List.mem_of_getElem? hp)
    have hta : a.take (n + 1) = a.take n ++ [a.getD n 0] := by rw [List.take_add_one, hp]; rfl
    rw [tenW, hta, val_app]
    have hlt : (a.take n).length = n := by rw [List.length_take]; omega
    rw [hlt, Pq.bp_succ]
    generalize a.getD n 0 = v at *
    have hw' : Words (row.set n ((r * 4294967296 + v) / 10)) := words_set hr (by omega) (by omega)
    obtain ⟨i1, i2, i3, i4, i5⟩ := tenW_spec ha n ((r * 4294967296 + v) % 10) (row.set n ((r * 4294967296 + v) / 10)) (by omega) (by rw [List.length_set, hl]) hw' (by omega) (by omega) (fun j hj => by
      rw [List.getElem?_set_ne (by omega)]; exact hz j (by omega))
    refine ⟨i1, i2, i3, i4, ?_⟩
    rw [i5, val_set hr (by omega) (hz n (by omega))]
    have e1 : ((Pq.bp n * 4294967296 : Nat) : Int) = (Pq.bp n : Nat) * 4294967296 := by simp
    have e2 : (valL [v] : Int) = v := by simp [valL]; omega
    rw [Int.natCast_add, Int.natCast_mul (Pq.bp n), e1, e2]
    generalize ((Pq.bp n : Nat) : Int) = b
    have e4 := Int.mul_ediv_add_emod (r * 4294967296 + v) 10
    have e5 : 10 * ((r * 4294967296 + v) / 10 - 0) + (r * 4294967296 + v) % 10 = v + 4294967296 * r := by omega
    have e6 := congrArg (b * ·) e5
    simp only [Int.mul_add] at e6 ⊢
    rw [Int.mul_left_comm b 10, ← Int.mul_assoc b 4294967296] at e6
    omega
theorem or_64 {x y : Int} (hx : 0 ≤ x ∧ x < 4294967296) (hy : 0 ≤ y ∧ y < 4294967296) : ((BitVec.ofInt (IntKind.bits .u64) (x * 4294967296) ||| BitVec.ofInt (IntKind.bits .u64) y).toNat : Int) = x * 4294967296 + y := by
  have e1 : (BitVec.ofInt (IntKind.bits .u64) (x * 4294967296)).toNat = 2 ^ 32 * x.toNat := by
    rw [BitVec.toNat_ofInt]
    show ((x * 4294967296) % 18446744073709551616).toNat = _
    omega
  have e2 : (BitVec.ofInt (IntKind.bits .u64) y).toNat = y.toNat := by
    rw [BitVec.toNat_ofInt]
    show (y % 18446744073709551616).toNat = _
    omega
  rw [BitVec.toNat_or, e1, e2, ← Nat.two_pow_add_eq_or_of_lt (by omega) x.toNat]
  omega
end Go.Proofs.Ytjijakfcahhioaa
/-
The reference: neg; the loops of mul (within), tenth.
-/
set_option linter.unusedSimpArgs false
set_option linter.unusedVariables false
namespace Go.Proofs.Ytjijakfcahhioaa
open Go.RowKit Ax
noncomputable def con_pneg : Con Try.prog := ⟨51, [], _, cf_pneg, tot_con (E := E25) mixed Try.func51 no_loops [(true, cW)] (fun x => aB (x.1.1 && decide (x.1.2.1 ≠ 0))) fun x => by
  rw [tr_pneg_eq]
  obtain ⟨⟨b, a⟩, u⟩ := x
  revert b a
  intro (b : Bool) (a : Amt)
  unfold tr_pneg
  simp only [T.wp]
  refine ⟨fun h => ?_, fun h => ?_⟩
  · have h : b = true := h
    subst h
    have : decide (((mg a.1).length : Int) > 0) = decide (a.1 ≠ 0) := by
      rw [decide_eq_decide]
      constructor
      · intro hl h0; rw [h0, mg_zero] at hl; simp at hl
      · intro h0
        rcases Nat.eq_zero_or_pos (mg a.1).length with h' | h'
        · exact absurd (mg_nil.1 (List.length_eq_zero_iff.1 h')) h0
        · omega
    rw [this]; rfl
  · have h : b = false := h
    subst h; rfl⟩
def outMulI (x : RSpec.X spMulI) (y : RSpec.Y spMulI) (g : RSpec.G spMulI) : T (Exit × List Av × RSpec.Y spMulI × RSpec.G spMulI) :=
  match g with
  | none => .fail
  | some r => .need (0 ≤ x.2.2.2.2.1 ∧ x.2.2.2.2.1 ≤ x.2.1.length ∧ 0 ≤ x.2.2.1 ∧ x.2.2.1 < x.1.length ∧ x.2.2.1 + x.2.1.length < r.1.length ∧ lenOk r.1.length ∧ Words x.1 ∧ Words x.2.1 ∧ Words r.1 ∧ 0 ≤ x.2.2.2.1 ∧ x.2.2.2.1 < 4294967296)
      (.lt (inW ((x.1 : List Int).getD x.2.2.1.toNat 0) ((x.2.1 : List Int).drop x.2.2.2.2.1.toNat) (x.2.2.1.toNat + x.2.2.2.2.1.toNat) x.2.2.2.1 r.1) fun o =>
        .ret (.exit 2, [.one (.ds (.int .u32) x.1), .one (.ds (.int .u32) x.2.1), aI .i64 x.2.2.1, aI .u64 o.1], y, some (o.2, r.2)))
theorem pmulI_core (a b : List Int) (i c k : Int) (y : RSpec.Y spMulI) (xs : List Int) (cap : Nat) (Q : Exit × List Av × RSpec.Y spMulI × RSpec.G spMulI → Prop) (h : (outMulI (a, b, i, c, k, ()) y (some (xs, cap))).wp Q) : (tr_pmulI ((a, b, i, c, k, ()), y, (xs, cap))).wp fun r => match r with
      | .again x' y' g' => (x'.2.1.length - x'.2.2.2.2.1).toNat < (b.length - k).toNat ∧ (outMulI x' y' g').wp Q
      | .out e avs y' g' => Q (e, avs, y', g') := by
  unfold tr_pmulI
  unfold outMulI at h ⊢
  simp only [T.wp] at h ⊢
  dsimp only [El, vts, spMulI] at h ⊢
  obtain ⟨⟨k0, k1, i0, i1, hl, hlen, ha, hb, hx, c0, c1⟩, hq⟩ := h
  unfold lenOk at hlen
  refine ⟨fun hlt => ?_, fun hge => ?_⟩
  · have hlt := of_decide_eq_true hlt
    obtain ⟨u, hu⟩ := elem_at (l := a) i0 i1
    obtain ⟨v, hv⟩ := elem_at (l := b) k0 hlt
    obtain ⟨w, hw⟩ := elem_at (l := xs) (i := i + k) (by omega) (by omega)
    have hd := drop_at k0 hv
    obtain ⟨u0, u1⟩ := ha u (List.mem_of_getElem? hu)
    obtain ⟨v0, v1⟩ := hb v (List.mem_of_getElem? hv)
    obtain ⟨o0, o1⟩ := hx w (List.mem_of_getElem? hw)
    have hm0 : 0 ≤ u * v := Int.mul_nonneg u0 v0
    have hm1 : u * v ≤ 4294967295 * 4294967295 := Int.mul_le_mul (by omega) (by omega) v0 (by omega)
    have eu : a.getD i.toNat 0 = u := by rw [List.getD_eq_getElem?_getD, hu]; rfl
    have ew : xs.getD (i.toNat + k.toNat) 0 = w := by rw [List.getD_eq_getElem?_getD, show i.toNat + k.toNat = (i + k).toNat by omega, hw]; rfl
    have e1 : IntKind.i64.wrap (i + k) = i + k := IntWalk.i64_in _ (by omega)
    have e2 : IntKind.i64.wrap (k + 1) = k + 1 := IntWalk.i64_in _ (by omega)
    have e3 : IntKind.u64.wrap (IntKind.u64.wrap (c + IntKind.u64.wrap (IntKind.u64.wrap u * IntKind.u64.wrap v)) + IntKind.u64.wrap w) = c + u * v + w := by
      rw [w_u64 (z := u) (by omega), w_u64 (z := v) (by omega), w_u64 (z := u * v) (by omega), w_u64 (z := w) (by omega), w_u64 (z := c + u * v) (by omega), w_u64 (by omega)]
    have p32 : (2 : Int) ^ min (Int.toNat 32) (IntKind.bits .u64) = 4294967296 := by decide
    have e4 : IntKind.u32.wrap (c + u * v + w) = (c + u * v + w) % 4294967296 := by rw [IntKind.wrap_u32]
    have e5 : Int.fdiv (c + u * v + w) 4294967296 = (c + u * v + w) / 4294967296 := Int.fdiv_eq_ediv_of_nonneg _ (by decide)
    rw [hd, inW, eu, ew] at hq
    refine ⟨u, i0, hu, v, k0, hv, ?_⟩
    rw [e1]
    refine ⟨⟨by omega, by omega⟩, w, by omega, hw, ⟨by omega, by omega⟩, by omega, ?_⟩
    rw [e3, p32, e4, e5, e2]
    refine ⟨⟨by rw [List.length_set], trivial⟩, by omega, ⟨by omega, by omega, i0, i1, by rw [List.length_set]; exact hl, by rw [List.length_set]; exact hlen, ha, hb, words_set hx (by omega) (by omega), by omega, by omega⟩, ?_⟩
    rw [show (i + k).toNat = i.toNat + k.toNat by omega, show (k + 1).toNat = k.toNat + 1 by omega, ← Nat.add_assoc, eu]
    rw [show (k + 1).toNat = k.toNat + 1 by omega] at hq
    exact hq
  · have hge := of_decide_eq_false hge
    rw [drop_end (by omega), inW] at hq
    exact ⟨⟨trivial, trivial⟩, hq⟩
theorem pmulI_ok (n : Nat) (hn : n ≤ 1) : LoopOk Try.prog n (innerOf (bodyOf Try.f52 0) 0) (spMulI.run outMulI) :=
  loopR_ok (E := E25) (L := fun _ => none) mixed n (loops_none _ _ _) spMulI hn outMulI (fun x _ _ => ((List.length x.2.1 : Int) - x.2.2.2.2.1).toNat) (by
    rintro ⟨a, b, i, c, k, ⟨⟩⟩ y g Q h
    match g, h with
    | some (xs, cap), h =>
      rw [tr_pmulI_eq ((a, b, i, c, k, ()), y, (xs, cap))]
      exact pmulI_core a b i c k y xs cap Q h
    | none, h => exact h.elim)
noncomputable def lpMulI : Loops := manyL [(7, spMulI.run outMulI)]
def outTen (x : RSpec.X spTen) (y : RSpec.Y spTen) (g : RSpec.G spTen) : T (Exit × List Av × RSpec.Y spTen × RSpec.G spTen) :=
  match g with
  | none => .fail
  | some r => .need (-1 ≤ x.2.2.1 ∧ x.2.2.1 < x.1.length ∧ r.1.length = x.1.length ∧ lenOk r.1.length ∧ Words x.1 ∧ Words r.1 ∧ 0 ≤ x.2.1 ∧ x.2.1 < 10)
      (.lt (tenW x.1 (x.2.2.1 + 1).toNat x.2.1 r.1) fun o => .ret (.exit 0, [aI .u64 o.1], y, some (o.2, r.2)))
theorem ptenL_core (a : List Int) (r i : Int) (y : RSpec.Y spTen) (xs : List Int) (cap : Nat) (Q : Exit × List Av × RSpec.Y spTen × RSpec.G spTen → Prop) (h : (outTen (a, r, i, ()) y (some (xs, cap))).wp Q) : (tr_ptenL ((a, r, i, ()), y, (xs, cap))).wp fun r => match r with
      | .again x' y' g' => (x'.2.2.1 + 1).toNat < (i + 1).toNat ∧ (outTen x' y' g').wp Q
      | .out e avs y' g' => Q (e, avs, y', g') := by
  unfold tr_ptenL
  unfold outTen at h ⊢
  simp only [T.wp] at h ⊢
  dsimp only [El, vts, spTen] at h ⊢
  obtain ⟨⟨k0, k1, hl, hlen, ha, hx, r0, r1⟩, hq⟩ := h
  unfold lenOk at hlen
  refine ⟨fun hge => ?_, fun hlt => ?_⟩
  · have hge := of_decide_eq_true hge
    obtain ⟨u, hu⟩ := elem_at (l := a) (i := i) hge k1
    obtain ⟨u0, u1⟩ := ha u (List.mem_of_getElem? hu)
    have eu : a.getD i.toNat 0 = u := by rw [List.getD_eq_getElem?_getD, hu]; rfl
    have p32 : (2 : Int) ^ min (Int.toNat 32) (IntKind.bits .u64) = 4294967296 := by decide
    have e1 : IntKind.i64.wrap (i - 1) = i - 1 := IntWalk.i64_in _ (by omega)
    rw [show (i + 1).toNat = i.toNat + 1 by omega, tenW, eu] at hq
    refine ⟨u, hge, hu, by decide, by decide, ⟨by omega, by omega⟩, by omega, ?_⟩
    rw [p32, w_u64 (z := r * 4294967296) (by omega), w_u64 (z := u) (by omega), or_64 (by omega) (by omega), w_u64 (z := r * 4294967296 + u) (by omega), Int.tdiv_eq_ediv_of_nonneg (by omega), Int.tmod_eq_emod_of_nonneg (by omega), w_u64 (z := (r * 4294967296 + u) / 10) (by omega), e1]
    have e2 : IntKind.u32.wrap ((r * 4294967296 + u) / 10) = (r * 4294967296 + u) / 10 := by rw [IntKind.wrap_u32]; omega
    rw [e2]
    refine ⟨⟨by rw [List.length_set], trivial⟩, by omega, ⟨by omega, by omega, by rw [List.length_set]; exact hl, by rw [List.length_set]; exact hlen, ha, words_set hx (by omega) (by omega), by omega, by omega⟩, ?_⟩
    rw [show (i - 1 + 1).toNat = i.toNat by omega]
    exact hq
  · have hlt := of_decide_eq_false hlt
    rw [show (i + 1).toNat = 0 by omega, tenW] at hq
    exact ⟨⟨trivial, trivial⟩, hq⟩
theorem ptenL_ok : LoopOk Try.prog 0 (bodyOf Try.f75 0) (spTen.run outTen) :=
  loopR_ok (E := E25) (L := fun _ => none) mixed 0 (loops_none _ _ _) spTen (Nat.zero_le _) outTen (fun x _ _ => (x.2.2.1 + 1).toNat) (by
    rintro ⟨a, r, i, ⟨⟩⟩ y g Q h
    match g, h with
    | some (xs, cap), h =>
      rw [tr_ptenL_eq ((a, r, i, ()), y, (xs, cap))]
      exact ptenL_core a r i y xs cap Q h
    | none, h => exact h.elim)
noncomputable def lpTen : Loops := manyL [(4, spTen.run outTen)]
noncomputable def E26 : Env Try.prog := E25.add [con_pneg]
noncomputable def E26t : Env Try.prog := E26.fz [(8, [4])]
end Go.Proofs.Ytjijakfcahhioaa
/-
The reference: mul's outer loop, tenth's run.
-/
set_option linter.unusedSimpArgs false
set_option linter.unusedVariables false
namespace Go.Proofs.Ytjijakfcahhioaa
open Go.RowKit Ax
noncomputable def tr_pmulO (x : RSpec.X spMulO × RSpec.Y spMulO × (List (El (RSpec.c spMulO)) × Nat)) : T (RRd spMulO) :=
 .ite (decide (x.1.2.2.1 < (↑(List.length x.1.1) : Int)))
  (.need (List.length x.2.2.1 = List.length x.2.2.1 ∧ x.2.2.2 = x.2.2.2) (.need ((0 : El (Cd.int .i64)) ≤ (0 : Int) ∧ (0 : Int) ≤ (↑(List.length x.1.2.1) : El (Cd.int .i64)) ∧ (0 : El (Cd.int .i64)) ≤ x.1.2.2.1 ∧ x.1.2.2.1 < (↑(List.length x.1.1) : El (Cd.int .i64)) ∧ x.1.2.2.1 + (↑(List.length x.1.2.1) : El (Cd.int .i64)) < (↑(List.length x.2.2.1) : El (Cd.int .i64)) ∧ lenOk (List.length x.2.2.1) ∧ Words x.1.1 ∧ Words x.1.2.1 ∧ Words x.2.2.1 ∧ (0 : El (Cd.int .u64)) ≤ (0 : Int) ∧ (0 : Int) < (4294967296 : El (Cd.int .u64))) (.lt (inW (List.getD x.1.1 (Int.toNat x.1.2.2.1) (0 : El (Cd.int .u32))) (List.drop (Int.toNat (0 : Int)) x.1.2.1) (Int.toNat x.1.2.2.1 + Int.toNat (0 : Int)) (0 : Int) x.2.2.1) (fun v0 =>
     .need ((0 : Int) ≤ IntKind.wrap .i64 (x.1.2.2.1 + (↑(List.length x.1.2.1) : Int)) ∧ IntKind.wrap .i64 (x.1.2.2.1 + (↑(List.length x.1.2.1) : Int)) < (↑(List.length v0.2) : Int)) (.need (IntKind.wrap .i64 (x.1.2.2.1 + (↑(List.length x.1.2.1) : Int)) < (↑(List.length v0.2) : Int)) (.need (List.length v0.2 = List.length (List.set v0.2 (Int.toNat (IntKind.wrap .i64 (x.1.2.2.1 + (↑(List.length x.1.2.1) : Int)))) (IntKind.wrap .u32 v0.1)) ∧ x.2.2.2 = x.2.2.2) (.ret (.again (x.1.1, (x.1.2.1, (IntKind.wrap .i64 (x.1.2.2.1 + (1 : Int)), ()))) () (some ((List.set v0.2 (Int.toNat (IntKind.wrap .i64 (x.1.2.2.1 + (↑(List.length x.1.2.1) : Int)))) (IntKind.wrap .u32 v0.1), x.2.2.2)))))))))))
  (.need (List.length x.2.2.1 = List.length x.2.2.1 ∧ x.2.2.2 = x.2.2.2) (.ret (.out (Go.Exit.exit (0 : Nat)) [] () (some x.2.2))))
theorem tr_pmulO_eq (x : RSpec.X spMulO × RSpec.Y spMulO × (List (El (RSpec.c spMulO)) × Nat)) : RSpec.round spMulO E26 lpMulI (bodyOf Try.f52 0) x.1 x.2.1 (some x.2.2) = tr_pmulO x := by kernel_rfl
noncomputable def tr_ptenth (x : Els [(false, .sl (.int .u32))]) : T Av :=
 .need ((0 : Int) ≤ (↑(List.length (x.1)) : Int) ∧ (↑(List.length (x.1)) : Int) = (↑(List.length (x.1)) : Int) ∧ (nat_lit 3 + (1 : Nat)) * Int.toNat (↑(List.length (x.1)) : Int) ≤ (281474976710656 : Nat) ∧ Int.toNat (↑(List.length (x.1)) : Int) ≤ Go.maxLen) (.need (Int.toNat (↑(List.length (x.1)) : Int) = List.length (List.replicate (Int.toNat (↑(List.length (x.1)) : Int)) (0 : Int)) ∧ Int.toNat (↑(List.length (x.1)) : Int) = Int.toNat (↑(List.length (x.1)) : Int)) (.need ((-1 : El (Cd.int .i64)) ≤ IntKind.wrap .i64 ((↑(List.length (x.1)) : Int) - (1 : Int)) ∧ IntKind.wrap .i64 ((↑(List.length (x.1)) : Int) - (1 : Int)) < (↑(List.length (x.1)) : El (Cd.int .i64)) ∧ List.length (List.replicate (Int.toNat (↑(List.length (x.1)) : Int)) (0 : Int)) = List.length (x.1) ∧ lenOk (List.length (List.replicate (Int.toNat (↑(List.length (x.1)) : Int)) (0 : Int))) ∧ Words (x.1) ∧ Words (List.replicate (Int.toNat (↑(List.length (x.1)) : Int)) (0 : Int)) ∧ (0 : El (Cd.int .u64)) ≤ (0 : Int) ∧ (0 : Int) < (10 : El (Cd.int .u64))) (.lt (tenW (x.1) (Int.toNat (IntKind.wrap .i64 ((↑(List.length (x.1)) : Int) - (1 : Int)) + (1 : El (Cd.int .i64)))) (0 : Int) (List.replicate (Int.toNat (↑(List.length (x.1)) : Int)) (0 : Int))) (fun v0 =>
     .need (List.length v0.2 ≤ List.length v0.2) (.need (lenOk (List.length (List.take (List.length v0.2) v0.2))) (.ret (.tup [(.one (.ds (Cd.int .u32) (trimmed (List.take (List.length v0.2) v0.2)))), (.one (.v (.int .u32 (IntKind.wrap .u32 v0.1))))])))))))
theorem tr_ptenth_eq (x : Els [(false, .sl (.int .u32))]) : fnP E26t lpTen Try.f75 (encs [(false, .sl (.int .u32))] x) = tr_ptenth x := by kernel_rfl
end Go.Proofs.Ytjijakfcahhioaa
/-
The reference: mul's outer loop, tenth.
-/
set_option linter.unusedSimpArgs false
set_option linter.unusedVariables false
namespace Go.Proofs.Ytjijakfcahhioaa
open Go.RowKit Ax
def outMulO (x : RSpec.X spMulO) (y : RSpec.Y spMulO) (g : RSpec.G spMulO) : T (Exit × List Av × RSpec.Y spMulO × RSpec.G spMulO) :=
  match g with
  | none => .fail
  | some r => .need (0 ≤ x.2.2.1 ∧ x.2.2.1 ≤ x.1.length ∧ r.1.length = x.1.length + x.2.1.length ∧ lenOk r.1.length ∧ Words x.1 ∧ Words x.2.1 ∧ Words r.1 ∧ ∀ j, x.2.2.1.toNat + x.2.1.length ≤ j → j < r.1.length → (r.1 : List Int)[j]? = some 0)
      (.lt (mulW x.2.1 ((x.1 : List Int).drop x.2.2.1.toNat) x.2.2.1.toNat r.1) fun o => .ret (.exit 0, [], y, some (o, r.2)))
theorem pmulO_core (a b : List Int) (i : Int) (y : RSpec.Y spMulO) (xs : List Int) (cap : Nat) (Q : Exit × List Av × RSpec.Y spMulO × RSpec.G spMulO → Prop) (h : (outMulO (a, b, i, ()) y (some (xs, cap))).wp Q) : (tr_pmulO ((a, b, i, ()), y, (xs, cap))).wp fun r => match r with
      | .again x' y' g' => (x'.1.length - x'.2.2.1).toNat < (a.length - i).toNat ∧ (outMulO x' y' g').wp Q
      | .out e avs y' g' => Q (e, avs, y', g') := by
  unfold tr_pmulO
  unfold outMulO at h ⊢
  simp only [T.wp] at h ⊢
  dsimp only [El, vts, spMulO] at h ⊢
  obtain ⟨⟨i0, i1, hl, hlen, ha, hb, hx, hz⟩, hq⟩ := h
  have hlen' := hlen
  unfold lenOk at hlen
  refine ⟨fun hlt => ?_, fun hge => ?_⟩
  · have hlt := of_decide_eq_true hlt
    obtain ⟨u, hu⟩ := elem_at (l := a) i0 hlt
    have hd := drop_at i0 hu
    have eu : a.getD i.toNat 0 = u := by rw [List.getD_eq_getElem?_getD, hu]; rfl
    have hu2 := ha u (List.mem_of_getElem? hu)
    obtain ⟨r1, r2, r3, r4⟩ := mulW_round (n := a.length - i.toNat - 1) hu2 hb hx (by omega) hz
    obtain ⟨s1, s2, s3, s4, s5, s6⟩ := inW_spec hu2 b i.toNat 0 xs hb hx (by omega) (by omega) (by omega)
    rw [hd, mulW] at hq
    rw [eu, Int.toNat_zero, List.drop_zero, Nat.add_zero]
    have e1 : IntKind.i64.wrap (i + (b.length : Int)) = i + b.length := IntWalk.i64_in _ (by omega)
    have e2 : IntKind.i64.wrap (i + 1) = i + 1 := IntWalk.i64_in _ (by omega)
    have e3 : IntKind.u32.wrap (inW u b i.toNat 0 xs).1 = (inW u b i.toNat 0 xs).1 := by rw [IntKind.wrap_u32]; omega
    rw [e1, e2, e3, show (i + (b.length : Int)).toNat = i.toNat + b.length by omega]
    have e4 : (i + 1).toNat = i.toNat + 1 := by omega
    refine ⟨⟨trivial, trivial⟩, ⟨by omega, by omega, i0, by omega, by omega, hlen', ha, hb, hx, by omega, by omega⟩, ⟨by omega, by omega⟩, by omega, ⟨by rw [List.length_set], trivial⟩, by omega, ⟨by omega, by omega, by rw [r2]; exact hl, by rw [r2]; exact hlen', ha, hb, r1, ?_⟩, ?_⟩
    · intro j hj hjl
      rw [e4] at hj
      rw [r2] at hjl
      exact r3 j hj hjl
    · rw [e4]
      rw [e4] at hq
      exact hq
  · have hge := of_decide_eq_false hge
    rw [drop_end (by omega), mulW] at hq
    exact ⟨⟨trivial, trivial⟩, hq⟩
theorem pmulO_ok : LoopOk Try.prog 0 (bodyOf Try.f52 0) (spMulO.run outMulO) :=
  loopR_ok (E := E26) (L := lpMulI) mixed 0 (inner_one (by kernel_rfl) (pmulI_ok 0 (by decide))) spMulO (Nat.zero_le _) outMulO (fun x _ _ => ((List.length x.1 : Int) - x.2.2.1).toNat) (by
    rintro ⟨a, b, i, ⟨⟩⟩ y g Q h
    match g, h with
    | some (xs, cap), h =>
      rw [tr_pmulO_eq ((a, b, i, ()), y, (xs, cap))]
      exact pmulO_core a b i y xs cap Q h
    | none, h => exact h.elim)
noncomputable def lpMul : Loops := manyL [(3, spMulO.run outMulO)]
theorem words_zero (n : Nat) : Words (List.replicate n 0) := fun v hv => by rw [List.eq_of_mem_replicate hv]; omega
theorem val_zero (n : Nat) : valL (List.replicate n 0) = 0 := by
  induction n with
  | zero => rfl
  | succ n ih => rw [List.replicate_succ, valL, ih]; rfl
noncomputable def con_ptenth : Con Try.prog := ⟨75, [], _, cf_ptenth, val_con (E := E26t) (L := lpTen) mixed Try.func75 (many_loops (by kernel_rfl) (by simp) (fun i p hp => by
    match i, hp with
    | 0, hp => cases hp; exact ptenL_ok
    | i + 1, hp => simp at hp)) [(false, .sl (.int .u32))] (fun x => List.length x.1 ≤ 1000000 ∧ Words x.1) (fun x => .tup [.one (.ds (.int .u32) (mg (valL x.1 / 10))), aI .u32 ((valL x.1 % 10 : Nat) : Int)]) fun x hx => by
  rw [tr_ptenth_eq]
  obtain ⟨l, u⟩ := x
  revert l
  intro (l : List Int) (hx : l.length ≤ 1000000 ∧ Words l)
  unfold tr_ptenth
  simp only [T.wp]
  dsimp only [El]
  have e1 : IntKind.i64.wrap ((l.length : Int) - 1) = (l.length : Int) - 1 := IntWalk.i64_in _ (by omega)
  simp only [e1, Int.toNat_natCast, List.length_replicate, Go.maxLen]
  rw [show ((l.length : Int) - 1 + 1).toNat = l.length by omega]
  obtain ⟨h1, h2, h3, h4, h5⟩ := tenW_spec hx.2 l.length 0 (List.replicate l.length 0) (Nat.le_refl _) (by simp) (words_zero _) (by omega) (by omega) (fun j hj => by simp [hj])
  rw [List.take_length, val_zero] at h5
  have ht : List.take (tenW l l.length 0 (List.replicate l.length 0)).2.length (tenW l l.length 0 (List.replicate l.length 0)).2 = (tenW l l.length 0 (List.replicate l.length 0)).2 := List.take_length
  generalize tenW l l.length 0 (List.replicate l.length 0) = o at *
  refine ⟨⟨by omega, trivial, by omega, by omega⟩, ⟨trivial, trivial⟩, ⟨by omega, by omega, trivial, by unfold lenOk; omega, hx.2, words_zero _, by omega, by omega⟩, Nat.le_refl _, by rw [ht]; unfold lenOk; omega, ?_⟩
  have e2 : valL o.2 = valL l / 10 := by omega
  have e3 : IntKind.u32.wrap o.1 = ((valL l % 10 : Nat) : Int) := by rw [IntKind.wrap_u32]; omega
  rw [ht, trimmed_mg h1, e2, e3]
  rfl⟩
noncomputable def E27 : Env Try.prog := E26.add [con_ptenth]
noncomputable def E27m : Env Try.prog := E27.fz [(13, [5])]
end Go.Proofs.Ytjijakfcahhioaa
/-
The reference: mul's run; text's loop.
-/
set_option linter.unusedSimpArgs false
set_option linter.unusedVariables false
namespace Go.Proofs.Ytjijakfcahhioaa
open Go.RowKit Ax
noncomputable def tr_pmul (x : Els [(false, .sl (.int .u32)), (false, .sl (.int .u32))]) : T Av :=
 .need ((0 : Int) ≤ IntKind.wrap .i64 ((↑(List.length (x.1)) : Int) + (↑(List.length x.2.1) : Int)) ∧ IntKind.wrap .i64 ((↑(List.length (x.1)) : Int) + (↑(List.length x.2.1) : Int)) = IntKind.wrap .i64 ((↑(List.length (x.1)) : Int) + (↑(List.length x.2.1) : Int)) ∧ (nat_lit 3 + (1 : Nat)) * Int.toNat (IntKind.wrap .i64 ((↑(List.length (x.1)) : Int) + (↑(List.length x.2.1) : Int))) ≤ (281474976710656 : Nat) ∧ Int.toNat (IntKind.wrap .i64 ((↑(List.length (x.1)) : Int) + (↑(List.length x.2.1) : Int))) ≤ Go.maxLen) (.need (Int.toNat (IntKind.wrap .i64 ((↑(List.length (x.1)) : Int) + (↑(List.length x.2.1) : Int))) = List.length (List.replicate (Int.toNat (IntKind.wrap .i64 ((↑(List.length (x.1)) : Int) + (↑(List.length x.2.1) : Int)))) (0 : Int)) ∧ Int.toNat (IntKind.wrap .i64 ((↑(List.length (x.1)) : Int) + (↑(List.length x.2.1) : Int))) = Int.toNat (IntKind.wrap .i64 ((↑(List.length (x.1)) : Int) + (↑(List.length x.2.1) : Int)))) (.need ((0 : El (Cd.int .i64)) ≤ (0 : Int) ∧ (0 : Int) ≤ (↑(List.length (x.1)) : El (Cd.int .i64)) ∧ List.length (List.replicate (Int.toNat (IntKind.wrap .i64 ((↑(List.length (x.1)) : Int) + (↑(List.length x.2.1) : Int)))) (0 : Int)) = List.length (x.1) + List.length x.2.1 ∧ lenOk (List.length (List.replicate (Int.toNat (IntKind.wrap .i64 ((↑(List.length (x.1)) : Int) + (↑(List.length x.2.1) : Int)))) (0 : Int))) ∧ Words (x.1) ∧ Words x.2.1 ∧ Words (List.replicate (Int.toNat (IntKind.wrap .i64 ((↑(List.length (x.1)) : Int) + (↑(List.length x.2.1) : Int)))) (0 : Int)) ∧ ∀ (j : Nat), Int.toNat (0 : Int) + List.length x.2.1 ≤ j → j < List.length (List.replicate (Int.toNat (IntKind.wrap .i64 ((↑(List.length (x.1)) : Int) + (↑(List.length x.2.1) : Int)))) (0 : Int)) → (List.replicate (Int.toNat (IntKind.wrap .i64 ((↑(List.length (x.1)) : Int) + (↑(List.length x.2.1) : Int)))) (0 : Int))[j]? = Option.some (0 : El (RSpec.c spMulO))) (.lt (mulW x.2.1 (List.drop (Int.toNat (0 : Int)) (x.1)) (Int.toNat (0 : Int)) (List.replicate (Int.toNat (IntKind.wrap .i64 ((↑(List.length (x.1)) : Int) + (↑(List.length x.2.1) : Int)))) (0 : Int))) (fun v0 =>
     .need (List.length v0 ≤ List.length v0) (.need (lenOk (List.length (List.take (List.length v0) v0))) (.ret (.one (.ds (Cd.int .u32) (trimmed (List.take (List.length v0) v0))))))))))
theorem tr_pmul_eq (x : Els [(false, .sl (.int .u32)), (false, .sl (.int .u32))]) : fnP E27m lpMul Try.f52 (encs [(false, .sl (.int .u32)), (false, .sl (.int .u32))] x) = tr_pmul x := by kernel_rfl
noncomputable def tr_ptextL (x : LSpec.X spPtext × LSpec.Y spPtext) : T (Rd spPtext) :=
 .ite (decide ((↑(List.length x.1.1) : Int) > (0 : Int)))
  (.need (List.length x.1.1 ≤ (1000000 : Nat) ∧ Words x.1.1) (.need ((↑(ByteArray.size (bytesOf [IntKind.wrap .u8 (IntKind.wrap .u32 ((48 : Int) + (↑(valL x.1.1 % (10 : Nat)) : Int)))]) + ByteArray.size x.1.2.1) : Int) ≤ IntKind.max .i64) (.lt (bytesOf [IntKind.wrap .u8 (IntKind.wrap .u32 ((48 : Int) + (↑(valL x.1.1 % (10 : Nat)) : Int)))] ++ x.1.2.1) (fun v0 =>
     .ret (.again (mg (valL x.1.1 / (10 : Nat)), (v0, ())) ())))))
  (.ret (.out (Go.Exit.exit (0 : Nat)) [(.one (.v (.string x.1.2.1)))] ()))
theorem tr_ptextL_eq (x : LSpec.X spPtext × LSpec.Y spPtext) : LSpec.round spPtext E27 (fun _ => none) (bodyOf Try.f54 0) x.1 x.2 = tr_ptextL x := by kernel_rfl
end Go.Proofs.Ytjijakfcahhioaa
/-
The reference: mul; text's loop.
-/
set_option linter.unusedSimpArgs false
set_option linter.unusedVariables false
namespace Go.Proofs.Ytjijakfcahhioaa
open Go.RowKit Ax
noncomputable def con_pmul : Con Try.prog := ⟨52, [], _, cf_pmul, val_con (E := E27m) (L := lpMul) mixed Try.func52 (many_loops (by kernel_rfl) (by simp) (fun i p hp => by
    match i, hp with
    | 0, hp => cases hp; exact pmulO_ok
    | i + 1, hp => simp at hp)) [(false, .sl (.int .u32)), (false, .sl (.int .u32))] (fun x => List.length x.1 ≤ 1000000 ∧ List.length x.2.1 ≤ 1000000 ∧ Words x.1 ∧ Words x.2.1) (fun x => .one (.ds (.int .u32) (mg (valL x.1 * valL x.2.1)))) fun x hx => by
  rw [tr_pmul_eq]
  obtain ⟨a, b, u⟩ := x
  revert a b
  intro (a : List Int) (b : List Int) (hx : a.length ≤ 1000000 ∧ b.length ≤ 1000000 ∧ Words a ∧ Words b)
  obtain ⟨l1, l2, wa, wb⟩ := hx
  unfold tr_pmul
  simp only [T.wp]
  dsimp only [El]
  have e1 : IntKind.i64.wrap ((a.length : Int) + b.length) = ((a.length + b.length : Nat) : Int) := by rw [IntWalk.i64_in _ (by omega)]; omega
  simp only [e1, Int.toNat_natCast, List.length_replicate, Go.maxLen, Int.toNat_zero, List.drop_zero]
  obtain ⟨h1, h2, h3⟩ := mulW_spec wb a 0 (List.replicate (a.length + b.length) 0) wa (words_zero _) (by simp) (fun j hj hjl => by simp at hjl; simp [hjl])
  rw [val_zero, Pq.bp_zero] at h3
  have ht : List.take (mulW b a 0 (List.replicate (a.length + b.length) 0)).length (mulW b a 0 (List.replicate (a.length + b.length) 0)) = mulW b a 0 (List.replicate (a.length + b.length) 0) := List.take_length
  rw [List.length_replicate] at h2
  have hz : ∀ j, 0 + b.length ≤ j → j < a.length + b.length → (List.replicate (a.length + b.length) (0 : Int))[j]? = some 0 := fun j _ hj => by simp [hj]
  generalize mulW b a 0 (List.replicate (a.length + b.length) 0) = o at *
  refine ⟨⟨by omega, trivial, by omega, by omega⟩, ⟨trivial, trivial⟩, ⟨by omega, by omega, trivial, by unfold lenOk; omega, wa, wb, words_zero _, hz⟩, Nat.le_refl _, by rw [ht]; unfold lenOk; omega, ?_⟩
  have e2 : valL o = valL a * valL b := by
    have : (valL o : Int) = ((valL a * valL b : Nat) : Int) := by rw [h3, Int.natCast_mul]; omega
    omega
  rw [ht, trimmed_mg h1, e2]⟩
noncomputable def E28 : Env Try.prog := E27.add [con_pmul]
/-- a number's digits, as a text -/
def dgt (x : Nat) : ByteArray := bytesOf (dg x).reverse
theorem bytesOf_app (a b : List Int) : bytesOf (a ++ b) = bytesOf a ++ bytesOf b := by
  have : (bytesOf (a ++ b)).data = (bytesOf a ++ bytesOf b).data := by
    rw [ByteArray.data_append]
    unfold bytesOf
    simp
  exact ByteArray.ext this
theorem dgt_step {x : Nat} (h : x ≠ 0) (s : ByteArray) : dgt x ++ s = dgt (x / 10) ++ (bytesOf [48 + ((x % 10 : Nat) : Int)] ++ s) := by
  unfold dgt
  rw [dg_pos h, List.reverse_cons, bytesOf_app, ByteArray.append_assoc]
theorem dgt_zero (s : ByteArray) : dgt 0 ++ s = s := by
  unfold dgt
  rw [dg_zero]
  exact ByteArray.ext (by rw [ByteArray.data_append]; show (#[] : Array UInt8) ++ s.data = s.data; simp)
def outPtext (x : LSpec.X spPtext) (y : LSpec.Y spPtext) : T (Exit × List Av × LSpec.Y spPtext) :=
  .need ((x.1 : List Int) = mg (valL x.1) ∧ List.length x.1 ≤ 1000 ∧ (dg (valL x.1)).length + ByteArray.size x.2.1 ≤ 1000000) (.ret (.exit 0, [.one (.v (.string (dgt (valL x.1) ++ x.2.1)))], ()))
theorem ptextL_core (m : List Int) (s : ByteArray) (Q : Exit × List Av × LSpec.Y spPtext → Prop) (h : (outPtext (m, s, ()) ()).wp Q) : (tr_ptextL ((m, s, ()), ())).wp fun r => match r with
      | .again x' y' => valL x'.1 < valL m ∧ (outPtext x' y').wp Q
      | .out e avs y' => Q (e, avs, y') := by
  unfold tr_ptextL
  unfold outPtext at h ⊢
  simp only [T.wp] at h ⊢
  dsimp only [El, vts, spPtext] at h ⊢
  obtain ⟨⟨hm, hl, hs⟩, hq⟩ := h
  have hw : Words m := by rw [hm]; exact mg_words _
  refine ⟨fun hgt => ?_, fun hle => ?_⟩
  · have hgt := of_decide_eq_true hgt
    have h0 : valL m ≠ 0 := fun h0 => by rw [h0, mg_zero] at hm; rw [hm] at hgt; simp at hgt
    have e1 : IntKind.u8.wrap (IntKind.u32.wrap ((48 : Int) + ((valL m % 10 : Nat) : Int))) = 48 + ((valL m % 10 : Nat) : Int) := by
      rw [IntWalk.u32_in _ (by omega), IntWalk.u8_in _ (by omega)]
    have hlt : valL m / 10 < valL m := Nat.div_lt_self (by omega) (by omega)
    have hml : (mg (valL m / 10)).length ≤ 1000 := by
      refine mg_len.1 (Nat.lt_trans hlt ?_)
      rw [mg_len, ← hm]; exact hl
    rw [dg_pos h0, List.length_cons] at hs
    rw [dgt_step h0] at hq
    have eb : (bytesOf [48 + ((valL m % 10 : Nat) : Int)]).size = 1 := rfl
    rw [e1, val_mg]
    refine ⟨⟨by omega, hw⟩, ?_, hlt, ⟨rfl, hml, by rw [ByteArray.size_append, eb]; omega⟩, hq⟩
    rw [eb]
    show ((_ : Nat) : Int) ≤ 9223372036854775807
    omega
  · have hle := of_decide_eq_false hle
    have h0 : m = [] := List.length_eq_zero_iff.1 (by omega)
    subst h0
    rw [show valL [] = 0 from rfl, dgt_zero] at hq
    exact hq
theorem ptextL_ok : LoopOk Try.prog 0 (bodyOf Try.f54 0) (spPtext.run outPtext) :=
  loop_ok (E := E27) (L := fun _ => none) mixed 0 (loops_none _ _ _) spPtext (Nat.zero_le _) outPtext (fun x _ => valL x.1) (by
    rintro ⟨m, s, ⟨⟩⟩ ⟨⟩ Q h
    rw [tr_ptextL_eq ((m, s, ()), ())]
    exact ptextL_core m s Q h)
noncomputable def lpPtext : Loops := oneL 4 (spPtext.run outPtext)
end Go.Proofs.Ytjijakfcahhioaa
/-
The reference: text, Mul: their runs.
-/
set_option linter.unusedSimpArgs false
set_option linter.unusedVariables false
namespace Go.Proofs.Ytjijakfcahhioaa
open Go.RowKit Ax
noncomputable def tr_ptext (x : Els [(false, .sl (.int .u32))]) : T Av :=
 .ite ((↑(List.length (x.1)) : Int) == (0 : Int))
  (.ret (.one (.v (.string ({ data := #[(48 : UInt8)] })))))
  (.need (x.1 = mg (valL (x.1)) ∧ List.length (x.1) ≤ (1000 : Nat) ∧ List.length (dg (valL (x.1))) + ByteArray.size { data := #[] } ≤ (1000000 : Nat)) (.ret (.one (.v (.string (dgt (valL (x.1)) ++ { data := #[] }))))))
theorem tr_ptext_eq (x : Els [(false, .sl (.int .u32))]) : fnP E28 lpPtext Try.f54 (encs [(false, .sl (.int .u32))] x) = tr_ptext x := by kernel_rfl
noncomputable def tr_pMul (x : Els [(true, cW), (true, cW)]) : T Av :=
 .need (List.length (mg x.1.2.1) ≤ (1000000 : Nat) ∧ List.length (mg x.2.1.2.1) ≤ (1000000 : Nat) ∧ Words (mg x.1.2.1) ∧ Words (mg x.2.1.2.1)) (.need (lenOk (List.length (mg (valL (mg x.1.2.1) * valL (mg x.2.1.2.1)))) ∧ Words (mg (valL (mg x.1.2.1) * valL (mg x.2.1.2.1)))) (.ite (decide (List.length (trimmed (mg (valL (mg x.1.2.1) * valL (mg x.2.1.2.1)))) ≤ (32 : Nat)))
    (.lt (pW (!(x.1.1 && decide (x.1.2.1 ≠ (0 : Nat))) == (x.2.1.1 && decide (x.2.1.2.1 ≠ (0 : Nat)))) (trimmed (mg (valL (mg x.1.2.1) * valL (mg x.2.1.2.1))))) (fun v0 =>
     .ret (.tup [(.agg [.v (.bool v0.1), .w v0.2]), (.one (.v (.bool (true))))])))
    (.ret (.tup [(.agg [.v (.bool w0.1), .w w0.2]), (.one (.v (.bool (false))))]))))
theorem tr_pMul_eq (x : Els [(true, cW), (true, cW)]) : fnP E28 (fun _ => none) Try.f21 (encs [(true, cW), (true, cW)] x) = tr_pMul x := by kernel_rfl
end Go.Proofs.Ytjijakfcahhioaa
/-
The reference: text, Mul.
-/
set_option linter.unusedSimpArgs false
set_option linter.unusedVariables false
namespace Go.Proofs.Ytjijakfcahhioaa
open Go.RowKit Ax
theorem dgt_end (s : ByteArray) : s ++ (⟨#[]⟩ : ByteArray) = s := ByteArray.ext (by rw [ByteArray.data_append]; show s.data ++ (#[] : Array UInt8) = s.data; simp)
def ptx (x : Nat) : ByteArray := if x = 0 then ⟨#[48]⟩ else dgt x
noncomputable def con_ptext : Con Try.prog := ⟨54, [], _, cf_ptext, val_con (E := E28) (L := lpPtext) mixed Try.func54 (one_loop ptextL_ok (by kernel_rfl)) [(false, .sl (.int .u32))] (fun x => (x.1 : List Int) = mg (valL x.1) ∧ valL x.1 < 2 ^ 1024) (fun x => .one (.v (.string (ptx (valL x.1))))) fun x hx => by
  rw [tr_ptext_eq]
  obtain ⟨l, u⟩ := x
  revert l
  intro (l : List Int) (hx : l = mg (valL l) ∧ valL l < 2 ^ 1024)
  unfold tr_ptext
  simp only [T.wp]
  dsimp only [El]
  obtain ⟨hm, hb⟩ := hx
  have hlen := dg_len hb
  have hb' := Nat.lt_of_lt_of_le hb (bp_ge (k := 1024) 1024 rfl (Nat.le_refl _))
  have hml := mg_len.1 hb'
  rw [← hm] at hml
  have e0 : ByteArray.size (⟨#[]⟩ : ByteArray) = 0 := rfl
  refine ⟨fun h => ?_, fun h => ⟨⟨hm, by omega, by rw [e0]; omega⟩, ?_⟩⟩
  · have h0 : l = [] := List.length_eq_zero_iff.1 (by simp at h; rw [h]; rfl)
    subst h0; rfl
  · rw [dgt_end]
    unfold ptx
    rw [if_neg]
    intro h0
    rw [h0, mg_zero] at hm
    subst hm
    simp at h⟩
theorem trimmed_self (x : Nat) : trimmed (mg x) = mg x := by rw [trimmed_mg (mg_words x), val_mg]
theorem zv_mul (a b : W) : zW a * zW b = Pq.zv (!((a.1 && decide (a.2.1 ≠ 0)) == (b.1 && decide (b.2.1 ≠ 0)))) (a.2.1 * b.2.1) := by
  obtain ⟨s, x, hx⟩ := a
  obtain ⟨t, y, hy⟩ := b
  show Pq.zv s x * Pq.zv t y = Pq.zv (!((s && decide (x ≠ 0)) == (t && decide (y ≠ 0)))) (x * y)
  by_cases h0 : x = 0
  · subst h0
    cases s <;> cases t <;> cases decide (y ≠ 0) <;> simp [Pq.zv]
  · by_cases h1 : y = 0
    · subst h1
      cases s <;> cases t <;> cases decide (x ≠ 0) <;> simp [Pq.zv]
    · rw [decide_eq_true (show x ≠ 0 from h0), decide_eq_true (show y ≠ 0 from h1)]
      cases s <;> cases t <;> simp [Pq.zv, Int.neg_mul, Int.mul_neg]
theorem wOf_zv {n : Bool} {x : Nat} (h : x < Pq.bp 32) : wOf (Pq.zv n x) = (n && decide (x ≠ 0), ⟨x, h⟩) := by
  have ha : (Pq.zv n x).natAbs = x := Pq.zv_abs n x
  unfold wOf
  rw [dif_pos (by rw [ha]; exact h)]
  refine Prod.ext ?_ (Subtype.ext ha)
  cases n with
  | false => simp [Pq.zv]
  | true =>
    simp only [Pq.zv, if_true, Bool.true_and]
    rw [decide_eq_decide]
    omega
noncomputable def con_pMul : Con Try.prog := ⟨21, [], _, cf_pMul, tot_con (E := E28) mixed Try.func21 no_loops [(true, cW), (true, cW)] (fun x => rW (zW x.1 * zW x.2.1)) fun x => by
  rw [tr_pMul_eq]
  obtain ⟨a, b, u⟩ := x
  revert a b
  intro (a : W) (b : W)
  unfold tr_pMul
  simp only [T.wp]
  try dsimp only [El]
  simp only [val_mg, trimmed_self]
  have la := mg_len.1 a.2.2
  have lb := mg_len.1 b.2.2
  have lab : (mg (a.2.1 * b.2.1)).length ≤ 64 := by
    refine mg_len.1 ?_
    have e : Pq.bp 64 = Pq.bp 32 * Pq.bp 32 := by unfold Pq.bp; rw [← Nat.pow_add]
    rw [e]; exact Nat.mul_lt_mul'' a.2.2 b.2.2
  refine ⟨⟨by omega, by omega, mg_words _, mg_words _⟩, ⟨by unfold lenOk; omega, mg_words _⟩, fun h => ?_, fun h => ?_⟩
  · have hb := mg_len.2 (of_decide_eq_true h)
    rw [pW_mg hb]
    unfold rW
    rw [zv_mul, wOf_zv hb]
    have hf : Pq.fits (Pq.zv (!((a.1 && decide (a.2.1 ≠ 0)) == (b.1 && decide (b.2.1 ≠ 0)))) (a.2.1 * b.2.1)) = true := by
      unfold Pq.fits
      rw [Pq.zv_abs]; exact decide_eq_true hb
    rw [hf]; rfl
  · have hb : ¬ a.2.1 * b.2.1 < Pq.bp 32 := fun h' => of_decide_eq_false h (mg_len.1 h')
    have hn : ¬ (zW a * zW b).natAbs < Pq.bp 32 := by rw [zv_mul, Pq.zv_abs]; exact hb
    unfold rW
    have e1 : wOf (zW a * zW b) = w0 := by unfold wOf; rw [dif_neg hn]
    have e2 : Pq.fits (zW a * zW b) = false := by unfold Pq.fits; exact decide_eq_false hn
    rw [e1, e2]; rfl⟩
noncomputable def E29 : Env Try.prog := E28.add [con_ptext, con_pMul]
end Go.Proofs.Ytjijakfcahhioaa
/-
The reference: Text; RatioTextBack: their runs.
-/
set_option linter.unusedSimpArgs false
set_option linter.unusedVariables false
namespace Go.Proofs.Ytjijakfcahhioaa
open Go.RowKit Ax
noncomputable def tr_pText (x : Els [(true, cW)]) : T Av :=
 .ite (x.1.1 && decide (x.1.2.1 ≠ (0 : Nat)))
  (.need (mg x.1.2.1 = mg (valL (mg x.1.2.1)) ∧ valL (mg x.1.2.1) < (2 : Nat) ^ (1024 : Nat)) (.need ((↑(ByteArray.size { data := #[(45 : UInt8)] } + ByteArray.size (ptx (valL (mg x.1.2.1)))) : Int) ≤ IntKind.max .i64) (.lt ({ data := #[(45 : UInt8)] } ++ ptx (valL (mg x.1.2.1))) (fun v0 =>
     .ret (.one (.v (.string (v0))))))))
  (.need (mg x.1.2.1 = mg (valL (mg x.1.2.1)) ∧ valL (mg x.1.2.1) < (2 : Nat) ^ (1024 : Nat)) (.ret (.one (.v (.string (ptx (valL (mg x.1.2.1))))))))
theorem tr_pText_eq (x : Els [(true, cW)]) : fnP E29 (fun _ => none) Try.f22 (encs [(true, cW)] x) = tr_pText x := by kernel_rfl
end Go.Proofs.Ytjijakfcahhioaa
/-
The reference: Text.
-/
set_option linter.unusedSimpArgs false
set_option linter.unusedVariables false
namespace Go.Proofs.Ytjijakfcahhioaa
open Go.RowKit Ax
theorem txt_ptx (b : Bool) (a : Amt) : txt (b, a) = if (b && decide (a.1 ≠ 0)) = true then ⟨#[45]⟩ ++ ptx a.1 else ptx a.1 := by
  unfold txt ptx
  by_cases h : a.1 = 0
  · simp [h]
  · rw [decide_eq_true h, Bool.and_true]
    cases b with
    | false =>
      simp only [h, if_false, Bool.false_eq_true, List.append_nil]
      rfl
    | true =>
      simp only [h, if_false, if_true]
      rw [List.reverse_append, List.reverse_cons, List.reverse_nil, List.nil_append, bytesOf_app]
      rfl
theorem amt_lt (a : Amt) : a.1 < 2 ^ 1024 := bp_le 1024 rfl a.2
noncomputable def con_pText : Con Try.prog := ⟨22, [], _, cf_pText, tot_con (E := E29) mixed Try.func22 no_loops [(true, cW)] (fun x => .one (.v (.string (txt x.1)))) fun x => by
  rw [tr_pText_eq]
  obtain ⟨⟨b, a⟩, u⟩ := x
  revert b a
  intro (b : Bool) (a : Amt)
  unfold tr_pText
  simp only [T.wp, val_mg]
  try dsimp only [El]
  rw [txt_ptx]
  have hs : ByteArray.size (ptx a.1) ≤ 1024 := by
    unfold ptx
    split
    · show 1 ≤ 1024; omega
    · unfold dgt
      rw [bytesOf_size, List.length_reverse]
      exact dg_amt a
  refine ⟨fun h => ⟨⟨trivial, amt_lt a⟩, ?_, ?_⟩, fun h => ⟨⟨trivial, amt_lt a⟩, ?_⟩⟩
  · have : ByteArray.size (⟨#[45]⟩ : ByteArray) = 1 := rfl
    rw [this]
    show ((_ : Nat) : Int) ≤ 9223372036854775807
    omega
  · rw [if_pos h]
  · rw [if_neg (by rw [h]; simp)]⟩
noncomputable def E30 : Env Try.prog := E29.add [con_known, con_pText]
end Go.Proofs.Ytjijakfcahhioaa
/-
RatioTextBack: its run.
-/
set_option linter.unusedSimpArgs false
set_option linter.unusedVariables false
namespace Go.Proofs.Ytjijakfcahhioaa
open Go.RowKit Ax
noncomputable def tr_ltextback (x : Els [(true, cF), (false, .int .u8)]) : T Av :=
 .ite (!true)
  (.ret (.one (.v (.bool (false)))))
  (.ite (!safeF (400 : Int) (x.1))
   (.ret (.one (.v (.bool (true)))))
   (.need (lenOk (ByteArray.size (ftxt (x.1)))) (.ite (Option.isSome (pR (ftxt (x.1))))
     (.lt (Option.getD (pR (ftxt (x.1))) (w0, w0)) (fun v0 =>
      .need (in64 (IntKind.wrap .i64 (IntKind.wrap .i64 x.2.1 + (2 : Int)))) (.need (in64 (IntKind.wrap .i64 (IntKind.wrap .i64 x.2.1 + (2 : Int)))) (.need ((↑(ByteArray.size (txt (wOf (zW x.1.1 * zW (wOf (IntKind.wrap .i64 (IntKind.wrap .i64 x.2.1 + (2 : Int))))))) + ByteArray.size { data := #[(47 : UInt8)] }) : Int) ≤ IntKind.max .i64) (.lt (txt (wOf (zW x.1.1 * zW (wOf (IntKind.wrap .i64 (IntKind.wrap .i64 x.2.1 + (2 : Int)))))) ++ { data := #[(47 : UInt8)] }) (fun v1 =>
          .need ((↑(ByteArray.size v1 + ByteArray.size (txt (wOf (zW x.1.2 * zW (wOf (IntKind.wrap .i64 (IntKind.wrap .i64 x.2.1 + (2 : Int)))))))) : Int) ≤ IntKind.max .i64) (.lt (v1 ++ txt (wOf (zW x.1.2 * zW (wOf (IntKind.wrap .i64 (IntKind.wrap .i64 x.2.1 + (2 : Int))))))) (fun v2 =>
            .need (lenOk (ByteArray.size v2)) (.ite (Option.isSome (pR v2))
              (.lt (Option.getD (pR v2) (w0, w0)) (fun v3 =>
               .need ((↑(ByteArray.size (ftxt (x.1)) + ByteArray.size { data := #[(47 : UInt8), (49 : UInt8)] }) : Int) ≤ IntKind.max .i64) (.lt (ftxt (x.1) ++ { data := #[(47 : UInt8), (49 : UInt8)] }) (fun v4 =>
                 .need (lenOk (ByteArray.size v4)) (.ite (Option.isSome (pR v4))
                   (.lt (Option.getD (pR v4) (w0, w0)) (fun v5 =>
                    .ite (x.1.1.1 == v0.1.1 && (x.1.1.2.1 == v0.1.2.1 && true) && (x.1.2.1 == v0.2.1 && (x.1.2.2.1 == v0.2.2.1 && true) && true))
                     (.ite (!true)
                      (.ret (.one (.v (.bool (!true)))))
                      (.ret (.one (.v (.bool (false))))))
                     (.ret (.one (.v (.bool (false)))))))
                   (.ite (x.1.1.1 == v0.1.1 && (x.1.1.2.1 == v0.1.2.1 && true) && (x.1.2.1 == v0.2.1 && (x.1.2.2.1 == v0.2.2.1 && true) && true))
                    (.ite (!true)
                     (.ret (.one (.v (.bool (!false)))))
                     (.ret (.one (.v (.bool (false))))))
                    (.ret (.one (.v (.bool (false)))))))))))
              (.need ((↑(ByteArray.size (ftxt (x.1)) + ByteArray.size { data := #[(47 : UInt8), (49 : UInt8)] }) : Int) ≤ IntKind.max .i64) (.lt (ftxt (x.1) ++ { data := #[(47 : UInt8), (49 : UInt8)] }) (fun v3 =>
                .need (lenOk (ByteArray.size v3)) (.ite (Option.isSome (pR v3))
                  (.lt (Option.getD (pR v3) (w0, w0)) (fun v4 =>
                   .ite (x.1.1.1 == v0.1.1 && (x.1.1.2.1 == v0.1.2.1 && true) && (x.1.2.1 == v0.2.1 && (x.1.2.2.1 == v0.2.2.1 && true) && true))
                    (.ite (!false)
                     (.ret (.one (.v (.bool (!true)))))
                     (.ret (.one (.v (.bool (false))))))
                    (.ret (.one (.v (.bool (false)))))))
                  (.ite (x.1.1.1 == v0.1.1 && (x.1.1.2.1 == v0.1.2.1 && true) && (x.1.2.1 == v0.2.1 && (x.1.2.2.1 == v0.2.2.1 && true) && true))
                   (.ite (!false)
                    (.ret (.one (.v (.bool (!false)))))
                    (.ret (.one (.v (.bool (false))))))
                   (.ret (.one (.v (.bool (false)))))))))))))))))))
     (.need (in64 (IntKind.wrap .i64 (IntKind.wrap .i64 x.2.1 + (2 : Int)))) (.need (in64 (IntKind.wrap .i64 (IntKind.wrap .i64 x.2.1 + (2 : Int)))) (.need ((↑(ByteArray.size (txt (wOf (zW x.1.1 * zW (wOf (IntKind.wrap .i64 (IntKind.wrap .i64 x.2.1 + (2 : Int))))))) + ByteArray.size { data := #[(47 : UInt8)] }) : Int) ≤ IntKind.max .i64) (.lt (txt (wOf (zW x.1.1 * zW (wOf (IntKind.wrap .i64 (IntKind.wrap .i64 x.2.1 + (2 : Int)))))) ++ { data := #[(47 : UInt8)] }) (fun v0 =>
         .need ((↑(ByteArray.size v0 + ByteArray.size (txt (wOf (zW x.1.2 * zW (wOf (IntKind.wrap .i64 (IntKind.wrap .i64 x.2.1 + (2 : Int)))))))) : Int) ≤ IntKind.max .i64) (.lt (v0 ++ txt (wOf (zW x.1.2 * zW (wOf (IntKind.wrap .i64 (IntKind.wrap .i64 x.2.1 + (2 : Int))))))) (fun v1 =>
           .need (lenOk (ByteArray.size v1)) (.ite (Option.isSome (pR v1))
             (.lt (Option.getD (pR v1) (w0, w0)) (fun v2 =>
              .need ((↑(ByteArray.size (ftxt (x.1)) + ByteArray.size { data := #[(47 : UInt8), (49 : UInt8)] }) : Int) ≤ IntKind.max .i64) (.lt (ftxt (x.1) ++ { data := #[(47 : UInt8), (49 : UInt8)] }) (fun v3 =>
                .need (lenOk (ByteArray.size v3)) (.ite (Option.isSome (pR v3))
                  (.lt (Option.getD (pR v3) (w0, w0)) (fun v4 =>
                   .ret (.one (.v (.bool (false))))))
                  (.ret (.one (.v (.bool (false))))))))))
             (.need ((↑(ByteArray.size (ftxt (x.1)) + ByteArray.size { data := #[(47 : UInt8), (49 : UInt8)] }) : Int) ≤ IntKind.max .i64) (.lt (ftxt (x.1) ++ { data := #[(47 : UInt8), (49 : UInt8)] }) (fun v2 =>
               .need (lenOk (ByteArray.size v2)) (.ite (Option.isSome (pR v2))
                 (.lt (Option.getD (pR v2) (w0, w0)) (fun v3 =>
                  .ret (.one (.v (.bool (false))))))
                 (.ret (.one (.v (.bool (false))))))))))))))))))))
theorem tr_ltextback_eq (x : Els [(true, cF), (false, .int .u8)]) : fnP E30 (fun _ => none) Try.f5 (encs [(true, cF), (false, .int .u8)] x) = tr_ltextback x := by kernel_rfl
end Go.Proofs.Ytjijakfcahhioaa
/-
RatioNear: what its loops carry.
-/
set_option linter.unusedSimpArgs false
set_option linter.unusedVariables false
namespace Go.Proofs.Ytjijakfcahhioaa
open Go.RowKit Ax
abbrev spNearA : LSpec := ⟨170, [(9, false, .int .i64), (10, false, .str), (12, false, .int .i64), (13, false, .int .i64), (14, false, .bool), (15, false, .int .i64)], [(7, 0, 0)], [(27, cF)], fun e => match e with | .ret => [6] | .exit _ => [9, 10, 12, 13, 14] | _ => []⟩
abbrev spNearB : LSpec := ⟨170, [(9, false, .int .i64), (10, false, .str), (12, false, .int .i64), (13, false, .int .i64), (16, false, .int .i64), (17, false, .int .i64)], [(7, 0, 0)], [(27, cF)], fun e => match e with | .exit _ => [9, 10, 12, 13, 16] | _ => []⟩
end Go.Proofs.Ytjijakfcahhioaa
/-
RatioNear: its loops.
-/
set_option linter.unusedSimpArgs false
set_option linter.unusedVariables false
namespace Go.Proofs.Ytjijakfcahhioaa
open Go.RowKit Ax
noncomputable def tr_nearA (x : LSpec.X spNearA × LSpec.Y spNearA) : T (Rd spNearA) :=
 .ite (decide (x.1.2.2.2.2.2.1 < (↑(ByteArray.size x.1.2.1) : Int)))
  (.get (Array.toList (ByteArray.data x.1.2.1)) x.1.2.2.2.2.2.1 (fun v0 =>
   .ite ((↑(UInt8.toNat v0) : Int) == (45 : Int))
    (.ite (x.1.2.2.2.2.2.1 == (0 : Int))
     (.ret (.again (x.1.1, (x.1.2.1, (x.1.2.2.1, (x.1.2.2.2.1, (true, (IntKind.wrap .i64 (x.1.2.2.2.2.2.1 + (1 : Int)), ())))))) (x.2.1, ())))
     (.get (Array.toList (ByteArray.data x.1.2.1)) x.1.2.2.2.2.2.1 (fun v1 =>
      .ite ((↑(UInt8.toNat v1) : Int) == (46 : Int))
       (.ite (decide (x.1.2.2.2.1 < (0 : Int)))
        (.ret (.again (x.1.1, (x.1.2.1, (x.1.2.2.1, (x.1.2.2.2.2.2.1, (x.1.2.2.2.2.1, (IntKind.wrap .i64 (x.1.2.2.2.2.2.1 + (1 : Int)), ())))))) (x.2.1, ())))
        (.get (Array.toList (ByteArray.data x.1.2.1)) x.1.2.2.2.2.2.1 (fun v2 =>
         .ite (decide ((↑(UInt8.toNat v2) : Int) ≥ (48 : Int)))
          (.get (Array.toList (ByteArray.data x.1.2.1)) x.1.2.2.2.2.2.1 (fun v3 =>
           .ite (decide ((↑(UInt8.toNat v3) : Int) ≤ (57 : Int)))
            (.get (Array.toList (ByteArray.data x.1.2.1)) x.1.2.2.2.2.2.1 (fun v4 =>
             .ret (.again (x.1.1, (x.1.2.1, (IntKind.wrap .i64 (IntKind.wrap .i64 (x.1.2.2.1 * (10 : Int)) + IntKind.wrap .i64 (IntKind.wrap .u8 ((↑(UInt8.toNat v4) : Int) - (48 : Int)))), (x.1.2.2.2.1, (x.1.2.2.2.2.1, (IntKind.wrap .i64 (x.1.2.2.2.2.2.1 + (1 : Int)), ())))))) (x.2.1, ()))))
            (.ret (.out (Go.Exit.ret) [(.one (.v (.bool (false))))] (x.2.1, ())))))
          (.ret (.out (Go.Exit.ret) [(.one (.v (.bool (false))))] (x.2.1, ()))))))
       (.get (Array.toList (ByteArray.data x.1.2.1)) x.1.2.2.2.2.2.1 (fun v2 =>
        .ite (decide ((↑(UInt8.toNat v2) : Int) ≥ (48 : Int)))
         (.get (Array.toList (ByteArray.data x.1.2.1)) x.1.2.2.2.2.2.1 (fun v3 =>
          .ite (decide ((↑(UInt8.toNat v3) : Int) ≤ (57 : Int)))
           (.get (Array.toList (ByteArray.data x.1.2.1)) x.1.2.2.2.2.2.1 (fun v4 =>
            .ret (.again (x.1.1, (x.1.2.1, (IntKind.wrap .i64 (IntKind.wrap .i64 (x.1.2.2.1 * (10 : Int)) + IntKind.wrap .i64 (IntKind.wrap .u8 ((↑(UInt8.toNat v4) : Int) - (48 : Int)))), (x.1.2.2.2.1, (x.1.2.2.2.2.1, (IntKind.wrap .i64 (x.1.2.2.2.2.2.1 + (1 : Int)), ())))))) (x.2.1, ()))))
           (.ret (.out (Go.Exit.ret) [(.one (.v (.bool (false))))] (x.2.1, ())))))
         (.ret (.out (Go.Exit.ret) [(.one (.v (.bool (false))))] (x.2.1, ()))))))))
    (.get (Array.toList (ByteArray.data x.1.2.1)) x.1.2.2.2.2.2.1 (fun v1 =>
     .ite ((↑(UInt8.toNat v1) : Int) == (46 : Int))
      (.ite (decide (x.1.2.2.2.1 < (0 : Int)))
       (.ret (.again (x.1.1, (x.1.2.1, (x.1.2.2.1, (x.1.2.2.2.2.2.1, (x.1.2.2.2.2.1, (IntKind.wrap .i64 (x.1.2.2.2.2.2.1 + (1 : Int)), ())))))) (x.2.1, ())))
       (.get (Array.toList (ByteArray.data x.1.2.1)) x.1.2.2.2.2.2.1 (fun v2 =>
        .ite (decide ((↑(UInt8.toNat v2) : Int) ≥ (48 : Int)))
         (.get (Array.toList (ByteArray.data x.1.2.1)) x.1.2.2.2.2.2.1 (fun v3 =>
          .ite (decide ((↑(UInt8.toNat v3) : Int) ≤ (57 : Int)))
           (.get (Array.toList (ByteArray.data x.1.2.1)) x.1.2.2.2.2.2.1 (fun v4 =>
            .ret (.again (x.1.1, (x.1.2.1, (IntKind.wrap .i64 (IntKind.wrap .i64 (x.1.2.2.1 * (10 : Int)) + IntKind.wrap .i64 (IntKind.wrap .u8 ((↑(UInt8.toNat v4) : Int) - (48 : Int)))), (x.1.2.2.2.1, (x.1.2.2.2.2.1, (IntKind.wrap .i64 (x.1.2.2.2.2.2.1 + (1 : Int)), ())))))) (x.2.1, ()))))
           (.ret (.out (Go.Exit.ret) [(.one (.v (.bool (false))))] (x.2.1, ())))))
         (.ret (.out (Go.Exit.ret) [(.one (.v (.bool (false))))] (x.2.1, ()))))))
      (.get (Array.toList (ByteArray.data x.1.2.1)) x.1.2.2.2.2.2.1 (fun v2 =>
       .ite (decide ((↑(UInt8.toNat v2) : Int) ≥ (48 : Int)))
        (.get (Array.toList (ByteArray.data x.1.2.1)) x.1.2.2.2.2.2.1 (fun v3 =>
         .ite (decide ((↑(UInt8.toNat v3) : Int) ≤ (57 : Int)))
          (.get (Array.toList (ByteArray.data x.1.2.1)) x.1.2.2.2.2.2.1 (fun v4 =>
           .ret (.again (x.1.1, (x.1.2.1, (IntKind.wrap .i64 (IntKind.wrap .i64 (x.1.2.2.1 * (10 : Int)) + IntKind.wrap .i64 (IntKind.wrap .u8 ((↑(UInt8.toNat v4) : Int) - (48 : Int)))), (x.1.2.2.2.1, (x.1.2.2.2.2.1, (IntKind.wrap .i64 (x.1.2.2.2.2.2.1 + (1 : Int)), ())))))) (x.2.1, ()))))
          (.ret (.out (Go.Exit.ret) [(.one (.v (.bool (false))))] (x.2.1, ())))))
        (.ret (.out (Go.Exit.ret) [(.one (.v (.bool (false))))] (x.2.1, ())))))))))
  (.ret (.out (Go.Exit.exit (0 : Nat)) [(.one (.v (.int .i64 x.1.1))), (.one (.v (.string x.1.2.1))), (.one (.v (.int .i64 x.1.2.2.1))), (.one (.v (.int .i64 x.1.2.2.2.1))), (.one (.v (.bool x.1.2.2.2.2.1)))] (x.2.1, ())))
theorem tr_nearA_eq (x : LSpec.X spNearA × LSpec.Y spNearA) : LSpec.round spNearA EM (fun _ => none) (bodyOf Try.f7 0) x.1 x.2 = tr_nearA x := by kernel_rfl
noncomputable def tr_nearB (x : LSpec.X spNearB × LSpec.Y spNearB) : T (Rd spNearB) :=
 .ite (decide (x.1.2.2.2.2.2.1 < x.1.1))
  (.ret (.again (x.1.1, (x.1.2.1, (x.1.2.2.1, (x.1.2.2.2.1, (IntKind.wrap .i64 (x.1.2.2.2.2.1 * (10 : Int)), (IntKind.wrap .i64 (x.1.2.2.2.2.2.1 + (1 : Int)), ())))))) (x.2.1, ())))
  (.ret (.out (Go.Exit.exit (3 : Nat)) [(.one (.v (.int .i64 x.1.1))), (.one (.v (.string x.1.2.1))), (.one (.v (.int .i64 x.1.2.2.1))), (.one (.v (.int .i64 x.1.2.2.2.1))), (.one (.v (.int .i64 x.1.2.2.2.2.1)))] (x.2.1, ())))
theorem tr_nearB_eq (x : LSpec.X spNearB × LSpec.Y spNearB) : LSpec.round spNearB EM (fun _ => none) (bodyOf Try.f7 1) x.1 x.2 = tr_nearB x := by kernel_rfl
end Go.Proofs.Ytjijakfcahhioaa
/-
RatioNear: its loops, proved.
-/
set_option linter.unusedSimpArgs false
set_option linter.unusedVariables false
namespace Go.Proofs.Ytjijakfcahhioaa
open Go.RowKit Ax
theorem get_iff {α : Type} {l : List α} {i : Int} {c : α} {p : α → Prop} (h0 : 0 ≤ i) (hc : l[i.toNat]? = some c) : (∃ x, 0 ≤ i ∧ l[i.toNat]? = some x ∧ p x) ↔ p c :=
  ⟨fun ⟨x, _, h, hp⟩ => by rw [hc] at h; cases h; exact hp, fun h => ⟨c, h0, hc, h⟩⟩
/-- a decimal's bytes, read -/
def scn : List UInt8 → Int → Int → Int → Bool → Option (Int × Int × Bool)
  | [], _, v, a, n => some (v, a, n)
  | c :: r, i, v, a, n =>
    if (c.toNat : Int) = 45 ∧ i = 0 then scn r (i + 1) v a true
    else if (c.toNat : Int) = 46 ∧ a < 0 then scn r (i + 1) v i n
    else if 48 ≤ (c.toNat : Int) ∧ (c.toNat : Int) ≤ 57 then scn r (i + 1) (v * 10 + ((c.toNat : Int) - 48)) a n
    else none
theorem scn_mono : ∀ (l : List UInt8) (i v a : Int) (n : Bool) (r : Int × Int × Bool), 0 ≤ v → scn l i v a n = some r → v ≤ r.1
  | [], i, v, a, n, r, _, h => by cases h; exact Int.le_refl _
  | c :: t, i, v, a, n, r, h0, h => by
    unfold scn at h
    split at h
    · exact scn_mono t _ v a true r h0 h
    · split at h
      · exact scn_mono t _ v i n r h0 h
      · split at h
        · have := scn_mono t _ _ a n r (by omega) h
          omega
        · cases h
def NearInv (s : ByteArray) (v a : Int) (n : Bool) (i : Int) : Prop := 0 ≤ i ∧ i ≤ s.size ∧ s.size ≤ 100 ∧ 0 ≤ v ∧ ∃ r, scn (s.data.toList.drop i.toNat) i v a n = some r ∧ r.1 ≤ 4611686018427387904
def outNearA (x : LSpec.X spNearA) (y : LSpec.Y spNearA) : T (Exit × List Av × LSpec.Y spNearA) :=
  .need (NearInv x.2.1 x.2.2.1 x.2.2.2.1 x.2.2.2.2.1 x.2.2.2.2.2.1)
    (.lt ((scn ((ByteArray.data x.2.1).toList.drop x.2.2.2.2.2.1.toNat) x.2.2.2.2.2.1 x.2.2.1 x.2.2.2.1 x.2.2.2.2.1).getD (0, 0, false)) fun r => .ret (.exit 0, [aI .i64 x.1, .one (.v (.string x.2.1)), aI .i64 r.1, aI .i64 r.2.1, aB r.2.2], y))
theorem nearA_core (k : Int) (s : ByteArray) (v a : Int) (n : Bool) (i : Int) (y : LSpec.Y spNearA) (Q : Exit × List Av × LSpec.Y spNearA → Prop) (h : (outNearA (k, s, v, a, n, i, ()) y).wp Q) : (tr_nearA ((k, s, v, a, n, i, ()), y)).wp fun r => match r with
      | .again x' y' => ((ByteArray.size x'.2.1 : Int) - x'.2.2.2.2.2.1).toNat < (s.size - i).toNat ∧ (outNearA x' y').wp Q
      | .out e avs y' => Q (e, avs, y') := by
  unfold tr_nearA
  unfold outNearA at h ⊢
  simp only [T.wp] at h ⊢
  dsimp only [El, vts] at h ⊢
  obtain ⟨⟨h0, h1, h100, hv, r, hr, hr1⟩, hq⟩ := h
  have hsz : s.size = s.data.toList.length := by rw [Array.length_toList]; rfl
  have hl : lenOk s.data.toList.length := by unfold lenOk; omega
  refine ⟨fun hlt => ?_, fun hge => ?_⟩
  · have hlt := of_decide_eq_true hlt
    rw [hsz] at hlt
    obtain ⟨c, hc⟩ := elem_at h0 hlt
    have hd := drop_at h0 hc
    rw [hd] at hr hq
    rw [wrap_next h0 hlt hl]
    simp only [get_iff h0 hc]
    have hc8 : c.toNat < 256 := UInt8.toNat_lt c
    have key : ∀ (v' a' : Int) (n' : Bool), 0 ≤ v' → scn (c :: s.data.toList.drop (i + 1).toNat) i v a n = scn (s.data.toList.drop (i + 1).toNat) (i + 1) v' a' n' →
        ((s.size : Int) - (i + 1)).toNat < ((s.size : Int) - i).toNat ∧ NearInv s v' a' n' (i + 1) ∧ Q (Exit.exit 0, [aI .i64 k, .one (.v (.string s)), aI .i64 ((scn (s.data.toList.drop (i + 1).toNat) (i + 1) v' a' n').getD (0, 0, false)).1, aI .i64 ((scn (s.data.toList.drop (i + 1).toNat) (i + 1) v' a' n').getD (0, 0, false)).2.1, aB ((scn (s.data.toList.drop (i + 1).toNat) (i + 1) v' a' n').getD (0, 0, false)).2.2], y) := fun v' a' n' hv' e => by
      rw [e] at hr hq
      exact ⟨by omega, ⟨by omega, by omega, h100, hv', r, hr, hr1⟩, hq⟩
    have e1 : scn (c :: s.data.toList.drop (i + 1).toNat) i v a n = if (c.toNat : Int) = 45 ∧ i = 0 then scn (s.data.toList.drop (i + 1).toNat) (i + 1) v a true
        else if (c.toNat : Int) = 46 ∧ a < 0 then scn (s.data.toList.drop (i + 1).toNat) (i + 1) v i n
        else if 48 ≤ (c.toNat : Int) ∧ (c.toNat : Int) ≤ 57 then scn (s.data.toList.drop (i + 1).toNat) (i + 1) (v * 10 + ((c.toNat : Int) - 48)) a n
        else none := rfl
    have dig : 48 ≤ (c.toNat : Int) ∧ (c.toNat : Int) ≤ 57 → scn (c :: s.data.toList.drop (i + 1).toNat) i v a n = scn (s.data.toList.drop (i + 1).toNat) (i + 1) (v * 10 + ((c.toNat : Int) - 48)) a n ∧
        IntKind.i64.wrap (IntKind.i64.wrap (v * 10) + IntKind.i64.wrap (IntKind.u8.wrap ((c.toNat : Int) - 48))) = v * 10 + ((c.toNat : Int) - 48) := fun hd => by
      have e2 : scn (c :: s.data.toList.drop (i + 1).toNat) i v a n = scn (s.data.toList.drop (i + 1).toNat) (i + 1) (v * 10 + ((c.toNat : Int) - 48)) a n := by
        rw [e1, if_neg (by omega), if_neg (by omega), if_pos hd]
      refine ⟨e2, ?_⟩
      rw [e2] at hr
      have := scn_mono _ _ _ _ _ r (by omega) hr
      rw [IntKind.wrap_u8]
      rw [show ((c.toNat : Int) - 48) % 256 = (c.toNat : Int) - 48 from by omega]
      rw [IntWalk.i64_in (v * 10) (by omega), IntWalk.i64_in ((c.toNat : Int) - 48) (by omega), IntWalk.i64_in _ (by omega)]
    have bad : scn (c :: s.data.toList.drop (i + 1).toNat) i v a n = none → False := fun e => by rw [e] at hr; cases hr
    have last : ¬ ((c.toNat : Int) = 45 ∧ i = 0) → ¬ ((c.toNat : Int) = 46 ∧ a < 0) → ¬ (48 ≤ (c.toNat : Int) ∧ (c.toNat : Int) ≤ 57) → False := fun h1 h2 h3 => bad (by rw [e1, if_neg h1, if_neg h2, if_neg h3])
    have fin : ¬ ((c.toNat : Int) = 45 ∧ i = 0) → ¬ ((c.toNat : Int) = 46 ∧ a < 0) → (decide ((c.toNat : Int) ≥ 48) = true → (decide ((c.toNat : Int) ≤ 57) = true →
        ((s.size : Int) - (i + 1)).toNat < ((s.size : Int) - i).toNat ∧ NearInv s (IntKind.i64.wrap (IntKind.i64.wrap (v * 10) + IntKind.i64.wrap (IntKind.u8.wrap ((c.toNat : Int) - 48)))) a n (i + 1) ∧ Q (Exit.exit 0, [aI .i64 k, .one (.v (.string s)), aI .i64 ((scn (s.data.toList.drop (i + 1).toNat) (i + 1) (IntKind.i64.wrap (IntKind.i64.wrap (v * 10) + IntKind.i64.wrap (IntKind.u8.wrap ((c.toNat : Int) - 48)))) a n).getD (0, 0, false)).1, aI .i64 ((scn (s.data.toList.drop (i + 1).toNat) (i + 1) (IntKind.i64.wrap (IntKind.i64.wrap (v * 10) + IntKind.i64.wrap (IntKind.u8.wrap ((c.toNat : Int) - 48)))) a n).getD (0, 0, false)).2.1, aB ((scn (s.data.toList.drop (i + 1).toNat) (i + 1) (IntKind.i64.wrap (IntKind.i64.wrap (v * 10) + IntKind.i64.wrap (IntKind.u8.wrap ((c.toNat : Int) - 48)))) a n).getD (0, 0, false)).2.2], y)) ∧ (decide ((c.toNat : Int) ≤ 57) = false → Q (Exit.ret, [.one (.v (.bool false))], y))) ∧ (decide ((c.toNat : Int) ≥ 48) = false → Q (Exit.ret, [.one (.v (.bool false))], y)) := fun h1 h2 => by
      refine ⟨fun h3 => ⟨fun h4 => ?_, fun h4 => ?_⟩, fun h3 => ?_⟩
      · have h3 := of_decide_eq_true h3
        have h4 := of_decide_eq_true h4
        obtain ⟨e2, e3⟩ := dig ⟨h3, h4⟩
        rw [e3]
        exact key _ _ _ (by omega) e2
      · have h4 := of_decide_eq_false h4
        exact (last h1 h2 (by omega)).elim
      · have h3 := of_decide_eq_false h3
        exact (last h1 h2 (by omega)).elim
    refine ⟨fun h45 => ⟨fun hi => ?_, fun hi => ?_⟩, fun h45 => ?_⟩
    · have h45 : (c.toNat : Int) = 45 := by simpa using h45
      have hi : i = 0 := by simpa using hi
      exact key v a true hv (by rw [e1, if_pos ⟨h45, hi⟩])
    · have h45 : (c.toNat : Int) = 45 := by simpa using h45
      have hi : ¬ i = 0 := by simpa using hi
      refine ⟨fun h46 => ?_, fun h46 => fin (by omega) (by omega)⟩
      have h46 : (c.toNat : Int) = 46 := by simpa using h46
      omega
    · have h45 : ¬ (c.toNat : Int) = 45 := by simpa using h45
      refine ⟨fun h46 => ⟨fun ha => ?_, fun ha => ?_⟩, fun h46 => ?_⟩
      · have h46 : (c.toNat : Int) = 46 := by simpa using h46
        have ha := of_decide_eq_true ha
        exact key v i n hv (by rw [e1, if_neg (by omega), if_pos ⟨h46, ha⟩])
      · have ha := of_decide_eq_false ha
        exact fin (by omega) (by omega)
      · have h46 : ¬ (c.toNat : Int) = 46 := by simpa using h46
        exact fin (by omega) (by omega)
  · have hge := of_decide_eq_false hge
    rw [drop_end (by omega)] at hr hq
    exact hq
theorem nearA_ok : LoopOk Try.prog 0 (bodyOf Try.f7 0) (spNearA.run outNearA) :=
  loop_ok (E := EM) (L := fun _ => none) mixed 0 (loops_none _ _ _) spNearA (Nat.zero_le _) outNearA (fun x _ => ((ByteArray.size x.2.1 : Int) - x.2.2.2.2.2.1).toNat) (by
    rintro ⟨k, s, v, a, n, i, ⟨⟩⟩ y Q h
    rw [tr_nearA_eq ((k, s, v, a, n, i, ()), y)]
    exact nearA_core k s v a n i y Q h)
def outNearB (x : LSpec.X spNearB) (y : LSpec.Y spNearB) : T (Exit × List Av × LSpec.Y spNearB) :=
  .need (0 ≤ x.2.2.2.2.2.1 ∧ x.2.2.2.2.2.1 ≤ x.1 ∧ x.1 ≤ 9 ∧ x.2.2.2.2.1 = 10 ^ x.2.2.2.2.2.1.toNat) (.ret (.exit 3, [aI .i64 x.1, .one (.v (.string x.2.1)), aI .i64 x.2.2.1, aI .i64 x.2.2.2.1, aI .i64 (10 ^ (Int.toNat x.1))], y))
theorem ten_b {n : Nat} (h : n ≤ 9) : (0 : Int) < 10 ^ n ∧ (10 : Int) ^ n ≤ 1000000000 := by
  have h1 : (10 : Nat) ^ n ≤ 10 ^ 9 := Nat.pow_le_pow_right (by decide) h
  have h2 : 0 < (10 : Nat) ^ n := Nat.pow_pos (by decide)
  have e : (10 : Int) ^ n = ((10 ^ n : Nat) : Int) := by simp
  rw [e]
  omega
theorem nearB_core (k : Int) (s : ByteArray) (v a t i : Int) (y : LSpec.Y spNearB) (Q : Exit × List Av × LSpec.Y spNearB → Prop) (h : (outNearB (k, s, v, a, t, i, ()) y).wp Q) : (tr_nearB ((k, s, v, a, t, i, ()), y)).wp fun r => match r with
      | .again x' y' => (x'.1 - x'.2.2.2.2.2.1).toNat < (k - i).toNat ∧ (outNearB x' y').wp Q
      | .out e avs y' => Q (e, avs, y') := by
  unfold tr_nearB
  unfold outNearB at h ⊢
  simp only [T.wp] at h ⊢
  dsimp only [El, vts] at h ⊢
  obtain ⟨⟨h0, h1, h9, ht⟩, hq⟩ := h
  subst ht
  refine ⟨fun hlt => ?_, fun hge => ?_⟩
  · have hlt := of_decide_eq_true hlt
    have hb := ten_b (n := i.toNat) (by omega)
    rw [IntWalk.i64_in (i + 1) (by omega), IntWalk.i64_in _ (by omega), show (i + 1).toNat = i.toNat + 1 from by omega, Int.pow_succ]
    exact ⟨by omega, ⟨by omega, by omega, h9, rfl⟩, hq⟩
  · have hge := of_decide_eq_false hge
    obtain rfl : i = k := by omega
    exact hq
theorem nearB_ok : LoopOk Try.prog 0 (bodyOf Try.f7 1) (spNearB.run outNearB) :=
  loop_ok (E := EM) (L := fun _ => none) mixed 0 (loops_none _ _ _) spNearB (Nat.zero_le _) outNearB (fun x _ => (x.1 - x.2.2.2.2.2.1).toNat) (by
    rintro ⟨k, s, v, a, t, i, ⟨⟩⟩ y Q h
    rw [tr_nearB_eq ((k, s, v, a, t, i, ()), y)]
    exact nearB_core k s v a t i y Q h)
noncomputable def lpNear : Loops := manyL [(10, spNearA.run outNearA), (23, spNearB.run outNearB)]
end Go.Proofs.Ytjijakfcahhioaa
