import Derived.ProofKit
import Derived.OpenShut
import Derived.Deep.Slices
import Derived.Test.YtjijakfcahhioaaRows
import Derived.Test.YtjijakfcahhioaaK4
/-
Fractions: what Cmp, Add, Mul, Div come to.
-/
set_option linter.unusedSimpArgs false
set_option linter.unusedVariables false
namespace Go.Proofs.Ytjijakfcahhioaa
open Go.RowKit Ax
theorem len2 {α : Type} (x y : α) : lenOk (List.length [x, y]) := by
  unfold lenOk; rw [show [x, y].length = 2 from rfl]; omega
theorem rcmp_ok (x : Els [(true, cF), (true, cF)]) : (tr_rcmp x).wp (· = ansA false (.int .i64) (both x.1 x.2.1) (cq (qF x.1) (qF x.2.1)) (0 : Int)) := by
  obtain ⟨x, y, u⟩ := x
  revert x y
  intro (x : F) (y : F)
  unfold tr_rcmp
  simp only [T.wp]
  rw [all_both]
  refine ⟨fun h => ?_, fun h => ⟨len2 _ _, fun hb => ?_, fun hb => ?_⟩⟩
  · rw [both_sm h]
    rw [Bool.and_eq_true] at h
    obtain ⟨a1, a2, a3⟩ := sm_qF h.1
    obtain ⟨b1, b2, b3⟩ := sm_qF h.2
    rw [mul_w a1 b2, mul_w b1 a2, cz_q a3 b3]
    rfl
  · rw [show both x y = false from by simpa using hb]; rfl
  · have hb' : both x y = true := by simpa using hb
    obtain ⟨h1, h2⟩ := both_iff.1 hb'
    obtain ⟨a1, a2, a3⟩ := safe_b h1
    obtain ⟨b1, b2, b3⟩ := safe_b h2
    have k1 := b_le (mul_b a1 b2)
    have k2 := b_le (mul_b b1 a2)
    rw [hb', fits_b k1, fits_b k2, zW_b k1, zW_b k2, cz_q a3 b3]
    rfl
theorem radd_ok (x : Els [(true, cF), (true, cF)]) : (tr_radd x).wp (· = ansF (both x.1 x.2.1) (rOf (qF x.1 + qF x.2.1))) := by
  obtain ⟨x, y, u⟩ := x
  revert x y
  intro (x : F) (y : F)
  unfold tr_radd
  simp only [T.wp]
  rw [all_both]
  refine ⟨fun h => ?_, fun h => ⟨len2 _ _, fun hb => ?_, fun hb => ?_⟩⟩
  · rw [both_sm h]
    rw [Bool.and_eq_true] at h
    obtain ⟨a1, a2, a3⟩ := sm_qF h.1
    obtain ⟨b1, b2, b3⟩ := sm_qF h.2
    have m1 := mul_s a1 b2
    have m2 := mul_s b1 a2
    have m3 := mul_s a2 b2
    have hp := Int.mul_pos a3 b3
    rw [mul_w a1 b2, mul_w b1 a2, mul_w a2 b2, IntWalk.i64_in (zW x.1 * zW y.2 + zW y.1 * zW x.2) (by omega), ← add_q a3 b3]
    exact ⟨⟨⟨by omega, by omega⟩, ⟨by omega, by omega⟩, by omega⟩, rfl⟩
  · rw [show both x y = false from by simpa using hb]; rfl
  · have hb' : both x y = true := by simpa using hb
    obtain ⟨h1, h2⟩ := both_iff.1 hb'
    obtain ⟨a1, a2, a3⟩ := safe_b h1
    obtain ⟨b1, b2, b3⟩ := safe_b h2
    have k1 := mul_b a1 b2
    have k2 := mul_b b1 a2
    have k3 := b_le (mul_b a2 b2)
    have k4 := add_b k1 k2
    have hp := Int.mul_pos a3 b3
    rw [hb', fits_b (b_le k1), fits_b (b_le k2), fits_b k3, zW_b (b_le k1), zW_b (b_le k2), fits_b k4]
    have hnew := new_b k4 k3 (by omega)
    refine ⟨fun e => (by cases e), fun _ => ⟨fun e => (by cases e), fun _ => ⟨fun _ => ?_, fun e => absurd hnew (of_decide_eq_false e)⟩⟩⟩
    rw [newF_b k4 k3, ← add_q a3 b3]; rfl
theorem rmul_ok (x : Els [(true, cF), (true, cF)]) : (tr_rmul x).wp (· = ansF (both x.1 x.2.1) (rOf (qF x.1 * qF x.2.1))) := by
  obtain ⟨x, y, u⟩ := x
  revert x y
  intro (x : F) (y : F)
  unfold tr_rmul
  simp only [T.wp]
  rw [all_both]
  refine ⟨fun h => ?_, fun h => ⟨len2 _ _, fun hb => ?_, fun hb => ?_⟩⟩
  · rw [both_sm h]
    rw [Bool.and_eq_true] at h
    obtain ⟨a1, a2, a3⟩ := sm_qF h.1
    obtain ⟨b1, b2, b3⟩ := sm_qF h.2
    have m1 := mul_s a1 b1
    have m3 := mul_s a2 b2
    have hp := Int.mul_pos a3 b3
    rw [mul_w a1 b1, mul_w a2 b2, ← mul_q]
    exact ⟨⟨⟨by omega, by omega⟩, ⟨by omega, by omega⟩, by omega⟩, rfl⟩
  · rw [show both x y = false from by simpa using hb]; rfl
  · have hb' : both x y = true := by simpa using hb
    obtain ⟨h1, h2⟩ := both_iff.1 hb'
    obtain ⟨a1, a2, a3⟩ := safe_b h1
    obtain ⟨b1, b2, b3⟩ := safe_b h2
    have k1 := b_le (mul_b a1 b1)
    have k3 := b_le (mul_b a2 b2)
    have hp := Int.mul_pos a3 b3
    rw [hb', fits_b k1, fits_b k3]
    have hnew := new_b k1 k3 (by omega)
    refine ⟨fun e => (by cases e), fun _ => ⟨fun _ => ?_, fun e => absurd hnew (of_decide_eq_false e)⟩⟩
    rw [newF_b k1 k3, ← mul_q]; rfl
theorem rdiv_ok (x : Els [(true, cF), (true, cF)]) : (tr_rdiv x).wp (· = ansF (both x.1 x.2.1 && decide (qF x.2.1 ≠ 0)) (rOf (qF x.1 / qF x.2.1))) := by
  obtain ⟨x, y, u⟩ := x
  revert x y
  intro (x : F) (y : F)
  unfold tr_rdiv
  simp only [T.wp]
  rw [all_both]
  have zero : ∀ (b3 : 0 < zW y.2), ((Pq.cz (zW y.1) 0 == 0) = true ↔ qF y = 0) := fun b3 => by
    rw [q_zero b3, beq_iff_eq, cz_eq]
  have core : both x y = true → (qF y ≠ 0) → zW x.1 * zW y.2 = zW x.1 * zW y.2 ∧ Pq.fits (zW x.1 * zW y.2) = true ∧ Pq.fits (zW x.2 * zW y.1) = true ∧ NewOk (wOf (zW x.1 * zW y.2)) (wOf (zW x.2 * zW y.1)) ∧ newF (wOf (zW x.1 * zW y.2)) (wOf (zW x.2 * zW y.1)) = rOf (qF x / qF y) := fun hb hq => by
    obtain ⟨h1, h2⟩ := both_iff.1 hb
    obtain ⟨a1, a2, a3⟩ := safe_b h1
    obtain ⟨b1, b2, b3⟩ := safe_b h2
    have k1 := b_le (mul_b a1 b2)
    have k3 := b_le (mul_b a2 b1)
    have hy : zW y.1 ≠ 0 := fun e => hq ((q_zero b3).2 e)
    have hne : zW x.2 * zW y.1 ≠ 0 := Int.mul_ne_zero (by omega) hy
    exact ⟨rfl, fits_b k1, fits_b k3, new_b k1 k3 hne, by rw [newF_b k1 k3, div_q]⟩
  refine ⟨fun h => ⟨fun hz => ?_, fun hz => ?_⟩, fun h => ⟨len2 _ _, fun hb => ?_, fun hb => ⟨fun hz => ?_, fun hz => ?_⟩⟩⟩
  · have hb := both_sm h
    rw [Bool.and_eq_true] at h
    obtain ⟨a1, a2, a3⟩ := sm_qF h.1
    obtain ⟨b1, b2, b3⟩ := sm_qF h.2
    have hz' : zW y.1 ≠ 0 := by simpa using hz
    have hq : qF y ≠ 0 := fun e => hz' ((q_zero b3).1 e)
    have m1 := mul_s a1 b2
    have m3 := mul_s a2 b1
    have hne : zW x.2 * zW y.1 ≠ 0 := Int.mul_ne_zero (by omega) hz'
    rw [hb, decide_eq_true hq, mul_w a1 b2, mul_w a2 b1, ← div_q]
    exact ⟨⟨⟨by omega, by omega⟩, ⟨by omega, by omega⟩, hne⟩, rfl⟩
  · have hb := both_sm h
    rw [Bool.and_eq_true] at h
    obtain ⟨b1, b2, b3⟩ := sm_qF h.2
    have hz' : zW y.1 = 0 := by simpa using hz
    have hq : qF y = 0 := (q_zero b3).2 hz'
    refine ⟨len2 _ _, fun e => ?_, fun e => ⟨fun e2 => ?_, fun e2 => ?_⟩⟩
    · rw [hb] at e; cases e
    · rw [decide_eq_false (fun k => k hq), Bool.and_false]; rfl
    · have := (zero b3).2 hq
      rw [this] at e2; cases e2
  · rw [show both x y = false from by simpa using hb]; rfl
  · have hb' : both x y = true := by simpa using hb
    have b3 := (safe_b (both_iff.1 hb').2).2.2
    rw [decide_eq_false (fun k => k ((zero b3).1 hz)), Bool.and_false]; rfl
  · have hb' : both x y = true := by simpa using hb
    have b3 := (safe_b (both_iff.1 hb').2).2.2
    have hq : qF y ≠ 0 := fun e => by rw [(zero b3).2 e] at hz; cases hz
    obtain ⟨_, f1, f2, hnew, e⟩ := core hb' hq
    rw [hb', decide_eq_true hq, f1, f2]
    refine ⟨fun e => (by cases e), fun _ => ⟨fun _ => ?_, fun e => absurd hnew (of_decide_eq_false e)⟩⟩
    rw [e]; rfl
noncomputable def con_rcmp : Con Try.prog := ⟨16, [], _, cf_rcmp, ans_con0 (E := E6) mixed Try.func16 no_loops [(true, cF), (true, cF)] false (.int .i64) (fun x => both x.1 x.2.1) (fun x => cq (qF x.1) (qF x.2.1)) (fun _ => (0 : Int)) fun x => by rw [tr_rcmp_eq]; exact rcmp_ok x⟩
noncomputable def con_radd : Con Try.prog := ⟨15, [], _, cf_radd, ans_con0 (E := E6) mixed Try.func15 no_loops [(true, cF), (true, cF)] true cF (fun x => both x.1 x.2.1) (fun x => rOf (qF x.1 + qF x.2.1)) (fun _ => (w0, w0)) fun x => by rw [tr_radd_eq]; exact radd_ok x⟩
noncomputable def con_rmul : Con Try.prog := ⟨28, [], _, cf_rmul, ans_con0 (E := E6) mixed Try.func28 no_loops [(true, cF), (true, cF)] true cF (fun x => both x.1 x.2.1) (fun x => rOf (qF x.1 * qF x.2.1)) (fun _ => (w0, w0)) fun x => by rw [tr_rmul_eq]; exact rmul_ok x⟩
noncomputable def con_rdiv : Con Try.prog := ⟨29, [], _, cf_rdiv, ans_con0 (E := E6) mixed Try.func29 no_loops [(true, cF), (true, cF)] true cF (fun x => both x.1 x.2.1 && decide (qF x.2.1 ≠ 0)) (fun x => rOf (qF x.1 / qF x.2.1)) (fun _ => (w0, w0)) fun x => by rw [tr_rdiv_eq]; exact rdiv_ok x⟩
noncomputable def E7 : Env Try.prog := ⟨con_rcmp :: con_radd :: con_rmul :: con_rdiv :: E6.con, E6.zero, E6.cod, E6.sure⟩
theorem cf_rsum (xs : Array Value) (w : World) : (callFunc 24 xs).run Try.prog w = .ok (.enter 24 xs) w := by kernel_rfl
theorem cf_rleast (xs : Array Value) (w : World) : (callFunc 23 xs).run Try.prog w = .ok (.enter 23 xs) w := by kernel_rfl
theorem cf_rfloor (xs : Array Value) (w : World) : (callFunc 11 xs).run Try.prog w = .ok (.enter 11 xs) w := by kernel_rfl
end Go.Proofs.Ytjijakfcahhioaa
/-
Fractions: Sub, Floor, the loops of Sum and Least.
-/
set_option linter.unusedSimpArgs false
set_option linter.unusedVariables false
namespace Go.Proofs.Ytjijakfcahhioaa
open Go.RowKit Ax
def spSum : LSpec := ⟨29, [(11, false, .sl cF), (12, false, .int .i64), (13, false, .int .i64)], [(2, 0, 0), (4, 1, 0)], [(27, cF), (27, cF)], fun e => match e with | .ret => [3] | _ => []⟩
def spLeast : LSpec := ⟨37, [(17, false, .sl cF), (18, false, .int .i64), (19, false, .int .i64)], [(2, 0, 0), (4, 1, 0)], [(27, cF), (27, cF)], fun e => match e with | .ret => [3] | _ => []⟩
end Go.Proofs.Ytjijakfcahhioaa
/-
Fractions: Sub, Floor, the loops of Sum and Least.
-/
set_option linter.unusedSimpArgs false
set_option linter.unusedVariables false
namespace Go.Proofs.Ytjijakfcahhioaa
open Go.RowKit Ax
noncomputable def tr_rsub (x : Els [(true, cF), (true, cF)]) : T Av :=
 .ite (Ax.smB (x.1) && Ax.smB (Prod.fst (Prod.snd x)))
  (.need (Ax.in63 (Go.IntKind.wrap Go.IntKind.i64 (Go.IntKind.wrap Go.IntKind.i64 (Ax.zW (Prod.fst (x.1)) * Ax.zW (Prod.snd (Prod.fst (Prod.snd x)))) - Go.IntKind.wrap Go.IntKind.i64 (Ax.zW (Prod.fst (Prod.fst (Prod.snd x))) * Ax.zW (Prod.snd (x.1))))) ∧ Ax.in63 (Go.IntKind.wrap Go.IntKind.i64 (Ax.zW (Prod.snd (x.1)) * Ax.zW (Prod.snd (Prod.fst (Prod.snd x))))) ∧ Go.IntKind.wrap Go.IntKind.i64 (Ax.zW (Prod.snd (x.1)) * Ax.zW (Prod.snd (Prod.fst (Prod.snd x)))) ≠ (0 : Ax.El (Ax.Cd.int Go.IntKind.i64))) (.lt (Ax.rOf (Rat.divInt (Go.IntKind.wrap Go.IntKind.i64 (Go.IntKind.wrap Go.IntKind.i64 (Ax.zW (Prod.fst (x.1)) * Ax.zW (Prod.snd (Prod.fst (Prod.snd x)))) - Go.IntKind.wrap Go.IntKind.i64 (Ax.zW (Prod.fst (Prod.fst (Prod.snd x))) * Ax.zW (Prod.snd (x.1))))) (Go.IntKind.wrap Go.IntKind.i64 (Ax.zW (Prod.snd (x.1)) * Ax.zW (Prod.snd (Prod.fst (Prod.snd x))))))) (fun v0 =>
    .ret (.tup [(.agg [.v (.bool (Prod.fst (Prod.fst v0))), .w (Prod.snd (Prod.fst v0)), .v (.bool (Prod.fst (Prod.snd v0))), .w (Prod.snd (Prod.snd v0))]), (.one (.v (.bool (Bool.true))))]))))
  (.need (Ax.lenOk (List.length [x.1, Prod.fst (Prod.snd x)])) (.ite (!List.all [x.1, Prod.fst (Prod.snd x)] (Ax.safeF (500 : Int)))
    (.ret (.tup [(.agg [.v (.bool (Prod.fst Ax.w0)), .w (Prod.snd Ax.w0), .v (.bool (Prod.fst Ax.w0)), .w (Prod.snd Ax.w0)]), (.one (.v (.bool (Bool.false))))]))
    (.ite (Ax.both (x.1) (Ax.wOf (-Ax.zW (Prod.fst (Prod.fst (Prod.snd x)))), Prod.snd (Prod.fst (Prod.snd x))))
     (.lt (Ax.rOf (Ax.qF (x.1) + Ax.qF (Ax.wOf (-Ax.zW (Prod.fst (Prod.fst (Prod.snd x)))), Prod.snd (Prod.fst (Prod.snd x))))) (fun v0 =>
      .ret (.tup [(.agg [.v (.bool (Prod.fst (Prod.fst v0))), .w (Prod.snd (Prod.fst v0)), .v (.bool (Prod.fst (Prod.snd v0))), .w (Prod.snd (Prod.snd v0))]), (.one (.v (.bool (Bool.true))))])))
     (.ret (.tup [(.agg [.v (.bool (Prod.fst Ax.w0)), .w (Prod.snd Ax.w0), .v (.bool (Prod.fst Ax.w0)), .w (Prod.snd Ax.w0)]), (.one (.v (.bool (Bool.false))))])))))
theorem tr_rsub_eq (x : Els [(true, cF), (true, cF)]) : fnP E7 (fun _ => none) Try.f26 (encs [(true, cF), (true, cF)] x) = tr_rsub x := by kernel_rfl
noncomputable def tr_rfloor (x : Els [(true, cF)]) : T Av :=
 .ite (!Ax.okF (x.1))
  (.ret (.tup [(.agg [.v (.bool (Prod.fst Ax.w0)), .w (Prod.snd Ax.w0)]), (.one (.v (.bool (Bool.false))))]))
  (.lt (Ax.zW (Prod.fst (x.1))) (fun v0 =>
   .lt (Ax.zW (Prod.snd (x.1))) (fun v1 =>
    .ite (!Prod.fst (Ax.wOf (if v1 = (0 : Int) then (0 : Int) else Int.tmod v0 v1)))
     (.ret (.tup [(.agg [.v (.bool (Prod.fst (Ax.wOf (if v1 = (0 : Int) then (0 : Int) else Int.tdiv v0 v1)))), .w (Prod.snd (Ax.wOf (if v1 = (0 : Int) then (0 : Int) else Int.tdiv v0 v1)))]), (.one (.v (.bool (Bool.true))))]))
     (.lt (Ax.zW (Ax.wOf (if v1 = (0 : Int) then (0 : Int) else Int.tdiv v0 v1)) - Ax.zW (Ax.wOf (1 : Int))) (fun v2 =>
      .ret (.tup [(.agg [.v (.bool (Prod.fst (Ax.wOf v2))), .w (Prod.snd (Ax.wOf v2))]), (.one (.v (.bool (Pq.fits v2))))]))))))
theorem tr_rfloor_eq (x : Els [(true, cF)]) : fnP E7 (fun _ => none) Try.f11 (encs [(true, cF)] x) = tr_rfloor x := by kernel_rfl
noncomputable def tr_sumL (x : LSpec.X spSum × LSpec.Y spSum) : T (Rd spSum) :=
 .ite (Decidable.decide (Prod.fst (Prod.snd (Prod.snd (x.1))) < Prod.fst (Prod.snd (x.1))))
  (.get (Prod.fst (x.1)) (Prod.fst (Prod.snd (Prod.snd (x.1)))) (fun v0 =>
   .ite (Ax.both (Prod.fst (Prod.snd (Prod.snd x))) v0)
    (.lt (Ax.rOf (Ax.qF (Prod.fst (Prod.snd (Prod.snd x))) + Ax.qF v0)) (fun v1 =>
     .ite (!Bool.true)
      (.ret (.out (Go.Exit.ret) [(.one (.v (.bool (Bool.false))))] ((Ax.w0, Ax.w0), (Prod.fst (Prod.snd (Prod.snd x)), ()))))
      (.ret (.again (Prod.fst (x.1), (Prod.fst (Prod.snd (x.1)), (Go.IntKind.wrap Go.IntKind.i64 (Prod.fst (Prod.snd (Prod.snd (x.1))) + (1 : Int)), ()))) (Prod.fst (Prod.snd x), (v1, ()))))))
    (.ite (!Bool.false)
     (.ret (.out (Go.Exit.ret) [(.one (.v (.bool (Bool.false))))] ((Ax.w0, Ax.w0), (Prod.fst (Prod.snd (Prod.snd x)), ()))))
     (.ret (.again (Prod.fst (x.1), (Prod.fst (Prod.snd (x.1)), (Go.IntKind.wrap Go.IntKind.i64 (Prod.fst (Prod.snd (Prod.snd (x.1))) + (1 : Int)), ()))) (Prod.fst (Prod.snd x), ((Ax.w0, Ax.w0), ())))))))
  (.ret (.out (Go.Exit.exit (0 : Nat)) [] (Prod.fst (Prod.snd x), (Prod.fst (Prod.snd (Prod.snd x)), ()))))
theorem tr_sumL_eq (x : LSpec.X spSum × LSpec.Y spSum) : LSpec.round spSum E7 (fun _ => none) (bodyOf Try.f24 0) x.1 x.2 = tr_sumL x := by kernel_rfl
noncomputable def tr_leastL (x : LSpec.X spLeast × LSpec.Y spLeast) : T (Rd spLeast) :=
 .ite (Decidable.decide (Prod.fst (Prod.snd (Prod.snd (x.1))) < Prod.fst (Prod.snd (x.1))))
  (.get (Prod.fst (x.1)) (Prod.fst (Prod.snd (Prod.snd (x.1)))) (fun v0 =>
   .ite (Ax.both v0 (Prod.fst (Prod.snd (Prod.snd x))))
    (.lt (Ax.cq (Ax.qF v0) (Ax.qF (Prod.fst (Prod.snd (Prod.snd x))))) (fun v1 =>
     .ite (!Bool.true)
      (.ret (.out (Go.Exit.ret) [(.one (.v (.bool (Bool.false))))] ((Ax.w0, Ax.w0), (Prod.fst (Prod.snd (Prod.snd x)), ()))))
      (.ite (Decidable.decide (v1 < (0 : Int)))
       (.ret (.again (Prod.fst (x.1), (Prod.fst (Prod.snd (x.1)), (Go.IntKind.wrap Go.IntKind.i64 (Prod.fst (Prod.snd (Prod.snd (x.1))) + (1 : Int)), ()))) (Prod.fst (Prod.snd x), (v0, ()))))
       (.ret (.again (Prod.fst (x.1), (Prod.fst (Prod.snd (x.1)), (Go.IntKind.wrap Go.IntKind.i64 (Prod.fst (Prod.snd (Prod.snd (x.1))) + (1 : Int)), ()))) (Prod.fst (Prod.snd x), (Prod.fst (Prod.snd (Prod.snd x)), ())))))))
    (.ite (!Bool.false)
     (.ret (.out (Go.Exit.ret) [(.one (.v (.bool (Bool.false))))] ((Ax.w0, Ax.w0), (Prod.fst (Prod.snd (Prod.snd x)), ()))))
     (.ite (Decidable.decide ((0 : Int) < (0 : Int)))
      (.ret (.again (Prod.fst (x.1), (Prod.fst (Prod.snd (x.1)), (Go.IntKind.wrap Go.IntKind.i64 (Prod.fst (Prod.snd (Prod.snd (x.1))) + (1 : Int)), ()))) (Prod.fst (Prod.snd x), (v0, ()))))
      (.ret (.again (Prod.fst (x.1), (Prod.fst (Prod.snd (x.1)), (Go.IntKind.wrap Go.IntKind.i64 (Prod.fst (Prod.snd (Prod.snd (x.1))) + (1 : Int)), ()))) (Prod.fst (Prod.snd x), (Prod.fst (Prod.snd (Prod.snd x)), ()))))))))
  (.ret (.out (Go.Exit.exit (0 : Nat)) [] (Prod.fst (Prod.snd x), (Prod.fst (Prod.snd (Prod.snd x)), ()))))
theorem tr_leastL_eq (x : LSpec.X spLeast × LSpec.Y spLeast) : LSpec.round spLeast E7 (fun _ => none) (bodyOf Try.f23 0) x.1 x.2 = tr_leastL x := by kernel_rfl
def sumS : F → List F → Bool × F
  | t, [] => (true, t)
  | t, x :: r => if both t x then sumS (rOf (qF t + qF x)) r else (false, t)
def leastS : F → List F → Bool × F
  | t, [] => (true, t)
  | t, x :: r => if both x t then leastS (if cq (qF x) (qF t) < 0 then x else t) r else (false, t)
def outSum (x : LSpec.X spSum) (y : LSpec.Y spSum) : T (Exit × List Av × LSpec.Y spSum) :=
  .need (x.2.1 = x.1.length ∧ 0 ≤ x.2.2.1 ∧ x.2.2.1 ≤ x.1.length ∧ lenOk x.1.length) (.lt (sumS y.2.1 (x.1.drop x.2.2.1.toNat)) fun r => .ite r.1 (.ret (.exit 0, [], (y.1, r.2, ()))) (.ret (.ret, [aB false], ((w0, w0), r.2, ()))))
theorem sumL_core (l : List F) (n i : Int) (r t : F) (Q : Exit × List Av × LSpec.Y spSum → Prop) (h : (outSum (l, n, i, ()) (r, t, ())).wp Q) : (tr_sumL ((l, n, i, ()), (r, t, ()))).wp fun r => match r with
      | .again x' y' => (x'.1.length - x'.2.2.1).toNat < (l.length - i).toNat ∧ (outSum x' y').wp Q
      | .out e avs y' => Q (e, avs, y') := by
  unfold tr_sumL
  unfold outSum at h ⊢
  simp only [T.wp] at h ⊢
  dsimp only [El, vts] at h ⊢
  obtain ⟨⟨hn, h0, h1, hl⟩, ht, hf⟩ := h
  refine ⟨fun hlt => ?_, fun hge => ?_⟩
  · have hlt := of_decide_eq_true hlt
    rw [hn] at hlt
    obtain ⟨v, hv⟩ := elem_at h0 hlt
    have hd := drop_at h0 hv
    refine ⟨v, h0, hv, fun hs => ⟨fun e => (by cases e), fun _ => ?_⟩, fun hs => ⟨fun _ => ?_, fun e => (by cases e)⟩⟩
    · rw [wrap_next h0 hlt hl]
      rw [hd, sumS, if_pos hs] at ht hf
      exact ⟨by omega, ⟨hn, by omega, by omega, hl⟩, ht, hf⟩
    · rw [hd, sumS, if_neg (by rw [hs]; simp)] at hf
      exact hf rfl
  · have hge := of_decide_eq_false hge
    rw [hn] at hge
    rw [drop_end (by omega), sumS] at ht
    exact ht rfl
theorem sumL_ok : LoopOk Try.prog 0 (bodyOf Try.f24 0) (spSum.run outSum) :=
  loop_ok (E := E7) (L := fun _ => none) mixed 0 (loops_none _ _ _) spSum (Nat.zero_le _) outSum (fun x _ => (x.1.length - x.2.2.1).toNat) (by
    rintro ⟨l, n, i, ⟨⟩⟩ ⟨r, t, ⟨⟩⟩ Q h
    rw [tr_sumL_eq ((l, n, i, ()), (r, t, ()))]
    exact sumL_core l n i r t Q h)
noncomputable def lpSum : Loops := oneL 3 (spSum.run outSum)
def outLeast (x : LSpec.X spLeast) (y : LSpec.Y spLeast) : T (Exit × List Av × LSpec.Y spLeast) :=
  .need (x.2.1 = x.1.length ∧ 0 ≤ x.2.2.1 ∧ x.2.2.1 ≤ x.1.length ∧ lenOk x.1.length) (.lt (leastS y.2.1 (x.1.drop x.2.2.1.toNat)) fun r => .ite r.1 (.ret (.exit 0, [], (y.1, r.2, ()))) (.ret (.ret, [aB false], ((w0, w0), r.2, ()))))
theorem leastL_core (l : List F) (n i : Int) (r t : F) (Q : Exit × List Av × LSpec.Y spLeast → Prop) (h : (outLeast (l, n, i, ()) (r, t, ())).wp Q) : (tr_leastL ((l, n, i, ()), (r, t, ()))).wp fun r => match r with
      | .again x' y' => (x'.1.length - x'.2.2.1).toNat < (l.length - i).toNat ∧ (outLeast x' y').wp Q
      | .out e avs y' => Q (e, avs, y') := by
  unfold tr_leastL
  unfold outLeast at h ⊢
  simp only [T.wp] at h ⊢
  dsimp only [El, vts] at h ⊢
  obtain ⟨⟨hn, h0, h1, hl⟩, ht, hf⟩ := h
  refine ⟨fun hlt => ?_, fun hge => ?_⟩
  · have hlt := of_decide_eq_true hlt
    rw [hn] at hlt
    obtain ⟨v, hv⟩ := elem_at h0 hlt
    have hd := drop_at h0 hv
    refine ⟨v, h0, hv, fun hs => ⟨fun e => (by cases e), fun _ => ⟨fun hc => ?_, fun hc => ?_⟩⟩, fun hs => ⟨fun _ => ?_, fun e => (by cases e)⟩⟩
    · rw [wrap_next h0 hlt hl]
      rw [hd, leastS, if_pos hs, if_pos (of_decide_eq_true hc)] at ht hf
      exact ⟨by omega, ⟨hn, by omega, by omega, hl⟩, ht, hf⟩
    · rw [wrap_next h0 hlt hl]
      rw [hd, leastS, if_pos hs, if_neg (of_decide_eq_false hc)] at ht hf
      exact ⟨by omega, ⟨hn, by omega, by omega, hl⟩, ht, hf⟩
    · rw [hd, leastS, if_neg (by rw [hs]; simp)] at hf
      exact hf rfl
  · have hge := of_decide_eq_false hge
    rw [hn] at hge
    rw [drop_end (by omega), leastS] at ht
    exact ht rfl
theorem leastL_ok : LoopOk Try.prog 0 (bodyOf Try.f23 0) (spLeast.run outLeast) :=
  loop_ok (E := E7) (L := fun _ => none) mixed 0 (loops_none _ _ _) spLeast (Nat.zero_le _) outLeast (fun x _ => (x.1.length - x.2.2.1).toNat) (by
    rintro ⟨l, n, i, ⟨⟩⟩ ⟨r, t, ⟨⟩⟩ Q h
    rw [tr_leastL_eq ((l, n, i, ()), (r, t, ()))]
    exact leastL_core l n i r t Q h)
noncomputable def lpLeast : Loops := oneL 5 (spLeast.run outLeast)
theorem rsub_ok (x : Els [(true, cF), (true, cF)]) : (tr_rsub x).wp (· = ansF (both x.1 x.2.1) (rOf (qF x.1 - qF x.2.1))) := by
  obtain ⟨x, y, u⟩ := x
  revert x y
  intro (x : F) (y : F)
  unfold tr_rsub
  simp only [T.wp]
  rw [all_both]
  refine ⟨fun h => ?_, fun h => ⟨len2 _ _, fun hb => ?_, fun hb => ?_⟩⟩
  · rw [both_sm h]
    rw [Bool.and_eq_true] at h
    obtain ⟨a1, a2, a3⟩ := sm_qF h.1
    obtain ⟨b1, b2, b3⟩ := sm_qF h.2
    have m1 := mul_s a1 b2
    have m2 := mul_s b1 a2
    have m3 := mul_s a2 b2
    have hp := Int.mul_pos a3 b3
    rw [mul_w a1 b2, mul_w b1 a2, mul_w a2 b2, IntWalk.i64_in (zW x.1 * zW y.2 - zW y.1 * zW x.2) (by omega), ← sub_q a3 b3]
    exact ⟨⟨⟨by omega, by omega⟩, ⟨by omega, by omega⟩, by omega⟩, rfl⟩
  · rw [show both x y = false from by simpa using hb]; rfl
  · have hb' : both x y = true := by simpa using hb
    rw [hb', neg_both hb', neg_q, ← Rat.sub_eq_add_neg]
    exact ⟨fun _ => rfl, fun e => (by cases e)⟩
theorem rfloor_ok (x : Els [(true, cF)]) : (tr_rfloor x).wp (· = ansA true cW (okF x.1) (wOf (qF x.1).floor) w0) := by
  obtain ⟨x, u⟩ := x
  revert x
  intro (x : F)
  unfold tr_rfloor
  simp only [T.wp]
  refine ⟨fun h => ?_, fun h => ?_⟩
  · rw [show okF x = false from by simpa using h]; rfl
  · have hok : OkF x := of_decide_eq_true (show okF x = true from by simpa using h)
    have hpos := hok.2.1
    obtain ⟨k1, k2⟩ := floor_law hok
    rw [show okF x = true from by simpa using h, if_neg (by omega), if_neg (by omega)]
    refine ⟨fun hr => ?_, fun hr => ?_⟩
    · rw [k1 (by simpa using hr)]; rfl
    · obtain ⟨e1, e2⟩ := k2 (by simpa using hr)
      rw [e1, e2]; rfl
end Go.Proofs.Ytjijakfcahhioaa
/-
Fractions: Sum, Least.
-/
set_option linter.unusedSimpArgs false
set_option linter.unusedVariables false
namespace Go.Proofs.Ytjijakfcahhioaa
open Go.RowKit Ax
noncomputable def tr_rsum (x : Els [(false, .sl cF)]) : T Av :=
 .need ((↑(List.length (x.1)) : Int) = (↑(List.length (x.1)) : Ax.El (Ax.Cd.int Go.IntKind.i64)) ∧ (0 : Ax.El (Ax.Cd.int Go.IntKind.i64)) ≤ (0 : Int) ∧ (0 : Int) ≤ (↑(List.length (x.1)) : Ax.El (Ax.Cd.int Go.IntKind.i64)) ∧ Ax.lenOk (List.length (x.1))) (.lt (Go.Proofs.Ytjijakfcahhioaa.sumS (Ax.w0, Ax.wOf (1 : Int)) (List.drop (Int.toNat (0 : Int)) (x.1))) (fun v0 =>
   .ite (Prod.fst v0)
    (.ret (.tup [(.agg [.v (.bool (Prod.fst (Prod.fst (Prod.snd v0)))), .w (Prod.snd (Prod.fst (Prod.snd v0))), .v (.bool (Prod.fst (Prod.snd (Prod.snd v0)))), .w (Prod.snd (Prod.snd (Prod.snd v0)))]), (.one (.v (.bool (Bool.true))))]))
    (.ret (.tup [(.agg [.v (.bool (Prod.fst Ax.w0)), .w (Prod.snd Ax.w0), .v (.bool (Prod.fst Ax.w0)), .w (Prod.snd Ax.w0)]), (.one (.v (.bool (Bool.false))))]))))
theorem tr_rsum_eq (x : Els [(false, .sl cF)]) : fnP E7 lpSum Try.f24 (encs [(false, .sl cF)] x) = tr_rsum x := by kernel_rfl
noncomputable def tr_rleast (x : Els [(false, .sl cF)]) : T Av :=
 .ite ((↑(List.length (x.1)) : Int) == (0 : Int))
  (.ret (.tup [(.agg [.v (.bool (Prod.fst Ax.w0)), .w (Prod.snd Ax.w0), .v (.bool (Prod.fst Ax.w0)), .w (Prod.snd Ax.w0)]), (.one (.v (.bool (Bool.false))))]))
  (.get (x.1) ((0 : Int)) (fun v0 =>
   .need ((0 : Int) ≤ (1 : Int) ∧ (1 : Int) ≤ (↑(List.length (x.1)) : Int) ∧ (↑(List.length (x.1)) : Int) ≤ (↑(List.length (x.1)) : Int)) (.need ((↑(List.length (List.drop (Int.toNat (1 : Int)) (List.take (Int.toNat (↑(List.length (x.1)) : Int)) (x.1)))) : Int) = (↑(List.length (List.drop (Int.toNat (1 : Int)) (List.take (Int.toNat (↑(List.length (x.1)) : Int)) (x.1)))) : Ax.El (Ax.Cd.int Go.IntKind.i64)) ∧ (0 : Ax.El (Ax.Cd.int Go.IntKind.i64)) ≤ (0 : Int) ∧ (0 : Int) ≤ (↑(List.length (List.drop (Int.toNat (1 : Int)) (List.take (Int.toNat (↑(List.length (x.1)) : Int)) (x.1)))) : Ax.El (Ax.Cd.int Go.IntKind.i64)) ∧ Ax.lenOk (List.length (List.drop (Int.toNat (1 : Int)) (List.take (Int.toNat (↑(List.length (x.1)) : Int)) (x.1))))) (.lt (Go.Proofs.Ytjijakfcahhioaa.leastS v0 (List.drop (Int.toNat (0 : Int)) (List.drop (Int.toNat (1 : Int)) (List.take (Int.toNat (↑(List.length (x.1)) : Int)) (x.1))))) (fun v1 =>
      .ite (Prod.fst v1)
       (.ret (.tup [(.agg [.v (.bool (Prod.fst (Prod.fst (Prod.snd v1)))), .w (Prod.snd (Prod.fst (Prod.snd v1))), .v (.bool (Prod.fst (Prod.snd (Prod.snd v1)))), .w (Prod.snd (Prod.snd (Prod.snd v1)))]), (.one (.v (.bool (Bool.true))))]))
       (.ret (.tup [(.agg [.v (.bool (Prod.fst Ax.w0)), .w (Prod.snd Ax.w0), .v (.bool (Prod.fst Ax.w0)), .w (Prod.snd Ax.w0)]), (.one (.v (.bool (Bool.false))))])))))))
theorem tr_rleast_eq (x : Els [(false, .sl cF)]) : fnP E7 lpLeast Try.f23 (encs [(false, .sl cF)] x) = tr_rleast x := by kernel_rfl
noncomputable def con_rsub : Con Try.prog := ⟨26, [], _, cf_rsub, ans_con0 (E := E7) mixed Try.func26 no_loops [(true, cF), (true, cF)] true cF (fun x => both x.1 x.2.1) (fun x => rOf (qF x.1 - qF x.2.1)) (fun _ => (w0, w0)) fun x => by rw [tr_rsub_eq]; exact rsub_ok x⟩
noncomputable def con_rfloor : Con Try.prog := ⟨11, [], _, cf_rfloor, ans_con0 (E := E7) mixed Try.func11 no_loops [(true, cF)] true cW (fun x => okF x.1) (fun x => wOf (qF x.1).floor) (fun _ => w0) fun x => by rw [tr_rfloor_eq]; exact rfloor_ok x⟩
/-- a sum, if every step may be taken -/
def sumF (l : List F) : Bool × F := sumS (w0, wOf 1) l
def leastF : List F → Bool × F
  | [] => (false, (w0, w0))
  | x :: r => leastS x r
noncomputable def con_rsum : Con Try.prog := ⟨24, [], _, cf_rsum, ans_con (E := E7) (L := lpSum) mixed Try.func24 (one_loop sumL_ok (by kernel_rfl)) [(false, .sl cF)] (fun x => lenOk x.1.length) true cF (fun x => (sumF x.1).1) (fun x => (sumF x.1).2) (fun _ => (w0, w0)) fun x hx => by
  rw [tr_rsum_eq]
  unfold tr_rsum
  simp only [T.wp]
  dsimp only [El]
  refine ⟨⟨by simp, by simp, by simp, hx⟩, fun h => ?_, fun h => ?_⟩
  · simp only [Int.toNat_zero, List.drop_zero] at h ⊢; unfold sumF; rw [h]; rfl
  · simp only [Int.toNat_zero, List.drop_zero] at h ⊢; unfold sumF; rw [h]; rfl⟩
noncomputable def con_rleast : Con Try.prog := ⟨23, [], _, cf_rleast, ans_con (E := E7) (L := lpLeast) mixed Try.func23 (one_loop leastL_ok (by kernel_rfl)) [(false, .sl cF)] (fun x => lenOk x.1.length) true cF (fun x => (leastF x.1).1) (fun x => (leastF x.1).2) (fun _ => (w0, w0)) fun x hx => by
  rw [tr_rleast_eq]
  obtain ⟨l, u⟩ := x
  revert l
  intro (l : List F) (hx : lenOk l.length)
  unfold tr_rleast
  simp only [T.wp]
  dsimp only [El]
  cases l with
  | nil => exact ⟨fun _ => rfl, fun h => by cases h⟩
  | cons f r =>
    refine ⟨fun h => ?_, fun _ => ⟨f, by simp, rfl, ⟨by simp, by simp; omega, by simp⟩, ⟨by simp, by simp, by simp, ?_⟩, fun h => ?_, fun h => ?_⟩⟩
    · simp at h; omega
    · unfold lenOk at hx ⊢; simp at hx ⊢; omega
    · simp only [Int.toNat_zero, List.drop_zero, List.length_cons, Int.toNat_natCast, List.take_succ_cons, show (1 : Int).toNat = 1 from rfl, List.drop_succ_cons, List.take_length] at h ⊢; rw [show leastF (f :: r) = leastS f r from rfl, h]; rfl
    · simp only [Int.toNat_zero, List.drop_zero, List.length_cons, Int.toNat_natCast, List.take_succ_cons, show (1 : Int).toNat = 1 from rfl, List.drop_succ_cons, List.take_length] at h ⊢; rw [show leastF (f :: r) = leastS f r from rfl, h]; rfl⟩
noncomputable def E8 : Env Try.prog := ⟨con_rsub :: con_rfloor :: con_rsum :: con_rleast :: E7.con, E7.zero, E7.cod, E7.sure⟩
end Go.Proofs.Ytjijakfcahhioaa
/-
Texts of numbers: the order of bytes turned about; what a number's amount is asked.
-/
set_option linter.unusedSimpArgs false
set_option linter.unusedVariables false
namespace Go.Proofs.Ytjijakfcahhioaa
open Go.RowKit Ax
theorem cf_reverse (xs : Array Value) (w : World) : (callFunc 73 xs).run Try.prog w = .ok (.enter 73 xs) w := by kernel_rfl
noncomputable def codB : Cod Try.prog := ⟨5, .int .u8, by kernel_rfl, ⟨.int .u8 0, fun w => by kernel_rfl⟩⟩
def spRev : RSpec := ⟨28, [(2, false, .int .i64), (3, false, .int .i64)], [], [], fun _ => [], 0, 5, .int .u8, true⟩
end Go.Proofs.Ytjijakfcahhioaa
/-
Plain laws: a list turned about in place; the digits of a number.
-/
set_option linter.unusedSimpArgs false
set_option linter.unusedVariables false
namespace Ax
/-- the stretch from i to j turned about -/
def revSeg (xs : List Int) (i j : Int) : List Int := (List.range xs.length).map fun (k : Nat) => if i ≤ (k : Int) ∧ (k : Int) ≤ j then xs.getD (i + j - k).toNat 0 else xs.getD k 0
theorem revSeg_len (xs : List Int) (i j : Int) : (revSeg xs i j).length = xs.length := by simp [revSeg]
theorem revSeg_at {xs : List Int} {i j : Int} {k : Nat} (h : k < xs.length) : (revSeg xs i j)[k]? = some (if i ≤ k ∧ (k : Int) ≤ j then xs.getD (i + j - k).toNat 0 else xs.getD k 0) := by
  unfold revSeg
  rw [List.getElem?_map, List.getElem?_range h]; rfl
theorem revSeg_end {xs : List Int} {i j : Int} (h : j ≤ i) : revSeg xs i j = xs := by
  apply List.ext_getElem?
  intro k
  rcases Nat.lt_or_ge k xs.length with hk | hk
  · rw [revSeg_at hk, List.getElem?_eq_getElem hk]
    congr 1
    split
    · rw [show (i + j - k).toNat = k from by omega, List.getD_eq_getElem?_getD, List.getElem?_eq_getElem hk]; rfl
    · rw [List.getD_eq_getElem?_getD, List.getElem?_eq_getElem hk]; rfl
  · rw [List.getElem?_eq_none (by rw [revSeg_len]; exact hk), List.getElem?_eq_none hk]
theorem revSeg_step {xs : List Int} {i j : Int} {a b : Int} (h0 : 0 ≤ i) (hij : i < j) (hj : j < xs.length) (ha : xs[i.toNat]? = some a) (hb : xs[j.toNat]? = some b) : revSeg ((xs.set i.toNat b).set j.toNat a) (i + 1) (j - 1) = revSeg xs i j := by
  apply List.ext_getElem?
  intro k
  rcases Nat.lt_or_ge k xs.length with hk | hk
  · rw [revSeg_at hk, revSeg_at (by simpa using hk)]
    congr 1
    have get : ∀ q : Nat, ((xs.set i.toNat b).set j.toNat a).getD q 0 = if q = j.toNat then a else if q = i.toNat then b else xs.getD q 0 := fun q => by
      simp only [List.getD_eq_getElem?_getD, List.getElem?_set, List.length_set]
      by_cases e1 : j.toNat = q
      · rw [if_pos e1, if_pos (by omega), if_pos e1.symm]; rfl
      · rw [if_neg e1, if_neg (Ne.symm e1)]
        by_cases e2 : i.toNat = q
        · rw [if_pos e2, if_pos (by omega), if_pos e2.symm]; rfl
        · rw [if_neg e2, if_neg (Ne.symm e2)]
    have ga : xs.getD i.toNat 0 = a := by rw [List.getD_eq_getElem?_getD, ha]; rfl
    have gb : xs.getD j.toNat 0 = b := by rw [List.getD_eq_getElem?_getD, hb]; rfl
    by_cases c1 : i + 1 ≤ (k : Int) ∧ (k : Int) ≤ j - 1
    · rw [if_pos c1, if_pos (by omega), get, if_neg (by omega), if_neg (by omega), show i + 1 + (j - 1) - (k : Int) = i + j - k from by omega]
    · rw [if_neg c1, get]
      by_cases e1 : k = j.toNat
      · rw [if_pos e1, if_pos (by omega), show (i + j - (k : Int)).toNat = i.toNat from by omega, ga]
      · rw [if_neg e1]
        by_cases e2 : k = i.toNat
        · rw [if_pos e2, if_pos (by omega), show (i + j - (k : Int)).toNat = j.toNat from by omega, gb]
        · rw [if_neg e2, if_neg (by omega)]
  · rw [List.getElem?_eq_none (by rw [revSeg_len]; simpa using hk), List.getElem?_eq_none (by rw [revSeg_len]; exact hk)]
theorem revSeg_all (xs : List Int) : revSeg xs 0 ((xs.length : Int) - 1) = xs.reverse := by
  apply List.ext_getElem?
  intro k
  rcases Nat.lt_or_ge k xs.length with hk | hk
  · rw [revSeg_at hk, if_pos (by omega), List.getElem?_reverse hk, List.getD_eq_getElem?_getD, show (0 + ((xs.length : Int) - 1) - k).toNat = xs.length - 1 - k from by omega, List.getElem?_eq_getElem (by omega)]; rfl
  · rw [List.getElem?_eq_none (by rw [revSeg_len]; exact hk), List.getElem?_eq_none (by simpa using hk)]
end Ax
/-
The order of bytes turned about.
-/
set_option linter.unusedSimpArgs false
set_option linter.unusedVariables false
namespace Go.Proofs.Ytjijakfcahhioaa
open Go.RowKit Ax
noncomputable def tr_revL (x : RSpec.X spRev × RSpec.Y spRev × (List (El (RSpec.c spRev)) × Nat)) : T (RRd spRev) :=
 .ite (Decidable.decide (Prod.fst (x.1) < Prod.fst (Prod.snd (x.1))))
  (.need ((0 : Int) ≤ Prod.fst (Prod.snd (x.1)) ∧ Prod.fst (Prod.snd (x.1)) < (↑(List.length (Prod.fst (Prod.snd (Prod.snd x)))) : Int)) (.need ((0 : Int) ≤ Prod.fst (x.1) ∧ Prod.fst (x.1) < (↑(List.length (Prod.fst (Prod.snd (Prod.snd x)))) : Int)) (.and
     (.get (Prod.fst (Prod.snd (Prod.snd x))) (Prod.fst (Prod.snd (x.1))) (fun v0 =>
      .get (Prod.fst (Prod.snd (Prod.snd x))) (Prod.fst (x.1)) (fun v1 =>
       .need ((0 : Int) ≤ Prod.fst (x.1) ∧ Prod.fst (x.1) < (↑(List.length (Prod.fst (Prod.snd (Prod.snd x)))) : Int)) (.need (Prod.fst (x.1) < (↑(List.length (Prod.fst (Prod.snd (Prod.snd x)))) : Int)) (.need ((0 : Int) ≤ Prod.fst (Prod.snd (x.1)) ∧ Prod.fst (Prod.snd (x.1)) < (↑(List.length (Prod.fst (Prod.snd (Prod.snd x)))) : Int)) (.need (Prod.fst (Prod.snd (x.1)) < (↑(List.length (List.set (Prod.fst (Prod.snd (Prod.snd x))) (Int.toNat (Prod.fst (x.1))) v0)) : Int)) (.need (List.length (Prod.fst (Prod.snd (Prod.snd x))) = List.length (List.set (List.set (Prod.fst (Prod.snd (Prod.snd x))) (Int.toNat (Prod.fst (x.1))) v0) (Int.toNat (Prod.fst (Prod.snd (x.1)))) v1) ∧ Prod.snd (Prod.snd (Prod.snd x)) = Prod.snd (Prod.snd (Prod.snd x))) (.ret (.again (Go.IntKind.wrap Go.IntKind.i64 (Prod.fst (x.1) + (1 : Int)), (Go.IntKind.wrap Go.IntKind.i64 (Prod.fst (Prod.snd (x.1)) - (1 : Int)), ())) () (some ((List.set (List.set (Prod.fst (Prod.snd (Prod.snd x))) (Int.toNat (Prod.fst (x.1))) v0) (Int.toNat (Prod.fst (Prod.snd (x.1)))) v1, Prod.snd (Prod.snd (Prod.snd x))))))))))))))
     (.get (Prod.fst (Prod.snd (Prod.snd x))) (Prod.fst (x.1)) (fun v0 =>
      .get (Prod.fst (Prod.snd (Prod.snd x))) (Prod.fst (Prod.snd (x.1))) (fun v1 =>
       .need ((0 : Int) ≤ Prod.fst (x.1) ∧ Prod.fst (x.1) < (↑(List.length (Prod.fst (Prod.snd (Prod.snd x)))) : Int)) (.need (Prod.fst (x.1) < (↑(List.length (Prod.fst (Prod.snd (Prod.snd x)))) : Int)) (.need ((0 : Int) ≤ Prod.fst (Prod.snd (x.1)) ∧ Prod.fst (Prod.snd (x.1)) < (↑(List.length (Prod.fst (Prod.snd (Prod.snd x)))) : Int)) (.need (Prod.fst (Prod.snd (x.1)) < (↑(List.length (List.set (Prod.fst (Prod.snd (Prod.snd x))) (Int.toNat (Prod.fst (x.1))) v1)) : Int)) (.need (List.length (Prod.fst (Prod.snd (Prod.snd x))) = List.length (List.set (List.set (Prod.fst (Prod.snd (Prod.snd x))) (Int.toNat (Prod.fst (x.1))) v1) (Int.toNat (Prod.fst (Prod.snd (x.1)))) v0) ∧ Prod.snd (Prod.snd (Prod.snd x)) = Prod.snd (Prod.snd (Prod.snd x))) (.ret (.again (Go.IntKind.wrap Go.IntKind.i64 (Prod.fst (x.1) + (1 : Int)), (Go.IntKind.wrap Go.IntKind.i64 (Prod.fst (Prod.snd (x.1)) - (1 : Int)), ())) () (some ((List.set (List.set (Prod.fst (Prod.snd (Prod.snd x))) (Int.toNat (Prod.fst (x.1))) v1) (Int.toNat (Prod.fst (Prod.snd (x.1)))) v0, Prod.snd (Prod.snd (Prod.snd x)))))))))))))))))
  (.need (List.length (Prod.fst (Prod.snd (Prod.snd x))) = List.length (Prod.fst (Prod.snd (Prod.snd x))) ∧ Prod.snd (Prod.snd (Prod.snd x)) = Prod.snd (Prod.snd (Prod.snd x))) (.ret (.out (Go.Exit.exit (0 : Nat)) [] () (some (Prod.snd (Prod.snd x))))))
theorem tr_revL_eq (x : RSpec.X spRev × RSpec.Y spRev × (List (El (RSpec.c spRev)) × Nat)) : RSpec.round spRev E8 (fun _ => none) (bodyOf Try.f73 0) x.1 x.2.1 (some x.2.2) = tr_revL x := by kernel_rfl
def outRev (x : RSpec.X spRev) (y : RSpec.Y spRev) (g : RSpec.G spRev) : T (Exit × List Av × RSpec.Y spRev × RSpec.G spRev) :=
  match g with
  | none => .fail
  | some r => .need (0 ≤ x.1 ∧ x.2.1 < r.1.length ∧ lenOk r.1.length) (.ret (.exit 0, [], (), some (revSeg r.1 x.1 x.2.1, r.2)))
theorem revL_core (i j : Int) (xs : List Int) (cap : Nat) (Q : Exit × List Av × RSpec.Y spRev × RSpec.G spRev → Prop) (h : (outRev (i, j, ()) () (some (xs, cap))).wp Q) : (tr_revL ((i, j, ()), (), (xs, cap))).wp fun r => match r with
      | .again x' y' g' => (x'.2.1 - x'.1).toNat < (j - i).toNat ∧ (outRev x' y' g').wp Q
      | .out e avs y' g' => Q (e, avs, y', g') := by
  unfold tr_revL
  unfold outRev at h ⊢
  simp only [T.wp] at h ⊢
  dsimp only [El, vts, spRev] at h ⊢
  obtain ⟨⟨h0, h1, hl⟩, hq⟩ := h
  refine ⟨fun hlt => ?_, fun hge => ?_⟩
  · have hlt := of_decide_eq_true hlt
    obtain ⟨a, ha⟩ := elem_at (l := xs) h0 (by omega)
    obtain ⟨b, hb⟩ := elem_at (l := xs) (i := j) (by omega) h1
    have hl' := hl
    unfold lenOk at hl'
    have e1 : IntKind.i64.wrap (i + 1) = i + 1 := IntWalk.i64_in _ (by omega)
    have e2 : IntKind.i64.wrap (j - 1) = j - 1 := IntWalk.i64_in _ (by omega)
    have key : (j - 1 - (i + 1)).toNat < (j - i).toNat ∧ (0 ≤ i + 1 ∧ j - 1 < (((xs.set i.toNat b).set j.toNat a).length : Int) ∧ lenOk ((xs.set i.toNat b).set j.toNat a).length) ∧ Q (.exit 0, [], (), some (revSeg ((xs.set i.toNat b).set j.toNat a) (i + 1) (j - 1), cap)) := by
      rw [revSeg_step h0 hlt h1 ha hb]
      simp only [List.length_set]
      exact ⟨by omega, ⟨by omega, by omega, hl⟩, hq⟩
    rw [e1, e2]
    refine ⟨⟨by omega, h1⟩, ⟨h0, by omega⟩, ⟨b, by omega, hb, a, h0, ha, ⟨h0, by omega⟩, by omega, ⟨by omega, h1⟩, by simp only [List.length_set]; exact h1, ⟨by simp only [List.length_set], trivial⟩, key⟩, ⟨a, h0, ha, b, by omega, hb, ⟨h0, by omega⟩, by omega, ⟨by omega, h1⟩, by simp only [List.length_set]; exact h1, ⟨by simp only [List.length_set], trivial⟩, key⟩⟩
  · have hge := of_decide_eq_false hge
    rw [revSeg_end (by omega)] at hq
    exact ⟨⟨trivial, trivial⟩, hq⟩
theorem revL_ok : LoopOk Try.prog 1 (bodyOf Try.f73 0) (spRev.run outRev) :=
  loopR_ok (E := E8) (L := fun _ => none) mixed 1 (loops_none _ _ _) spRev (Nat.le_refl _) outRev (fun x _ _ => (x.2.1 - x.1).toNat) (by
    rintro ⟨i, j, ⟨⟩⟩ ⟨⟩ g Q h
    match g, h with
    | some (xs, cap), h =>
      rw [tr_revL_eq ((i, j, ()), (), (xs, cap))]
      exact revL_core i j xs cap Q h)
noncomputable def lpRev : Loops := oneL 1 (spRev.run outRev)
end Go.Proofs.Ytjijakfcahhioaa
/-
Texts of numbers: the functions that a number's text asks.
-/
set_option linter.unusedSimpArgs false
set_option linter.unusedVariables false
namespace Ax
open Go Go.RowKit
theorem fresh_con {P : Program} {f : FuncId} (ts : List (Bool × Cd)) (sp : Els ts → T Av)
    (h : ∀ x vs w R Q, ArgsAre w R ts x vs → (sp x).wp Q → ∃ av, Q av ∧ Calls P f vs.toArray w fun e w' => ∃ v, e = .returned v ∧ Below w.heap.size w w' ∧ AvIs w' (fun b => w.heap.size ≤ b ∧ b < w'.heap.size) [] av v) : ConOk P f [] (pureRun' ts sp) := by
  intro w φ σ m args vs Q hmem hlen hargs hrun
  unfold pureRun' at hrun
  split at hrun
  · rename_i x hx
    rw [T.wp_bind] at hrun
    obtain ⟨av, hQ, hc⟩ := h x vs w _ _ (decs_ok ts args x vs hx hlen hargs) hrun
    refine hc.mono fun e w' hr => ?_
    obtain ⟨v, rfl, hb, hv⟩ := hr
    have hk := Keep.of_below hb σ
    have hown : ∀ i b : Nat, σ[i]? = some b → w'.heap[b]? = w.heap[b]? := fun i b hi => hb.block b (hmem.lt (List.mem_of_getElem? hi))
    refine ⟨v, av, m, σ, rfl, hQ, Ext.refl _ _, hk, fun i b hi _ => hown i b hi, hv.ro (fun b hb' => ⟨hb'.2, fun hm => ?_, fun hm => ?_⟩) σ, hmem.stay hk (Ext.refl _ _) rfl hown⟩
    · have := hmem.fo b hm; omega
    · have := hmem.lt hm; omega
  · exact hrun.elim
theorem arg_ptr {w : World} {R : Nat → Prop} {x : Amt} {v : Value} (h : AvIs w R [] (encA false (.ptr .words) x) v) : ∃ b o, v = .pointer (some ⟨b, o, none⟩) ∧ w.rangeAt b o (Pq.am 32 x.1) := by
  obtain ⟨b, o, vs, hR, hrg, hcs, rfl⟩ := is_one_pr (σ := []) (cs := [.w x]) h
  cases hcs with | w h2 => cases h2; rw [List.append_nil] at hrg; exact ⟨b, o, rfl, hrg⟩
theorem ptr_av {w : World} {R : Nat → Prop} {x : Amt} {b : Nat} (hR : R b) (h : w.rangeAt b 0 (Pq.am 32 x.1)) : AvIs w R [] (.one (.pr [.w x])) (.pointer (some ⟨b, 0, none⟩)) := by
  refine .one rfl (.pr hR (vs := Pq.am 32 x.1) h ?_ .nil)
  have := Is.w (w := w) (R := R) (σ := []) (x := x) .nil
  rwa [List.append_nil] at this
def divA (x : Amt) (d : Nat) : Amt := ⟨x.1 / d, Nat.lt_of_le_of_lt (Nat.div_le_self _ _) x.2⟩
end Ax
namespace Go.Proofs.Ytjijakfcahhioaa
open Go.RowKit Ax
theorem cf_wof (xs : Array Value) (w : World) : (callFunc 57 xs).run Try.prog w = .ok (.enter 57 xs) w := by kernel_rfl
theorem cf_wsize (xs : Array Value) (w : World) : (callFunc 58 xs).run Try.prog w = .ok (.enter 58 xs) w := by kernel_rfl
theorem cf_wbyword (xs : Array Value) (w : World) : (callFunc 61 xs).run Try.prog w = .ok (.enter 61 xs) w := by kernel_rfl
theorem cf_wtext (xs : Array Value) (w : World) : (callFunc 48 xs).run Try.prog w = .ok (.enter 48 xs) w := by kernel_rfl
noncomputable def con_wof : Con Try.prog := ⟨57, [], pureRun' [(true, cW)] (fun x => .ret (.one (.pr [.w x.1.2]))), cf_wof, fresh_con _ _ fun x vs w R Q ha hQ => by
  obtain ⟨v, rfl, hv⟩ := args1 ha
  have hv := av_w hv
  subst hv
  refine ⟨_, hQ, (of_ptr x.1.1 x.1.2.1 w).mono fun e w' hr => ?_⟩
  obtain ⟨b, rfl, hrg, hb, h1, h2⟩ := hr
  exact ⟨_, rfl, hb, ptr_av ⟨h1, h2⟩ hrg⟩⟩
noncomputable def con_wsize : Con Try.prog := ⟨58, [], pureRun' [(false, .ptr .words)] (fun x => .ret (aI .i64 ((Pq.szn 32 x.1.1 : Nat) : Int))), cf_wsize, ret_con _ _ fun x vs w R Q ha hQ => by
  obtain ⟨v, rfl, hv⟩ := args1 ha
  obtain ⟨b, o, rfl, hrg⟩ := arg_ptr hv
  refine ⟨_, _, hQ, (size_any b o x.1.1 _ rfl w hrg).mono fun e w' hr => ?_, fun w' R' => .val rfl⟩
  obtain ⟨rfl, rfl⟩ := hr
  exact ⟨rfl, Below.refl _ _⟩⟩
noncomputable def con_wbyword : Con Try.prog := ⟨61, [], pureRun' [(false, .ptr .words), (false, .int .u32)] (fun x => .need (0 < x.2.1 ∧ x.2.1 < 4294967296) (.lt (divA x.1 x.2.1.toNat) fun q => .ret (.tup [.one (.pr [.w q]), aI .u32 ((x.1.1 % x.2.1.toNat : Nat) : Int)]))), cf_wbyword, fresh_con _ _ fun x vs w R Q => by
  obtain ⟨x, d, u⟩ := x
  revert x d
  intro (x : Amt) (d : Int) ha hQ
  obtain ⟨v, v', rfl, hv, hv'⟩ := args2 ha
  obtain ⟨b, o, rfl, hrg⟩ := arg_ptr hv
  have hv' := is_int hv'
  subst hv'
  obtain ⟨⟨h0, h1⟩, hQ⟩ := hQ
  dsimp only [El, vts] at h0 h1
  refine ⟨_, hQ, ?_⟩
  have hz : ((d.toNat : Nat) : Int) = d := Int.toNat_of_nonneg (by omega)
  have := byword_any b o x.1 d.toNat w x.2 (by omega) (by omega) hrg
  rw [hz] at this
  refine this.mono fun e w' hr => ?_
  obtain ⟨b, rfl, hrg, hb, h1, h2⟩ := hr
  refine ⟨_, rfl, hb, .tup [_, _] rfl fun i a u hi hu => ?_⟩
  match i, hi, hu with
  | 0, hi, hu => cases hi; cases hu; exact ptr_av (x := divA x d.toNat) ⟨h1, h2⟩ hrg
  | 1, hi, hu => cases hi; cases hu; exact .val rfl⟩
noncomputable def tr_reverse (x : List (El (.int .u8)) × Nat × Nat) : T (Av × List (El (.int .u8))) :=
 .need (Prod.fst (Prod.snd x) = List.length (x.1) ∧ Prod.snd (Prod.snd x) = Prod.snd (Prod.snd x)) (.need ((0 : Ax.El (Ax.Cd.int Go.IntKind.i64)) ≤ (0 : Int) ∧ Go.IntKind.wrap Go.IntKind.i64 ((↑(Prod.fst (Prod.snd x)) : Int) - (1 : Int)) < (↑(List.length (x.1)) : Ax.El (Ax.Cd.int Go.IntKind.i64)) ∧ Ax.lenOk (List.length (x.1))) (.need (Prod.snd (Prod.snd x) = Prod.snd (Prod.snd x)) (.ret ((.tup []), Ax.revSeg (x.1) (0 : Int) (Go.IntKind.wrap Go.IntKind.i64 ((↑(Prod.fst (Prod.snd x)) : Int) - (1 : Int)))))))
theorem tr_reverse_eq (x : List (El (.int .u8)) × Nat × Nat) : row1 E8 lpRev Try.f73 5 (.int .u8) x.1 x.2.1 x.2.2 = tr_reverse x := by kernel_rfl
noncomputable def con_reverse : Con Try.prog := ⟨73, [0], row1Run 5 (.int .u8) (fun xs n cap => .need (n = xs.length ∧ lenOk xs.length) (.ret (.tup [], List.reverse (α := Int) xs))), cf_reverse,
  row1_ok (E := E8) (L := lpRev) mixed Try.func73 (one_loop revL_ok (by kernel_rfl)) _ _ _ fun xs n cap Q h => by
  rw [tr_reverse_eq (xs, n, cap)]
  unfold tr_reverse
  simp only [T.wp] at h ⊢
  obtain ⟨⟨hn, hl⟩, hQ⟩ := h
  subst hn
  have hl' := hl
  unfold lenOk at hl'
  have e : IntKind.i64.wrap ((xs.length : Int) - 1) = (xs.length : Int) - 1 := IntWalk.i64_in _ (by omega)
  rw [e, revSeg_all]
  exact ⟨⟨rfl, trivial⟩, ⟨by simp, by dsimp only [El]; omega, hl⟩, trivial, hQ⟩⟩
noncomputable def zeroY : Zero Try.prog := ⟨5, ck (.int .u8) (0 : Int), [.int .u8 0], by kernel_rfl, fun w R σ => .v rfl .nil⟩
noncomputable def E9 : Env Try.prog := ⟨con_wof :: con_wsize :: con_wbyword :: con_reverse :: E8.con, zeroY :: E8.zero, codB :: E8.cod, E8.sure⟩
abbrev spText : RSpec := ⟨36, [(3, false, .ptr .words)], [(1, 0, 0)], [(25, cW)], fun _ => [], 4, 5, .int .u8, false⟩
end Go.Proofs.Ytjijakfcahhioaa
/-
Plain laws: the digits of a number.
-/
set_option linter.unusedSimpArgs false
set_option linter.unusedVariables false
namespace Ax
/-- the digits of a number, the last one first, as bytes -/
def dg (x : Nat) : List Int := if h : x = 0 then [] else (48 + (x % 10 : Nat) : Int) :: dg (x / 10)
decreasing_by exact Nat.div_lt_self (by omega) (by omega)
theorem dg_zero : dg 0 = [] := by rw [dg]; simp
theorem dg_pos {x : Nat} (h : x ≠ 0) : dg x = (48 + (x % 10 : Nat) : Int) :: dg (x / 10) := by rw [dg, dif_neg h]
theorem dg_len {n : Nat} : ∀ {x : Nat}, x < 2 ^ n → (dg x).length ≤ n := by
  induction n with
  | zero => intro x h; rw [show x = 0 from by simpa using h, dg_zero]; simp
  | succ n ih =>
    intro x h
    by_cases h0 : x = 0
    · rw [h0, dg_zero]; simp
    · rw [dg_pos h0, List.length_cons]
      have := ih (x := x / 10) (by rw [Nat.pow_succ] at h; omega)
      omega
end Ax
/-
A number's text: its digits, one by one.
-/
set_option linter.unusedSimpArgs false
set_option linter.unusedVariables false
namespace Go.Proofs.Ytjijakfcahhioaa
open Go.RowKit Ax
noncomputable def tr_textL (x : RSpec.X spText × RSpec.Y spText × (List (El (RSpec.c spText)) × Nat)) : T (RRd spText) :=
 .ite (Decidable.decide ((↑(Pq.szn (32 : Nat) (Subtype.val (Prod.fst (x.1)))) : Int) > (0 : Int)))
  (.need ((0 : Ax.El (Ax.Cd.int Go.IntKind.u32)) < (10 : Int) ∧ (10 : Int) < (4294967296 : Ax.El (Ax.Cd.int Go.IntKind.u32))) (.lt (Ax.divA (Prod.fst (x.1)) (Int.toNat (10 : Int))) (fun v0 =>
    .need (List.length (Prod.fst (Prod.snd (Prod.snd x))) = List.length (Prod.fst (Prod.snd (Prod.snd x))) ∧ Prod.snd (Prod.snd (Prod.snd x)) = Prod.snd (Prod.snd (Prod.snd x)) ∧ (List.length (Prod.fst (Prod.snd (Prod.snd x))) + List.length [Go.IntKind.wrap Go.IntKind.u8 (Go.IntKind.wrap Go.IntKind.u32 ((48 : Int) + (↑(Subtype.val (Prod.fst (x.1)) % Int.toNat (10 : Int)) : Int)))]) * (nat_lit 0 + (1 : Nat)) ≤ (140737488355328 : Nat) ∧ List.length (Prod.fst (Prod.snd (Prod.snd x))) + List.length [Go.IntKind.wrap Go.IntKind.u8 (Go.IntKind.wrap Go.IntKind.u32 ((48 : Int) + (↑(Subtype.val (Prod.fst (x.1)) % Int.toNat (10 : Int)) : Int)))] ≤ Go.maxLen) (.and
      (.need (List.length (Prod.fst (Prod.snd (Prod.snd x))) + List.length [Go.IntKind.wrap Go.IntKind.u8 (Go.IntKind.wrap Go.IntKind.u32 ((48 : Int) + (↑(Subtype.val (Prod.fst (x.1)) % Int.toNat (10 : Int)) : Int)))] = List.length (Prod.fst (Prod.snd (Prod.snd x)) ++ [Go.IntKind.wrap Go.IntKind.u8 (Go.IntKind.wrap Go.IntKind.u32 ((48 : Int) + (↑(Subtype.val (Prod.fst (x.1)) % Int.toNat (10 : Int)) : Int)))]) ∧ Prod.snd (Prod.snd (Prod.snd x)) = Prod.snd (Prod.snd (Prod.snd x))) (.ret (.again (v0, ()) (Prod.fst (Prod.fst (Prod.snd x)), ()) (some ((Prod.fst (Prod.snd (Prod.snd x)) ++ [Go.IntKind.wrap Go.IntKind.u8 (Go.IntKind.wrap Go.IntKind.u32 ((48 : Int) + (↑(Subtype.val (Prod.fst (x.1)) % Int.toNat (10 : Int)) : Int)))], Prod.snd (Prod.snd (Prod.snd x))))))))
      (.up (List.length (Prod.fst (Prod.snd (Prod.snd x))) + List.length [Go.IntKind.wrap Go.IntKind.u8 (Go.IntKind.wrap Go.IntKind.u32 ((48 : Int) + (↑(Subtype.val (Prod.fst (x.1)) % Int.toNat (10 : Int)) : Int)))]) (fun v1 =>
       .need (List.length (Prod.fst (Prod.snd (Prod.snd x))) + List.length [Go.IntKind.wrap Go.IntKind.u8 (Go.IntKind.wrap Go.IntKind.u32 ((48 : Int) + (↑(Subtype.val (Prod.fst (x.1)) % Int.toNat (10 : Int)) : Int)))] = List.length (Prod.fst (Prod.snd (Prod.snd x)) ++ [Go.IntKind.wrap Go.IntKind.u8 (Go.IntKind.wrap Go.IntKind.u32 ((48 : Int) + (↑(Subtype.val (Prod.fst (x.1)) % Int.toNat (10 : Int)) : Int)))]) ∧ v1 = v1) (.ret (.again (v0, ()) (Prod.fst (Prod.fst (Prod.snd x)), ()) (some ((Prod.fst (Prod.snd (Prod.snd x)) ++ [Go.IntKind.wrap Go.IntKind.u8 (Go.IntKind.wrap Go.IntKind.u32 ((48 : Int) + (↑(Subtype.val (Prod.fst (x.1)) % Int.toNat (10 : Int)) : Int)))], v1)))))))))))
  (.need (List.length (Prod.fst (Prod.snd (Prod.snd x))) = List.length (Prod.fst (Prod.snd (Prod.snd x))) ∧ Prod.snd (Prod.snd (Prod.snd x)) = Prod.snd (Prod.snd (Prod.snd x))) (.ret (.out (Go.Exit.exit (0 : Nat)) [] (Prod.fst (Prod.fst (Prod.snd x)), ()) (some (Prod.snd (Prod.snd x))))))
theorem tr_textL_eq (x : RSpec.X spText × RSpec.Y spText × (List (El (RSpec.c spText)) × Nat)) : RSpec.round spText E9 (fun _ => none) (bodyOf Try.f48 0) x.1 x.2.1 (some x.2.2) = tr_textL x := by kernel_rfl
noncomputable def tr_textL0 (x : RSpec.X spText × RSpec.Y spText) : T (RRd spText) :=
 .ite (Decidable.decide ((↑(Pq.szn (32 : Nat) (Subtype.val (Prod.fst (x.1)))) : Int) > (0 : Int)))
  (.need ((0 : Ax.El (Ax.Cd.int Go.IntKind.u32)) < (10 : Int) ∧ (10 : Int) < (4294967296 : Ax.El (Ax.Cd.int Go.IntKind.u32))) (.lt (Ax.divA (Prod.fst (x.1)) (Int.toNat (10 : Int))) (fun v0 =>
    .need (List.length [Go.IntKind.wrap Go.IntKind.u8 (Go.IntKind.wrap Go.IntKind.u32 ((48 : Int) + (↑(Subtype.val (Prod.fst (x.1)) % Int.toNat (10 : Int)) : Int)))] * (nat_lit 0 + (1 : Nat)) ≤ (140737488355328 : Nat) ∧ List.length [Go.IntKind.wrap Go.IntKind.u8 (Go.IntKind.wrap Go.IntKind.u32 ((48 : Int) + (↑(Subtype.val (Prod.fst (x.1)) % Int.toNat (10 : Int)) : Int)))] ≤ Go.maxLen) (.up (List.length [Go.IntKind.wrap Go.IntKind.u8 (Go.IntKind.wrap Go.IntKind.u32 ((48 : Int) + (↑(Subtype.val (Prod.fst (x.1)) % Int.toNat (10 : Int)) : Int)))]) (fun v1 =>
      .need (List.length [Go.IntKind.wrap Go.IntKind.u8 (Go.IntKind.wrap Go.IntKind.u32 ((48 : Int) + (↑(Subtype.val (Prod.fst (x.1)) % Int.toNat (10 : Int)) : Int)))] = List.length [Go.IntKind.wrap Go.IntKind.u8 (Go.IntKind.wrap Go.IntKind.u32 ((48 : Int) + (↑(Subtype.val (Prod.fst (x.1)) % Int.toNat (10 : Int)) : Int)))] ∧ v1 = v1) (.ret (.again (v0, ()) (Prod.fst (Prod.snd x), ()) (some (([Go.IntKind.wrap Go.IntKind.u8 (Go.IntKind.wrap Go.IntKind.u32 ((48 : Int) + (↑(Subtype.val (Prod.fst (x.1)) % Int.toNat (10 : Int)) : Int)))], v1))))))))))
  (.need (True) (.ret (.out (Go.Exit.exit (0 : Nat)) [] (Prod.fst (Prod.snd x), ()) none)))
theorem tr_textL0_eq (x : RSpec.X spText × RSpec.Y spText) : RSpec.round spText E9 (fun _ => none) (bodyOf Try.f48 0) x.1 x.2 none = tr_textL0 x := by kernel_rfl
def outText (x : RSpec.X spText) (y : RSpec.Y spText) (g : RSpec.G spText) : T (Exit × List Av × RSpec.Y spText × RSpec.G spText) :=
  match g with
  | none => .need ((dg x.1.1).length ≤ 1000000) (.ite (decide (x.1.1 = 0)) (.ret (.exit 0, [], y, none)) (.up 0 fun k => .ret (.exit 0, [], y, some (dg x.1.1, k))))
  | some r => .need (r.1.length + (dg x.1.1).length ≤ 1000000) (.up 0 fun k => .ret (.exit 0, [], y, some ((r.1 : List Int) ++ dg x.1.1, k)))
theorem digit_wrap (x : Nat) : IntKind.u8.wrap (IntKind.u32.wrap ((48 : Int) + ((x % Int.toNat (10 : Int) : Nat) : Int))) = 48 + ((x % 10 : Nat) : Int) := by
  rw [show Int.toNat (10 : Int) = 10 from rfl, IntWalk.u32_in _ (by omega), IntWalk.u8_in _ (by omega)]
theorem textL_core (x : Amt) (y : W) (xs : List Int) (cap : Nat) (Q : Exit × List Av × RSpec.Y spText × RSpec.G spText → Prop) (h : (outText (x, ()) (y, ()) (some (xs, cap))).wp Q) : (tr_textL ((x, ()), (y, ()), (xs, cap))).wp fun r => match r with
      | .again x' y' g' => x'.1.1 < x.1 ∧ (outText x' y' g').wp Q
      | .out e avs y' g' => Q (e, avs, y', g') := by
  unfold tr_textL
  unfold outText at h ⊢
  simp only [T.wp, digit_wrap] at h ⊢
  dsimp only [El, vts, spText] at h ⊢
  obtain ⟨hl, hq⟩ := h
  refine ⟨fun hlt => ?_, fun hge => ?_⟩
  · have hne : x.1 ≠ 0 := (Pq.szn_pos x.2).1 (by have := of_decide_eq_true hlt; omega)
    rw [dg_pos hne] at hl hq
    have hd : (divA x (Int.toNat (10 : Int))).1 = x.1 / 10 := rfl
    have hlt' : x.1 / 10 < x.1 := Nat.div_lt_self (by omega) (by omega)
    simp only [hd, List.length_append, List.length_cons, List.length_nil, Go.maxLen, List.append_assoc, List.singleton_append, List.cons_append, List.nil_append] at hl ⊢
    exact ⟨⟨by omega, by omega⟩, ⟨trivial, trivial, by omega, by omega⟩, ⟨⟨trivial, trivial⟩, hlt', by omega, hq⟩, fun k hk => ⟨⟨trivial, trivial⟩, hlt', by omega, hq⟩⟩
  · have h0 : x.1 = 0 := by
      by_cases h0 : x.1 = 0
      · exact h0
      · have := (Pq.szn_pos x.2).2 h0
        have := of_decide_eq_false hge
        omega
    rw [h0, dg_zero, List.append_nil] at hq
    exact ⟨⟨trivial, trivial⟩, hq cap (Nat.zero_le _)⟩
theorem textL_core0 (x : Amt) (y : W) (Q : Exit × List Av × RSpec.Y spText × RSpec.G spText → Prop) (h : (outText (x, ()) (y, ()) none).wp Q) : (tr_textL0 ((x, ()), (y, ()))).wp fun r => match r with
      | .again x' y' g' => x'.1.1 < x.1 ∧ (outText x' y' g').wp Q
      | .out e avs y' g' => Q (e, avs, y', g') := by
  unfold tr_textL0
  unfold outText at h ⊢
  simp only [T.wp, digit_wrap] at h ⊢
  dsimp only [El, vts, spText] at h ⊢
  obtain ⟨hl, h1, h2⟩ := h
  refine ⟨fun hlt => ?_, fun hge => ?_⟩
  · have hne : x.1 ≠ 0 := (Pq.szn_pos x.2).1 (by have := of_decide_eq_true hlt; omega)
    have hq := h2 (decide_eq_false hne)
    rw [dg_pos hne] at hl hq
    have hd : (divA x (Int.toNat (10 : Int))).1 = x.1 / 10 := rfl
    have hlt' : x.1 / 10 < x.1 := Nat.div_lt_self (by omega) (by omega)
    simp only [hd, List.length_append, List.length_cons, List.length_nil, Go.maxLen, List.append_assoc, List.singleton_append, List.cons_append, List.nil_append] at hl ⊢
    exact ⟨⟨by omega, by omega⟩, ⟨by omega, by omega⟩, fun k hk => ⟨⟨trivial, trivial⟩, hlt', by omega, hq⟩⟩
  · have h0 : x.1 = 0 := by
      by_cases h0 : x.1 = 0
      · exact h0
      · have := (Pq.szn_pos x.2).2 h0
        have := of_decide_eq_false hge
        omega
    exact ⟨trivial, h1 (decide_eq_true h0)⟩
theorem textL_ok : LoopOk Try.prog 0 (bodyOf Try.f48 0) (spText.run outText) :=
  loopR_ok (E := E9) (L := fun _ => none) mixed 0 (loops_none _ _ _) spText (Nat.zero_le _) outText (fun x _ _ => x.1.1) (by
    rintro ⟨x, ⟨⟩⟩ ⟨y, ⟨⟩⟩ g Q h
    match g, h with
    | some (xs, cap), h =>
      rw [tr_textL_eq ((x, ()), (y, ()), (xs, cap))]
      exact textL_core x y xs cap Q h
    | none, h =>
      rw [tr_textL0_eq ((x, ()), (y, ()))]
      exact textL_core0 x y Q h)
noncomputable def lpText : Loops := oneL 3 (spText.run outText)
end Go.Proofs.Ytjijakfcahhioaa
/-
A number's text.
-/
set_option linter.unusedSimpArgs false
set_option linter.unusedVariables false
namespace Go.Proofs.Ytjijakfcahhioaa
open Go.RowKit Ax
noncomputable def tr_wtext (x : Els [(true, cW)]) : T Av :=
 .need (True) (.need (List.length (Ax.dg (Subtype.val (Prod.snd (x.1)))) ≤ (1000000 : Nat)) (.ite (Decidable.decide (Subtype.val (Prod.snd (x.1)) = (0 : Nat)))
    (.ite ((↑(0 : Nat) : Int) == (0 : Int))
     (.ret (.one (.v (.string ({ data := #[(48 : UInt8)] })))))
     (.ite (Prod.fst (x.1))
      (.need (List.length [(45 : Int)] * (nat_lit 0 + (1 : Nat)) ≤ (140737488355328 : Nat) ∧ List.length [(45 : Int)] ≤ Go.maxLen) (.up (List.length [(45 : Int)]) (fun v0 =>
        .need (v0 = v0) (.need (List.length [(45 : Int)] = List.length [(45 : Int)] ∧ Ax.lenOk (List.length [(45 : Int)])) (.need (List.length [(45 : Int)] ≤ List.length (List.reverse [(45 : Int)])) (.ret (.one (.v (.string (Ax.bytesOf (List.take (List.length [(45 : Int)]) (List.reverse [(45 : Int)]))))))))))))
      (.fail)))
    (.up ((0 : Nat)) (fun v0 =>
     .ite ((↑(List.length (Ax.dg (Subtype.val (Prod.snd (x.1))))) : Int) == (0 : Int))
      (.ret (.one (.v (.string ({ data := #[(48 : UInt8)] })))))
      (.ite (Prod.fst (x.1))
       (.need (List.length (Ax.dg (Subtype.val (Prod.snd (x.1)))) = List.length (Ax.dg (Subtype.val (Prod.snd (x.1)))) ∧ v0 = v0 ∧ (List.length (Ax.dg (Subtype.val (Prod.snd (x.1)))) + List.length [(45 : Int)]) * (nat_lit 0 + (1 : Nat)) ≤ (140737488355328 : Nat) ∧ List.length (Ax.dg (Subtype.val (Prod.snd (x.1)))) + List.length [(45 : Int)] ≤ Go.maxLen) (.and
         (.need (v0 = v0) (.need (List.length (Ax.dg (Subtype.val (Prod.snd (x.1)))) + List.length [(45 : Int)] = List.length (Ax.dg (Subtype.val (Prod.snd (x.1))) ++ [(45 : Int)]) ∧ Ax.lenOk (List.length (Ax.dg (Subtype.val (Prod.snd (x.1))) ++ [(45 : Int)]))) (.need (List.length (Ax.dg (Subtype.val (Prod.snd (x.1)))) + List.length [(45 : Int)] ≤ List.length (List.reverse (Ax.dg (Subtype.val (Prod.snd (x.1))) ++ [(45 : Int)]))) (.ret (.one (.v (.string (Ax.bytesOf (List.take (List.length (Ax.dg (Subtype.val (Prod.snd (x.1)))) + List.length [(45 : Int)]) (List.reverse (Ax.dg (Subtype.val (Prod.snd (x.1))) ++ [(45 : Int)])))))))))))
         (.up (List.length (Ax.dg (Subtype.val (Prod.snd (x.1)))) + List.length [(45 : Int)]) (fun v1 =>
          .need (v1 = v1) (.need (List.length (Ax.dg (Subtype.val (Prod.snd (x.1)))) + List.length [(45 : Int)] = List.length (Ax.dg (Subtype.val (Prod.snd (x.1))) ++ [(45 : Int)]) ∧ Ax.lenOk (List.length (Ax.dg (Subtype.val (Prod.snd (x.1))) ++ [(45 : Int)]))) (.need (List.length (Ax.dg (Subtype.val (Prod.snd (x.1)))) + List.length [(45 : Int)] ≤ List.length (List.reverse (Ax.dg (Subtype.val (Prod.snd (x.1))) ++ [(45 : Int)]))) (.ret (.one (.v (.string (Ax.bytesOf (List.take (List.length (Ax.dg (Subtype.val (Prod.snd (x.1)))) + List.length [(45 : Int)]) (List.reverse (Ax.dg (Subtype.val (Prod.snd (x.1))) ++ [(45 : Int)]))))))))))))))
       (.need (v0 = v0) (.need (List.length (Ax.dg (Subtype.val (Prod.snd (x.1)))) = List.length (Ax.dg (Subtype.val (Prod.snd (x.1)))) ∧ Ax.lenOk (List.length (Ax.dg (Subtype.val (Prod.snd (x.1)))))) (.need (List.length (Ax.dg (Subtype.val (Prod.snd (x.1)))) ≤ List.length (List.reverse (Ax.dg (Subtype.val (Prod.snd (x.1)))))) (.ret (.one (.v (.string (Ax.bytesOf (List.take (List.length (Ax.dg (Subtype.val (Prod.snd (x.1))))) (List.reverse (Ax.dg (Subtype.val (Prod.snd (x.1)))))))))))))))))))
theorem tr_wtext_eq (x : Els [(true, cW)]) : fnP E9 lpText Try.f48 (encs [(true, cW)] x) = tr_wtext x := by kernel_rfl
/-- a number's text -/
def txt (x : W) : ByteArray := if x.2.1 = 0 then ⟨#[48]⟩ else bytesOf ((dg x.2.1 ++ (if x.1 = true then [(45 : Int)] else [])).reverse)
theorem dg_amt (x : Amt) : (dg x.1).length ≤ 1024 := dg_len (bp_le 1024 rfl x.2)
theorem wtext_ok (x : Els [(true, cW)]) : (tr_wtext x).wp (· = .one (.v (.string (txt x.1)))) := by
  obtain ⟨⟨n, x⟩, u⟩ := x
  revert n x
  intro (n : Bool) (x : Amt)
  unfold tr_wtext
  simp only [T.wp]
  dsimp only [El]
  have hl := dg_amt x
  unfold txt
  dsimp only
  refine ⟨trivial, by omega, fun h0 => ⟨fun _ => ?_, fun h => (by cases h)⟩, fun h0 k _ => ⟨fun h1 => ?_, fun h1 => ⟨fun h2 => ?_, fun h2 => ?_⟩⟩⟩
  · rw [if_pos (of_decide_eq_true h0)]
  · exfalso
    have h0 := of_decide_eq_false h0
    rw [dg_pos h0] at h1
    simp at h1
    omega
  · subst h2
    rw [if_neg (of_decide_eq_false h0)]
    have e : List.take ((dg x.1).length + List.length [(45 : Int)]) (List.reverse (dg x.1 ++ [(45 : Int)])) = (dg x.1 ++ [(45 : Int)]).reverse := List.take_of_length_le (by simp)
    simp only [e, if_true]
    refine ⟨⟨trivial, trivial, by simp; omega, by simp [Go.maxLen]; omega⟩, ⟨trivial, ⟨by simp, by unfold lenOk; simp; omega⟩, by simp, trivial⟩, fun q hq => ⟨trivial, ⟨by simp, by unfold lenOk; simp; omega⟩, by simp, trivial⟩⟩
  · subst h2
    rw [if_neg (of_decide_eq_false h0)]
    have e : List.take ((dg x.1).length) (List.reverse (dg x.1)) = (dg x.1).reverse := List.take_of_length_le (by simp)
    simp only [e, Bool.false_eq_true, if_false, List.append_nil]
    exact ⟨trivial, ⟨trivial, by unfold lenOk; omega⟩, by simp, trivial⟩
noncomputable def con_wtext : Con Try.prog := ⟨48, [], _, cf_wtext, tot_con (E := E9) (L := lpText) mixed Try.func48 (one_loop textL_ok (by kernel_rfl)) [(true, cW)] (fun x => .one (.v (.string (txt x.1)))) fun x => by rw [tr_wtext_eq]; exact wtext_ok x⟩
noncomputable def E10 : Env Try.prog := ⟨con_wtext :: E9.con, E9.zero, E9.cod, E9.sure⟩
theorem cf_rtext (xs : Array Value) (w : World) : (callFunc 19 xs).run Try.prog w = .ok (.enter 19 xs) w := by kernel_rfl
theorem cf_wparse (xs : Array Value) (w : World) : (callFunc 50 xs).run Try.prog w = .ok (.enter 50 xs) w := by kernel_rfl
theorem cf_rparse (xs : Array Value) (w : World) : (callFunc 20 xs).run Try.prog w = .ok (.enter 20 xs) w := by kernel_rfl
theorem cf_rscale (xs : Array Value) (w : World) : (callFunc 55 xs).run Try.prog w = .ok (.enter 55 xs) w := by kernel_rfl
theorem cf_rdecimal (xs : Array Value) (w : World) : (callFunc 25 xs).run Try.prog w = .ok (.enter 25 xs) w := by kernel_rfl
end Go.Proofs.Ytjijakfcahhioaa
/-
A fraction's text; a power of ten.
-/
set_option linter.unusedSimpArgs false
set_option linter.unusedVariables false
namespace Go.Proofs.Ytjijakfcahhioaa
open Go.RowKit Ax
noncomputable def tr_rtext (x : Els [(true, cF)]) : T Av :=
 .ite (!Ax.okF (x.1))
  (.ret (.one (.v (.string ({ data := #[] })))))
  (.ite (Decidable.decide (Ax.zW (Prod.snd (x.1)) = (1 : Int)))
   (.ret (.one (.v (.string (Go.Proofs.Ytjijakfcahhioaa.txt (Prod.fst (x.1)))))))
   (.need ((↑(ByteArray.size (Go.Proofs.Ytjijakfcahhioaa.txt (Prod.fst (x.1))) + ByteArray.size { data := #[(47 : UInt8)] }) : Int) ≤ Go.IntKind.max Go.IntKind.i64) (.lt (Go.Proofs.Ytjijakfcahhioaa.txt (Prod.fst (x.1)) ++ { data := #[(47 : UInt8)] }) (fun v0 =>
     .need ((↑(ByteArray.size v0 + ByteArray.size (Go.Proofs.Ytjijakfcahhioaa.txt (Prod.snd (x.1)))) : Int) ≤ Go.IntKind.max Go.IntKind.i64) (.lt (v0 ++ Go.Proofs.Ytjijakfcahhioaa.txt (Prod.snd (x.1))) (fun v1 =>
       .ret (.one (.v (.string (v1))))))))))
theorem tr_rtext_eq (x : Els [(true, cF)]) : fnP E10 (fun _ => none) Try.f19 (encs [(true, cF)] x) = tr_rtext x := by kernel_rfl
/-- a fraction's text -/
def ftxt (x : F) : ByteArray := if okF x = true then (if zW x.2 = 1 then txt x.1 else txt x.1 ++ ⟨#[47]⟩ ++ txt x.2) else ⟨#[]⟩
theorem bytesOf_size (l : List Int) : (bytesOf l).size = l.length := by
  show (bytesOf l).data.size = _
  simp [bytesOf]
theorem txt_size (x : W) : (txt x).size ≤ 1025 := by
  have := dg_amt x.2
  unfold txt
  split
  · show 1 ≤ 1025; omega
  · rw [bytesOf_size, List.length_reverse, List.length_append]
    split <;> simp <;> omega
theorem rtext_ok (x : Els [(true, cF)]) : (tr_rtext x).wp (· = .one (.v (.string (ftxt x.1)))) := by
  obtain ⟨x, u⟩ := x
  revert x
  intro (x : F)
  unfold tr_rtext
  simp only [T.wp]
  unfold ftxt
  have h1 := txt_size x.1
  have h2 := txt_size x.2
  refine ⟨fun h => ?_, fun h => ⟨fun hd => ?_, fun hd => ⟨?_, ?_, ?_⟩⟩⟩
  · rw [if_neg (by simpa using h)]
  · rw [if_pos (by simpa using h), if_pos (of_decide_eq_true hd)]
  · have : (ByteArray.size ⟨#[(47 : UInt8)]⟩) = 1 := rfl
    rw [this]
    show ((_ : Nat) : Int) ≤ 9223372036854775807
    omega
  · have : (ByteArray.size ⟨#[(47 : UInt8)]⟩) = 1 := rfl
    rw [ByteArray.size_append, this]
    show ((_ : Nat) : Int) ≤ 9223372036854775807
    omega
  · rw [if_pos (by simpa using h), if_neg (of_decide_eq_false hd)]
noncomputable def con_rtext : Con Try.prog := ⟨19, [], _, cf_rtext, tot_con (E := E10) mixed Try.func19 no_loops [(true, cF)] (fun x => .one (.v (.string (ftxt x.1)))) fun x => by rw [tr_rtext_eq]; exact rtext_ok x⟩
noncomputable def E11 : Env Try.prog := ⟨con_rtext :: E10.con, E10.zero, E10.cod, E10.sure⟩
abbrev spScale : LSpec := ⟨14, [(6, false, .int .i64), (7, false, .int .i64)], [(2, 0, 0), (3, 1, 0), (4, 2, 0)], [(25, cW), (25, cW), (4, .bool)], fun _ => []⟩
abbrev spPar : LSpec := ⟨89, [(4, false, .str), (5, false, .bool), (44, false, .int .i64), (45, false, .int .i64)], [(2, 0, 0), (6, 1, 0), (7, 2, 0)], [(25, cW), (25, cW), (25, cW)], fun e => match e with | .ret => [3] | .exit _ => [5] | _ => []⟩
end Go.Proofs.Ytjijakfcahhioaa
/-
The loops of scale and Parse.
-/
set_option linter.unusedSimpArgs false
set_option linter.unusedVariables false
namespace Go.Proofs.Ytjijakfcahhioaa
open Go.RowKit Ax
noncomputable def tr_scaleL (x : LSpec.X spScale × LSpec.Y spScale) : T (Rd spScale) :=
 .ite (Decidable.decide (Prod.fst (Prod.snd (x.1)) < Prod.fst (x.1)))
  (Ax.dup (.need (Ax.in64 (10 : Int)) (.lt (Ax.zW (Prod.fst (Prod.snd (Prod.snd x))) * Ax.zW (Ax.wOf (10 : Int))) (fun v0 =>
     .ret (.again (Prod.fst (x.1), (Go.IntKind.wrap Go.IntKind.i64 (Prod.fst (Prod.snd (x.1)) + (1 : Int)), ())) (Prod.fst (Prod.snd x), (Ax.wOf v0, (Prod.fst (Prod.snd (Prod.snd (Prod.snd x))) && Pq.fits v0, ()))))))))
  (.ret (.out (Go.Exit.exit (0 : Nat)) [] (Prod.fst (Prod.snd x), (Prod.fst (Prod.snd (Prod.snd x)), (Prod.fst (Prod.snd (Prod.snd (Prod.snd x))), ())))))
theorem tr_scaleL_eq (x : LSpec.X spScale × LSpec.Y spScale) : LSpec.round spScale E11 (fun _ => none) (bodyOf Try.f55 0) x.1 x.2 = tr_scaleL x := by kernel_rfl
noncomputable def tr_parL (x : LSpec.X spPar × LSpec.Y spPar) : T (Rd spPar) :=
 .ite (Decidable.decide (Prod.fst (Prod.snd (Prod.snd (Prod.snd (x.1)))) < Prod.fst (Prod.snd (Prod.snd (x.1)))))
  (.get (Array.toList (ByteArray.data (Prod.fst (x.1)))) (Prod.fst (Prod.snd (Prod.snd (Prod.snd (x.1))))) (fun v0 =>
   .ite (Decidable.decide ((↑(UInt8.toNat v0) : Int) < (48 : Int)))
    (.ret (.out (Go.Exit.ret) [(.one (.v (.bool (Bool.false))))] (Ax.w0, (Prod.fst (Prod.snd (Prod.snd x)), (Prod.fst (Prod.snd (Prod.snd (Prod.snd x))), ())))))
    (.get (Array.toList (ByteArray.data (Prod.fst (x.1)))) (Prod.fst (Prod.snd (Prod.snd (Prod.snd (x.1))))) (fun v1 =>
     .ite (Decidable.decide ((↑(UInt8.toNat v1) : Int) > (57 : Int)))
      (.ret (.out (Go.Exit.ret) [(.one (.v (.bool (Bool.false))))] (Ax.w0, (Prod.fst (Prod.snd (Prod.snd x)), (Prod.fst (Prod.snd (Prod.snd (Prod.snd x))), ())))))
      (.lt (Ax.zW (Prod.fst (Prod.snd (Prod.snd x))) * Ax.zW (Prod.fst (Prod.snd (Prod.snd (Prod.snd x))))) (fun v2 =>
       .get (Array.toList (ByteArray.data (Prod.fst (x.1)))) (Prod.fst (Prod.snd (Prod.snd (Prod.snd (x.1))))) (fun v3 =>
        .need (Ax.in64 (Go.IntKind.wrap Go.IntKind.i64 (Go.IntKind.wrap Go.IntKind.u8 ((↑(UInt8.toNat v3) : Int) - (48 : Int))))) (.lt (Ax.zW (Ax.wOf v2) + Ax.zW (Ax.wOf (Go.IntKind.wrap Go.IntKind.i64 (Go.IntKind.wrap Go.IntKind.u8 ((↑(UInt8.toNat v3) : Int) - (48 : Int)))))) (fun v4 =>
          .ite (!Pq.fits v2)
           (.ret (.out (Go.Exit.ret) [(.one (.v (.bool (Bool.false))))] (Ax.w0, (Prod.fst (Prod.snd (Prod.snd x)), (Prod.fst (Prod.snd (Prod.snd (Prod.snd x))), ())))))
           (.ite (!Pq.fits v4)
            (.ret (.out (Go.Exit.ret) [(.one (.v (.bool (Bool.false))))] (Ax.w0, (Prod.fst (Prod.snd (Prod.snd x)), (Prod.fst (Prod.snd (Prod.snd (Prod.snd x))), ())))))
            (.ret (.again (Prod.fst (x.1), (Prod.fst (Prod.snd (x.1)), (Prod.fst (Prod.snd (Prod.snd (x.1))), (Go.IntKind.wrap Go.IntKind.i64 (Prod.fst (Prod.snd (Prod.snd (Prod.snd (x.1)))) + (1 : Int)), ())))) (Prod.fst (Prod.snd x), (Ax.wOf v4, (Prod.fst (Prod.snd (Prod.snd (Prod.snd x))), ())))))))))))))))
  (.ret (.out (Go.Exit.exit (0 : Nat)) [(.one (.v (.bool (Prod.fst (Prod.snd (x.1))))))] (Prod.fst (Prod.snd x), (Prod.fst (Prod.snd (Prod.snd x)), (Prod.fst (Prod.snd (Prod.snd (Prod.snd x))), ())))))
theorem tr_parL_eq (x : LSpec.X spPar × LSpec.Y spPar) : LSpec.round spPar E11 (fun _ => none) (bodyOf Try.f50 0) x.1 x.2 = tr_parL x := by kernel_rfl
theorem pow10_lt {k : Nat} (h : k ≤ 40) : ((10 : Int) ^ k).natAbs < Pq.bp 32 := by
  rw [Int.natAbs_pow]
  refine Nat.lt_of_le_of_lt (Nat.pow_le_pow_right (by decide) h) ?_
  decide +kernel
def outScale (x : LSpec.X spScale) (y : LSpec.Y spScale) : T (Exit × List Av × LSpec.Y spScale) :=
  .need (0 ≤ x.2.1 ∧ x.2.1 ≤ x.1 ∧ x.1 ≤ 20 ∧ y.2.1 = wOf (10 ^ x.2.1.toNat)) (.ret (.exit 0, [], (y.1, wOf (10 ^ x.1.toNat), y.2.2.1, ())))
theorem scaleL_core (n i : Int) (r v : W) (b : Bool) (Q : Exit × List Av × LSpec.Y spScale → Prop) (h : (outScale (n, i, ()) (r, v, b, ())).wp Q) : (tr_scaleL ((n, i, ()), (r, v, b, ()))).wp fun r => match r with
      | .again x' y' => (x'.1 - x'.2.1).toNat < (n - i).toNat ∧ (outScale x' y').wp Q
      | .out e avs y' => Q (e, avs, y') := by
  unfold tr_scaleL
  unfold outScale at h ⊢
  simp only [T.wp, dup_wp] at h ⊢
  dsimp only [El, vts, bts, spScale] at h ⊢
  obtain ⟨⟨h0, h1, h2, hv⟩, hq⟩ := h
  refine ⟨fun hlt => ?_, fun hge => ?_⟩
  · have hlt := of_decide_eq_true hlt
    have e : zW v * zW (wOf 10) = 10 ^ (i + 1).toNat := by
      rw [hv, zW_wOf (pow10_lt (by omega)), show wOf 10 = wOf (10 ^ 1) from rfl, zW_wOf (pow10_lt (k := 1) (by omega)), show (i + 1).toNat = i.toNat + 1 from by omega, Int.pow_succ]; rfl
    have hf : Pq.fits (10 ^ (i + 1).toNat) = true := by
      unfold Pq.fits
      exact decide_eq_true (pow10_lt (by omega))
    rw [e, hf, Bool.and_true, IntWalk.i64_in _ (by omega)]
    exact ⟨⟨by omega, by omega⟩, by omega, ⟨by omega, by omega, h2, rfl⟩, hq⟩
  · have hge := of_decide_eq_false hge
    obtain rfl : i = n := by omega
    rw [← hv] at hq
    exact hq
theorem scaleL_ok : LoopOk Try.prog 0 (bodyOf Try.f55 0) (spScale.run outScale) :=
  loop_ok (E := E11) (L := fun _ => none) mixed 0 (loops_none _ _ _) spScale (Nat.zero_le _) outScale (fun x _ => (x.1 - x.2.1).toNat) (by
    rintro ⟨n, i, ⟨⟩⟩ ⟨r, v, b, ⟨⟩⟩ Q h
    rw [tr_scaleL_eq ((n, i, ()), (r, v, b, ()))]
    exact scaleL_core n i r v b Q h)
noncomputable def lpScale : Loops := oneL 3 (spScale.run outScale)
/-- digits read onto a number -/
def parD : Int → List UInt8 → Bool × Int
  | v, [] => (true, v)
  | v, b :: r => if (b.toNat : Int) < 48 ∨ (b.toNat : Int) > 57 then (false, v) else if Pq.fits (v * 10) = true ∧ Pq.fits (v * 10 + ((b.toNat : Int) - 48)) = true then parD (v * 10 + ((b.toNat : Int) - 48)) r else (false, v)
def outPar (x : LSpec.X spPar) (y : LSpec.Y spPar) : T (Exit × List Av × LSpec.Y spPar) :=
  .need (x.2.2.1 = x.1.data.toList.length ∧ 0 ≤ x.2.2.2.1 ∧ x.2.2.2.1 ≤ x.2.2.1 ∧ x.2.2.1 ≤ 1000 ∧ zW y.2.2.1 = 10 ∧ wOf (zW y.2.1) = y.2.1) (.lt (parD (zW y.2.1) (x.1.data.toList.drop x.2.2.2.1.toNat)) fun r =>
    .ite r.1 (.ret (.exit 0, [aB x.2.1], (y.1, wOf r.2, y.2.2.1, ()))) (.ret (.ret, [aB false], (w0, wOf r.2, y.2.2.1, ()))))
theorem parL_core (s : ByteArray) (ng : Bool) (n i : Int) (r v t : W) (Q : Exit × List Av × LSpec.Y spPar → Prop) (h : (outPar (s, ng, n, i, ()) (r, v, t, ())).wp Q) : (tr_parL ((s, ng, n, i, ()), (r, v, t, ()))).wp fun r => match r with
      | .again x' y' => (x'.2.2.1 - x'.2.2.2.1).toNat < (n - i).toNat ∧ (outPar x' y').wp Q
      | .out e avs y' => Q (e, avs, y') := by
  unfold tr_parL
  unfold outPar at h ⊢
  simp only [T.wp] at h ⊢
  dsimp only [El, vts, bts, spPar] at h ⊢
  generalize s.data.toList = l at *
  obtain ⟨⟨hn, h0, h1, hl, ht, hw⟩, hq1, hq2⟩ := h
  refine ⟨fun hlt => ?_, fun hge => ?_⟩
  · have hlt := of_decide_eq_true hlt
    obtain ⟨b, hb⟩ := elem_at (l := l) (i := i) h0 (by omega)
    have hd := drop_at h0 hb
    have hb8 := b.toNat_lt
    rw [hd, parD] at hq1 hq2
    refine ⟨b, h0, hb, fun c1 => ?_, fun c1 => ⟨b, h0, hb, fun c2 => ?_, fun c2 => ?_⟩⟩
    · rw [if_pos (.inl (of_decide_eq_true c1))] at hq2
      rw [hw] at hq2
      exact hq2 rfl
    · rw [if_pos (.inr (of_decide_eq_true c2))] at hq2
      rw [hw] at hq2
      exact hq2 rfl
    · have c1 := of_decide_eq_false c1
      have c2 := of_decide_eq_false c2
      rw [if_neg (by omega)] at hq1 hq2
      have e1 : IntKind.i64.wrap (IntKind.u8.wrap ((b.toNat : Int) - 48)) = (b.toNat : Int) - 48 := by
        rw [IntWalk.u8_in _ (by omega), IntWalk.i64_in _ (by omega)]
      have hz : zW (wOf ((b.toNat : Int) - 48)) = (b.toNat : Int) - 48 := zW_wOf (i64_lt (by omega) (by omega))
      refine ⟨b, h0, hb, ?_⟩
      rw [e1, ht, hz]
      refine ⟨⟨by omega, by omega⟩, fun f1 => ?_, fun f1 => ?_⟩
      · have f1 : Pq.fits (zW v * 10) = false := by simpa using f1
        rw [if_neg (by rw [f1]; simp)] at hq2
        rw [hw] at hq2
        exact hq2 rfl
      · have f1 : Pq.fits (zW v * 10) = true := by simpa using f1
        have e2 : zW (wOf (zW v * 10)) = zW v * 10 := zW_wOf (by unfold Pq.fits at f1; exact of_decide_eq_true f1)
        rw [e2]
        refine ⟨fun f2 => ?_, fun f2 => ?_⟩
        · have f2 : Pq.fits (zW v * 10 + ((b.toNat : Int) - 48)) = false := by simpa using f2
          rw [if_neg (by rw [f2]; simp)] at hq2
          rw [hw] at hq2
          exact hq2 rfl
        · have f2 : Pq.fits (zW v * 10 + ((b.toNat : Int) - 48)) = true := by simpa using f2
          rw [if_pos ⟨f1, f2⟩] at hq1 hq2
          have e3 : zW (wOf (zW v * 10 + ((b.toNat : Int) - 48))) = zW v * 10 + ((b.toNat : Int) - 48) := zW_wOf (by unfold Pq.fits at f2; exact of_decide_eq_true f2)
          rw [IntWalk.i64_in (i + 1) (by omega), e3]
          exact ⟨by omega, ⟨hn, by omega, by omega, hl, rfl, rfl⟩, hq1, hq2⟩
  · have hge := of_decide_eq_false hge
    rw [drop_end (by omega), parD] at hq1
    have := hq1 rfl
    rw [hw] at this
    exact this
theorem parL_ok : LoopOk Try.prog 0 (bodyOf Try.f50 0) (spPar.run outPar) :=
  loop_ok (E := E11) (L := fun _ => none) mixed 0 (loops_none _ _ _) spPar (Nat.zero_le _) outPar (fun x _ => (x.2.2.1 - x.2.2.2.1).toNat) (by
    rintro ⟨s, ng, n, i, ⟨⟩⟩ ⟨r, v, t, ⟨⟩⟩ Q h
    rw [tr_parL_eq ((s, ng, n, i, ()), (r, v, t, ()))]
    exact parL_core s ng n i r v t Q h)
noncomputable def lpPar : Loops := oneL 9 (spPar.run outPar)
end Go.Proofs.Ytjijakfcahhioaa
/-
scale, Parse.
-/
set_option linter.unusedSimpArgs false
set_option linter.unusedVariables false
namespace Go.Proofs.Ytjijakfcahhioaa
open Go.RowKit Ax
noncomputable def tr_rscale (x : Els [(false, .int .i64)]) : T Av :=
 .need ((0 : Ax.El (Ax.Cd.int Go.IntKind.i64)) ≤ (0 : Int) ∧ (0 : Int) ≤ x.1 ∧ x.1 ≤ (20 : Ax.El (Ax.Cd.int Go.IntKind.i64)) ∧ Ax.wOf (1 : Int) = Ax.wOf ((10 : Int) ^ Int.toNat (0 : Int))) (.ret (.agg [.v (.bool (Prod.fst (Ax.wOf ((10 : Int) ^ Int.toNat (x.1))))), .w (Prod.snd (Ax.wOf ((10 : Int) ^ Int.toNat (x.1))))]))
theorem tr_rscale_eq (x : Els [(false, .int .i64)]) : fnP E11 lpScale Try.f55 (encs [(false, .int .i64)] x) = tr_rscale x := by kernel_rfl
noncomputable def tr_wparse (x : Els [(false, .str)]) : T Av :=
 .ite (!ByteArray.toList (x.1) == ByteArray.toList { data := #[] })
  (.get (Array.toList (ByteArray.data (x.1))) ((0 : Int)) (fun v0 =>
   .ite ((↑(UInt8.toNat v0) : Int) == (45 : Int))
    (.need ((0 : Int) ≤ (1 : Int) ∧ (1 : Int) ≤ (↑(ByteArray.size (x.1)) : Int) ∧ (↑(ByteArray.size (x.1)) : Int) ≤ (↑(ByteArray.size (x.1)) : Int)) (.lt (ByteArray.extract (x.1) (Int.toNat (1 : Int)) (Int.toNat (↑(ByteArray.size (x.1)) : Int))) (fun v1 =>
      .ite (Decidable.decide ((↑(ByteArray.size (x.1)) : Int) > (400 : Int)))
       (.ret (.tup [(.agg [.v (.bool (Prod.fst Ax.w0)), .w (Prod.snd Ax.w0)]), (.one (.v (.bool (Bool.false))))]))
       (.ite (ByteArray.toList v1 == ByteArray.toList { data := #[] })
        (.ret (.tup [(.agg [.v (.bool (Prod.fst Ax.w0)), .w (Prod.snd Ax.w0)]), (.one (.v (.bool (Bool.false))))]))
        (.get (Array.toList (ByteArray.data v1)) ((0 : Int)) (fun v2 =>
         .ite ((↑(UInt8.toNat v2) : Int) == (48 : Int))
          (.ite (!ByteArray.toList (x.1) == ByteArray.toList { data := #[(48 : UInt8)] })
           (.ret (.tup [(.agg [.v (.bool (Prod.fst Ax.w0)), .w (Prod.snd Ax.w0)]), (.one (.v (.bool (Bool.false))))]))
           (.need (Ax.in64 (10 : Int)) (.need ((↑(ByteArray.size v1) : Int) = (↑(List.length (Array.toList (ByteArray.data v1))) : Ax.El (Ax.Cd.int Go.IntKind.i64)) ∧ (0 : Ax.El (Ax.Cd.int Go.IntKind.i64)) ≤ (0 : Int) ∧ (0 : Int) ≤ (↑(ByteArray.size v1) : Int) ∧ (↑(ByteArray.size v1) : Int) ≤ (1000 : Ax.El (Ax.Cd.int Go.IntKind.i64)) ∧ Ax.zW (Ax.wOf (10 : Int)) = (10 : Int) ∧ Ax.wOf (Ax.zW Ax.w0) = Ax.w0) (.lt (Go.Proofs.Ytjijakfcahhioaa.parD (Ax.zW Ax.w0) (List.drop (Int.toNat (0 : Int)) (Array.toList (ByteArray.data v1)))) (fun v3 =>
              .ite (Prod.fst v3)
               (.ite ((↑(UInt8.toNat v0) : Int) == (45 : Int))
                (.lt (-Ax.zW (Ax.wOf (Prod.snd v3))) (fun v4 =>
                 .ret (.tup [(.agg [.v (.bool (Prod.fst (Ax.wOf v4))), .w (Prod.snd (Ax.wOf v4))]), (.one (.v (.bool (Bool.true))))])))
                (.ret (.tup [(.agg [.v (.bool (Prod.fst (Ax.wOf (Prod.snd v3)))), .w (Prod.snd (Ax.wOf (Prod.snd v3)))]), (.one (.v (.bool (Bool.true))))])))
               (.ret (.tup [(.agg [.v (.bool (Prod.fst Ax.w0)), .w (Prod.snd Ax.w0)]), (.one (.v (.bool (Bool.false))))])))))))
          (.need (Ax.in64 (10 : Int)) (.need ((↑(ByteArray.size v1) : Int) = (↑(List.length (Array.toList (ByteArray.data v1))) : Ax.El (Ax.Cd.int Go.IntKind.i64)) ∧ (0 : Ax.El (Ax.Cd.int Go.IntKind.i64)) ≤ (0 : Int) ∧ (0 : Int) ≤ (↑(ByteArray.size v1) : Int) ∧ (↑(ByteArray.size v1) : Int) ≤ (1000 : Ax.El (Ax.Cd.int Go.IntKind.i64)) ∧ Ax.zW (Ax.wOf (10 : Int)) = (10 : Int) ∧ Ax.wOf (Ax.zW Ax.w0) = Ax.w0) (.lt (Go.Proofs.Ytjijakfcahhioaa.parD (Ax.zW Ax.w0) (List.drop (Int.toNat (0 : Int)) (Array.toList (ByteArray.data v1)))) (fun v3 =>
             .ite (Prod.fst v3)
              (.ite ((↑(UInt8.toNat v0) : Int) == (45 : Int))
               (.lt (-Ax.zW (Ax.wOf (Prod.snd v3))) (fun v4 =>
                .ret (.tup [(.agg [.v (.bool (Prod.fst (Ax.wOf v4))), .w (Prod.snd (Ax.wOf v4))]), (.one (.v (.bool (Bool.true))))])))
               (.ret (.tup [(.agg [.v (.bool (Prod.fst (Ax.wOf (Prod.snd v3)))), .w (Prod.snd (Ax.wOf (Prod.snd v3)))]), (.one (.v (.bool (Bool.true))))])))
              (.ret (.tup [(.agg [.v (.bool (Prod.fst Ax.w0)), .w (Prod.snd Ax.w0)]), (.one (.v (.bool (Bool.false))))]))))))))))))
    (.ite (Decidable.decide ((↑(ByteArray.size (x.1)) : Int) > (400 : Int)))
     (.ret (.tup [(.agg [.v (.bool (Prod.fst Ax.w0)), .w (Prod.snd Ax.w0)]), (.one (.v (.bool (Bool.false))))]))
     (.ite (ByteArray.toList (x.1) == ByteArray.toList { data := #[] })
      (.ret (.tup [(.agg [.v (.bool (Prod.fst Ax.w0)), .w (Prod.snd Ax.w0)]), (.one (.v (.bool (Bool.false))))]))
      (.get (Array.toList (ByteArray.data (x.1))) ((0 : Int)) (fun v1 =>
       .ite ((↑(UInt8.toNat v1) : Int) == (48 : Int))
        (.ite (!ByteArray.toList (x.1) == ByteArray.toList { data := #[(48 : UInt8)] })
         (.ret (.tup [(.agg [.v (.bool (Prod.fst Ax.w0)), .w (Prod.snd Ax.w0)]), (.one (.v (.bool (Bool.false))))]))
         (.need (Ax.in64 (10 : Int)) (.need ((↑(ByteArray.size (x.1)) : Int) = (↑(List.length (Array.toList (ByteArray.data (x.1)))) : Ax.El (Ax.Cd.int Go.IntKind.i64)) ∧ (0 : Ax.El (Ax.Cd.int Go.IntKind.i64)) ≤ (0 : Int) ∧ (0 : Int) ≤ (↑(ByteArray.size (x.1)) : Int) ∧ (↑(ByteArray.size (x.1)) : Int) ≤ (1000 : Ax.El (Ax.Cd.int Go.IntKind.i64)) ∧ Ax.zW (Ax.wOf (10 : Int)) = (10 : Int) ∧ Ax.wOf (Ax.zW Ax.w0) = Ax.w0) (.lt (Go.Proofs.Ytjijakfcahhioaa.parD (Ax.zW Ax.w0) (List.drop (Int.toNat (0 : Int)) (Array.toList (ByteArray.data (x.1))))) (fun v2 =>
            .ite (Prod.fst v2)
             (.ite ((↑(UInt8.toNat v0) : Int) == (45 : Int))
              (.lt (-Ax.zW (Ax.wOf (Prod.snd v2))) (fun v3 =>
               .ret (.tup [(.agg [.v (.bool (Prod.fst (Ax.wOf v3))), .w (Prod.snd (Ax.wOf v3))]), (.one (.v (.bool (Bool.true))))])))
              (.ret (.tup [(.agg [.v (.bool (Prod.fst (Ax.wOf (Prod.snd v2)))), .w (Prod.snd (Ax.wOf (Prod.snd v2)))]), (.one (.v (.bool (Bool.true))))])))
             (.ret (.tup [(.agg [.v (.bool (Prod.fst Ax.w0)), .w (Prod.snd Ax.w0)]), (.one (.v (.bool (Bool.false))))])))))))
        (.need (Ax.in64 (10 : Int)) (.need ((↑(ByteArray.size (x.1)) : Int) = (↑(List.length (Array.toList (ByteArray.data (x.1)))) : Ax.El (Ax.Cd.int Go.IntKind.i64)) ∧ (0 : Ax.El (Ax.Cd.int Go.IntKind.i64)) ≤ (0 : Int) ∧ (0 : Int) ≤ (↑(ByteArray.size (x.1)) : Int) ∧ (↑(ByteArray.size (x.1)) : Int) ≤ (1000 : Ax.El (Ax.Cd.int Go.IntKind.i64)) ∧ Ax.zW (Ax.wOf (10 : Int)) = (10 : Int) ∧ Ax.wOf (Ax.zW Ax.w0) = Ax.w0) (.lt (Go.Proofs.Ytjijakfcahhioaa.parD (Ax.zW Ax.w0) (List.drop (Int.toNat (0 : Int)) (Array.toList (ByteArray.data (x.1))))) (fun v2 =>
           .ite (Prod.fst v2)
            (.ite ((↑(UInt8.toNat v0) : Int) == (45 : Int))
             (.lt (-Ax.zW (Ax.wOf (Prod.snd v2))) (fun v3 =>
              .ret (.tup [(.agg [.v (.bool (Prod.fst (Ax.wOf v3))), .w (Prod.snd (Ax.wOf v3))]), (.one (.v (.bool (Bool.true))))])))
             (.ret (.tup [(.agg [.v (.bool (Prod.fst (Ax.wOf (Prod.snd v2)))), .w (Prod.snd (Ax.wOf (Prod.snd v2)))]), (.one (.v (.bool (Bool.true))))])))
            (.ret (.tup [(.agg [.v (.bool (Prod.fst Ax.w0)), .w (Prod.snd Ax.w0)]), (.one (.v (.bool (Bool.false))))]))))))))))))
  (.ite (Decidable.decide ((↑(ByteArray.size (x.1)) : Int) > (400 : Int)))
   (.ret (.tup [(.agg [.v (.bool (Prod.fst Ax.w0)), .w (Prod.snd Ax.w0)]), (.one (.v (.bool (Bool.false))))]))
   (.ite (ByteArray.toList (x.1) == ByteArray.toList { data := #[] })
    (.ret (.tup [(.agg [.v (.bool (Prod.fst Ax.w0)), .w (Prod.snd Ax.w0)]), (.one (.v (.bool (Bool.false))))]))
    (.get (Array.toList (ByteArray.data (x.1))) ((0 : Int)) (fun v0 =>
     .ite ((↑(UInt8.toNat v0) : Int) == (48 : Int))
      (.ite (!ByteArray.toList (x.1) == ByteArray.toList { data := #[(48 : UInt8)] })
       (.ret (.tup [(.agg [.v (.bool (Prod.fst Ax.w0)), .w (Prod.snd Ax.w0)]), (.one (.v (.bool (Bool.false))))]))
       (.need (Ax.in64 (10 : Int)) (.need ((↑(ByteArray.size (x.1)) : Int) = (↑(List.length (Array.toList (ByteArray.data (x.1)))) : Ax.El (Ax.Cd.int Go.IntKind.i64)) ∧ (0 : Ax.El (Ax.Cd.int Go.IntKind.i64)) ≤ (0 : Int) ∧ (0 : Int) ≤ (↑(ByteArray.size (x.1)) : Int) ∧ (↑(ByteArray.size (x.1)) : Int) ≤ (1000 : Ax.El (Ax.Cd.int Go.IntKind.i64)) ∧ Ax.zW (Ax.wOf (10 : Int)) = (10 : Int) ∧ Ax.wOf (Ax.zW Ax.w0) = Ax.w0) (.lt (Go.Proofs.Ytjijakfcahhioaa.parD (Ax.zW Ax.w0) (List.drop (Int.toNat (0 : Int)) (Array.toList (ByteArray.data (x.1))))) (fun v1 =>
          .ite (Prod.fst v1)
           (.ite (Bool.false)
            (.lt (-Ax.zW (Ax.wOf (Prod.snd v1))) (fun v2 =>
             .ret (.tup [(.agg [.v (.bool (Prod.fst (Ax.wOf v2))), .w (Prod.snd (Ax.wOf v2))]), (.one (.v (.bool (Bool.true))))])))
            (.ret (.tup [(.agg [.v (.bool (Prod.fst (Ax.wOf (Prod.snd v1)))), .w (Prod.snd (Ax.wOf (Prod.snd v1)))]), (.one (.v (.bool (Bool.true))))])))
           (.ret (.tup [(.agg [.v (.bool (Prod.fst Ax.w0)), .w (Prod.snd Ax.w0)]), (.one (.v (.bool (Bool.false))))])))))))
      (.need (Ax.in64 (10 : Int)) (.need ((↑(ByteArray.size (x.1)) : Int) = (↑(List.length (Array.toList (ByteArray.data (x.1)))) : Ax.El (Ax.Cd.int Go.IntKind.i64)) ∧ (0 : Ax.El (Ax.Cd.int Go.IntKind.i64)) ≤ (0 : Int) ∧ (0 : Int) ≤ (↑(ByteArray.size (x.1)) : Int) ∧ (↑(ByteArray.size (x.1)) : Int) ≤ (1000 : Ax.El (Ax.Cd.int Go.IntKind.i64)) ∧ Ax.zW (Ax.wOf (10 : Int)) = (10 : Int) ∧ Ax.wOf (Ax.zW Ax.w0) = Ax.w0) (.lt (Go.Proofs.Ytjijakfcahhioaa.parD (Ax.zW Ax.w0) (List.drop (Int.toNat (0 : Int)) (Array.toList (ByteArray.data (x.1))))) (fun v1 =>
         .ite (Prod.fst v1)
          (.ite (Bool.false)
           (.lt (-Ax.zW (Ax.wOf (Prod.snd v1))) (fun v2 =>
            .ret (.tup [(.agg [.v (.bool (Prod.fst (Ax.wOf v2))), .w (Prod.snd (Ax.wOf v2))]), (.one (.v (.bool (Bool.true))))])))
           (.ret (.tup [(.agg [.v (.bool (Prod.fst (Ax.wOf (Prod.snd v1)))), .w (Prod.snd (Ax.wOf (Prod.snd v1)))]), (.one (.v (.bool (Bool.true))))])))
          (.ret (.tup [(.agg [.v (.bool (Prod.fst Ax.w0)), .w (Prod.snd Ax.w0)]), (.one (.v (.bool (Bool.false))))]))))))))))
theorem tr_wparse_eq (x : Els [(false, .str)]) : fnP E11 lpPar Try.f50 (encs [(false, .str)] x) = tr_wparse x := by kernel_rfl
noncomputable def con_rscale : Con Try.prog := ⟨55, [], _, cf_rscale, val_con (E := E11) (L := lpScale) mixed Try.func55 (one_loop scaleL_ok (by kernel_rfl)) [(false, .int .i64)] (fun x => (0 : Int) ≤ x.1 ∧ x.1 ≤ (20 : Int)) (fun x => .agg (ck cW (wOf ((10 : Int) ^ Int.toNat x.1)))) fun x hx => by
  rw [tr_rscale_eq]
  unfold tr_rscale
  simp only [T.wp]
  dsimp only [El] at hx ⊢
  exact ⟨⟨by omega, hx.1, hx.2, rfl⟩, rfl⟩⟩
theorem ext_list (s : ByteArray) (i n : Nat) : (s.extract i n).data.toList = (s.data.toList.take n).drop i := by
  rw [ByteArray.data_extract, Array.toList_extract]
  simp [List.extract, List.drop_take]
/-- a number out of its text -/
def pzB (neg : Bool) (l d : List UInt8) : Option Int :=
  if 400 < l.length then none else match d with
  | [] => none
  | b :: r => if b.toNat = 48 ∧ l ≠ [48] then none else if (parD 0 (b :: r)).1 = true then some (if neg then -(parD 0 (b :: r)).2 else (parD 0 (b :: r)).2) else none
def pz (l : List UInt8) : Option Int := match l with
  | [] => none
  | b :: r => if b.toNat = 45 then pzB true (b :: r) r else pzB false (b :: r) (b :: r)
theorem parD_fits : ∀ (l : List UInt8) (v : Int), Pq.fits v = true → Pq.fits (parD v l).2 = true
  | [], v, h => h
  | b :: r, v, h => by
    unfold parD
    split
    · exact h
    · split
      · rename_i h2; exact parD_fits r _ h2.2
      · exact h
abbrev noW : Av := .tup [.agg [.v (.bool w0.1), .w w0.2], .one (.v (.bool false))]
abbrev yesW (z : Int) : Av := .tup [.agg [.v (.bool (wOf z).1), .w (wOf z).2], .one (.v (.bool true))]
theorem par_tail {l d : List UInt8} {neg f : Bool} {G : Av} (hG : G = ansA true cW (pzB neg l d).isSome (wOf ((pzB neg l d).getD 0)) w0) (hd : d.length ≤ l.length) (hf : f = neg) :
    (decide ((l.length : Int) > 400) = true → noW = G) ∧ (decide ((l.length : Int) > 400) = false → ((d == []) = true → noW = G) ∧ ((d == []) = false → ∃ x, (0 : Int) ≤ 0 ∧ d[0]? = some x ∧
      (((x.toNat : Int) == 48) = true → ((!l == [48]) = true → noW = G) ∧ ((!l == [48]) = false → in64 10 ∧ (True ∧ (0 : Int) ≤ 0 ∧ (0 : Int) ≤ (d.length : Int) ∧ (d.length : Int) ≤ 1000 ∧ True ∧ True) ∧
          ((parD 0 d).1 = true → (f = true → yesW (-(parD 0 d).2) = G) ∧ (f = false → yesW (parD 0 d).2 = G)) ∧ ((parD 0 d).1 = false → noW = G))) ∧
      (((x.toNat : Int) == 48) = false → in64 10 ∧ (True ∧ (0 : Int) ≤ 0 ∧ (0 : Int) ≤ (d.length : Int) ∧ (d.length : Int) ≤ 1000 ∧ True ∧ True) ∧
          ((parD 0 d).1 = true → (f = true → yesW (-(parD 0 d).2) = G) ∧ (f = false → yesW (parD 0 d).2 = G)) ∧ ((parD 0 d).1 = false → noW = G)))) := by
  subst hf
  have no : pzB f l d = none → noW = G := fun h => by rw [hG, h]; rfl
  have yes : ∀ z, pzB f l d = some z → yesW z = G := fun z h => by rw [hG, h]; rfl
  have i10 : in64 10 := ⟨by omega, by omega⟩
  refine ⟨fun h => no ?_, fun h => ⟨fun h1 => no ?_, fun h1 => ?_⟩⟩
  · have h := of_decide_eq_true h
    unfold pzB; rw [if_pos (by omega)]
  · have : d = [] := by simpa using h1
    subst this
    unfold pzB; split <;> rfl
  · have h := of_decide_eq_false h
    rcases d with _ | ⟨b, r⟩
    · simp at h1
    · have tail : ¬ (b.toNat = 48 ∧ l ≠ [48]) → in64 10 ∧ (True ∧ (0 : Int) ≤ 0 ∧ (0 : Int) ≤ ((b :: r).length : Int) ∧ ((b :: r).length : Int) ≤ 1000 ∧ True ∧ True) ∧
          ((parD 0 (b :: r)).1 = true → (f = true → yesW (-(parD 0 (b :: r)).2) = G) ∧ (f = false → yesW (parD 0 (b :: r)).2 = G)) ∧ ((parD 0 (b :: r)).1 = false → noW = G) := fun hn => by
        refine ⟨i10, ⟨trivial, by omega, by omega, by omega, trivial, trivial⟩, fun hp => ⟨fun hf => yes _ ?_, fun hf => yes _ ?_⟩, fun hp => no ?_⟩
        · unfold pzB; rw [if_neg (by omega)]; simp only; rw [if_neg hn, if_pos hp, if_pos hf]
        · unfold pzB; rw [if_neg (by omega)]; simp only; rw [if_neg hn, if_pos hp, if_neg (by rw [hf]; simp)]
        · unfold pzB; rw [if_neg (by omega)]; simp only; rw [if_neg hn, if_neg (by rw [hp]; simp)]
      refine ⟨b, Int.le_refl _, rfl, fun h48 => ⟨fun hl => no ?_, fun hl => tail ?_⟩, fun h48 => tail ?_⟩
      · have h48 : b.toNat = 48 := by have := beq_iff_eq.1 h48; omega
        unfold pzB; rw [if_neg (by omega)]; simp only
        rw [if_pos ⟨h48, fun e => by rw [e] at hl; simp at hl⟩]
      · intro hn; exact hn.2 (by simpa using hl)
      · intro hn; rw [hn.1] at h48; simp at h48
theorem wparse_ok (x : Els [(false, .str)]) : (tr_wparse x).wp (· = ansA true cW (pz x.1.data.toList).isSome (wOf ((pz x.1.data.toList).getD 0)) w0) := by
  obtain ⟨s, u⟩ := x
  revert s
  intro (s : ByteArray)
  have hs : s.size = s.data.toList.length := rfl
  have z0 : zW w0 = 0 := rfl
  have w00 : wOf 0 = w0 := by
    unfold wOf
    rw [dif_pos (show (0 : Int).natAbs < Pq.bp 32 from Pq.bp_pos 32)]; rfl
  have z10 : zW (wOf 10) = 10 := zW_wOf (i64_lt (by omega) (by omega))
  have i10 : in64 10 := ⟨by omega, by omega⟩
  have fz : ∀ l, zW (wOf (parD 0 l).2) = (parD 0 l).2 := fun l => zW_wOf (by
    have := parD_fits l 0 (by unfold Pq.fits; exact decide_eq_true (Pq.bp_pos 32))
    unfold Pq.fits at this
    exact of_decide_eq_true this)
  unfold tr_wparse
  simp only [T.wp, ByteArray.toList_eq, hs, ext_list, Int.toNat_natCast, List.take_length, show Int.toNat (1 : Int) = 1 from rfl, show Int.toNat (0 : Int) = 0 from rfl, List.drop_zero, z0, w00, z10, fz]
  have hsz : ∀ n, (s.extract 1 n).size = (s.extract 1 n).data.toList.length := fun n => rfl
  simp only [hsz, ext_list, List.take_length]
  generalize s.data.toList = l
  dsimp only [El]
  rcases l with _ | ⟨b, r⟩
  · exact ⟨fun h => by simp at h, fun _ => ⟨fun h => by simp at h, fun _ => ⟨fun _ => rfl, fun h => by simp at h⟩⟩⟩
  · refine ⟨fun _ => ⟨b, Int.le_refl _, rfl, fun hb => ⟨⟨by omega, by simp only [List.length_cons]; omega, Int.le_refl _⟩, ?_⟩, fun hb => ?_⟩, fun h => by simp at h⟩
    · have hb' : b.toNat = 45 := by have := beq_iff_eq.1 hb; omega
      have e : pz (b :: r) = pzB true (b :: r) r := if_pos hb'
      have tl := par_tail (l := b :: r) (d := r) (neg := true) (f := ((b.toNat : Int) == 45)) (G := ansA true cW (pz (b :: r)).isSome (wOf ((pz (b :: r)).getD 0)) w0) (by rw [e]) (by simp) hb
      exact tl
    · have hb' : ¬ b.toNat = 45 := fun e => by rw [e] at hb; cases hb
      have e : pz (b :: r) = pzB false (b :: r) (b :: r) := if_neg hb'
      have tl := par_tail (l := b :: r) (d := b :: r) (neg := false) (f := ((b.toNat : Int) == 45)) (G := ansA true cW (pz (b :: r)).isSome (wOf ((pz (b :: r)).getD 0)) w0) (by rw [e]) (Nat.le_refl _) hb
      exact tl
noncomputable def con_wparse : Con Try.prog := ⟨50, [], _, cf_wparse, ans_con0 (E := E11) (L := lpPar) mixed Try.func50 (one_loop parL_ok (by kernel_rfl)) [(false, .str)] true cW (fun x => (pz x.1.data.toList).isSome) (fun x => wOf ((pz x.1.data.toList).getD 0)) (fun _ => w0) fun x => by rw [tr_wparse_eq]; exact wparse_ok x⟩
noncomputable def E12 : Env Try.prog := ⟨con_rscale :: con_wparse :: E11.con, E11.zero, E11.cod, E11.sure⟩
end Go.Proofs.Ytjijakfcahhioaa
/-
Where a byte stands in a text.
-/
set_option linter.unusedSimpArgs false
set_option linter.unusedVariables false
namespace Go.Proofs.Ytjijakfcahhioaa
open Go.RowKit Ax
theorem cf_ibyte (xs : Array Value) (w : World) : (callFunc 85 xs).run Try.prog w = .ok (.enter 85 xs) w := by kernel_rfl
theorem cf_sindex (xs : Array Value) (w : World) : (callFunc 84 xs).run Try.prog w = .ok (.enter 84 xs) w := by kernel_rfl
theorem cf_scut (xs : Array Value) (w : World) : (callFunc 74 xs).run Try.prog w = .ok (.enter 74 xs) w := by kernel_rfl
theorem cf_cut (xs : Array Value) (w : World) : (callFunc 49 xs).run Try.prog w = .ok (.enter 49 xs) w := by kernel_rfl
def slash : ByteArray := ⟨#[47]⟩
noncomputable def con_ibyte : Con Try.prog := ⟨85, [], pureRun' [(false, .str), (false, .int .u8)] (fun x => .ret (aI .i64 (Lib.indexByte x.1.data.toList (Int.toNat x.2.1).toUInt8))), cf_ibyte, ret_con _ _ fun x vs w R Q => by
  obtain ⟨s, c, u⟩ := x
  revert s c
  intro (s : ByteArray) (c : Int) ha hQ
  obtain ⟨v, v', rfl, hv, hv'⟩ := args2 ha
  have hv := is_str hv
  have hv' := is_int hv'
  subst hv
  subst hv'
  refine ⟨_, _, hQ, (Try.stringslite_IndexByte s c w).mono fun e w' hr => ?_, fun w' R' => .val rfl⟩
  obtain ⟨rfl, rfl⟩ := hr
  exact ⟨rfl, Below.refl _ _⟩⟩
noncomputable def E13 : Env Try.prog := ⟨con_ibyte :: E12.con, E12.zero, E12.cod, E12.sure⟩
end Go.Proofs.Ytjijakfcahhioaa
/-
Where a slash stands in a text.
-/
set_option linter.unusedSimpArgs false
set_option linter.unusedVariables false
namespace Go.Proofs.Ytjijakfcahhioaa
open Go.RowKit Ax
noncomputable def tr_sindex (x : ByteArray) : T Av :=
 .ite ((↑(ByteArray.size Go.Proofs.Ytjijakfcahhioaa.slash) : Int) == (0 : Int))
  (.ret (.one (.v (.int Go.IntKind.i64 ((0 : Int))))))
  (.ite (ByteArray.toList Go.Proofs.Ytjijakfcahhioaa.slash == ByteArray.toList x)
   (.ret (.one (.v (.int Go.IntKind.i64 ((0 : Int))))))
   (.ite ((↑(ByteArray.size Go.Proofs.Ytjijakfcahhioaa.slash) : Int) == (1 : Int))
    (.get (Array.toList (ByteArray.data Go.Proofs.Ytjijakfcahhioaa.slash)) ((0 : Int)) (fun v0 =>
     .ret (.one (.v (.int Go.IntKind.i64 (Go.Lib.indexByte (Array.toList (ByteArray.data x)) (Nat.toUInt8 (Int.toNat (↑(UInt8.toNat v0) : Int)))))))))
    (.ite (Decidable.decide ((↑(ByteArray.size Go.Proofs.Ytjijakfcahhioaa.slash) : Int) ≥ (↑(ByteArray.size x) : Int)))
     (.ret (.one (.v (.int Go.IntKind.i64 ((-1 : Int))))))
     (.fail))))
theorem tr_sindex_eq (x : ByteArray) : fnP E13 (fun _ => none) Try.f84 (encs [(false, .str), (false, .str)] (x, slash, ())) = tr_sindex x := by kernel_rfl
/-- where a slash stands -/
def slashAt (s : ByteArray) : Int := Lib.indexByte s.data.toList 47
noncomputable def con_sindex : Con Try.prog := ⟨84, [], _, cf_sindex, val_con (E := E13) mixed Try.func84 no_loops [(false, .str), (false, .str)] (fun x => x.2.1 = slash) (fun x => aI .i64 (slashAt x.1)) fun x hx => by
  obtain ⟨s, t, ⟨⟩⟩ := x
  revert s t
  intro (s : ByteArray) (t : ByteArray) (hx : t = slash)
  subst hx
  rw [tr_sindex_eq]
  unfold tr_sindex
  simp only [T.wp, ByteArray.toList_eq]
  unfold slashAt
  refine ⟨fun h => (by cases h), fun _ => ⟨fun h => ?_, fun _ => ⟨fun _ => ⟨47, Int.le_refl _, rfl, rfl⟩, fun h => (by cases h)⟩⟩⟩
  have h' : [47] = s.data.toList := beq_iff_eq.1 h
  rw [← h']
  rfl⟩
noncomputable def E14 : Env Try.prog := ⟨con_sindex :: E13.con, E13.zero, E13.cod, E13.sure⟩
end Go.Proofs.Ytjijakfcahhioaa
/-
A text cut at a slash.
-/
set_option linter.unusedSimpArgs false
set_option linter.unusedVariables false
namespace Go.Proofs.Ytjijakfcahhioaa
open Go.RowKit Ax
noncomputable def tr_scut (x : ByteArray) : T Av :=
 .need (Go.Proofs.Ytjijakfcahhioaa.slash = Go.Proofs.Ytjijakfcahhioaa.slash) (.ite (Decidable.decide (Go.Proofs.Ytjijakfcahhioaa.slashAt x ≥ (0 : Int)))
   (.need ((0 : Int) ≤ (0 : Int) ∧ (0 : Int) ≤ Go.Proofs.Ytjijakfcahhioaa.slashAt x ∧ Go.Proofs.Ytjijakfcahhioaa.slashAt x ≤ (↑(ByteArray.size x) : Int)) (.lt (ByteArray.extract x (Int.toNat (0 : Int)) (Int.toNat (Go.Proofs.Ytjijakfcahhioaa.slashAt x))) (fun v0 =>
     .need ((0 : Int) ≤ Go.IntKind.wrap Go.IntKind.i64 (Go.Proofs.Ytjijakfcahhioaa.slashAt x + (↑(ByteArray.size Go.Proofs.Ytjijakfcahhioaa.slash) : Int)) ∧ Go.IntKind.wrap Go.IntKind.i64 (Go.Proofs.Ytjijakfcahhioaa.slashAt x + (↑(ByteArray.size Go.Proofs.Ytjijakfcahhioaa.slash) : Int)) ≤ (↑(ByteArray.size x) : Int) ∧ (↑(ByteArray.size x) : Int) ≤ (↑(ByteArray.size x) : Int)) (.lt (ByteArray.extract x (Int.toNat (Go.IntKind.wrap Go.IntKind.i64 (Go.Proofs.Ytjijakfcahhioaa.slashAt x + (↑(ByteArray.size Go.Proofs.Ytjijakfcahhioaa.slash) : Int)))) (Int.toNat (↑(ByteArray.size x) : Int))) (fun v1 =>
       .ret (.tup [(.one (.v (.string (v0)))), (.one (.v (.string (v1)))), (.one (.v (.bool (Bool.true))))]))))))
   (.ret (.tup [(.one (.v (.string (x)))), (.one (.v (.string ({ data := #[] })))), (.one (.v (.bool (Bool.false))))])))
theorem tr_scut_eq (x : ByteArray) : fnP E14 (fun _ => none) Try.f74 (encs [(false, .str), (false, .str)] (x, slash, ())) = tr_scut x := by kernel_rfl
theorem slash_lt : ∀ (l : List UInt8) (c : UInt8), Lib.indexByte l c < l.length
  | [], c => by simp [Lib.indexByte]
  | b :: l, c => by
    have := slash_lt l c
    simp only [Lib.indexByte, List.length_cons]
    split
    · omega
    · split <;> omega
def cutA (s : ByteArray) : ByteArray := if 0 ≤ slashAt s then s.extract 0 (slashAt s).toNat else s
def cutB (s : ByteArray) : ByteArray := if 0 ≤ slashAt s then s.extract (slashAt s + 1).toNat s.size else ⟨#[]⟩
theorem scut_ok (s : ByteArray) (hs : lenOk s.size) : (tr_scut s).wp (· = .tup [.one (.v (.string (cutA s))), .one (.v (.string (cutB s))), aB (decide (0 ≤ slashAt s))]) := by
  unfold tr_scut
  have h1 : slashAt s < s.size := slash_lt _ _
  have h2 : (slash.size : Int) = 1 := rfl
  unfold lenOk at hs
  simp only [T.wp, h2]
  refine ⟨trivial, fun h => ?_, fun h => ?_⟩
  · have h := of_decide_eq_true h
    have e : IntKind.i64.wrap (slashAt s + 1) = slashAt s + 1 := IntWalk.i64_in _ (by omega)
    rw [e]
    unfold cutA cutB
    rw [if_pos h, if_pos h, decide_eq_true h]
    exact ⟨⟨by omega, h, by omega⟩, ⟨by omega, by omega, by omega⟩, rfl⟩
  · have h := of_decide_eq_false h
    have h : ¬ (0 ≤ slashAt s) := h
    unfold cutA cutB
    rw [if_neg h, if_neg h, decide_eq_false h]
    rfl
noncomputable def con_scut : Con Try.prog := ⟨74, [], _, cf_scut, val_con (E := E14) mixed Try.func74 no_loops [(false, .str), (false, .str)] (fun x => x.2.1 = slash ∧ lenOk (ByteArray.size x.1)) (fun x => .tup [.one (.v (.string (cutA x.1))), .one (.v (.string (cutB x.1))), aB (decide (0 ≤ slashAt x.1))]) fun x hx => by
  obtain ⟨s, t, ⟨⟩⟩ := x
  revert s t
  intro (s : ByteArray) (t : ByteArray) (hx : t = slash ∧ lenOk s.size)
  have hs := hx.2
  have hx := hx.1
  subst hx
  rw [tr_scut_eq]
  exact scut_ok s hs⟩
noncomputable def E15 : Env Try.prog := ⟨con_scut :: E14.con, E14.zero, E14.cod, E14.sure⟩
noncomputable def con_cut : Con Try.prog := ⟨49, [], _, cf_cut, val_con (E := E15) mixed Try.func49 no_loops [(false, .str), (false, .str)] (fun x => x.2.1 = slash ∧ lenOk (ByteArray.size x.1)) (fun x => .tup [.one (.v (.string (cutA x.1))), .one (.v (.string (cutB x.1))), aB (decide (0 ≤ slashAt x.1))]) fun x hx => by
  obtain ⟨s, t, ⟨⟩⟩ := x
  revert s t
  intro (s : ByteArray) (t : ByteArray) (hx : t = slash ∧ lenOk s.size)
  have hs := hx.2
  have hx := hx.1
  subst hx
  have e : fnP E15 (fun _ => none) Try.f49 (encs [(false, .str), (false, .str)] (s, slash, ())) = .need (slash = slash ∧ lenOk s.size) (.ret (.tup [.one (.v (.string (cutA s))), .one (.v (.string (cutB s))), aB (decide (0 ≤ slashAt s))])) := by kernel_rfl
  rw [e]
  exact ⟨⟨rfl, hs⟩, rfl⟩⟩
noncomputable def E16 : Env Try.prog := ⟨con_cut :: E15.con, E15.zero, E15.cod, E15.sure⟩
end Go.Proofs.Ytjijakfcahhioaa
/-
A fraction out of its text.
-/
set_option linter.unusedSimpArgs false
set_option linter.unusedVariables false
namespace Go.Proofs.Ytjijakfcahhioaa
open Go.RowKit Ax
noncomputable def tr_rparse (x : Els [(false, .str)]) : T Av :=
 .need ({ data := #[(47 : UInt8)] } = Go.Proofs.Ytjijakfcahhioaa.slash ∧ Ax.lenOk (ByteArray.size (x.1))) (.ite (Option.isSome (Go.Proofs.Ytjijakfcahhioaa.pz (Array.toList (ByteArray.data (Go.Proofs.Ytjijakfcahhioaa.cutA (x.1))))))
   (.lt (Ax.wOf (Option.getD (Go.Proofs.Ytjijakfcahhioaa.pz (Array.toList (ByteArray.data (Go.Proofs.Ytjijakfcahhioaa.cutA (x.1))))) (0 : Int))) (fun v0 =>
    .ite (Decidable.decide ((0 : Int) ≤ Go.Proofs.Ytjijakfcahhioaa.slashAt (x.1)))
     (.ite (Option.isSome (Go.Proofs.Ytjijakfcahhioaa.pz (Array.toList (ByteArray.data (Go.Proofs.Ytjijakfcahhioaa.cutB (x.1))))))
      (.lt (Ax.wOf (Option.getD (Go.Proofs.Ytjijakfcahhioaa.pz (Array.toList (ByteArray.data (Go.Proofs.Ytjijakfcahhioaa.cutB (x.1))))) (0 : Int))) (fun v1 =>
       .ite (!!Decidable.decide (Ax.zW v1 = (1 : Int)))
        (.ret (.tup [(.agg [.v (.bool (Prod.fst Ax.w0)), .w (Prod.snd Ax.w0), .v (.bool (Prod.fst Ax.w0)), .w (Prod.snd Ax.w0)]), (.one (.v (.bool (Bool.false))))]))
        (.ite (!Ax.okF (v0, v1))
         (.ret (.tup [(.agg [.v (.bool (Prod.fst Ax.w0)), .w (Prod.snd Ax.w0), .v (.bool (Prod.fst Ax.w0)), .w (Prod.snd Ax.w0)]), (.one (.v (.bool (Bool.false))))]))
         (.ret (.tup [(.agg [.v (.bool (Prod.fst v0)), .w (Prod.snd v0), .v (.bool (Prod.fst v1)), .w (Prod.snd v1)]), (.one (.v (.bool (Bool.true))))])))))
      (.ite (!Bool.false)
       (.ret (.tup [(.agg [.v (.bool (Prod.fst Ax.w0)), .w (Prod.snd Ax.w0), .v (.bool (Prod.fst Ax.w0)), .w (Prod.snd Ax.w0)]), (.one (.v (.bool (Bool.false))))]))
       (.ite (!Ax.okF (v0, Ax.w0))
        (.ret (.tup [(.agg [.v (.bool (Prod.fst Ax.w0)), .w (Prod.snd Ax.w0), .v (.bool (Prod.fst Ax.w0)), .w (Prod.snd Ax.w0)]), (.one (.v (.bool (Bool.false))))]))
        (.ret (.tup [(.agg [.v (.bool (Prod.fst v0)), .w (Prod.snd v0), .v (.bool (Prod.fst Ax.w0)), .w (Prod.snd Ax.w0)]), (.one (.v (.bool (Bool.true))))])))))
     (.ite (!Bool.true)
      (.ret (.tup [(.agg [.v (.bool (Prod.fst Ax.w0)), .w (Prod.snd Ax.w0), .v (.bool (Prod.fst Ax.w0)), .w (Prod.snd Ax.w0)]), (.one (.v (.bool (Bool.false))))]))
      (.ite (!Ax.okF (v0, Ax.wOf (1 : Int)))
       (.ret (.tup [(.agg [.v (.bool (Prod.fst Ax.w0)), .w (Prod.snd Ax.w0), .v (.bool (Prod.fst Ax.w0)), .w (Prod.snd Ax.w0)]), (.one (.v (.bool (Bool.false))))]))
       (.ret (.tup [(.agg [.v (.bool (Prod.fst v0)), .w (Prod.snd v0), .v (.bool (Prod.fst (Ax.wOf (1 : Int)))), .w (Prod.snd (Ax.wOf (1 : Int)))]), (.one (.v (.bool (Bool.true))))]))))))
   (.ite (Decidable.decide ((0 : Int) ≤ Go.Proofs.Ytjijakfcahhioaa.slashAt (x.1)))
    (.ite (Option.isSome (Go.Proofs.Ytjijakfcahhioaa.pz (Array.toList (ByteArray.data (Go.Proofs.Ytjijakfcahhioaa.cutB (x.1))))))
     (.lt (Ax.wOf (Option.getD (Go.Proofs.Ytjijakfcahhioaa.pz (Array.toList (ByteArray.data (Go.Proofs.Ytjijakfcahhioaa.cutB (x.1))))) (0 : Int))) (fun v0 =>
      .ite (!Bool.false)
       (.ret (.tup [(.agg [.v (.bool (Prod.fst Ax.w0)), .w (Prod.snd Ax.w0), .v (.bool (Prod.fst Ax.w0)), .w (Prod.snd Ax.w0)]), (.one (.v (.bool (Bool.false))))]))
       (.ite (!Ax.okF (Ax.w0, v0))
        (.ret (.tup [(.agg [.v (.bool (Prod.fst Ax.w0)), .w (Prod.snd Ax.w0), .v (.bool (Prod.fst Ax.w0)), .w (Prod.snd Ax.w0)]), (.one (.v (.bool (Bool.false))))]))
        (.ret (.tup [(.agg [.v (.bool (Prod.fst Ax.w0)), .w (Prod.snd Ax.w0), .v (.bool (Prod.fst v0)), .w (Prod.snd v0)]), (.one (.v (.bool (Bool.true))))])))))
     (.ite (!Bool.false)
      (.ret (.tup [(.agg [.v (.bool (Prod.fst Ax.w0)), .w (Prod.snd Ax.w0), .v (.bool (Prod.fst Ax.w0)), .w (Prod.snd Ax.w0)]), (.one (.v (.bool (Bool.false))))]))
      (.ite (!Ax.okF (Ax.w0, Ax.w0))
       (.ret (.tup [(.agg [.v (.bool (Prod.fst Ax.w0)), .w (Prod.snd Ax.w0), .v (.bool (Prod.fst Ax.w0)), .w (Prod.snd Ax.w0)]), (.one (.v (.bool (Bool.false))))]))
       (.ret (.tup [(.agg [.v (.bool (Prod.fst Ax.w0)), .w (Prod.snd Ax.w0), .v (.bool (Prod.fst Ax.w0)), .w (Prod.snd Ax.w0)]), (.one (.v (.bool (Bool.true))))])))))
    (.ite (!Bool.false)
     (.ret (.tup [(.agg [.v (.bool (Prod.fst Ax.w0)), .w (Prod.snd Ax.w0), .v (.bool (Prod.fst Ax.w0)), .w (Prod.snd Ax.w0)]), (.one (.v (.bool (Bool.false))))]))
     (.ite (!Ax.okF (Ax.w0, Ax.wOf (1 : Int)))
      (.ret (.tup [(.agg [.v (.bool (Prod.fst Ax.w0)), .w (Prod.snd Ax.w0), .v (.bool (Prod.fst Ax.w0)), .w (Prod.snd Ax.w0)]), (.one (.v (.bool (Bool.false))))]))
      (.ret (.tup [(.agg [.v (.bool (Prod.fst Ax.w0)), .w (Prod.snd Ax.w0), .v (.bool (Prod.fst (Ax.wOf (1 : Int)))), .w (Prod.snd (Ax.wOf (1 : Int)))]), (.one (.v (.bool (Bool.true))))]))))))
theorem tr_rparse_eq (x : Els [(false, .str)]) : fnP E16 (fun _ => none) Try.f20 (encs [(false, .str)] x) = tr_rparse x := by kernel_rfl
/-- a fraction out of its text -/
def pR (s : ByteArray) : Option F := match pz (cutA s).data.toList with
  | none => none
  | some n => if 0 ≤ slashAt s then (match pz (cutB s).data.toList with
      | none => none
      | some d => if zW (wOf d) = 1 then none else if okF (wOf n, wOf d) = true then some (wOf n, wOf d) else none)
    else if okF (wOf n, wOf 1) = true then some (wOf n, wOf 1) else none
theorem rparse_ok (x : Els [(false, .str)]) (hs : lenOk (ByteArray.size x.1)) : (tr_rparse x).wp (· = ansF (pR x.1).isSome ((pR x.1).getD (w0, w0))) := by
  obtain ⟨s, u⟩ := x
  revert s
  intro (s : ByteArray) (hs : lenOk s.size)
  unfold tr_rparse
  simp only [T.wp]
  have no : pR s = none → Av.tup [.agg [.v (.bool w0.1), .w w0.2, .v (.bool w0.1), .w w0.2], .one (.v (.bool false))] = ansF (pR s).isSome ((pR s).getD (w0, w0)) := fun h => by rw [h]; rfl
  have yes : ∀ f : F, pR s = some f → Av.tup [.agg [.v (.bool f.1.1), .w f.1.2, .v (.bool f.2.1), .w f.2.2], .one (.v (.bool true))] = ansF (pR s).isSome ((pR s).getD (w0, w0)) := fun f h => by rw [h]; rfl
  refine ⟨⟨rfl, hs⟩, fun hA => ⟨fun h0 => ⟨fun hB => ⟨fun h1 => no ?_, fun h1 => ⟨fun h2 => no ?_, fun h2 => yes (wOf ((pz (cutA s).data.toList).getD 0), wOf ((pz (cutB s).data.toList).getD 0)) ?_⟩⟩, fun hB => ⟨fun _ => no ?_, fun h => (by cases h)⟩⟩, fun h0 => ⟨fun h => (by cases h), fun _ => ⟨fun h2 => no ?_, fun h2 => yes (wOf ((pz (cutA s).data.toList).getD 0), wOf 1) ?_⟩⟩⟩,
    fun hA => ⟨fun h0 => ⟨fun hB => ⟨fun _ => no ?_, fun h => (by cases h)⟩, fun hB => ⟨fun _ => no ?_, fun h => (by cases h)⟩⟩, fun h0 => ⟨fun _ => no ?_, fun h => (by cases h)⟩⟩⟩
  all_goals unfold pR
  · obtain ⟨n, hn⟩ := Option.isSome_iff_exists.1 hA
    obtain ⟨d, hd⟩ := Option.isSome_iff_exists.1 hB
    rw [hd] at h1
    have h1' : zW (wOf d) = 1 := by simpa using h1
    simp only [hn, hd, of_decide_eq_true h0, if_true, h1']
  · obtain ⟨n, hn⟩ := Option.isSome_iff_exists.1 hA
    obtain ⟨d, hd⟩ := Option.isSome_iff_exists.1 hB
    rw [hd] at h1 h2
    rw [hn] at h2
    have h1' : ¬ zW (wOf d) = 1 := by simpa using h1
    have h2' : okF (wOf n, wOf d) = false := by simpa using h2
    simp only [hn, hd, of_decide_eq_true h0, if_true, h1', if_false, h2', Bool.false_eq_true]
  · obtain ⟨n, hn⟩ := Option.isSome_iff_exists.1 hA
    obtain ⟨d, hd⟩ := Option.isSome_iff_exists.1 hB
    rw [hd] at h1 h2
    rw [hn] at h2
    have h1' : ¬ zW (wOf d) = 1 := by simpa using h1
    have h2' : okF (wOf n, wOf d) = true := by simpa using h2
    simp only [hn, hd, of_decide_eq_true h0, if_true, h1', if_false, h2', Option.getD_some]
  · obtain ⟨n, hn⟩ := Option.isSome_iff_exists.1 hA
    have hd := Option.isSome_eq_false_iff.1 hB
    rw [Option.isNone_iff_eq_none] at hd
    simp only [hn, hd, of_decide_eq_true h0, if_true]
  · obtain ⟨n, hn⟩ := Option.isSome_iff_exists.1 hA
    rw [hn] at h2
    have h2' : okF (wOf n, wOf 1) = false := by simpa using h2
    simp only [hn, of_decide_eq_false h0, if_false, h2', Bool.false_eq_true]
  · obtain ⟨n, hn⟩ := Option.isSome_iff_exists.1 hA
    rw [hn] at h2
    have h2' : okF (wOf n, wOf 1) = true := by simpa using h2
    simp only [hn, of_decide_eq_false h0, if_false, h2', if_true, Option.getD_some]
  all_goals
    have hn := Option.isSome_eq_false_iff.1 hA
    rw [Option.isNone_iff_eq_none] at hn
    simp only [hn]
noncomputable def con_rparse : Con Try.prog := ⟨20, [], _, cf_rparse, ans_con (E := E16) mixed Try.func20 no_loops [(false, .str)] (fun x => lenOk (ByteArray.size x.1)) true cF (fun x => (pR x.1).isSome) (fun x => (pR x.1).getD (w0, w0)) (fun _ => (w0, w0)) fun x hx => by
  rw [tr_rparse_eq]
  exact rparse_ok x hx⟩
noncomputable def E17 : Env Try.prog := ⟨con_rparse :: E16.con, E16.zero, E16.cod, E16.sure⟩
end Go.Proofs.Ytjijakfcahhioaa
/-
What the loop of Decimal looks like.
-/
set_option linter.unusedSimpArgs false
set_option linter.unusedVariables false
namespace Go.Proofs.Ytjijakfcahhioaa
open Go.RowKit Ax
abbrev spDec : LSpec := ⟨85, [(1, false, .int .i64), (12, false, .str)], [(2, 0, 0), (6, 1, 0), (7, 2, 0), (8, 3, 0)], [(27, cF), (25, cW), (4, .bool), (25, cW)], fun e => match e with | .exit _ => [1, 12] | _ => []⟩
end Go.Proofs.Ytjijakfcahhioaa
/-
The loop of Decimal.
-/
set_option linter.unusedSimpArgs false
set_option linter.unusedVariables false
namespace Go.Proofs.Ytjijakfcahhioaa
open Go.RowKit Ax
noncomputable def tr_decL (x : LSpec.X spDec × LSpec.Y spDec) : T (Rd spDec) :=
 .ite (Decidable.decide ((↑(ByteArray.size (Prod.fst (Prod.snd (x.1)))) : Int) ≤ Prod.fst (x.1)))
  (.need ((↑(ByteArray.size { data := #[(48 : UInt8)] } + ByteArray.size (Prod.fst (Prod.snd (x.1)))) : Int) ≤ Go.IntKind.max Go.IntKind.i64) (.lt ({ data := #[(48 : UInt8)] } ++ Prod.fst (Prod.snd (x.1))) (fun v0 =>
    .ret (.again (Prod.fst (x.1), (v0, ())) (Prod.fst (Prod.snd x), (Prod.fst (Prod.snd (Prod.snd x)), (Prod.fst (Prod.snd (Prod.snd (Prod.snd x))), (Prod.fst (Prod.snd (Prod.snd (Prod.snd (Prod.snd x)))), ()))))))))
  (.ret (.out (Go.Exit.exit (0 : Nat)) [(.one (.v (.int Go.IntKind.i64 (Prod.fst (x.1))))), (.one (.v (.string (Prod.fst (Prod.snd (x.1))))))] (Prod.fst (Prod.snd x), (Prod.fst (Prod.snd (Prod.snd x)), (Prod.fst (Prod.snd (Prod.snd (Prod.snd x))), (Prod.fst (Prod.snd (Prod.snd (Prod.snd (Prod.snd x)))), ()))))))
theorem tr_decL_eq (x : LSpec.X spDec × LSpec.Y spDec) : LSpec.round spDec E17 (fun _ => none) (bodyOf Try.f25 0) x.1 x.2 = tr_decL x := by kernel_rfl
/-- noughts ahead, until there are more than so many -/
def padS (d : Int) (s : ByteArray) : ByteArray := ⟨(List.replicate (d + 1 - s.size).toNat 48 ++ s.data.toList).toArray⟩
theorem padS_end {d : Int} {s : ByteArray} (h : ¬ (s.size : Int) ≤ d) : padS d s = s := by
  unfold padS
  rw [show (d + 1 - (s.size : Int)).toNat = 0 from by omega]
  simp
theorem padS_step {d : Int} {s : ByteArray} (h : (s.size : Int) ≤ d) : padS d (⟨#[48]⟩ ++ s) = padS d s := by
  unfold padS
  have e : (ByteArray.size (⟨#[48]⟩ ++ s)) = 1 + s.size := by rw [ByteArray.size_append]; rfl
  rw [e]
  obtain ⟨k, hk⟩ : ∃ k : Nat, (d + 1 - (s.size : Int)).toNat = k + 1 := ⟨(d - s.size).toNat, by omega⟩
  rw [show (d + 1 - ((1 + s.size : Nat) : Int)).toNat = k from by omega, hk]
  have e2 : (⟨#[48]⟩ ++ s : ByteArray).data.toList = 48 :: s.data.toList := by
    rw [ByteArray.data_append]; simp
  rw [e2, List.replicate_succ', List.append_assoc]; rfl
def outDec (x : LSpec.X spDec) (y : LSpec.Y spDec) : T (Exit × List Av × LSpec.Y spDec) :=
  .need (x.1 ≤ 20 ∧ (ByteArray.size x.2.1 : Int) ≤ 2000) (.lt (padS x.1 x.2.1) fun u => .ret (.exit 0, [aI .i64 x.1, .one (.v (.string u))], y))
theorem decL_core (d : Int) (s : ByteArray) (y : LSpec.Y spDec) (Q : Exit × List Av × LSpec.Y spDec → Prop) (h : (outDec (d, s, ()) y).wp Q) : (tr_decL ((d, s, ()), y)).wp fun r => match r with
      | .again x' y' => (x'.1 + 1 - (ByteArray.size x'.2.1 : Int)).toNat < (d + 1 - s.size).toNat ∧ (outDec x' y').wp Q
      | .out e avs y' => Q (e, avs, y') := by
  unfold tr_decL
  unfold outDec at h ⊢
  simp only [T.wp] at h ⊢
  dsimp only [El, vts, bts, spDec] at h ⊢
  obtain ⟨⟨h1, h2⟩, hq⟩ := h
  have e1 : ByteArray.size (⟨#[48]⟩ : ByteArray) = 1 := rfl
  refine ⟨fun hlt => ?_, fun hge => ?_⟩
  · have hlt := of_decide_eq_true hlt
    rw [ByteArray.size_append, e1, padS_step hlt]
    refine ⟨?_, by omega, ⟨h1, by omega⟩, hq⟩
    show ((_ : Nat) : Int) ≤ 9223372036854775807
    omega
  · have hge := of_decide_eq_false hge
    rw [padS_end hge] at hq
    exact hq
theorem decL_ok : LoopOk Try.prog 0 (bodyOf Try.f25 0) (spDec.run outDec) :=
  loop_ok (E := E17) (L := fun _ => none) mixed 0 (loops_none _ _ _) spDec (Nat.zero_le _) outDec (fun x _ => (x.1 + 1 - (ByteArray.size x.2.1 : Int)).toNat) (by
    rintro ⟨d, s, ⟨⟩⟩ y Q h
    rw [tr_decL_eq ((d, s, ()), y)]
    exact decL_core d s y Q h)
noncomputable def lpDec : Loops := oneL 12 (spDec.run outDec)
end Go.Proofs.Ytjijakfcahhioaa
/-
Decimal.
-/
set_option linter.unusedSimpArgs false
set_option linter.unusedVariables false
namespace Go.Proofs.Ytjijakfcahhioaa
open Go.RowKit Ax
noncomputable def tr_rdecimal (x : Els [(true, cF), (false, .int .i64)]) : T Av :=
 .need (Ax.lenOk (List.length [x.1])) (.ite (!List.all [x.1] (Ax.safeF (500 : Int)))
   (.ret (.tup [(.one (.v (.string ({ data := #[] })))), (.one (.v (.bool (Bool.false))))]))
   (.lt (if (0 : Int) > Prod.fst (Prod.snd x) then (0 : Int) else Prod.fst (Prod.snd x)) (fun v0 =>
    .lt (if (20 : Int) < v0 then (20 : Int) else v0) (fun v1 =>
     Ax.dup (.need ((0 : Int) ≤ v1 ∧ v1 ≤ (20 : Int)) (.lt (Ax.zW (Bool.false, Prod.snd (Prod.fst (x.1))) * Ax.zW (Ax.wOf ((10 : Int) ^ Int.toNat v1))) (fun v2 =>
        .lt (Ax.zW (Ax.wOf v2)) (fun v3 =>
         .lt (Ax.zW (Prod.snd (x.1))) (fun v4 =>
          .need (Ax.in64 (2 : Int)) (.lt (Ax.zW (Ax.wOf (if v4 = (0 : Int) then (0 : Int) else Int.tmod v3 v4)) * Ax.zW (Ax.wOf (2 : Int))) (fun v5 =>
            .ite (Decidable.decide (Pq.cz (Ax.zW (Ax.wOf v5)) (Ax.zW (Prod.snd (x.1))) ≥ (0 : Int)))
             (Ax.dup (.lt (Ax.zW (Ax.wOf (if v4 = (0 : Int) then (0 : Int) else Int.tdiv v3 v4)) + Ax.zW (Ax.wOf (1 : Int))) (fun v6 =>
               .need (v1 ≤ (20 : Ax.El (Ax.Cd.int Go.IntKind.i64)) ∧ (↑(ByteArray.size (Go.Proofs.Ytjijakfcahhioaa.txt (Ax.wOf v6))) : Int) ≤ (2000 : Int)) (.lt (Go.Proofs.Ytjijakfcahhioaa.padS v1 (Go.Proofs.Ytjijakfcahhioaa.txt (Ax.wOf v6))) (fun v7 =>
                 .ite (Decidable.decide (v1 > (0 : Int)))
                  (.need ((0 : Int) ≤ (0 : Int) ∧ (0 : Int) ≤ Go.IntKind.wrap Go.IntKind.i64 ((↑(ByteArray.size v7) : Int) - v1) ∧ Go.IntKind.wrap Go.IntKind.i64 ((↑(ByteArray.size v7) : Int) - v1) ≤ (↑(ByteArray.size v7) : Int)) (.lt (ByteArray.extract v7 (Int.toNat (0 : Int)) (Int.toNat (Go.IntKind.wrap Go.IntKind.i64 ((↑(ByteArray.size v7) : Int) - v1)))) (fun v8 =>
                    .need ((↑(ByteArray.size v8 + ByteArray.size { data := #[(46 : UInt8)] }) : Int) ≤ Go.IntKind.max Go.IntKind.i64) (.lt (v8 ++ { data := #[(46 : UInt8)] }) (fun v9 =>
                      .need ((0 : Int) ≤ Go.IntKind.wrap Go.IntKind.i64 ((↑(ByteArray.size v7) : Int) - v1) ∧ Go.IntKind.wrap Go.IntKind.i64 ((↑(ByteArray.size v7) : Int) - v1) ≤ (↑(ByteArray.size v7) : Int) ∧ (↑(ByteArray.size v7) : Int) ≤ (↑(ByteArray.size v7) : Int)) (.lt (ByteArray.extract v7 (Int.toNat (Go.IntKind.wrap Go.IntKind.i64 ((↑(ByteArray.size v7) : Int) - v1))) (Int.toNat (↑(ByteArray.size v7) : Int))) (fun v10 =>
                        .need ((↑(ByteArray.size v9 + ByteArray.size v10) : Int) ≤ Go.IntKind.max Go.IntKind.i64) (.lt (v9 ++ v10) (fun v11 =>
                          .ite (Decidable.decide (Pq.cz (Ax.zW (Prod.fst (x.1))) (0 : Int) < (0 : Int)))
                           (.ite (Decidable.decide ((↑(Pq.bitn (Int.natAbs (Ax.zW (Ax.wOf v6)))) : Int) > (0 : Int)))
                            (.need ((↑(ByteArray.size { data := #[(45 : UInt8)] } + ByteArray.size v11) : Int) ≤ Go.IntKind.max Go.IntKind.i64) (.lt ({ data := #[(45 : UInt8)] } ++ v11) (fun v12 =>
                              .ret (.tup [(.one (.v (.string (v12)))), (.one (.v (.bool (Bool.true && Pq.fits v2 && Pq.fits v5))))]))))
                            (.ret (.tup [(.one (.v (.string (v11)))), (.one (.v (.bool (Bool.true && Pq.fits v2 && Pq.fits v5))))])))
                           (.ret (.tup [(.one (.v (.string (v11)))), (.one (.v (.bool (Bool.true && Pq.fits v2 && Pq.fits v5))))])))))))))))
                  (.ite (Decidable.decide (Pq.cz (Ax.zW (Prod.fst (x.1))) (0 : Int) < (0 : Int)))
                   (.ite (Decidable.decide ((↑(Pq.bitn (Int.natAbs (Ax.zW (Ax.wOf v6)))) : Int) > (0 : Int)))
                    (.need ((↑(ByteArray.size { data := #[(45 : UInt8)] } + ByteArray.size v7) : Int) ≤ Go.IntKind.max Go.IntKind.i64) (.lt ({ data := #[(45 : UInt8)] } ++ v7) (fun v8 =>
                      .ret (.tup [(.one (.v (.string (v8)))), (.one (.v (.bool (Bool.true && Pq.fits v2 && Pq.fits v5))))]))))
                    (.ret (.tup [(.one (.v (.string (v7)))), (.one (.v (.bool (Bool.true && Pq.fits v2 && Pq.fits v5))))])))
                   (.ret (.tup [(.one (.v (.string (v7)))), (.one (.v (.bool (Bool.true && Pq.fits v2 && Pq.fits v5))))]))))))))
             (.need (v1 ≤ (20 : Ax.El (Ax.Cd.int Go.IntKind.i64)) ∧ (↑(ByteArray.size (Go.Proofs.Ytjijakfcahhioaa.txt (Ax.wOf (if v4 = (0 : Int) then (0 : Int) else Int.tdiv v3 v4)))) : Int) ≤ (2000 : Int)) (.lt (Go.Proofs.Ytjijakfcahhioaa.padS v1 (Go.Proofs.Ytjijakfcahhioaa.txt (Ax.wOf (if v4 = (0 : Int) then (0 : Int) else Int.tdiv v3 v4)))) (fun v6 =>
               .ite (Decidable.decide (v1 > (0 : Int)))
                (.need ((0 : Int) ≤ (0 : Int) ∧ (0 : Int) ≤ Go.IntKind.wrap Go.IntKind.i64 ((↑(ByteArray.size v6) : Int) - v1) ∧ Go.IntKind.wrap Go.IntKind.i64 ((↑(ByteArray.size v6) : Int) - v1) ≤ (↑(ByteArray.size v6) : Int)) (.lt (ByteArray.extract v6 (Int.toNat (0 : Int)) (Int.toNat (Go.IntKind.wrap Go.IntKind.i64 ((↑(ByteArray.size v6) : Int) - v1)))) (fun v7 =>
                  .need ((↑(ByteArray.size v7 + ByteArray.size { data := #[(46 : UInt8)] }) : Int) ≤ Go.IntKind.max Go.IntKind.i64) (.lt (v7 ++ { data := #[(46 : UInt8)] }) (fun v8 =>
                    .need ((0 : Int) ≤ Go.IntKind.wrap Go.IntKind.i64 ((↑(ByteArray.size v6) : Int) - v1) ∧ Go.IntKind.wrap Go.IntKind.i64 ((↑(ByteArray.size v6) : Int) - v1) ≤ (↑(ByteArray.size v6) : Int) ∧ (↑(ByteArray.size v6) : Int) ≤ (↑(ByteArray.size v6) : Int)) (.lt (ByteArray.extract v6 (Int.toNat (Go.IntKind.wrap Go.IntKind.i64 ((↑(ByteArray.size v6) : Int) - v1))) (Int.toNat (↑(ByteArray.size v6) : Int))) (fun v9 =>
                      .need ((↑(ByteArray.size v8 + ByteArray.size v9) : Int) ≤ Go.IntKind.max Go.IntKind.i64) (.lt (v8 ++ v9) (fun v10 =>
                        .ite (Decidable.decide (Pq.cz (Ax.zW (Prod.fst (x.1))) (0 : Int) < (0 : Int)))
                         (.ite (Decidable.decide ((↑(Pq.bitn (Int.natAbs (Ax.zW (Ax.wOf (if v4 = (0 : Int) then (0 : Int) else Int.tdiv v3 v4))))) : Int) > (0 : Int)))
                          (.need ((↑(ByteArray.size { data := #[(45 : UInt8)] } + ByteArray.size v10) : Int) ≤ Go.IntKind.max Go.IntKind.i64) (.lt ({ data := #[(45 : UInt8)] } ++ v10) (fun v11 =>
                            .ret (.tup [(.one (.v (.string (v11)))), (.one (.v (.bool (Bool.true && Pq.fits v2 && Pq.fits v5))))]))))
                          (.ret (.tup [(.one (.v (.string (v10)))), (.one (.v (.bool (Bool.true && Pq.fits v2 && Pq.fits v5))))])))
                         (.ret (.tup [(.one (.v (.string (v10)))), (.one (.v (.bool (Bool.true && Pq.fits v2 && Pq.fits v5))))])))))))))))
                (.ite (Decidable.decide (Pq.cz (Ax.zW (Prod.fst (x.1))) (0 : Int) < (0 : Int)))
                 (.ite (Decidable.decide ((↑(Pq.bitn (Int.natAbs (Ax.zW (Ax.wOf (if v4 = (0 : Int) then (0 : Int) else Int.tdiv v3 v4))))) : Int) > (0 : Int)))
                  (.need ((↑(ByteArray.size { data := #[(45 : UInt8)] } + ByteArray.size v6) : Int) ≤ Go.IntKind.max Go.IntKind.i64) (.lt ({ data := #[(45 : UInt8)] } ++ v6) (fun v7 =>
                    .ret (.tup [(.one (.v (.string (v7)))), (.one (.v (.bool (Bool.true && Pq.fits v2 && Pq.fits v5))))]))))
                  (.ret (.tup [(.one (.v (.string (v6)))), (.one (.v (.bool (Bool.true && Pq.fits v2 && Pq.fits v5))))])))
                 (.ret (.tup [(.one (.v (.string (v6)))), (.one (.v (.bool (Bool.true && Pq.fits v2 && Pq.fits v5))))])))))))))))))))))
theorem tr_rdecimal_eq (x : Els [(true, cF), (false, .int .i64)]) : fnP E17 lpDec Try.f25 (encs [(true, cF), (false, .int .i64)] x) = tr_rdecimal x := by kernel_rfl
def sgnT (z nz : Int) (ok : Bool) (s : ByteArray) : T Av :=
  .ite (decide (Pq.cz nz 0 < 0)) (.ite (decide ((Pq.bitn (zW (wOf z)).natAbs : Int) > 0)) (.need (((ByteArray.size ⟨#[45]⟩ + s.size : Nat) : Int) ≤ IntKind.i64.max) (.lt (⟨#[45]⟩ ++ s) fun u => .ret (.tup [.one (.v (.string u)), aB ok]))) (.ret (.tup [.one (.v (.string s)), aB ok]))) (.ret (.tup [.one (.v (.string s)), aB ok]))
def decT (z v1 nz : Int) (ok : Bool) : T Av :=
  .need (v1 ≤ 20 ∧ ((ByteArray.size (txt (wOf z)) : Nat) : Int) ≤ 2000) (.lt (padS v1 (txt (wOf z))) fun v7 =>
    .ite (decide (v1 > 0))
      (.need ((0 : Int) ≤ 0 ∧ 0 ≤ IntKind.i64.wrap ((ByteArray.size v7 : Int) - v1) ∧ IntKind.i64.wrap ((ByteArray.size v7 : Int) - v1) ≤ (ByteArray.size v7 : Int)) (.lt (ByteArray.extract v7 (Int.toNat 0) (Int.toNat (IntKind.i64.wrap ((ByteArray.size v7 : Int) - v1)))) fun v8 =>
        .need (((ByteArray.size v8 + ByteArray.size ⟨#[46]⟩ : Nat) : Int) ≤ IntKind.i64.max) (.lt (v8 ++ ⟨#[46]⟩) fun v9 =>
          .need (0 ≤ IntKind.i64.wrap ((ByteArray.size v7 : Int) - v1) ∧ IntKind.i64.wrap ((ByteArray.size v7 : Int) - v1) ≤ (ByteArray.size v7 : Int) ∧ (ByteArray.size v7 : Int) ≤ (ByteArray.size v7 : Int)) (.lt (ByteArray.extract v7 (Int.toNat (IntKind.i64.wrap ((ByteArray.size v7 : Int) - v1))) (Int.toNat (ByteArray.size v7 : Int))) fun v10 =>
            .need (((ByteArray.size v9 + ByteArray.size v10 : Nat) : Int) ≤ IntKind.i64.max) (.lt (v9 ++ v10) fun v11 => sgnT z nz ok v11)))))
      (sgnT z nz ok v7))
theorem dec_shape (x : Els [(true, cF), (false, .int .i64)]) : tr_rdecimal x = .need (lenOk (List.length [x.1])) (.ite (!List.all [x.1] (safeF 500)) (.ret (.tup [.one (.v (.string ⟨#[]⟩)), aB false]))
    (.lt (if (0 : Int) > x.2.1 then (0 : Int) else x.2.1) fun v0 => .lt (if (20 : Int) < v0 then (20 : Int) else v0) fun v1 => dup (.need (0 ≤ v1 ∧ v1 ≤ 20) (.lt (zW (false, x.1.1.2) * zW (wOf (10 ^ Int.toNat v1))) fun v2 => .lt (zW (wOf v2)) fun v3 => .lt (zW x.1.2) fun v4 =>
      .need (in64 2) (.lt (zW (wOf (if v4 = 0 then 0 else Int.tmod v3 v4)) * zW (wOf 2)) fun v5 => .ite (decide (Pq.cz (zW (wOf v5)) (zW x.1.2) ≥ 0))
        (dup (.lt (zW (wOf (if v4 = 0 then 0 else Int.tdiv v3 v4)) + zW (wOf 1)) fun v6 => decT v6 v1 (zW x.1.1) (true && Pq.fits v2 && Pq.fits v5)))
        (decT (if v4 = 0 then 0 else Int.tdiv v3 v4) v1 (zW x.1.1) (true && Pq.fits v2 && Pq.fits v5))))))) := rfl
/-- a point so many places from the end; a sign -/
def pointS (k : Int) (s : ByteArray) : ByteArray := if 0 < k then s.extract 0 ((s.size : Int) - k).toNat ++ ⟨#[46]⟩ ++ s.extract ((s.size : Int) - k).toNat s.size else s
def signS (neg : Bool) (s : ByteArray) : ByteArray := if neg = true then ⟨#[45]⟩ ++ s else s
def decS (z k nz : Int) : ByteArray := signS (decide (nz < 0 ∧ z ≠ 0)) (pointS k (padS k (txt (wOf z))))
theorem padS_size (k : Int) (s : ByteArray) : (padS k s).size = (k + 1 - s.size).toNat + s.size := by
  show (padS k s).data.size = _
  unfold padS
  simp
theorem sgnT_ok {z nz : Int} {ok : Bool} {s : ByteArray} (hz : z.natAbs < Pq.bp 32) (hs : s.size ≤ 3000) : (sgnT z nz ok s).wp (· = .tup [.one (.v (.string (signS (decide (nz < 0 ∧ z ≠ 0)) s))), aB ok]) := by
  unfold sgnT
  simp only [T.wp]
  have hb : (Pq.bitn z.natAbs : Int) > 0 ↔ z ≠ 0 := by
    have := @Pq.bitn_eq0 z.natAbs
    constructor
    · intro h e; rw [e] at h; simp [Pq.bitn_zero] at h
    · intro h; have : Pq.bitn z.natAbs ≠ 0 := fun e => h (by have := this.1 e; omega)
      omega
  rw [zW_wOf hz]
  have e1 : ByteArray.size (⟨#[45]⟩ : ByteArray) = 1 := rfl
  refine ⟨fun h => ⟨fun h2 => ⟨?_, ?_⟩, fun h2 => ?_⟩, fun h => ?_⟩
  · rw [e1]; show ((_ : Nat) : Int) ≤ 9223372036854775807; omega
  · rw [decide_eq_true (show nz < 0 ∧ z ≠ 0 from ⟨(cz_lt _ _).1 (of_decide_eq_true h), hb.1 (of_decide_eq_true h2)⟩)]; rfl
  · rw [decide_eq_false (show ¬ (nz < 0 ∧ z ≠ 0) from fun k => of_decide_eq_false h2 (hb.2 k.2))]; rfl
  · rw [decide_eq_false (show ¬ (nz < 0 ∧ z ≠ 0) from fun k => of_decide_eq_false h ((cz_lt _ _).2 k.1))]; rfl
theorem decT_ok {z k nz : Int} {ok : Bool} (hz : z.natAbs < Pq.bp 32) (h0 : 0 ≤ k) (hk : k ≤ 20) : (decT z k nz ok).wp (· = .tup [.one (.v (.string (decS z k nz))), aB ok]) := by
  unfold decT
  simp only [T.wp]
  have ht := txt_size (wOf z)
  have hp := padS_size k (txt (wOf z))
  unfold decS
  generalize padS k (txt (wOf z)) = s at *
  generalize txt (wOf z) = u at *
  have hs1 : s.size ≤ 2000 := by omega
  have hs2 : k < (s.size : Int) := by omega
  have e : IntKind.i64.wrap ((s.size : Int) - k) = (s.size : Int) - k := IntWalk.i64_in _ (by omega)
  have e1 : ByteArray.size (⟨#[46]⟩ : ByteArray) = 1 := rfl
  rw [e]
  refine ⟨⟨hk, by omega⟩, fun h => ⟨⟨by omega, by omega, by omega⟩, ?_, ⟨by omega, by omega, by omega⟩, ?_, ?_⟩, fun h => ?_⟩
  · rw [ByteArray.size_extract, e1]; show ((_ : Nat) : Int) ≤ 9223372036854775807; omega
  · rw [ByteArray.size_append, ByteArray.size_extract, ByteArray.size_extract, e1]; show ((_ : Nat) : Int) ≤ 9223372036854775807; omega
  · have hk' := of_decide_eq_true h
    have : pointS k s = s.extract (Int.toNat 0) ((s.size : Int) - k).toNat ++ ⟨#[46]⟩ ++ s.extract ((s.size : Int) - k).toNat (Int.toNat (s.size : Int)) := by
      unfold pointS; rw [if_pos hk', Int.toNat_natCast]; rfl
    rw [← this]
    refine sgnT_ok hz ?_
    rw [this, ByteArray.size_append, ByteArray.size_append, ByteArray.size_extract, ByteArray.size_extract, e1]; omega
  · have hk' := of_decide_eq_false h
    have : pointS k s = s := by unfold pointS; rw [if_neg hk']
    rw [this]
    exact sgnT_ok hz (by omega)
def clampD (d : Int) : Int := if (20 : Int) < (if (0 : Int) > d then (0 : Int) else d) then (20 : Int) else (if (0 : Int) > d then (0 : Int) else d)
theorem clampD_in (d : Int) : 0 ≤ clampD d ∧ clampD d ≤ 20 := by unfold clampD; split <;> split <;> omega
/-- the digits as a whole number, the nearest -/
def qdec (f : F) (k : Int) : Int :=
  if ((zW f.1).natAbs : Int) * 10 ^ k.toNat % zW f.2 * 2 ≥ zW f.2 then ((zW f.1).natAbs : Int) * 10 ^ k.toNat / zW f.2 + 1 else ((zW f.1).natAbs : Int) * 10 ^ k.toNat / zW f.2
theorem dec_bounds {n b : Int} {j m : Nat} (hn0 : 0 ≤ n) (hb : 0 < b) (hnb : n.natAbs < 2 ^ m) (hbj : b.natAbs < 2 ^ j) : (n / b).natAbs < 2 ^ m ∧ (n / b + 1).natAbs < 2 ^ (m + 1) ∧ (n % b).natAbs < 2 ^ j ∧ (n % b * 2).natAbs < 2 ^ (j + 1) := by
  have hq := Nat.lt_of_le_of_lt (Int.natAbs_ediv_le_natAbs n b) hnb
  have hr0 := Int.emod_nonneg n (show b ≠ 0 from by omega)
  have hr1 := Int.emod_lt_of_pos n hb
  have hm : 0 < 2 ^ m := Nat.two_pow_pos m
  refine ⟨hq, ?_, by omega, ?_⟩
  · rw [Nat.pow_succ]
    have := Int.natAbs_add_le (n / b) 1
    omega
  · rw [Nat.pow_succ]; omega
theorem rdecimal_ok (x : Els [(true, cF), (false, .int .i64)]) : (tr_rdecimal x).wp (· = ansA false .str (safeF 500 x.1) (decS (qdec x.1 (clampD x.2.1)) (clampD x.2.1) (zW x.1.1)) ⟨#[]⟩) := by
  rw [dec_shape]
  obtain ⟨f, d, u⟩ := x
  revert f d
  intro (f : F) (d : Int)
  simp only [T.wp, dup_wp]
  obtain ⟨c0, c1⟩ := clampD_in d
  have hc : (if (20 : Int) < (if (0 : Int) > d then (0 : Int) else d) then (20 : Int) else (if (0 : Int) > d then (0 : Int) else d)) = clampD d := rfl
  rw [hc]
  generalize clampD d = k at *
  have hall : List.all [f] (safeF 500) = safeF 500 f := by simp
  rw [hall]
  refine ⟨by unfold lenOk; simp, fun h => ?_, fun h => ⟨⟨c0, c1⟩, ⟨by omega, by omega⟩, ?_⟩⟩
  · have h : safeF 500 f = false := by simpa using h
    rw [h]; rfl
  · have hsf : safeF 500 f = true := by simpa using h
    obtain ⟨a1, a2, a3⟩ := safe_b (of_decide_eq_true hsf)
    rw [hsf]
    have ez : zW (false, f.1.2) = ((zW f.1).natAbs : Int) := by
      unfold zW; rw [Pq.zv_abs]; rfl
    have p10 : ((10 : Int) ^ k.toNat).natAbs < 2 ^ 100 := by
      rw [Int.natAbs_pow]
      exact Nat.lt_of_le_of_lt (Nat.pow_le_pow_right (by decide) (show k.toNat ≤ 20 from by omega)) (by decide +kernel)
    have hp0 : (0 : Int) ≤ 10 ^ k.toNat := Int.pow_nonneg (by decide)
    rw [ez, zW_wOf (pow10_lt (by omega))]
    unfold qdec
    have hn0 : (0 : Int) ≤ ((zW f.1).natAbs : Int) * 10 ^ k.toNat := Int.mul_nonneg (by omega) hp0
    have a1' : ((zW f.1).natAbs : Int).natAbs < 2 ^ 500 := by rw [Int.natAbs_natCast]; exact a1
    have hnb : (((zW f.1).natAbs : Int) * 10 ^ k.toNat).natAbs < 2 ^ 600 := pow_mul_ez (j := 500) (k := 100) (n := 600) rfl a1' p10
    generalize ((zW f.1).natAbs : Int) * 10 ^ k.toNat = n at *
    generalize zW f.2 = b at *
    have up : ∀ z : Int, z.natAbs < 2 ^ 600 → z.natAbs < 2 ^ 1001 := fun z hz => pow_to (j := 600) (k := 1001) hz (by decide)
    obtain ⟨d1, d2, d3, d4⟩ := dec_bounds hn0 a3 hnb a2
    have hq : (n / b).natAbs < 2 ^ 600 := d1
    have hq1 : (n / b + 1).natAbs < 2 ^ 1001 := pow_to (j := 600 + 1) (k := 1001) d2 (by decide)
    have hrb : (n % b * 2).natAbs < 2 ^ 1001 := pow_to (j := 500 + 1) (k := 1001) d4 (by decide)
    have hrw : (n % b).natAbs < 2 ^ 1001 := pow_to (j := 500) (k := 1001) d3 (by decide)
    clear d1 d2 d3 d4
    have z2 : zW (wOf 2) = 2 := zW_wOf (i64_lt (by omega) (by omega))
    have z1 : zW (wOf 1) = 1 := zW_wOf (i64_lt (by omega) (by omega))
    rw [zW_b (up _ hnb), if_neg (show ¬ b = 0 by omega), if_neg (show ¬ b = 0 by omega), Int.tmod_eq_emod_of_nonneg hn0, Int.tdiv_eq_ediv_of_nonneg hn0, zW_b hrw, zW_b (up _ hq), z2, z1, zW_b hrb, fits_b (up _ hnb), fits_b hrb]
    refine ⟨fun hcz => ?_, fun hcz => ?_⟩
    · have hge : n % b * 2 ≥ b := by
        have := of_decide_eq_true hcz
        have := cz_lt (n % b * 2) b
        omega
      rw [if_pos hge]
      exact decT_ok (big_b hq1).1 c0 c1
    · have hlt : ¬ n % b * 2 ≥ b := by
        have := of_decide_eq_false hcz
        have := cz_lt (n % b * 2) b
        omega
      rw [if_neg hlt]
      exact decT_ok (big_b (up _ hq)).1 c0 c1
noncomputable def con_rdecimal : Con Try.prog := ⟨25, [], _, cf_rdecimal, ans_con0 (E := E17) (L := lpDec) mixed Try.func25 (one_loop decL_ok (by kernel_rfl)) [(true, cF), (false, .int .i64)] false .str (fun x => safeF 500 x.1) (fun x => decS (qdec x.1 (clampD x.2.1)) (clampD x.2.1) (zW x.1.1)) (fun _ => ⟨#[]⟩) fun x => by rw [tr_rdecimal_eq]; exact rdecimal_ok x⟩
noncomputable def E18 : Env Try.prog := ⟨con_rdecimal :: E17.con, E17.zero, E17.cod, E17.sure⟩
end Go.Proofs.Ytjijakfcahhioaa
/-
The reference: what the loop of trim looks like.
-/
set_option linter.unusedSimpArgs false
set_option linter.unusedVariables false
namespace Go.Proofs.Ytjijakfcahhioaa
open Go.RowKit Ax
theorem cf_trim (xs : Array Value) (w : World) : (callFunc 65 xs).run Try.prog w = .ok (.enter 65 xs) w := by kernel_rfl
theorem cf_pwide (xs : Array Value) (w : World) : (callFunc 38 xs).run Try.prog w = .ok (.enter 38 xs) w := by kernel_rfl
theorem cf_pfrom (xs : Array Value) (w : World) : (callFunc 14 xs).run Try.prog w = .ok (.enter 14 xs) w := by kernel_rfl
theorem cf_pwhole (xs : Array Value) (w : World) : (callFunc 12 xs).run Try.prog w = .ok (.enter 12 xs) w := by kernel_rfl
noncomputable def codU : Cod Try.prog := ⟨22, .int .u32, by kernel_rfl, ⟨.int .u32 0, fun w => by kernel_rfl⟩⟩
noncomputable def zeroU : Zero Try.prog := ⟨22, ck (.int .u32) (0 : Int), [.int .u32 0], by kernel_rfl, fun w R σ => .v rfl .nil⟩
noncomputable def E19 : Env Try.prog := ⟨E18.con, zeroU :: E18.zero, codU :: E18.cod, E18.sure⟩
abbrev spTrim : LSpec := ⟨21, [(0, false, .sl (.int .u32)), (3, false, .int .i64)], [], [], fun e => match e with | .exit _ => [0, 3] | _ => []⟩
end Go.Proofs.Ytjijakfcahhioaa
/-
The reference: trim.
-/
set_option linter.unusedSimpArgs false
set_option linter.unusedVariables false
namespace Go.Proofs.Ytjijakfcahhioaa
open Go.RowKit Ax
noncomputable def tr_trimL (x : LSpec.X spTrim × LSpec.Y spTrim) : T (Rd spTrim) :=
 .ite (Decidable.decide (Prod.fst (Prod.snd (x.1)) > (0 : Int)))
  (.get (Prod.fst (x.1)) (Go.IntKind.wrap Go.IntKind.i64 (Prod.fst (Prod.snd (x.1)) - (1 : Int))) (fun v0 =>
   .ite (v0 == (0 : Int))
    (.ret (.again (Prod.fst (x.1), (Go.IntKind.wrap Go.IntKind.i64 (Prod.fst (Prod.snd (x.1)) - (1 : Int)), ())) ()))
    (.ret (.out (Go.Exit.exit (0 : Nat)) [(.one (.ds (Ax.Cd.int Go.IntKind.u32) (Prod.fst (x.1)))), (.one (.v (.int Go.IntKind.i64 (Prod.fst (Prod.snd (x.1))))))] ()))))
  (.ret (.out (Go.Exit.exit (0 : Nat)) [(.one (.ds (Ax.Cd.int Go.IntKind.u32) (Prod.fst (x.1)))), (.one (.v (.int Go.IntKind.i64 (Prod.fst (Prod.snd (x.1))))))] ()))
theorem tr_trimL_eq (x : LSpec.X spTrim × LSpec.Y spTrim) : LSpec.round spTrim E19 (fun _ => none) (bodyOf Try.f65 0) x.1 x.2 = tr_trimL x := by kernel_rfl
/-- how many there are without noughts on top -/
def trimN (l : List Int) : Nat → Nat
  | 0 => 0
  | n + 1 => if l[n]? = some 0 then trimN l n else n + 1
theorem trimN_le (l : List Int) : ∀ n, trimN l n ≤ n
  | 0 => Nat.le_refl _
  | n + 1 => by
    unfold trimN
    have := trimN_le l n
    split <;> omega
def outTrim (x : LSpec.X spTrim) (y : LSpec.Y spTrim) : T (Exit × List Av × LSpec.Y spTrim) :=
  .need (0 ≤ x.2.1 ∧ x.2.1 ≤ x.1.length ∧ lenOk x.1.length) (.ret (.exit 0, [.one (.ds (.int .u32) x.1), aI .i64 ((trimN x.1 x.2.1.toNat : Nat) : Int)], y))
theorem trimL_core (l : List Int) (n : Int) (Q : Exit × List Av × LSpec.Y spTrim → Prop) (h : (outTrim (l, n, ()) ()).wp Q) : (tr_trimL ((l, n, ()), ())).wp fun r => match r with
      | .again x' y' => x'.2.1.toNat < n.toNat ∧ (outTrim x' y').wp Q
      | .out e avs y' => Q (e, avs, y') := by
  unfold tr_trimL
  unfold outTrim at h ⊢
  simp only [T.wp] at h ⊢
  dsimp only [El, vts, spTrim] at h ⊢
  obtain ⟨⟨h0, h1, hl⟩, hq⟩ := h
  unfold lenOk at hl
  refine ⟨fun hlt => ?_, fun hge => ?_⟩
  · have hlt := of_decide_eq_true hlt
    obtain ⟨m, rfl⟩ : ∃ m : Nat, n = (m : Int) + 1 := ⟨(n - 1).toNat, by omega⟩
    have e : IntKind.i64.wrap ((m : Int) + 1 - 1) = m := by rw [IntWalk.i64_in _ (by omega)]; omega
    rw [e]
    obtain ⟨v, hv⟩ := elem_at (l := l) (i := (m : Int)) (by omega) (by omega)
    rw [show ((m : Int) + 1).toNat = m + 1 from by omega, trimN] at hq
    refine ⟨v, by omega, hv, fun hz => ?_, fun hz => ?_⟩
    · have hz : v = 0 := by simpa using hz
      rw [Int.toNat_natCast] at hv
      rw [if_pos (by rw [hv, hz])] at hq
      exact ⟨by omega, ⟨by omega, by omega, hl⟩, by rw [Int.toNat_natCast]; exact hq⟩
    · have hz : ¬ v = 0 := by simpa using hz
      rw [Int.toNat_natCast] at hv
      rw [if_neg (by rw [hv]; simp [hz])] at hq
      exact hq
  · have hge := of_decide_eq_false hge
    obtain rfl : n = 0 := by omega
    exact hq
theorem trimL_ok : LoopOk Try.prog 0 (bodyOf Try.f65 0) (spTrim.run outTrim) :=
  loop_ok (E := E19) (L := fun _ => none) mixed 0 (loops_none _ _ _) spTrim (Nat.zero_le _) outTrim (fun x _ => x.2.1.toNat) (by
    rintro ⟨l, n, ⟨⟩⟩ ⟨⟩ Q h
    rw [tr_trimL_eq ((l, n, ()), ())]
    exact trimL_core l n Q h)
noncomputable def lpTrim : Loops := oneL 2 (spTrim.run outTrim)
end Go.Proofs.Ytjijakfcahhioaa
/-
The reference: trim.
-/
set_option linter.unusedSimpArgs false
set_option linter.unusedVariables false
namespace Go.Proofs.Ytjijakfcahhioaa
open Go.RowKit Ax
noncomputable def tr_trim (x : Els [(false, .sl (.int .u32))]) : T Av :=
 .need ((0 : Ax.El (Ax.Cd.int Go.IntKind.i64)) ≤ (↑(List.length (x.1)) : Int) ∧ (↑(List.length (x.1)) : Int) ≤ (↑(List.length (x.1)) : Ax.El (Ax.Cd.int Go.IntKind.i64)) ∧ Ax.lenOk (List.length (x.1))) (.need ((0 : Int) ≤ (0 : Int) ∧ (0 : Int) ≤ (↑(Go.Proofs.Ytjijakfcahhioaa.trimN (x.1) (Int.toNat (↑(List.length (x.1)) : Int))) : Int) ∧ (↑(Go.Proofs.Ytjijakfcahhioaa.trimN (x.1) (Int.toNat (↑(List.length (x.1)) : Int))) : Int) ≤ (↑(List.length (x.1)) : Int)) (.ret (.one (.ds (Ax.Cd.int Go.IntKind.u32) (List.drop (Int.toNat (0 : Int)) (List.take (Int.toNat (↑(Go.Proofs.Ytjijakfcahhioaa.trimN (x.1) (Int.toNat (↑(List.length (x.1)) : Int))) : Int)) (x.1)))))))
theorem tr_trim_eq (x : Els [(false, .sl (.int .u32))]) : fnP E19 lpTrim Try.f65 (encs [(false, .sl (.int .u32))] x) = tr_trim x := by kernel_rfl
def trimmed (l : List Int) : List Int := l.take (trimN l l.length)
noncomputable def con_trim : Con Try.prog := ⟨65, [], _, cf_trim, val_con (E := E19) (L := lpTrim) mixed Try.func65 (one_loop trimL_ok (by kernel_rfl)) [(false, .sl (.int .u32))] (fun x => lenOk (List.length x.1)) (fun x => .one (.ds (.int .u32) (trimmed x.1))) fun x hx => by
  rw [tr_trim_eq]
  obtain ⟨l, u⟩ := x
  revert l
  intro (l : List Int) (hx : lenOk l.length)
  unfold tr_trim
  simp only [T.wp]
  dsimp only [El]
  have := trimN_le l l.length
  rw [Int.toNat_natCast, Int.toNat_natCast]
  exact ⟨⟨by omega, by omega, hx⟩, ⟨by omega, by omega, by omega⟩, rfl⟩⟩
noncomputable def E20 : Env Try.prog := ⟨con_trim :: E19.con, E19.zero, E19.cod, E19.sure⟩
abbrev spWide : LSpec := ⟨36, [(6, false, .sl (.int .u32)), (8, false, .int .i64)], [(4, 0, 0), (7, 1, 0)], [(25, cW), (25, cW)], fun _ => []⟩
end Go.Proofs.Ytjijakfcahhioaa
/-
The reference: the loop of wide.
-/
set_option linter.unusedSimpArgs false
set_option linter.unusedVariables false
namespace Go.Proofs.Ytjijakfcahhioaa
open Go.RowKit Ax
noncomputable def tr_pwideL (x : LSpec.X spWide × LSpec.Y spWide) : T (Rd spWide) :=
 .ite (Decidable.decide (Prod.fst (Prod.snd (x.1)) < (↑(List.length (Prod.fst (x.1))) : Int)))
  (.get (Prod.fst (x.1)) (Prod.fst (Prod.snd (x.1))) (fun v0 =>
   .need ((0 : Int) ≤ Prod.fst (Prod.snd (x.1)) ∧ Prod.fst (Prod.snd (x.1)) < (↑(32 : Nat) : Int)) (.need (Prod.fst (Prod.snd (x.1)) < (32 : Int) ∧ (0 : Int) ≤ v0 ∧ v0 < (4294967296 : Int)) (.ret (.again (Prod.fst (x.1), (Go.IntKind.wrap Go.IntKind.i64 (Prod.fst (Prod.snd (x.1)) + (1 : Int)), ())) (Prod.fst (Prod.snd x), ((Prod.fst (Prod.fst (Prod.snd (Prod.snd x))), Ax.stA (Prod.snd (Prod.fst (Prod.snd (Prod.snd x)))) (Int.toNat (Prod.fst (Prod.snd (x.1)))) v0), ())))))))
  (.ret (.out (Go.Exit.exit (0 : Nat)) [] (Prod.fst (Prod.snd x), (Prod.fst (Prod.snd (Prod.snd x)), ()))))
theorem tr_pwideL_eq (x : LSpec.X spWide × LSpec.Y spWide) : LSpec.round spWide E20 (fun _ => none) (bodyOf Try.f38 0) x.1 x.2 = tr_pwideL x := by kernel_rfl
/-- words put in from a place on -/
def stL : Amt → List Int → Nat → Amt
  | a, [], _ => a
  | a, v :: r, i => stL (stA a i v) r (i + 1)
/-- the amount of words -/
def valL : List Int → Nat
  | [] => 0
  | v :: r => v.toNat + 4294967296 * valL r
def Words (l : List Int) : Prop := ∀ v ∈ l, 0 ≤ v ∧ v < 4294967296
theorem stL_val : ∀ (l : List Int) (a : Amt) (i : Nat), a.1 < Pq.bp i → i + l.length ≤ 32 → Words l → (stL a l i).1 = a.1 + Pq.bp i * valL l
  | [], a, i, h, hl, hw => by simp [stL, valL]
  | v :: r, a, i, h, hl, hw => by
    rw [List.length_cons] at hl
    obtain ⟨h0, h1⟩ := hw v (by simp)
    have e : (stA a i v).1 = a.1 + Pq.bp i * v.toNat := by
      rw [stA_val (by omega) h0 h1]
      unfold Pq.st
      have hlt : a.1 < Pq.bp (i + 1) := Nat.lt_of_lt_of_le h (Pq.bp_mono (by omega))
      rw [show Pq.lo a.1 i = a.1 from Nat.mod_eq_of_lt h, Nat.div_eq_of_lt hlt, Nat.mul_zero, Nat.add_zero]
    have hb : (stA a i v).1 < Pq.bp (i + 1) := by
      rw [e, Pq.bp_succ i]
      have h2 := Nat.mul_le_mul_left (Pq.bp i) (show v.toNat + 1 ≤ 4294967296 by omega)
      rw [Nat.mul_add, Nat.mul_one] at h2
      omega
    rw [stL, stL_val r (stA a i v) (i + 1) hb (by omega) (fun x hx => hw x (by simp [hx])), e, valL, Pq.bp_succ i, Nat.mul_add, Nat.mul_assoc]
    omega
def outPw (x : LSpec.X spWide) (y : LSpec.Y spWide) : T (Exit × List Av × LSpec.Y spWide) :=
  .need (0 ≤ x.2.1 ∧ x.2.1 ≤ x.1.length ∧ x.1.length ≤ 32 ∧ Words x.1) (.ret (.exit 0, [], (y.1, (y.2.1.1, stL y.2.1.2 (x.1.drop x.2.1.toNat) x.2.1.toNat), ())))
theorem pwideL_core (l : List Int) (i : Int) (r : W) (b : Bool) (a : Amt) (Q : Exit × List Av × LSpec.Y spWide → Prop) (h : (outPw (l, i, ()) (r, (b, a), ())).wp Q) : (tr_pwideL ((l, i, ()), (r, (b, a), ()))).wp fun r => match r with
      | .again x' y' => (x'.1.length - x'.2.1).toNat < (l.length - i).toNat ∧ (outPw x' y').wp Q
      | .out e avs y' => Q (e, avs, y') := by
  unfold tr_pwideL
  unfold outPw at h ⊢
  simp only [T.wp] at h ⊢
  dsimp only [El, vts, bts, spWide] at h ⊢
  obtain ⟨⟨h0, h1, h2, hw⟩, hq⟩ := h
  refine ⟨fun hlt => ?_, fun hge => ?_⟩
  · have hlt := of_decide_eq_true hlt
    obtain ⟨v, hv⟩ := elem_at (l := l) h0 hlt
    have hd := drop_at h0 hv
    obtain ⟨v0, v1⟩ := hw v (List.mem_of_getElem? hv)
    rw [hd, stL, show i.toNat + 1 = (i + 1).toNat from by omega] at hq
    refine ⟨v, h0, hv, ⟨h0, by omega⟩, ⟨by omega, v0, v1⟩, ?_⟩
    rw [IntWalk.i64_in (i + 1) (by omega)]
    exact ⟨by omega, ⟨by omega, by omega, h2, hw⟩, hq⟩
  · have hge := of_decide_eq_false hge
    rw [drop_end (by omega), stL] at hq
    exact hq
theorem pwideL_ok : LoopOk Try.prog 0 (bodyOf Try.f38 0) (spWide.run outPw) :=
  loop_ok (E := E20) (L := fun _ => none) mixed 0 (loops_none _ _ _) spWide (Nat.zero_le _) outPw (fun x _ => (x.1.length - x.2.1).toNat) (by
    rintro ⟨l, i, ⟨⟩⟩ ⟨r, ⟨b, a⟩, ⟨⟩⟩ Q h
    rw [tr_pwideL_eq ((l, i, ()), (r, (b, a), ()))]
    exact pwideL_core l i r b a Q h)
noncomputable def lpPw : Loops := oneL 6 (spWide.run outPw)
end Go.Proofs.Ytjijakfcahhioaa
/-
The reference: wide.
-/
set_option linter.unusedSimpArgs false
set_option linter.unusedVariables false
namespace Go.Proofs.Ytjijakfcahhioaa
open Go.RowKit Ax
noncomputable def tr_pwide (x : Els [(false, .bool), (false, .sl (.int .u32))]) : T Av :=
 .need (Ax.lenOk (List.length (Prod.fst (Prod.snd x)))) (.ite (Decidable.decide ((↑(List.length (Go.Proofs.Ytjijakfcahhioaa.trimmed (Prod.fst (Prod.snd x)))) : Int) > (32 : Int)))
   (.ret (.tup [(.agg [.v (.bool (Prod.fst Ax.w0)), .w (Prod.snd Ax.w0)]), (.one (.v (.bool (Bool.false))))]))
   (.ite (x.1)
    (.need ((0 : Ax.El (Ax.Cd.int Go.IntKind.i64)) ≤ (0 : Int) ∧ (0 : Int) ≤ (↑(List.length (Go.Proofs.Ytjijakfcahhioaa.trimmed (Prod.fst (Prod.snd x)))) : Ax.El (Ax.Cd.int Go.IntKind.i64)) ∧ List.length (Go.Proofs.Ytjijakfcahhioaa.trimmed (Prod.fst (Prod.snd x))) ≤ (32 : Nat) ∧ Go.Proofs.Ytjijakfcahhioaa.Words (Go.Proofs.Ytjijakfcahhioaa.trimmed (Prod.fst (Prod.snd x)))) (.ret (.tup [(.agg [.v (.bool (Decidable.decide ((↑(List.length (Go.Proofs.Ytjijakfcahhioaa.trimmed (Prod.fst (Prod.snd x)))) : Int) > (0 : Int)))), .w (Go.Proofs.Ytjijakfcahhioaa.stL (Prod.snd Ax.w0) (List.drop (Int.toNat (0 : Int)) (Go.Proofs.Ytjijakfcahhioaa.trimmed (Prod.fst (Prod.snd x)))) (Int.toNat (0 : Int)))]), (.one (.v (.bool (Bool.true))))])))
    (.need ((0 : Ax.El (Ax.Cd.int Go.IntKind.i64)) ≤ (0 : Int) ∧ (0 : Int) ≤ (↑(List.length (Go.Proofs.Ytjijakfcahhioaa.trimmed (Prod.fst (Prod.snd x)))) : Ax.El (Ax.Cd.int Go.IntKind.i64)) ∧ List.length (Go.Proofs.Ytjijakfcahhioaa.trimmed (Prod.fst (Prod.snd x))) ≤ (32 : Nat) ∧ Go.Proofs.Ytjijakfcahhioaa.Words (Go.Proofs.Ytjijakfcahhioaa.trimmed (Prod.fst (Prod.snd x)))) (.ret (.tup [(.agg [.v (.bool (Bool.false)), .w (Go.Proofs.Ytjijakfcahhioaa.stL (Prod.snd Ax.w0) (List.drop (Int.toNat (0 : Int)) (Go.Proofs.Ytjijakfcahhioaa.trimmed (Prod.fst (Prod.snd x)))) (Int.toNat (0 : Int)))]), (.one (.v (.bool (Bool.true))))])))))
theorem tr_pwide_eq (x : Els [(false, .bool), (false, .sl (.int .u32))]) : fnP E20 lpPw Try.f38 (encs [(false, .bool), (false, .sl (.int .u32))] x) = tr_pwide x := by kernel_rfl
/-- a number of words -/
def pW (neg : Bool) (t : List Int) : W := (neg && decide (0 < t.length), stL w0.2 t 0)
noncomputable def con_pwide : Con Try.prog := ⟨38, [], _, cf_pwide, ans_con (E := E20) (L := lpPw) mixed Try.func38 (one_loop pwideL_ok (by kernel_rfl)) [(false, .bool), (false, .sl (.int .u32))] (fun x => lenOk (List.length x.2.1) ∧ Words x.2.1) true cW (fun x => decide ((trimmed x.2.1).length ≤ 32)) (fun x => pW x.1 (trimmed x.2.1)) (fun _ => w0) fun x hx => by
  rw [tr_pwide_eq]
  obtain ⟨n, l, u⟩ := x
  revert n l
  intro (n : Bool) (l : List Int) (hx : lenOk l.length ∧ Words l)
  unfold tr_pwide
  simp only [T.wp]
  dsimp only [El]
  have hw : Words (trimmed l) := fun v hv => hx.2 v (List.mem_of_mem_take hv)
  refine ⟨hx.1, fun h => ?_, fun h => ⟨fun hn => ⟨?_, ?_⟩, fun hn => ⟨?_, ?_⟩⟩⟩
  · rw [decide_eq_false (by have := of_decide_eq_true h; omega)]; rfl
  · have := of_decide_eq_false h
    exact ⟨by omega, by omega, by omega, hw⟩
  · subst hn
    rw [decide_eq_true (show (trimmed l).length ≤ 32 by have := of_decide_eq_false h; omega)]
    have e : decide (((trimmed l).length : Int) > 0) = decide (0 < (trimmed l).length) := by
      rw [decide_eq_decide]; omega
    rw [e]; rfl
  · have := of_decide_eq_false h
    exact ⟨by omega, by omega, by omega, hw⟩
  · subst hn
    rw [decide_eq_true (show (trimmed l).length ≤ 32 by have := of_decide_eq_false h; omega)]
    rfl⟩
noncomputable def E21 : Env Try.prog := ⟨con_pwide :: E20.con, E20.zero, E20.cod, E20.sure⟩
end Go.Proofs.Ytjijakfcahhioaa
/-
The reference: From.
-/
set_option linter.unusedSimpArgs false
set_option linter.unusedVariables false
namespace Go.Proofs.Ytjijakfcahhioaa
open Go.RowKit Ax
noncomputable def tr_pfrom (x : Els [(false, .int .i64)]) : T Av :=
 .ite (Decidable.decide (x.1 < (0 : Int)))
  (.need (Ax.lenOk (List.length [Go.IntKind.wrap Go.IntKind.u32 (Go.IntKind.wrap Go.IntKind.u64 ((0 : Int) - Go.IntKind.wrap Go.IntKind.u64 (x.1))), Go.IntKind.wrap Go.IntKind.u32 (Int.fdiv (Go.IntKind.wrap Go.IntKind.u64 ((0 : Int) - Go.IntKind.wrap Go.IntKind.u64 (x.1))) ((2 : Int) ^ Min.min (Int.toNat (32 : Int)) (Go.IntKind.bits Go.IntKind.u64)))]) ∧ Go.Proofs.Ytjijakfcahhioaa.Words [Go.IntKind.wrap Go.IntKind.u32 (Go.IntKind.wrap Go.IntKind.u64 ((0 : Int) - Go.IntKind.wrap Go.IntKind.u64 (x.1))), Go.IntKind.wrap Go.IntKind.u32 (Int.fdiv (Go.IntKind.wrap Go.IntKind.u64 ((0 : Int) - Go.IntKind.wrap Go.IntKind.u64 (x.1))) ((2 : Int) ^ Min.min (Int.toNat (32 : Int)) (Go.IntKind.bits Go.IntKind.u64)))]) (.ite (Decidable.decide (List.length (Go.Proofs.Ytjijakfcahhioaa.trimmed [Go.IntKind.wrap Go.IntKind.u32 (Go.IntKind.wrap Go.IntKind.u64 ((0 : Int) - Go.IntKind.wrap Go.IntKind.u64 (x.1))), Go.IntKind.wrap Go.IntKind.u32 (Int.fdiv (Go.IntKind.wrap Go.IntKind.u64 ((0 : Int) - Go.IntKind.wrap Go.IntKind.u64 (x.1))) ((2 : Int) ^ Min.min (Int.toNat (32 : Int)) (Go.IntKind.bits Go.IntKind.u64)))]) ≤ (32 : Nat)))
    (.lt (Go.Proofs.Ytjijakfcahhioaa.pW (Decidable.decide (x.1 < (0 : Int))) (Go.Proofs.Ytjijakfcahhioaa.trimmed [Go.IntKind.wrap Go.IntKind.u32 (Go.IntKind.wrap Go.IntKind.u64 ((0 : Int) - Go.IntKind.wrap Go.IntKind.u64 (x.1))), Go.IntKind.wrap Go.IntKind.u32 (Int.fdiv (Go.IntKind.wrap Go.IntKind.u64 ((0 : Int) - Go.IntKind.wrap Go.IntKind.u64 (x.1))) ((2 : Int) ^ Min.min (Int.toNat (32 : Int)) (Go.IntKind.bits Go.IntKind.u64)))])) (fun v0 =>
     .ret (.agg [.v (.bool (Prod.fst v0)), .w (Prod.snd v0)])))
    (.ret (.agg [.v (.bool (Prod.fst Ax.w0)), .w (Prod.snd Ax.w0)]))))
  (.need (Ax.lenOk (List.length [Go.IntKind.wrap Go.IntKind.u32 (Go.IntKind.wrap Go.IntKind.u64 (x.1)), Go.IntKind.wrap Go.IntKind.u32 (Int.fdiv (Go.IntKind.wrap Go.IntKind.u64 (x.1)) ((2 : Int) ^ Min.min (Int.toNat (32 : Int)) (Go.IntKind.bits Go.IntKind.u64)))]) ∧ Go.Proofs.Ytjijakfcahhioaa.Words [Go.IntKind.wrap Go.IntKind.u32 (Go.IntKind.wrap Go.IntKind.u64 (x.1)), Go.IntKind.wrap Go.IntKind.u32 (Int.fdiv (Go.IntKind.wrap Go.IntKind.u64 (x.1)) ((2 : Int) ^ Min.min (Int.toNat (32 : Int)) (Go.IntKind.bits Go.IntKind.u64)))]) (.ite (Decidable.decide (List.length (Go.Proofs.Ytjijakfcahhioaa.trimmed [Go.IntKind.wrap Go.IntKind.u32 (Go.IntKind.wrap Go.IntKind.u64 (x.1)), Go.IntKind.wrap Go.IntKind.u32 (Int.fdiv (Go.IntKind.wrap Go.IntKind.u64 (x.1)) ((2 : Int) ^ Min.min (Int.toNat (32 : Int)) (Go.IntKind.bits Go.IntKind.u64)))]) ≤ (32 : Nat)))
    (.lt (Go.Proofs.Ytjijakfcahhioaa.pW (Decidable.decide (x.1 < (0 : Int))) (Go.Proofs.Ytjijakfcahhioaa.trimmed [Go.IntKind.wrap Go.IntKind.u32 (Go.IntKind.wrap Go.IntKind.u64 (x.1)), Go.IntKind.wrap Go.IntKind.u32 (Int.fdiv (Go.IntKind.wrap Go.IntKind.u64 (x.1)) ((2 : Int) ^ Min.min (Int.toNat (32 : Int)) (Go.IntKind.bits Go.IntKind.u64)))])) (fun v0 =>
     .ret (.agg [.v (.bool (Prod.fst v0)), .w (Prod.snd v0)])))
    (.ret (.agg [.v (.bool (Prod.fst Ax.w0)), .w (Prod.snd Ax.w0)]))))
theorem tr_pfrom_eq (x : Els [(false, .int .i64)]) : fnP E21 (fun _ => none) Try.f14 (encs [(false, .int .i64)] x) = tr_pfrom x := by kernel_rfl
theorem trim_two (a b : Int) : trimmed [a, b] = if b = 0 then (if a = 0 then [] else [a]) else [a, b] := by
  unfold trimmed
  by_cases hb : b = 0
  · by_cases ha : a = 0
    · simp [trimN, ha, hb]
    · simp [trimN, ha, hb]
  · simp [trimN, hb]
theorem two_words {a b x : Int} (ha : 0 ≤ a ∧ a < 4294967296) (hb : 0 ≤ b ∧ b < 4294967296) (hx : (x.natAbs : Int) = a + 4294967296 * b) (hf : x.natAbs < Pq.bp 32) : pW (decide (x < 0)) (trimmed [a, b]) = wOf x := by
  have hw : ∀ t : List Int, t.length ≤ 2 → Words t → (stL w0.2 t 0).1 = valL t := fun t h1 h2 => by
    have := stL_val t w0.2 0 (by decide) (by omega) h2
    rw [this]
    show 0 + Pq.bp 0 * valL t = valL t
    rw [Pq.bp_zero]; omega
  have fin : ∀ t : List Int, t.length ≤ 2 → Words t → valL t = x.natAbs → (0 < t.length ↔ x ≠ 0) → pW (decide (x < 0)) t = wOf x := fun t h1 h2 h3 h4 => by
    unfold pW wOf
    rw [dif_pos hf]
    refine Prod.ext ?_ (Subtype.ext ((hw t h1 h2).trans h3))
    by_cases hn : x < 0
    · simp [hn, h4.2 (by omega)]
    · simp [hn]
  rw [trim_two]
  by_cases h0 : b = 0
  · rw [if_pos h0]
    by_cases h1 : a = 0
    · rw [if_pos h1]
      exact fin [] (by simp) (fun v hv => by cases hv) (by simp [valL]; omega) (by simp; omega)
    · rw [if_neg h1]
      exact fin [a] (by simp) (fun v hv => by rw [List.mem_singleton] at hv; subst hv; exact ha) (by simp [valL]; omega) (by simp; omega)
  · rw [if_neg h0]
    exact fin [a, b] (by simp) (fun v hv => by
      rcases List.mem_cons.1 hv with rfl | hv
      · exact ha
      · rw [List.mem_singleton] at hv; subst hv; exact hb) (by simp only [valL]; omega) (by simp; omega)
noncomputable def con_pfrom : Con Try.prog := ⟨14, [], _, cf_pfrom, val_con (E := E21) mixed Try.func14 no_loops [(false, .int .i64)] (fun x => in64 x.1) (fun x => .agg (ck cW (wOf x.1))) fun x hx => by
  rw [tr_pfrom_eq]
  obtain ⟨x, u⟩ := x
  revert x
  intro (x : Int) (hx : in64 x)
  obtain ⟨h0, h1⟩ := hx
  have hf := i64_lt h0 h1
  unfold tr_pfrom
  simp only [T.wp]
  dsimp only [El]
  have p32 : (2 : Int) ^ min (Int.toNat 32) (IntKind.bits .u64) = 4294967296 := by decide
  rw [p32]
  have key : ∀ y : Int, 0 ≤ y → y < 18446744073709551616 → IntKind.u32.wrap y = y % 4294967296 ∧ IntKind.u32.wrap (y.fdiv 4294967296) = y / 4294967296 := fun y hy0 hy1 => by
    rw [Int.fdiv_eq_ediv_of_nonneg _ (by decide)]
    constructor
    · rw [IntKind.wrap_u32]
    · rw [IntKind.wrap_u32]; omega
  refine ⟨fun h => ?_, fun h => ?_⟩
  · have hn := of_decide_eq_true h
    have e : IntKind.u64.wrap (0 - IntKind.u64.wrap x) = -x := by rw [IntKind.wrap_u64, IntKind.wrap_u64]; omega
    rw [e]
    obtain ⟨k1, k2⟩ := key (-x) (by omega) (by omega)
    rw [k1, k2]
    have tw := two_words (a := -x % 4294967296) (b := -x / 4294967296) (x := x) ⟨by omega, by omega⟩ ⟨by omega, by omega⟩ (by omega) hf
    refine ⟨⟨len2 _ _, fun v hv => ?_⟩, fun _ => ?_, fun hl => ?_⟩
    · rcases List.mem_cons.1 hv with rfl | hv
      · omega
      · rw [List.mem_singleton] at hv; subst hv; omega
    · rw [tw]; rfl
    · exfalso
      have := of_decide_eq_false hl
      have h2 : (trimmed [-x % 4294967296, -x / 4294967296]).length ≤ 2 := by unfold trimmed; rw [List.length_take]; simp; omega
      omega
  · have hn := of_decide_eq_false h
    have e : IntKind.u64.wrap x = x := by rw [IntKind.wrap_u64]; omega
    rw [e]
    obtain ⟨k1, k2⟩ := key x (by omega) (by omega)
    rw [k1, k2]
    have tw := two_words (a := x % 4294967296) (b := x / 4294967296) (x := x) ⟨by omega, by omega⟩ ⟨by omega, by omega⟩ (by omega) hf
    refine ⟨⟨len2 _ _, fun v hv => ?_⟩, fun _ => ?_, fun hl => ?_⟩
    · rcases List.mem_cons.1 hv with rfl | hv
      · omega
      · rw [List.mem_singleton] at hv; subst hv; omega
    · rw [tw]; rfl
    · exfalso
      have := of_decide_eq_false hl
      have h2 : (trimmed [x % 4294967296, x / 4294967296]).length ≤ 2 := by unfold trimmed; rw [List.length_take]; simp; omega
      omega⟩
noncomputable def E22 : Env Try.prog := ⟨con_pfrom :: E21.con, E21.zero, E21.cod, E21.sure⟩
end Go.Proofs.Ytjijakfcahhioaa
/-
The reference: Whole.
-/
set_option linter.unusedSimpArgs false
set_option linter.unusedVariables false
namespace Go.Proofs.Ytjijakfcahhioaa
open Go.RowKit Ax
theorem cf_known (xs : Array Value) (w : World) : (callFunc 9 xs).run Try.prog w = .ok (.enter 9 xs) w := by kernel_rfl
noncomputable def con_pwhole : Con Try.prog := ⟨12, [], _, cf_pwhole, val_con (E := E22) mixed Try.func12 no_loops [(false, .int .i64)] (fun x => in64 x.1) (fun x => .agg (ck cF (wOf x.1, wOf 1))) fun x hx => by
  have e : fnP E22 (fun _ => none) Try.f12 (encs [(false, .int .i64)] x) = .need (in64 x.1) (.need (in64 1) (.ret (.agg (ck cF (wOf x.1, wOf 1))))) := by kernel_rfl
  rw [e]
  exact ⟨hx, ⟨by omega, by omega⟩, rfl⟩⟩
noncomputable def E23 : Env Try.prog := ⟨con_pwhole :: E22.con, E22.zero, E22.cod, E22.sure⟩
end Go.Proofs.Ytjijakfcahhioaa
/-
Contracts for calls that are known to succeed, or to fail: no fork.
-/
set_option linter.unusedSimpArgs false
set_option linter.unusedVariables false
namespace Ax
open Go Go.RowKit
theorem must_con {P : Program} {f : FuncId} {ts : List (Bool × Cd)} {pre : Els ts → Prop} {row : Bool} {c : Cd} {b : Els ts → Bool} {F d : Els ts → El c}
    (h : ConOk P f [] (pureRun' ts fun x => .need (pre x) (ansT row c (b x) (F x) (d x)))) : ConOk P f [] (pureRun' ts fun x => .need (pre x ∧ b x = true) (.lt (F x) fun g => .ret (.tup [encA row c g, .one (.kb true)]))) := by
  refine con_weaken h fun args m Q hq => ?_
  unfold pureRun' at hq ⊢
  split at hq
  · rw [T.wp_bind] at hq ⊢
    obtain ⟨⟨hp, hb⟩, hq⟩ := hq
    refine ⟨hp, fun _ => ⟨_, hq, fun _ _ _ _ h => h⟩, fun e => by rw [hb] at e; cases e⟩
  · exact hq.elim
theorem must_con0 {P : Program} {f : FuncId} {ts : List (Bool × Cd)} {row : Bool} {c : Cd} {b : Els ts → Bool} {F d : Els ts → El c}
    (h : ConOk P f [] (pureRun' ts fun x => ansT row c (b x) (F x) (d x))) : ConOk P f [] (pureRun' ts fun x => .need (b x = true) (.lt (F x) fun g => .ret (.tup [encA row c g, .one (.kb true)]))) := by
  refine con_weaken h fun args m Q hq => ?_
  unfold pureRun' at hq ⊢
  split at hq
  · rw [T.wp_bind] at hq ⊢
    obtain ⟨hb, hq⟩ := hq
    refine ⟨fun _ => ⟨_, hq, fun _ _ _ _ h => h⟩, fun e => by rw [hb] at e; cases e⟩
  · exact hq.elim
theorem fail_con0 {P : Program} {f : FuncId} {ts : List (Bool × Cd)} {row : Bool} {c : Cd} {b : Els ts → Bool} {F d : Els ts → El c}
    (h : ConOk P f [] (pureRun' ts fun x => ansT row c (b x) (F x) (d x))) : ConOk P f [] (pureRun' ts fun x => .need (b x = false) (.ret (.tup [encA row c (d x), .one (.kb false)]))) := by
  refine con_weaken h fun args m Q hq => ?_
  unfold pureRun' at hq ⊢
  split at hq
  · rw [T.wp_bind] at hq ⊢
    obtain ⟨hb, hq⟩ := hq
    refine ⟨fun e => (by rw [hb] at e; cases e), fun _ => ⟨_, hq, fun _ _ _ _ h => h⟩⟩
  · exact hq.elim
end Ax
/-
What known needs: its calls are known to succeed.
-/
set_option linter.unusedSimpArgs false
set_option linter.unusedVariables false
namespace Go.Proofs.Ytjijakfcahhioaa
open Go.RowKit Ax
noncomputable def m_rof : Con Try.prog := ⟨17, [], _, cf_rof, must_con con_rof.ok⟩
noncomputable def m_radd : Con Try.prog := ⟨15, [], _, cf_radd, must_con0 con_radd.ok⟩
noncomputable def m_rcmp : Con Try.prog := ⟨16, [], _, cf_rcmp, must_con0 con_rcmp.ok⟩
noncomputable def m_rdecimal : Con Try.prog := ⟨25, [], _, cf_rdecimal, must_con0 con_rdecimal.ok⟩
noncomputable def m_rparse : Con Try.prog := ⟨20, [], _, cf_rparse, must_con con_rparse.ok⟩
noncomputable def m_rleast : Con Try.prog := ⟨23, [], _, cf_rleast, must_con con_rleast.ok⟩
noncomputable def m_rsum : Con Try.prog := ⟨24, [], _, cf_rsum, must_con con_rsum.ok⟩
noncomputable def m_rfloor : Con Try.prog := ⟨11, [], _, cf_rfloor, must_con0 con_rfloor.ok⟩
noncomputable def m_rdiv0 : Con Try.prog := ⟨29, [], _, cf_rdiv, fail_con0 con_rdiv.ok⟩
noncomputable def EK : Env Try.prog := ⟨m_rof :: m_radd :: m_rcmp :: m_rdecimal :: m_rparse :: m_rleast :: m_rsum :: m_rfloor :: m_rdiv0 :: E23.con, E23.zero, E23.cod, fun _ => true⟩
end Go.Proofs.Ytjijakfcahhioaa
/-
known.
-/
set_option linter.unusedSimpArgs false
set_option linter.unusedVariables false
namespace Go.Proofs.Ytjijakfcahhioaa
open Go.RowKit Ax
noncomputable def tr_known (x : Els []) : T Av :=
 .need ((Ax.in64 (1 : Int) ∧ Ax.in64 (2 : Int)) ∧ Decidable.decide ((2 : Int) ≠ (0 : Ax.El (Ax.Cd.int Go.IntKind.i64))) = Bool.true) (.lt (Ax.rOf (Rat.divInt (1 : Int) (2 : Int))) (fun v0 =>
   .need ((Ax.in64 (-2 : Int) ∧ Ax.in64 (-6 : Int)) ∧ Decidable.decide ((-6 : Int) ≠ (0 : Ax.El (Ax.Cd.int Go.IntKind.i64))) = Bool.true) (.lt (Ax.rOf (Rat.divInt (-2 : Int) (-6 : Int))) (fun v1 =>
     .need (Ax.both v0 v1 = Bool.true) (.lt (Ax.rOf (Ax.qF v0 + Ax.qF v1)) (fun v2 =>
       .need (Ax.both v0 v1 = Bool.true) (.lt (Ax.cq (Ax.qF v0) (Ax.qF v1)) (fun v3 =>
         .need (Ax.safeF (500 : Int) v2 = Bool.true) (.lt (Go.Proofs.Ytjijakfcahhioaa.decS (Go.Proofs.Ytjijakfcahhioaa.qdec v2 (Go.Proofs.Ytjijakfcahhioaa.clampD (2 : Int))) (Go.Proofs.Ytjijakfcahhioaa.clampD (2 : Int)) (Ax.zW (Prod.fst v2))) (fun v4 =>
           .need (Ax.lenOk (ByteArray.size { data := #[(53 : UInt8), (47 : UInt8), (54 : UInt8)] }) ∧ Option.isSome (Go.Proofs.Ytjijakfcahhioaa.pR { data := #[(53 : UInt8), (47 : UInt8), (54 : UInt8)] }) = Bool.true) (.lt (Option.getD (Go.Proofs.Ytjijakfcahhioaa.pR { data := #[(53 : UInt8), (47 : UInt8), (54 : UInt8)] }) (Ax.w0, Ax.w0)) (fun v5 =>
             .need (Ax.in64 (0 : Int)) (.need ((Ax.both v0 (Ax.wOf (0 : Int), Ax.wOf (1 : Int)) && Decidable.decide (Ax.qF (Ax.wOf (0 : Int), Ax.wOf (1 : Int)) ≠ (0 : Rat))) = Bool.false) (.need (Ax.lenOk (List.length [v0, v1]) ∧ Prod.fst (Go.Proofs.Ytjijakfcahhioaa.leastF [v0, v1]) = Bool.true) (.lt (Prod.snd (Go.Proofs.Ytjijakfcahhioaa.leastF [v0, v1])) (fun v6 =>
                 .need (Ax.lenOk (List.length [v0, v0]) ∧ Prod.fst (Go.Proofs.Ytjijakfcahhioaa.sumF [v0, v0]) = Bool.true) (.lt (Prod.snd (Go.Proofs.Ytjijakfcahhioaa.sumF [v0, v0])) (fun v7 =>
                   .need (Ax.in64 (-3 : Int)) (.need (Ax.okF (Ax.wOf (-3 : Int), Ax.wOf (1 : Int)) = Bool.true) (.lt (Ax.wOf (Rat.floor (Ax.qF (Ax.wOf (-3 : Int), Ax.wOf (1 : Int))))) (fun v8 =>
                      .need ((ByteArray.toList (Go.Proofs.Ytjijakfcahhioaa.ftxt v2) == ByteArray.toList { data := #[(53 : UInt8), (47 : UInt8), (54 : UInt8)] }) = Bool.true) (.need ((v3 == (1 : Int)) = Bool.true) (.need ((ByteArray.toList v4 == ByteArray.toList { data := #[(48 : UInt8), (46 : UInt8), (56 : UInt8), (51 : UInt8)] }) = Bool.true) (.need ((Prod.fst (Prod.fst v5) == Prod.fst (Prod.fst v2) && (Subtype.val (Prod.snd (Prod.fst v5)) == Subtype.val (Prod.snd (Prod.fst v2)) && Bool.true) && (Prod.fst (Prod.snd v5) == Prod.fst (Prod.snd v2) && (Subtype.val (Prod.snd (Prod.snd v5)) == Subtype.val (Prod.snd (Prod.snd v2)) && Bool.true) && Bool.true)) = Bool.true) (.need ((!Bool.false) = Bool.true) (.need ((Prod.fst (Prod.fst v6) == Prod.fst (Prod.fst v1) && (Subtype.val (Prod.snd (Prod.fst v6)) == Subtype.val (Prod.snd (Prod.fst v1)) && Bool.true) && (Prod.fst (Prod.snd v6) == Prod.fst (Prod.snd v1) && (Subtype.val (Prod.snd (Prod.snd v6)) == Subtype.val (Prod.snd (Prod.snd v1)) && Bool.true) && Bool.true)) = Bool.true) (.need (Ax.in64 (1 : Int)) (.need ((Prod.fst (Prod.fst v7) == Prod.fst (Ax.wOf (1 : Int)) && (Subtype.val (Prod.snd (Prod.fst v7)) == Subtype.val (Prod.snd (Ax.wOf (1 : Int))) && Bool.true) && (Prod.fst (Prod.snd v7) == Prod.fst (Ax.wOf (1 : Int)) && (Subtype.val (Prod.snd (Prod.snd v7)) == Subtype.val (Prod.snd (Ax.wOf (1 : Int))) && Bool.true) && Bool.true)) = Bool.true) (.need (Ax.in64 (-3 : Int)) (.need ((Prod.fst v8 == Prod.fst (Ax.wOf (-3 : Int)) && (Subtype.val (Prod.snd v8) == Subtype.val (Prod.snd (Ax.wOf (-3 : Int))) && Bool.true)) = Bool.true) (.need (Ax.okF v2 = Bool.true) (.need (Ax.safeF (3 : Int) v2 = Bool.true) (.need ((!Ax.safeF (2 : Int) v2) = Bool.true) (.need ((Pq.cz (Ax.zW (Prod.fst v2)) (0 : Int) == (1 : Int)) = Bool.true) (.ret (.one (.v (.bool (!Ax.okF (Ax.w0, Ax.w0))))))))))))))))))))))))))))))))))))))))
theorem tr_known_eq (x : Els []) : fnP EK (fun _ => none) Try.f9 (encs [] x) = tr_known x := by kernel_rfl
end Go.Proofs.Ytjijakfcahhioaa
/-
known tells true.
-/
set_option linter.unusedSimpArgs false
set_option linter.unusedVariables false
namespace Go.Proofs.Ytjijakfcahhioaa
open Go.RowKit Ax
theorem known_wp : (tr_known ()).wp fun av => av = .one (.v (.bool true)) := by
  unfold tr_known
  simp only [T.wp]
  and_intros
  all_goals first
    | (show _ = true; kernel_rfl)
    | (show _ = false; kernel_rfl)
    | (unfold lenOk; decide)
    | omega
    | kernel_rfl
theorem kb_con {P : Program} {f : FuncId} {ts : List (Bool × Cd)} (h : ConOk P f [] (pureRun' ts fun _ => .ret (aB true))) : ConOk P f [] (pureRun' ts fun _ => .ret (.one (.kb true))) := by
  intro w φ σ m args vs Q hmem hlen hargs hrun
  unfold pureRun' at hrun
  split at hrun
  · rename_i x hx
    have h1 := h w φ σ m args vs (fun r => r = (aB true, m)) hmem hlen hargs (by
      unfold pureRun'
      rw [hx]
      rfl)
    refine h1.mono fun e w' hr => ?_
    obtain ⟨v, av, m', σ', rfl, hq, h2, h3, h4, h5, h6⟩ := hr
    cases hq
    have hv : v = .bool true := val_of h5 rfl
    subst hv
    exact ⟨_, .one (.kb true), m, σ', rfl, hrun, h2, h3, h4, .one rfl (.kb .nil), h6⟩
  · exact hrun.elim
noncomputable def con_known : Con Try.prog := ⟨9, [], _, cf_known, kb_con (tot_con (E := EK) mixed Try.func9 no_loops [] (fun _ => aB true) fun x => by
  rw [tr_known_eq]
  exact known_wp)⟩
noncomputable def E24 : Env Try.prog := ⟨con_known :: E23.con, E23.zero, E23.cod, E23.sure⟩
noncomputable def EL : Env Try.prog := ⟨con_known :: EK.con, EK.zero, EK.cod, fun _ => false⟩
end Go.Proofs.Ytjijakfcahhioaa
/-
Contracts without forks for the laws.
-/
set_option linter.unusedSimpArgs false
set_option linter.unusedVariables false
namespace Go.Proofs.Ytjijakfcahhioaa
open Go.RowKit Ax
noncomputable def m_rsub : Con Try.prog := ⟨26, [], _, cf_rsub, must_con0 con_rsub.ok⟩
noncomputable def m_rmul : Con Try.prog := ⟨28, [], _, cf_rmul, must_con0 con_rmul.ok⟩
noncomputable def m_rdiv : Con Try.prog := ⟨29, [], _, cf_rdiv, must_con0 con_rdiv.ok⟩
noncomputable def m_rnew : Con Try.prog := ⟨13, [], _, cf_rnew, must_con0 con_rnew.ok⟩
/-- of laws: all calls succeed, but Div -/
noncomputable def EM : Env Try.prog := ⟨con_known :: m_rof :: m_radd :: m_rcmp :: m_rsub :: m_rmul :: m_rnew :: m_rdecimal :: m_rparse :: m_rleast :: m_rsum :: m_rfloor :: E23.con, E23.zero, E23.cod, fun _ => false⟩
end Go.Proofs.Ytjijakfcahhioaa
/-
Arguments out of their readings; a law's row out of its contract.
-/
set_option linter.unusedSimpArgs false
set_option linter.unusedVariables false
namespace Ax
open Go Go.RowKit Go.ChangeShapes Go.WideShapes

/-- the bounds that a reading gives -/
def Fit : (c : Cd) → El c → Prop
  | .int k, z => (Lit.int k z).wf = true
  | .bool, _ => True
  | .str, s => s.size ≤ maxLen
  | .words, _ => True
  | .unit, _ => True
  | .pair a b, x => Fit a x.1 ∧ Fit b x.2
  | .sl c, xs => xs.length ≤ maxLen ∧ ∀ x ∈ xs, Fit c x
  | .ptr c, x => Fit c x

abbrev Rw (w : World) : Nat → Prop := fun b => b < w.heap.size

structure Opens (P : Program) (t : TypeId) (c : Cd) : Prop where
  size : P.cellsOf t = csz c
  ok : ∀ {H : Type} (enc : TypeId × Value → H) (w : World) (fuel : Nat) (cs : List Value) (x : DataW H × List MemPlace),
    DataW.trod enc P w 0 (fun _ => true) true fuel t cs = some x → ∃ y : El c, Fit c y ∧ Is w (Rw w) [] (ck c y) cs

section
variable {P : Program}
theorem opens_int {t : TypeId} {k : IntKind} (hu : P.underlying t = some (.int k)) (hs : P.cellsOf t = 1) : Opens P t (.int k) :=
  ⟨hs, fun enc w fuel cs x h => by
    obtain ⟨n, rfl, rfl, hw⟩ := DataW.trod_int hu h
    exact ⟨n, hw, .v rfl .nil⟩⟩
theorem opens_bool {t : TypeId} (hu : P.underlying t = some .bool) (hs : P.cellsOf t = 1) : Opens P t .bool :=
  ⟨hs, fun enc w fuel cs x h => by
    obtain ⟨b, rfl, rfl⟩ := DataW.trod_bool hu h
    exact ⟨b, trivial, .v rfl .nil⟩⟩
theorem opens_str {t : TypeId} (hu : P.underlying t = some .string) (hs : P.cellsOf t = 1) : Opens P t .str :=
  ⟨hs, fun enc w fuel cs x h => by
    obtain ⟨s, rfl, rfl, hs⟩ := DataW.trod_string hu h
    exact ⟨s, hs, .v rfl .nil⟩⟩

theorem am_of : ∀ (n : Nat) (l : List Value), l.length = n → (∀ v ∈ l, ∃ z : Int, v = .int .u32 z ∧ 0 ≤ z ∧ z < 4294967296) → ∃ x, x < Pq.bp n ∧ l = Pq.am n x
  | 0, l, h, _ => ⟨0, Pq.bp_pos 0, by rw [List.length_eq_zero_iff.1 h]; rfl⟩
  | n + 1, [], h, _ => by simp at h
  | n + 1, v :: r, h, hv => by
    obtain ⟨x, hx, rfl⟩ := am_of n r (by simpa using h) (fun v hv' => hv v (by simp [hv']))
    obtain ⟨z, rfl, h0, h1⟩ := hv v (by simp)
    refine ⟨Pq.lo z.toNat 1 + Pq.bp 1 * x, ?_, ?_⟩
    · have e : Pq.bp (n + 1) = Pq.bp 1 * Pq.bp n := by unfold Pq.bp; rw [← Nat.pow_add]; congr 1; omega
      have hl : Pq.lo z.toNat 1 < Pq.bp 1 := by unfold Pq.lo; exact Nat.mod_lt _ (Pq.bp_pos 1)
      rw [e]
      have : Pq.bp 1 * x + Pq.bp 1 ≤ Pq.bp 1 * Pq.bp n := by rw [← Nat.mul_succ]; exact Nat.mul_le_mul_left _ hx
      omega
    · have := Pq.am_app 1 n z.toNat x
      rw [show n + 1 = 1 + n from by omega, ← this]
      have e1 : Pq.am 1 z.toNat = [Value.int .u32 z] := by
        refine (Pq.am_ext (n := 1) (l := [Value.int .u32 z]) rfl fun i hi => ?_).symm
        obtain rfl : i = 0 := by omega
        have : Pq.wd z.toNat 0 = z.toNat := by
          unfold Pq.wd
          rw [Pq.bp_zero, Nat.div_one]
          exact Nat.mod_eq_of_lt (by omega)
        rw [this]
        simp
        omega
      rw [e1]; rfl
theorem opens_words {t e : TypeId} (hu : P.underlying t = some (.array 32 e)) (he : P.underlying e = some (.int .u32)) (hs : P.cellsOf t = 32) (hc : P.cellsOf e = 1) : Opens P t .words :=
  ⟨hs, fun enc w fuel cs x h => by
    obtain ⟨xs, m, rfl, rfl, hlen, hxl, hx⟩ := DataW.trod_array hu h
    rw [hs] at hlen
    obtain ⟨a, ha, rfl⟩ := am_of 32 cs hlen (fun v hv => by
      obtain ⟨i, hi, rfl⟩ := List.getElem_of_mem hv
      have := hx i (by omega)
      rw [hc, List.getElem?_eq_getElem (by omega : i < xs.length)] at this
      obtain ⟨n, h1, _, h3⟩ := DataW.trod_int he this
      have e1 : (cs.drop (i * 1)).take 1 = [cs[i]] := by
        rw [Nat.mul_one, List.drop_eq_getElem_cons hi]; rfl
      rw [e1] at h1
      have := bounds_u32 h3
      exact ⟨n, by injection h1, this.1, by omega⟩)
    exact ⟨⟨a, ha⟩, trivial, by have := Is.w (w := w) (R := Rw w) (σ := []) (x := ⟨a, ha⟩) .nil; rwa [List.append_nil] at this⟩⟩

def OpensF (P : Program) : List Field → Nat → Cd → Prop
  | [f], o, c => f.offset = o ∧ Opens P f.type c
  | f :: g :: r, o, .pair a b => f.offset = o ∧ Opens P f.type a ∧ OpensF P (g :: r) (o + csz a) b
  | _, _, _ => False
theorem opensF_ok {H : Type} {enc : TypeId × Value → H} {w : World} {n : Nat} {cs : List Value} : ∀ (fs : List Field) (o : Nat) (c : Cd), OpensF P fs o c → cs.length = o + csz c →
    (∀ f ∈ fs, ∃ x, DataW.trod enc P w 0 (fun _ => true) true n f.type ((cs.drop f.offset).take (P.cellsOf f.type)) = some x) → ∃ y : El c, Fit c y ∧ Is w (Rw w) [] (ck c y) (cs.drop o)
  | [], _, _, h, _, _ => h.elim
  | [f], o, c, h, hl, hx => by
    obtain ⟨rfl, h'⟩ : f.offset = o ∧ Opens P f.type c := by unfold OpensF at h; exact h
    obtain ⟨x, hx⟩ := hx f (by simp)
    obtain ⟨y, h1, h2⟩ := h'.ok enc w n _ x hx
    rw [h'.size, List.take_of_length_le (by rw [List.length_drop]; omega)] at h2
    exact ⟨y, h1, h2⟩
  | f :: g :: r, o, .pair a b, h, hl, hx => by
    obtain ⟨rfl, ha, hr⟩ : f.offset = o ∧ Opens P f.type a ∧ OpensF P (g :: r) (o + csz a) b := by unfold OpensF at h; exact h
    obtain ⟨x, hx0⟩ := hx f (by simp)
    obtain ⟨y, h1, h2⟩ := ha.ok enc w n _ x hx0
    obtain ⟨z, h3, h4⟩ := opensF_ok (g :: r) _ b hr (by simp only [csz] at hl; omega) (fun f' hf' => hx f' (by simp only [List.mem_cons] at hf' ⊢; exact .inr hf'))
    refine ⟨(y, z), ⟨h1, h3⟩, ?_⟩
    rw [ha.size] at h2
    have e : cs.drop f.offset = (cs.drop f.offset).take (csz a) ++ cs.drop (f.offset + csz a) := by
      rw [← List.drop_drop]; exact (List.take_append_drop _ _).symm
    rw [e]
    exact h2.app h4
  | f :: g :: r, o, .int _, h, _, _ => by unfold OpensF at h; exact h.elim
  | f :: g :: r, o, .bool, h, _, _ => by unfold OpensF at h; exact h.elim
  | f :: g :: r, o, .str, h, _, _ => by unfold OpensF at h; exact h.elim
  | f :: g :: r, o, .words, h, _, _ => by unfold OpensF at h; exact h.elim
  | f :: g :: r, o, .unit, h, _, _ => by unfold OpensF at h; exact h.elim
  | f :: g :: r, o, .sl _, h, _, _ => by unfold OpensF at h; exact h.elim
  | f :: g :: r, o, .ptr _, h, _, _ => by unfold OpensF at h; exact h.elim
theorem opens_struct {t : TypeId} {c : Cd} {fs : Array Field} (hu : P.underlying t = some (.struct fs)) (hs : P.cellsOf t = csz c) (h : OpensF P fs.toList 0 c) : Opens P t c :=
  ⟨hs, fun enc w fuel cs x hx => by
    obtain ⟨xs, n, rfl, rfl, hlen, hxl, hf⟩ := DataW.trod_struct hu hx
    have := opensF_ok (enc := enc) (w := w) (n := n) (cs := cs) fs.toList 0 c h (by omega) (fun f hm => by
      obtain ⟨i, hi, rfl⟩ := List.getElem_of_mem hm
      have hi' : i < fs.size := by simpa using hi
      have h1 := hf i fs[i] (by simp [hi'])
      rw [List.getElem?_eq_getElem (by omega : i < xs.length)] at h1
      exact ⟨_, by simpa using h1⟩)
    simpa using this⟩

theorem cells_at {w : World} {a : Addr} {n : Nat} {cs : List Value} (h : w.cells? 0 a n = some cs) : cs.length = n ∧ ∀ j v, cs[j]? = some v → w.cell? (a.add j) = some v := by
  unfold World.cells? at h
  rw [if_pos (Nat.zero_le _)] at h
  have hl := mapM_some_length h
  refine ⟨by simpa using hl, fun j v hj => ?_⟩
  have hj' : j < n := by have := (List.getElem?_eq_some_iff.1 hj).1; simp at hl; omega
  rw [← hj]
  exact mapM_some_get h j j (by simp [hj'])
theorem opens_slice {t e : TypeId} {c : Cd} (hu : P.underlying t = some (.slice e)) (hs : P.cellsOf t = 1) (he : Opens P e c) (hc : 0 < csz c) : Opens P t (.sl c) :=
  ⟨hs, fun enc w fuel cs x hx => by
    rcases Deep.open_slice hu hx with ⟨rfl, rfl⟩ | ⟨a, len, cap, m, n, D, Pl, rfl, _, hl, hm, hmm, rfl, hel⟩
    · exact ⟨[], ⟨Nat.zero_le _, by simp⟩, .dn .nil⟩
    · have hlm : len ≤ m := by rw [hmm]; simp; omega
      have hex : ∀ i, i < len → ∃ p : List Value × El c, w.cells? 0 (a.add (i * csz c)) (csz c) = some p.1 ∧ Fit c p.2 ∧ Is w (Rw w) [] (ck c p.2) p.1 := fun i hi => by
        obtain ⟨cs', h1, h2⟩ := hel i (by omega)
        obtain ⟨y, h3, h4⟩ := he.ok enc w n cs' _ h2
        rw [he.size] at h1
        exact ⟨(cs', y), h1, h3, h4⟩
      by_cases h0 : len = 0
      · subst h0
        exact ⟨[], ⟨Nat.zero_le _, by simp⟩, .de a cap .nil⟩
      · obtain ⟨p0, hp0⟩ := hex 0 (by omega)
        have : Inhabited (List Value × El c) := ⟨p0⟩
        obtain ⟨g, hg⟩ := Deep.choose_lt hex
        have hl0 := cells_at (hg 0 (by omega)).1
        obtain ⟨b, o, spot⟩ := a
        have hne : (g 0).1 ≠ [] := by intro e; rw [e] at hl0; simp at hl0; omega
        obtain ⟨v, r, hvr⟩ := List.exists_cons_of_ne_nil hne
        have hcell := hl0.2 0 v (by rw [hvr]; rfl)
        rw [Nat.zero_mul] at hcell
        have hspot : spot = none := by simpa [Addr.add] using World.cell?_spot hcell
        subst hspot
        have hb : b < w.heap.size := by
          simp only [Addr.add, World.cell?] at hcell
          rcases Nat.lt_or_ge b w.heap.size with h | h
          · exact h
          · simp [Array.getElem?_eq_none h] at hcell
        have hxlen : ((List.range len).map fun i => (g i).2).length = len := by simp
        refine ⟨(List.range len).map fun i => (g i).2, ⟨by rw [hxlen]; omega, fun x hx => ?_⟩, ?_⟩
        · obtain ⟨i, hi, rfl⟩ := List.mem_map.1 hx
          exact (hg i (List.mem_range.1 hi)).2.1
        · have key : ∀ (i : Nat) x, ((List.range len).map fun i => (g i).2)[i]? = some x → i < len ∧ x = (g i).2 := fun i x hx => by
            have h := (List.getElem?_eq_some_iff.1 hx).1
            rw [hxlen] at h
            refine ⟨h, ?_⟩
            simp [h] at hx
            exact hx.symm
          have : Is w (Rw w) [] [.ds c ((List.range len).map fun i => (g i).2)] [.slice (some ⟨b, o, none⟩) ((List.range len).map fun i => (g i).2).length cap] :=
            .ds (fun i => (g i).1) (by rw [hxlen]; exact hl) hb (fun i x hx => (cells_at (hg i (key i x hx).1).1).1) (fun i x hx => by
              obtain ⟨h1, rfl⟩ := key i x hx
              exact (hg i h1).2.2) (fun i x hx => by
              obtain ⟨h1, rfl⟩ := key i x hx
              intro j v hj
              have := (cells_at (hg i h1).1).2 j v hj
              rw [Addr.add_mid, Addr.add_mid] at this
              exact this) .nil
          rw [hxlen] at this
          exact this⟩

/-! ### a call's arguments -/
def aggT (P : Program) (t : TypeId) : Option Bool := match P.underlying t with
  | some (.struct _) | some (.array _ _) => some true
  | some .bool | some (.int _) | some .string | some (.slice _) | some (.pointer _) => some false
  | _ => none
def OpensAll (P : Program) : List TypeId → List (Bool × Cd) → Prop
  | [], [] => True
  | t :: ts, c :: cs => Opens P t c.2 ∧ aggT P t = some c.1 ∧ OpensAll P ts cs
  | _, _ => False
def FitA : (ts : List (Bool × Cd)) → Els ts → Prop
  | [], _ => True
  | t :: ts, x => Fit t.2 x.1 ∧ FitA ts x.2

theorem single_cells {w : World} {r : Reach} {base : Nat} {t : TypeId} {v : Value} (ha : aggT P t = some false) (h : Value.okWide P w r base t v) : v.cells.toList = [v] := by
  unfold aggT at ha
  unfold Value.okWide at h
  cases hu : P.underlying t with
  | none => simp [hu] at ha
  | some u =>
    cases u <;> simp [hu] at ha h
    all_goals
      unfold Cell.okWide Cell.ok at h
      cases v <;> simp_all [Value.cells]
theorem agg_cells {w : World} {r : Reach} {base : Nat} {t : TypeId} {v : Value} (ha : aggT P t = some true) (h : Value.okWide P w r base t v) : ∃ us : List Value, v = .agg us.toArray ∧ v.cells.toList = us := by
  unfold aggT at ha
  unfold Value.okWide at h
  cases hu : P.underlying t with
  | none => simp [hu] at ha
  | some u =>
    cases u <;> simp [hu] at ha h
    all_goals
      obtain ⟨cs, rfl, _⟩ := h
      exact ⟨cs.toList, by simp, by simp [Value.cells]⟩
theorem is_one {w : World} {R : Nat → Prop} {σ : List Nat} {l : List Ck} {us : List Value} (h : Is w R σ l us) (h1 : us.length = 1) (hc : ∀ k ∈ l, 0 < k.size) : ∃ k, l = [k] ∧ k.size = 1 := by
  match l, h with
  | [], h => cases h; simp at h1
  | k :: r, h =>
    obtain ⟨ua, ub, rfl, e, i1, i2⟩ := h.head
    have hk := hc k (by simp)
    rw [List.length_append] at h1
    have hub : ub = [] := List.length_eq_zero_iff.1 (by omega)
    subst hub
    match r, i2 with
    | [], _ => exact ⟨k, rfl, by simp at h1; omega⟩
    | k2 :: r2, i2 =>
      obtain ⟨uc, ud, e1, e2, _, _⟩ := i2.head
      have := hc k2 (by simp)
      have : uc = [] := by
        have := congrArg List.length e1
        rw [List.length_append] at this
        exact List.length_eq_zero_iff.1 (by simp at this; omega)
      subst this
      simp at e2
      omega
theorem ck_size : ∀ (c : Cd) (x : El c), ∀ k ∈ ck c x, 0 < k.size
  | .int k, x, k', h => by simp [ck] at h; subst h; simp [Ck.size]
  | .bool, x, k', h => by simp [ck] at h; subst h; simp [Ck.size]
  | .str, x, k', h => by simp [ck] at h; subst h; simp [Ck.size]
  | .words, x, k', h => by simp [ck] at h; subst h; simp [Ck.size]
  | .unit, x, k', h => by simp [ck] at h
  | .pair a b, x, k', h => by
    simp only [ck, List.mem_append] at h
    rcases h with h | h
    · exact ck_size a _ _ h
    · exact ck_size b _ _ h
  | .sl c, x, k', h => by simp [ck] at h; subst h; simp [Ck.size]
  | .ptr c, x, k', h => by simp [ck] at h; subst h; simp [Ck.size]

theorem arg_is {H : Type} {enc : TypeId × Value → H} {w : World} {r : Reach} {base : Nat} {t : TypeId} {b : Bool} {c : Cd} {v : Value} {d : DataW H} {p : List MemPlace} (hO : Opens P t c) (ha : aggT P t = some b)
    (hv : Value.okWide P w r base t v) (h : DataW.Trod enc P w 0 (fun _ => true) true t v d p) : ∃ y : El c, Fit c y ∧ AvIs w (Rw w) [] (encA b c y) v := by
  obtain ⟨fuel, hf⟩ := h
  obtain ⟨y, h1, h2⟩ := hO.ok enc w fuel _ _ hf
  refine ⟨y, h1, ?_⟩
  cases b with
  | true =>
    obtain ⟨us, rfl, e⟩ := agg_cells ha hv
    rw [e] at h2
    exact .agg h2
  | false =>
    have e := single_cells ha hv
    rw [e] at h2
    obtain ⟨k, hk, hs⟩ := is_one h2 rfl (ck_size c y)
    unfold encA
    simp only [hk] at h2 ⊢
    exact .one hs h2
theorem args_are {H : Type} {enc : TypeId × Value → H} {w : World} {r : Reach} {base : Nat} : ∀ (ts : List (Bool × Cd)) (tys : List TypeId) (vs : List Value) (ds : List (DataW H)) (p : List MemPlace), OpensAll P tys ts →
    DataW.TrodAll enc P w 0 (fun _ => true) true tys vs ds p → (∀ (j : Nat) t v, tys[j]? = some t → vs[j]? = some v → Value.okWide P w r base t v) →
    ∃ x : Els ts, FitA ts x ∧ vs.length = (encs ts x).length ∧ (∀ (i : Nat) a v, (encs ts x)[i]? = some a → vs[i]? = some v → AvIs w (Rw w) [] a v)
  | [], [], vs, ds, p, _, h, _ => by
    obtain ⟨rfl, rfl, rfl⟩ := trodAll_nil h
    exact ⟨(), trivial, rfl, fun i a v h1 => by simp [encs] at h1⟩
  | [], _ :: _, _, _, _, hO, _, _ => hO.elim
  | _ :: _, [], _, _, _, hO, _, _ => hO.elim
  | c :: ts, t :: tys, vs, ds, p, hO, h, hv => by
    obtain ⟨v, vs1, d, ds1, a, b, rfl, rfl, rfl, h1, h2⟩ := trodAll_cons h
    obtain ⟨o1, o2, o3⟩ := hO
    obtain ⟨y, f1, i1⟩ := arg_is o1 o2 (hv 0 t v rfl rfl) h1
    obtain ⟨x, f2, hl, i2⟩ := args_are ts tys vs1 ds1 b o3 h2 (fun j t' v' ht hv' => hv (j + 1) t' v' (by simpa using ht) (by simpa using hv'))
    refine ⟨(y, x), ⟨f1, f2⟩, by simp [encs, hl], fun i a' v' ha' hv' => ?_⟩
    rcases i with _ | i
    · cases ha'; cases hv'; exact i1
    · exact i2 i a' v' (by simpa [encs] using ha') (by simpa using hv')

theorem trod_stays {H : Type} {enc : TypeId × Value → H} {W W' : World} (hl : laidOutB P = true) (hb : Below W.heap.size W W') : ∀ (tys : List TypeId) (vs : List Value) (ds : List (DataW H)) (p : List MemPlace), (∀ t ∈ tys, P.readableRec t = true ∧ t < P.types.size) →
    DataW.TrodAll enc P W 0 (fun _ => true) true tys vs ds p → (∀ x ∈ p, x.block < W.heap.size) → DataW.TrodAll enc P W' 0 (fun b => decide (b < W.heap.size)) true tys vs ds p
  | [], vs, ds, p, _, h, _ => by
    obtain ⟨rfl, rfl, rfl⟩ := trodAll_nil h
    exact trodAll_mk0
  | t :: tys, vs, ds, p, ht, h, hp => by
    obtain ⟨v, vs1, d, ds1, a, b, rfl, rfl, rfl, h1, h2⟩ := trodAll_cons h
    exact trodAll_cons_mk (Below.trod hl (ht t (by simp)).1 (ht t (by simp)).2 h1 hb (fun x hx => hp x (by simp [hx])))
      (trod_stays hl hb tys vs1 ds1 b (fun t' h' => ht t' (by simp [h'])) h2 (fun x hx => hp x (by simp [hx])))

/-- what a law's call leaves -/
theorem law_post {E : Env P} {L : Loops} {f : FuncId} {fn : Func} {H : Type} {enc : TypeId × Value → H} {s : ChangeSpec} {tb : TypeId} {W : World} {base : Nat} {args : Array Value} {ds gs : List (DataW H)} {before : List MemPlace}
    (hm : P.follows .mixedOrders = true) (hf : P.funcs[f]? = some fn) (hL : ∀ c, fn.body = some c → LoopsOk P 0 L c) (hlaid : laidOutB P = true) (ts : List (Bool × Cd))
    (hrun : ∀ x : Els ts, FitA ts x → (fnP E L fn (encs ts x)).wp fun av => av = .one (.v (.bool true)))
    (tys : List TypeId) (hty : fn.params.toList = tys) (hO : OpensAll P tys ts) (hread : ∀ t ∈ tys, P.readableRec t = true ∧ t < P.types.size) (hres : fn.resultTypes = #[tb]) (hub : P.underlying tb = some .bool)
    (hvars : s.vars = []) (hspec : ∀ ds : List (DataW H), ds.length = tys.length → s.fn H ds = { results := [.lit (.bool true)], args := ds })
    (hval : ∀ (j : Nat) t v, fn.params[j]? = some t → args[j]? = some v → Value.okWide P W .any base t v) (hW : DataW.Whole enc P fn.params.toList s.vars false W args.toList ds gs before) :
    Calls P f args W fun e W' => ∃ v, e = .returned v ∧ s.post enc P fn false true false false W args v W' := by
  have hW' := hW
  obtain ⟨p, q, hA, hV, rfl, hfz, hnd⟩ := hW
  rw [hvars] at hV
  obtain ⟨rfl, rfl⟩ := trodVars_none hV
  rw [hty] at hA
  obtain ⟨x, hfit, hlen, hargs⟩ := args_are (r := .any) (base := base) ts tys args.toList ds p hO hA (fun j t v ht hv => hval j t v (by rw [← hty] at ht; simpa using ht) (by simpa using hv))
  have hdl : ds.length = tys.length := by
    have : ∀ (tys : List TypeId) (vs : List Value) (ds : List (DataW H)) (p : List MemPlace), DataW.TrodAll enc P W 0 (fun _ => true) true tys vs ds p → ds.length = tys.length := by
      intro tys
      induction tys with
      | nil => intro vs ds p h; obtain ⟨rfl, rfl, rfl⟩ := trodAll_nil h; rfl
      | cons t tys ih =>
        intro vs ds p h
        obtain ⟨v, vs1, d, ds1, a, b, rfl, rfl, rfl, h1, h2⟩ := trodAll_cons h
        simp [ih _ _ _ h2]
    exact this _ _ _ _ hA
  have hmem0 : MemOk W [] [] [] := ⟨rfl, by simp, by simp, fun i t cs b h1 h2 => by simp at h1⟩
  have hro : ∀ b, Rw W b → Ro W [] [] b := fun b hb => ⟨hb, by simp, by simp⟩
  have hw := fnP_wp (hrun x hfit)
  have hcall := fn_ok (E := E) (L := L) (w := W) (φ := []) (σ := []) hm hf hL (Nat.zero_le _) hmem0 hlen (fun i a v h1 h2 => (hargs i a v h1 h2).ro hro []) hw
  have hargsE : args.toList.toArray = args := by simp
  rw [hargsE] at hcall
  refine hcall.mono fun e W' hr => ?_
  obtain ⟨v, av, m', σ', rfl, ⟨hQ, hno⟩, hext, hkeep, hav, hmem'⟩ := hr
  have hv : v = .bool true := by
    have := nA_is hav
    rw [hQ] at this
    exact val_of this rfl
  subst hv
  have hb := hkeep.below
  have hps : ∀ y ∈ p, y.block < W.heap.size := fun y hy => by simpa using hW'.lt y (by simp [hy])
  have hst := trod_stays (enc := enc) hlaid hb tys args.toList ds p hread hA hps
  refine ⟨_, rfl, ds, [], p ++ [], [], p, [], hW', ?_, ?_, ?_, hb.frame _, fun h => by cases h⟩
  · rw [List.append_nil, hspec ds hdl, hres]
    exact trodAll_mk1 (shut_bool hub true)
  · rw [List.append_nil, hspec ds hdl, hty]
    exact hst
  · rw [List.append_nil, hspec ds hdl, hvars]
    rfl
end
end Ax
/-
The laws' runs.
-/
set_option linter.unusedSimpArgs false
set_option linter.unusedVariables false
namespace Go.Proofs.Ytjijakfcahhioaa
open Go.RowKit Ax
noncomputable def tr_lfloors (x : Els [(true, cF)]) : T Av :=
 .ite (!Bool.true)
  (.ret (.one (.v (.bool (Bool.false)))))
  (.ite (!Ax.safeF (400 : Int) (x.1))
   (.ret (.one (.v (.bool (Bool.true)))))
   (.need (Ax.okF (x.1) = Bool.true) (.lt (Ax.wOf (Rat.floor (Ax.qF (x.1)))) (fun v0 =>
     .need (Ax.in64 (1 : Int)) (.need (Ax.in64 (1 : Int)) (.need (Decidable.decide (Ax.NewOk v0 (Ax.wOf (1 : Int))) = Bool.true) (.lt (Ax.newF v0 (Ax.wOf (1 : Int))) (fun v1 =>
         .need (Ax.both v1 (Ax.wOf (1 : Int), Ax.wOf (1 : Int)) = Bool.true) (.lt (Ax.rOf (Ax.qF v1 + Ax.qF (Ax.wOf (1 : Int), Ax.wOf (1 : Int)))) (fun v2 =>
           .need (Ax.both v1 (x.1) = Bool.true) (.lt (Ax.cq (Ax.qF v1) (Ax.qF (x.1))) (fun v3 =>
             .need (Ax.both (x.1) v2 = Bool.true) (.lt (Ax.cq (Ax.qF (x.1)) (Ax.qF v2)) (fun v4 =>
               .ite (Decidable.decide (v3 ≤ (0 : Int)))
                (.ret (.one (.v (.bool (Decidable.decide (v4 < (0 : Int)))))))
                (.ret (.one (.v (.bool (Bool.false)))))))))))))))))))
theorem tr_lfloors_eq (x : Els [(true, cF)]) : fnP EM (fun _ => none) Try.f3 (encs [(true, cF)] x) = tr_lfloors x := by kernel_rfl
noncomputable def tr_lterms (x : Els [(false, .int .i32), (false, .int .u16), (false, .int .i16)]) : T Av :=
 .ite (!Bool.true)
  (.ret (.one (.v (.bool (Bool.false)))))
  (.need (Ax.in64 (Go.IntKind.wrap Go.IntKind.i64 (x.1)) ∧ Ax.in64 (Go.IntKind.wrap Go.IntKind.i64 (Go.IntKind.wrap Go.IntKind.i64 (Prod.fst (Prod.snd x)) + (1 : Int)))) (.ite (Decidable.decide (Go.IntKind.wrap Go.IntKind.i64 (Go.IntKind.wrap Go.IntKind.i64 (Prod.fst (Prod.snd x)) + (1 : Int)) ≠ (0 : Ax.El (Ax.Cd.int Go.IntKind.i64))))
    (.lt (Ax.rOf (Rat.divInt (Go.IntKind.wrap Go.IntKind.i64 (x.1)) (Go.IntKind.wrap Go.IntKind.i64 (Go.IntKind.wrap Go.IntKind.i64 (Prod.fst (Prod.snd x)) + (1 : Int))))) (fun v0 =>
     .need (Ax.in64 (Go.IntKind.wrap Go.IntKind.i64 (Go.IntKind.wrap Go.IntKind.i64 (x.1) * Go.IntKind.wrap Go.IntKind.i64 (Prod.fst (Prod.snd (Prod.snd x))))) ∧ Ax.in64 (Go.IntKind.wrap Go.IntKind.i64 (Go.IntKind.wrap Go.IntKind.i64 (Go.IntKind.wrap Go.IntKind.i64 (Prod.fst (Prod.snd x)) + (1 : Int)) * Go.IntKind.wrap Go.IntKind.i64 (Prod.fst (Prod.snd (Prod.snd x)))))) (.ite (Decidable.decide (Go.IntKind.wrap Go.IntKind.i64 (Go.IntKind.wrap Go.IntKind.i64 (Go.IntKind.wrap Go.IntKind.i64 (Prod.fst (Prod.snd x)) + (1 : Int)) * Go.IntKind.wrap Go.IntKind.i64 (Prod.fst (Prod.snd (Prod.snd x)))) ≠ (0 : Ax.El (Ax.Cd.int Go.IntKind.i64))))
       (.lt (Ax.rOf (Rat.divInt (Go.IntKind.wrap Go.IntKind.i64 (Go.IntKind.wrap Go.IntKind.i64 (x.1) * Go.IntKind.wrap Go.IntKind.i64 (Prod.fst (Prod.snd (Prod.snd x))))) (Go.IntKind.wrap Go.IntKind.i64 (Go.IntKind.wrap Go.IntKind.i64 (Go.IntKind.wrap Go.IntKind.i64 (Prod.fst (Prod.snd x)) + (1 : Int)) * Go.IntKind.wrap Go.IntKind.i64 (Prod.fst (Prod.snd (Prod.snd x))))))) (fun v1 =>
        .need (Ax.in64 (Go.IntKind.wrap Go.IntKind.i64 (x.1)) ∧ Ax.in64 (0 : Int)) (.ite (Decidable.decide ((0 : Int) ≠ (0 : Ax.El (Ax.Cd.int Go.IntKind.i64))))
          (.lt (Ax.rOf (Rat.divInt (Go.IntKind.wrap Go.IntKind.i64 (x.1)) (0 : Int))) (fun v2 =>
           .ite (Bool.true == (Prod.fst (Prod.snd (Prod.snd x)) != (0 : Int)))
            (.ite (!Bool.true)
             (.ite (!Bool.true)
              (.ite (Ax.okF v0)
               (.ite (x.1 != (0 : Int))
                (.ret (.one (.v (.bool (Bool.true)))))
                (.need (Ax.in64 (0 : Int)) (.ret (.one (.v (.bool (Prod.fst (Prod.fst v0) == Prod.fst (Ax.wOf (0 : Int)) && (Subtype.val (Prod.snd (Prod.fst v0)) == Subtype.val (Prod.snd (Ax.wOf (0 : Int))) && Bool.true) && (Prod.fst (Prod.snd v0) == Prod.fst (Ax.wOf (1 : Int)) && (Subtype.val (Prod.snd (Prod.snd v0)) == Subtype.val (Prod.snd (Ax.wOf (1 : Int))) && Bool.true) && Bool.true))))))))
               (.ret (.one (.v (.bool (Bool.false))))))
              (.ret (.one (.v (.bool (Bool.false))))))
             (.ite (Prod.fst (Prod.fst v0) == Prod.fst (Prod.fst v1) && (Subtype.val (Prod.snd (Prod.fst v0)) == Subtype.val (Prod.snd (Prod.fst v1)) && Bool.true) && (Prod.fst (Prod.snd v0) == Prod.fst (Prod.snd v1) && (Subtype.val (Prod.snd (Prod.snd v0)) == Subtype.val (Prod.snd (Prod.snd v1)) && Bool.true) && Bool.true))
              (.ite (!Bool.true)
               (.ite (Ax.okF v0)
                (.ite (x.1 != (0 : Int))
                 (.ret (.one (.v (.bool (Bool.true)))))
                 (.need (Ax.in64 (0 : Int)) (.ret (.one (.v (.bool (Prod.fst (Prod.fst v0) == Prod.fst (Ax.wOf (0 : Int)) && (Subtype.val (Prod.snd (Prod.fst v0)) == Subtype.val (Prod.snd (Ax.wOf (0 : Int))) && Bool.true) && (Prod.fst (Prod.snd v0) == Prod.fst (Ax.wOf (1 : Int)) && (Subtype.val (Prod.snd (Prod.snd v0)) == Subtype.val (Prod.snd (Ax.wOf (1 : Int))) && Bool.true) && Bool.true))))))))
                (.ret (.one (.v (.bool (Bool.false))))))
               (.ret (.one (.v (.bool (Bool.false))))))
              (.ret (.one (.v (.bool (Bool.false)))))))
            (.ret (.one (.v (.bool (Bool.false)))))))
          (.ite (Bool.true == (Prod.fst (Prod.snd (Prod.snd x)) != (0 : Int)))
           (.ite (!Bool.true)
            (.ite (!Bool.false)
             (.ite (Ax.okF v0)
              (.ite (x.1 != (0 : Int))
               (.ret (.one (.v (.bool (Bool.true)))))
               (.need (Ax.in64 (0 : Int)) (.ret (.one (.v (.bool (Prod.fst (Prod.fst v0) == Prod.fst (Ax.wOf (0 : Int)) && (Subtype.val (Prod.snd (Prod.fst v0)) == Subtype.val (Prod.snd (Ax.wOf (0 : Int))) && Bool.true) && (Prod.fst (Prod.snd v0) == Prod.fst (Ax.wOf (1 : Int)) && (Subtype.val (Prod.snd (Prod.snd v0)) == Subtype.val (Prod.snd (Ax.wOf (1 : Int))) && Bool.true) && Bool.true))))))))
              (.ret (.one (.v (.bool (Bool.false))))))
             (.ret (.one (.v (.bool (Bool.false))))))
            (.ite (Prod.fst (Prod.fst v0) == Prod.fst (Prod.fst v1) && (Subtype.val (Prod.snd (Prod.fst v0)) == Subtype.val (Prod.snd (Prod.fst v1)) && Bool.true) && (Prod.fst (Prod.snd v0) == Prod.fst (Prod.snd v1) && (Subtype.val (Prod.snd (Prod.snd v0)) == Subtype.val (Prod.snd (Prod.snd v1)) && Bool.true) && Bool.true))
             (.ite (!Bool.false)
              (.ite (Ax.okF v0)
               (.ite (x.1 != (0 : Int))
                (.ret (.one (.v (.bool (Bool.true)))))
                (.need (Ax.in64 (0 : Int)) (.ret (.one (.v (.bool (Prod.fst (Prod.fst v0) == Prod.fst (Ax.wOf (0 : Int)) && (Subtype.val (Prod.snd (Prod.fst v0)) == Subtype.val (Prod.snd (Ax.wOf (0 : Int))) && Bool.true) && (Prod.fst (Prod.snd v0) == Prod.fst (Ax.wOf (1 : Int)) && (Subtype.val (Prod.snd (Prod.snd v0)) == Subtype.val (Prod.snd (Ax.wOf (1 : Int))) && Bool.true) && Bool.true))))))))
               (.ret (.one (.v (.bool (Bool.false))))))
              (.ret (.one (.v (.bool (Bool.false))))))
             (.ret (.one (.v (.bool (Bool.false)))))))
           (.ret (.one (.v (.bool (Bool.false)))))))))
       (.need (Ax.in64 (Go.IntKind.wrap Go.IntKind.i64 (x.1)) ∧ Ax.in64 (0 : Int)) (.ite (Decidable.decide ((0 : Int) ≠ (0 : Ax.El (Ax.Cd.int Go.IntKind.i64))))
         (.lt (Ax.rOf (Rat.divInt (Go.IntKind.wrap Go.IntKind.i64 (x.1)) (0 : Int))) (fun v1 =>
          .ite (Bool.false == (Prod.fst (Prod.snd (Prod.snd x)) != (0 : Int)))
           (.ite (!Bool.false)
            (.ite (!Bool.true)
             (.ite (Ax.okF v0)
              (.ite (x.1 != (0 : Int))
               (.ret (.one (.v (.bool (Bool.true)))))
               (.need (Ax.in64 (0 : Int)) (.ret (.one (.v (.bool (Prod.fst (Prod.fst v0) == Prod.fst (Ax.wOf (0 : Int)) && (Subtype.val (Prod.snd (Prod.fst v0)) == Subtype.val (Prod.snd (Ax.wOf (0 : Int))) && Bool.true) && (Prod.fst (Prod.snd v0) == Prod.fst (Ax.wOf (1 : Int)) && (Subtype.val (Prod.snd (Prod.snd v0)) == Subtype.val (Prod.snd (Ax.wOf (1 : Int))) && Bool.true) && Bool.true))))))))
              (.ret (.one (.v (.bool (Bool.false))))))
             (.ret (.one (.v (.bool (Bool.false))))))
            (.ite (Prod.fst (Prod.fst v0) == Prod.fst Ax.w0 && (Subtype.val (Prod.snd (Prod.fst v0)) == Subtype.val (Prod.snd Ax.w0) && Bool.true) && (Prod.fst (Prod.snd v0) == Prod.fst Ax.w0 && (Subtype.val (Prod.snd (Prod.snd v0)) == Subtype.val (Prod.snd Ax.w0) && Bool.true) && Bool.true))
             (.ite (!Bool.true)
              (.ite (Ax.okF v0)
               (.ite (x.1 != (0 : Int))
                (.ret (.one (.v (.bool (Bool.true)))))
                (.need (Ax.in64 (0 : Int)) (.ret (.one (.v (.bool (Prod.fst (Prod.fst v0) == Prod.fst (Ax.wOf (0 : Int)) && (Subtype.val (Prod.snd (Prod.fst v0)) == Subtype.val (Prod.snd (Ax.wOf (0 : Int))) && Bool.true) && (Prod.fst (Prod.snd v0) == Prod.fst (Ax.wOf (1 : Int)) && (Subtype.val (Prod.snd (Prod.snd v0)) == Subtype.val (Prod.snd (Ax.wOf (1 : Int))) && Bool.true) && Bool.true))))))))
               (.ret (.one (.v (.bool (Bool.false))))))
              (.ret (.one (.v (.bool (Bool.false))))))
             (.ret (.one (.v (.bool (Bool.false)))))))
           (.ret (.one (.v (.bool (Bool.false)))))))
         (.ite (Bool.false == (Prod.fst (Prod.snd (Prod.snd x)) != (0 : Int)))
          (.ite (!Bool.false)
           (.ite (!Bool.false)
            (.ite (Ax.okF v0)
             (.ite (x.1 != (0 : Int))
              (.ret (.one (.v (.bool (Bool.true)))))
              (.need (Ax.in64 (0 : Int)) (.ret (.one (.v (.bool (Prod.fst (Prod.fst v0) == Prod.fst (Ax.wOf (0 : Int)) && (Subtype.val (Prod.snd (Prod.fst v0)) == Subtype.val (Prod.snd (Ax.wOf (0 : Int))) && Bool.true) && (Prod.fst (Prod.snd v0) == Prod.fst (Ax.wOf (1 : Int)) && (Subtype.val (Prod.snd (Prod.snd v0)) == Subtype.val (Prod.snd (Ax.wOf (1 : Int))) && Bool.true) && Bool.true))))))))
             (.ret (.one (.v (.bool (Bool.false))))))
            (.ret (.one (.v (.bool (Bool.false))))))
           (.ite (Prod.fst (Prod.fst v0) == Prod.fst Ax.w0 && (Subtype.val (Prod.snd (Prod.fst v0)) == Subtype.val (Prod.snd Ax.w0) && Bool.true) && (Prod.fst (Prod.snd v0) == Prod.fst Ax.w0 && (Subtype.val (Prod.snd (Prod.snd v0)) == Subtype.val (Prod.snd Ax.w0) && Bool.true) && Bool.true))
            (.ite (!Bool.false)
             (.ite (Ax.okF v0)
              (.ite (x.1 != (0 : Int))
               (.ret (.one (.v (.bool (Bool.true)))))
               (.need (Ax.in64 (0 : Int)) (.ret (.one (.v (.bool (Prod.fst (Prod.fst v0) == Prod.fst (Ax.wOf (0 : Int)) && (Subtype.val (Prod.snd (Prod.fst v0)) == Subtype.val (Prod.snd (Ax.wOf (0 : Int))) && Bool.true) && (Prod.fst (Prod.snd v0) == Prod.fst (Ax.wOf (1 : Int)) && (Subtype.val (Prod.snd (Prod.snd v0)) == Subtype.val (Prod.snd (Ax.wOf (1 : Int))) && Bool.true) && Bool.true))))))))
              (.ret (.one (.v (.bool (Bool.false))))))
             (.ret (.one (.v (.bool (Bool.false))))))
            (.ret (.one (.v (.bool (Bool.false)))))))
          (.ret (.one (.v (.bool (Bool.false)))))))))))
    (.need (Ax.in64 (Go.IntKind.wrap Go.IntKind.i64 (Go.IntKind.wrap Go.IntKind.i64 (x.1) * Go.IntKind.wrap Go.IntKind.i64 (Prod.fst (Prod.snd (Prod.snd x))))) ∧ Ax.in64 (Go.IntKind.wrap Go.IntKind.i64 (Go.IntKind.wrap Go.IntKind.i64 (Go.IntKind.wrap Go.IntKind.i64 (Prod.fst (Prod.snd x)) + (1 : Int)) * Go.IntKind.wrap Go.IntKind.i64 (Prod.fst (Prod.snd (Prod.snd x)))))) (.ite (Decidable.decide (Go.IntKind.wrap Go.IntKind.i64 (Go.IntKind.wrap Go.IntKind.i64 (Go.IntKind.wrap Go.IntKind.i64 (Prod.fst (Prod.snd x)) + (1 : Int)) * Go.IntKind.wrap Go.IntKind.i64 (Prod.fst (Prod.snd (Prod.snd x)))) ≠ (0 : Ax.El (Ax.Cd.int Go.IntKind.i64))))
      (.lt (Ax.rOf (Rat.divInt (Go.IntKind.wrap Go.IntKind.i64 (Go.IntKind.wrap Go.IntKind.i64 (x.1) * Go.IntKind.wrap Go.IntKind.i64 (Prod.fst (Prod.snd (Prod.snd x))))) (Go.IntKind.wrap Go.IntKind.i64 (Go.IntKind.wrap Go.IntKind.i64 (Go.IntKind.wrap Go.IntKind.i64 (Prod.fst (Prod.snd x)) + (1 : Int)) * Go.IntKind.wrap Go.IntKind.i64 (Prod.fst (Prod.snd (Prod.snd x))))))) (fun v0 =>
       .need (Ax.in64 (Go.IntKind.wrap Go.IntKind.i64 (x.1)) ∧ Ax.in64 (0 : Int)) (.ite (Decidable.decide ((0 : Int) ≠ (0 : Ax.El (Ax.Cd.int Go.IntKind.i64))))
         (.lt (Ax.rOf (Rat.divInt (Go.IntKind.wrap Go.IntKind.i64 (x.1)) (0 : Int))) (fun v1 =>
          .ret (.one (.v (.bool (Bool.false))))))
         (.ret (.one (.v (.bool (Bool.false))))))))
      (.need (Ax.in64 (Go.IntKind.wrap Go.IntKind.i64 (x.1)) ∧ Ax.in64 (0 : Int)) (.ite (Decidable.decide ((0 : Int) ≠ (0 : Ax.El (Ax.Cd.int Go.IntKind.i64))))
        (.lt (Ax.rOf (Rat.divInt (Go.IntKind.wrap Go.IntKind.i64 (x.1)) (0 : Int))) (fun v0 =>
         .ret (.one (.v (.bool (Bool.false))))))
        (.ret (.one (.v (.bool (Bool.false)))))))))))
theorem tr_lterms_eq (x : Els [(false, .int .i32), (false, .int .u16), (false, .int .i16)]) : fnP E24 (fun _ => none) Try.f4 (encs [(false, .int .i32), (false, .int .u16), (false, .int .i16)] x) = tr_lterms x := by kernel_rfl
noncomputable def tr_llaws (x : Els [(true, cF), (true, cF), (true, cF)]) : T Av :=
 .ite (!Bool.true)
  (.ret (.one (.v (.bool (Bool.false)))))
  (.ite (!Ax.safeF (100 : Int) (x.1))
   (.ret (.one (.v (.bool (Bool.true)))))
   (.ite (!Ax.safeF (100 : Int) (Prod.fst (Prod.snd x)))
    (.ret (.one (.v (.bool (Bool.true)))))
    (.ite (!Ax.safeF (100 : Int) (Prod.fst (Prod.snd (Prod.snd x))))
     (.ret (.one (.v (.bool (Bool.true)))))
     (.need (Ax.both (x.1) (Prod.fst (Prod.snd x)) = Bool.true) (.lt (Ax.rOf (Ax.qF (x.1) + Ax.qF (Prod.fst (Prod.snd x)))) (fun v0 =>
       .need (Ax.both v0 (Prod.fst (Prod.snd x)) = Bool.true) (.lt (Ax.rOf (Ax.qF v0 - Ax.qF (Prod.fst (Prod.snd x)))) (fun v1 =>
         .need (Ax.both (x.1) (Prod.fst (Prod.snd x)) = Bool.true) (.lt (Ax.rOf (Ax.qF (x.1) * Ax.qF (Prod.fst (Prod.snd x)))) (fun v2 =>
           .need (Ax.both (x.1) (Prod.fst (Prod.snd (Prod.snd x))) = Bool.true) (.lt (Ax.rOf (Ax.qF (x.1) + Ax.qF (Prod.fst (Prod.snd (Prod.snd x))))) (fun v3 =>
             .need (Ax.both (Prod.fst (Prod.snd x)) (Prod.fst (Prod.snd (Prod.snd x))) = Bool.true) (.lt (Ax.rOf (Ax.qF (Prod.fst (Prod.snd x)) + Ax.qF (Prod.fst (Prod.snd (Prod.snd x))))) (fun v4 =>
               .need (Ax.both (x.1) (Prod.fst (Prod.snd x)) = Bool.true) (.lt (Ax.cq (Ax.qF (x.1)) (Ax.qF (Prod.fst (Prod.snd x)))) (fun v5 =>
                 .need (Ax.both v3 v4 = Bool.true) (.lt (Ax.cq (Ax.qF v3) (Ax.qF v4)) (fun v6 =>
                   .ite (!Bool.true)
                    (.ret (.one (.v (.bool (Bool.false)))))
                    (.ite (!Bool.true)
                     (.ret (.one (.v (.bool (Bool.false)))))
                     (.ite (!Bool.true)
                      (.ret (.one (.v (.bool (Bool.false)))))
                      (.ite (!Bool.true)
                       (.ret (.one (.v (.bool (Bool.false)))))
                       (.ite (!Bool.true)
                        (.ret (.one (.v (.bool (Bool.false)))))
                        (.ite (!Bool.true)
                         (.ret (.one (.v (.bool (Bool.false)))))
                         (.ite (!Bool.true)
                          (.ret (.one (.v (.bool (Bool.false)))))
                          (.ite (!(Prod.fst (Prod.fst v1) == Prod.fst (Prod.fst (x.1)) && (Subtype.val (Prod.snd (Prod.fst v1)) == Subtype.val (Prod.snd (Prod.fst (x.1))) && Bool.true) && (Prod.fst (Prod.snd v1) == Prod.fst (Prod.snd (x.1)) && (Subtype.val (Prod.snd (Prod.snd v1)) == Subtype.val (Prod.snd (Prod.snd (x.1))) && Bool.true) && Bool.true)))
                           (.ret (.one (.v (.bool (Bool.false)))))
                           (.ite (v5 != v6)
                            (.ret (.one (.v (.bool (Bool.false)))))
                            (.ite (!Ax.okF v0)
                             (.ret (.one (.v (.bool (Bool.false)))))
                             (.ite (!Ax.okF v2)
                              (.ret (.one (.v (.bool (Bool.false)))))
                              (.ite (Ax.both v2 (Prod.fst (Prod.snd x)) && Decidable.decide (Ax.qF (Prod.fst (Prod.snd x)) ≠ (0 : Rat)))
                               (.lt (Ax.rOf (Ax.qF v2 / Ax.qF (Prod.fst (Prod.snd x)))) (fun v7 =>
                                .ite (Pq.cz (Ax.zW (Prod.fst (Prod.fst (Prod.snd x)))) (0 : Int) == (0 : Int))
                                 (.ret (.one (.v (.bool (!Bool.true)))))
                                 (.ite (Prod.fst (Prod.fst v7) == Prod.fst (Prod.fst (x.1)) && (Subtype.val (Prod.snd (Prod.fst v7)) == Subtype.val (Prod.snd (Prod.fst (x.1))) && Bool.true) && (Prod.fst (Prod.snd v7) == Prod.fst (Prod.snd (x.1)) && (Subtype.val (Prod.snd (Prod.snd v7)) == Subtype.val (Prod.snd (Prod.snd (x.1))) && Bool.true) && Bool.true))
                                  (.ret (.one (.v (.bool (Pq.cz (Ax.zW (Prod.fst v2)) (0 : Int) == Go.IntKind.wrap Go.IntKind.i64 (Pq.cz (Ax.zW (Prod.fst (x.1))) (0 : Int) * Pq.cz (Ax.zW (Prod.fst (Prod.fst (Prod.snd x)))) (0 : Int)))))))
                                  (.ret (.one (.v (.bool (Bool.false))))))))
                               (.ite (Pq.cz (Ax.zW (Prod.fst (Prod.fst (Prod.snd x)))) (0 : Int) == (0 : Int))
                                (.ret (.one (.v (.bool (!Bool.false)))))
                                (.ret (.one (.v (.bool (Bool.false)))))))))))))))))))))))))))))))))))
theorem tr_llaws_eq (x : Els [(true, cF), (true, cF), (true, cF)]) : fnP EM (fun _ => none) Try.f8 (encs [(true, cF), (true, cF), (true, cF)] x) = tr_llaws x := by kernel_rfl
end Go.Proofs.Ytjijakfcahhioaa
/-
Fractions whose parts have at most so many bits.
-/
set_option linter.unusedSimpArgs false
set_option linter.unusedVariables false
namespace Ax
open Go Go.RowKit Go.Proofs.Ytjijakfcahhioaa
def Bd (k : Nat) (r : Rat) : Prop := r.num.natAbs < 2 ^ k ∧ r.den < 2 ^ k
theorem Bd.mono {j k : Nat} {r : Rat} (h : Bd j r) (hk : j ≤ k) : Bd k r :=
  ⟨Nat.lt_of_lt_of_le h.1 (Nat.pow_le_pow_right (by omega) hk), Nat.lt_of_lt_of_le h.2 (Nat.pow_le_pow_right (by omega) hk)⟩
theorem bd_divInt {a b : Int} {k : Nat} (h0 : b ≠ 0) (ha : a.natAbs < 2 ^ k) (hb : b.natAbs < 2 ^ k) : Bd k (Rat.divInt a b) := by
  obtain ⟨h1, h2⟩ := divInt_le (a := a) h0
  exact ⟨by omega, by omega⟩
theorem pow_mul {a b j k : Nat} (ha : a < 2 ^ j) (hb : b < 2 ^ k) : a * b < 2 ^ (j + k) := by
  rw [Nat.pow_add]; exact Nat.mul_lt_mul'' ha hb
theorem pow_mul_z {a b : Int} {j k : Nat} (ha : a.natAbs < 2 ^ j) (hb : b.natAbs < 2 ^ k) : (a * b).natAbs < 2 ^ (j + k) := by
  rw [Int.natAbs_mul]; exact pow_mul ha hb
theorem pow_add_z {a b : Int} {k : Nat} (ha : a.natAbs < 2 ^ k) (hb : b.natAbs < 2 ^ k) : (a + b).natAbs < 2 ^ (k + 1) := by
  have := Int.natAbs_add_le a b
  rw [Nat.pow_succ]; omega
theorem pow_up {a k : Nat} (h : a < 2 ^ k) : a < 2 ^ (k + 1) := by rw [Nat.pow_succ]; omega
theorem den_z (x : Rat) : (x.den : Int) ≠ 0 := by have := x.den_pos; omega
theorem bd_add {x y : Rat} {j k : Nat} (hx : Bd j x) (hy : Bd k y) : Bd (j + k + 1) (x + y) := by
  rw [← Rat.num_divInt_den x, ← Rat.num_divInt_den y, Rat.divInt_add_divInt _ _ (den_z x) (den_z y)]
  refine bd_divInt (Int.mul_ne_zero (den_z x) (den_z y)) ?_ (pow_up (pow_mul_z hx.2 hy.2))
  refine pow_add_z (pow_mul_z hx.1 hy.2) ?_
  rw [Nat.add_comm]
  exact pow_mul_z hy.1 hx.2
theorem bd_neg {x : Rat} {k : Nat} (h : Bd k x) : Bd k (-x) := by
  refine ⟨?_, ?_⟩
  · rw [Rat.neg_num, Int.natAbs_neg]; exact h.1
  · rw [Rat.neg_den]; exact h.2
theorem bd_sub {x y : Rat} {j k : Nat} (hx : Bd j x) (hy : Bd k y) : Bd (j + k + 1) (x - y) := by
  rw [Rat.sub_eq_add_neg]; exact bd_add hx (bd_neg hy)
theorem bd_mul {x y : Rat} {j k : Nat} (hx : Bd j x) (hy : Bd k y) : Bd (j + k) (x * y) := by
  rw [← Rat.num_divInt_den x, ← Rat.num_divInt_den y, Rat.divInt_mul_divInt]
  exact bd_divInt (Int.mul_ne_zero (den_z x) (den_z y)) (pow_mul_z hx.1 hy.1) (pow_mul_z hx.2 hy.2)
theorem bd_div {x y : Rat} {j k : Nat} (hx : Bd j x) (hy : Bd k y) (h0 : y ≠ 0) : Bd (j + k) (x / y) := by
  have hn : y.num ≠ 0 := by intro h; exact h0 (Rat.num_eq_zero.1 h)
  rw [← Rat.num_divInt_den x, ← Rat.num_divInt_den y, Rat.div_def, Rat.inv_divInt, Rat.divInt_mul_divInt]
  exact bd_divInt (Int.mul_ne_zero (den_z x) hn) (pow_mul_z hx.1 hy.2) (pow_mul_z hx.2 hy.1)
theorem bd_int {z : Int} {k : Nat} (h : z.natAbs < 2 ^ k) (hk : 0 < k) : Bd k (z : Rat) :=
  ⟨h, by show 1 < 2 ^ k; exact Nat.one_lt_two_pow (by omega)⟩
theorem bd_floor {x : Rat} {k : Nat} (h : Bd k x) : x.floor.natAbs < 2 ^ k := by
  rw [Rat.floor_def]
  refine Nat.lt_of_le_of_lt ?_ h.1
  exact Int.natAbs_ediv_le_natAbs _ _
theorem pow_bp {a k : Nat} (h : a < 2 ^ k) (hk : k ≤ 1024) : a < Pq.bp 32 := by
  exact Nat.lt_of_lt_of_le h (bp_ge 1024 rfl hk)
theorem Bd.fits {k : Nat} {r : Rat} (h : Bd k r) (hk : k ≤ 1024) : Fits r := ⟨pow_bp h.1 hk, pow_bp h.2 hk⟩
theorem safe_rOf {k : Nat} {b : Int} {r : Rat} (h : Bd k r) (hk : k ≤ 1024) (hb : (k : Int) ≤ b) : SafeF b (rOf r) ∧ qF (rOf r) = r := by
  have hf := h.fits hk
  obtain ⟨h1, h2⟩ := ok_rOf hf
  have e1 : zW (rOf r).1 = r.num := zW_wOf hf.1
  have e2 : zW (rOf r).2 = (r.den : Int) := zW_wOf (by simpa using hf.2)
  refine ⟨⟨?_, ?_, h1⟩, h2⟩
  · rw [e1]
    have := Pq.bitn_le.2 h.1
    omega
  · rw [e2, Int.natAbs_natCast]
    have := Pq.bitn_le.2 h.2
    omega
theorem safe_bd {k : Nat} {x : F} (h : SafeF k x) : Bd k (qF x) := by
  obtain ⟨h1, h2, h3⟩ := h
  obtain ⟨e1, e2⟩ := rat_parts h3
  refine ⟨?_, ?_⟩
  · rw [e1]; exact Pq.bitn_le.1 (by omega)
  · have := Pq.bitn_le.1 (show Pq.bitn (zW x.2).natAbs ≤ k by omega)
    omega
theorem safe_mono {a b : Int} {x : F} (h : SafeF a x) (hb : a ≤ b) : SafeF b x := ⟨by have := h.1; omega, by have := h.2.1; omega, h.2.2⟩
theorem safeF_iff {b : Int} {x : F} : safeF b x = true ↔ SafeF b x := by unfold safeF; simp
/-- a fraction of the program is the fraction that it tells -/
theorem f_of {x : F} (h : OkF x) : x = rOf (qF x) := (rOf_qF h).symm
theorem both_rOf {j k : Nat} {p q : Rat} (hp : Bd j p) (hq : Bd k q) (hj : j ≤ 500) (hk : k ≤ 500) : both (rOf p) (rOf q) = true :=
  both_iff.2 ⟨(safe_rOf hp (by omega) (by omega)).1, (safe_rOf hq (by omega) (by omega)).1⟩
theorem q_rOf {k : Nat} {r : Rat} (h : Bd k r) (hk : k ≤ 1024) : qF (rOf r) = r := (safe_rOf h hk (Int.le_refl _)).2
theorem eq_rOf {k : Nat} {p q : Rat} (hp : Bd k p) (hq : Bd k q) (hk : k ≤ 1024) : rOf p = rOf q ↔ p = q :=
  ⟨fun h => by rw [← q_rOf hp hk, ← q_rOf hq hk, h], fun h => by rw [h]⟩
/-- equality of fractions, as the run tells it -/
theorem eqF (a b : F) : (a.1.1 == b.1.1 && (a.1.2.1 == b.1.2.1 && true) && (a.2.1 == b.2.1 && (a.2.2.1 == b.2.2.1 && true) && true)) = decide (a = b) := by
  rw [Bool.eq_iff_iff]
  simp only [Bool.and_true, Bool.and_eq_true, beq_iff_eq, decide_eq_true_eq]
  constructor
  · rintro ⟨⟨h1, h2⟩, h3, h4⟩
    exact Prod.ext (Prod.ext h1 (Subtype.ext h2)) (Prod.ext h3 (Subtype.ext h4))
  · rintro rfl; exact ⟨⟨rfl, rfl⟩, rfl, rfl⟩
theorem eqW (a b : W) : (a.1 == b.1 && (a.2.1 == b.2.1 && true)) = decide (a = b) := by
  rw [Bool.eq_iff_iff]
  simp only [Bool.and_true, Bool.and_eq_true, beq_iff_eq, decide_eq_true_eq]
  constructor
  · rintro ⟨h1, h2⟩
    exact Prod.ext h1 (Subtype.ext h2)
  · rintro rfl; exact ⟨rfl, rfl⟩
/-- a whole number as a fraction -/
theorem rOf_int (z : Int) : rOf (z : Rat) = (wOf z, wOf 1) := rfl
theorem cq_le {p q : Rat} : cq p q ≤ 0 ↔ p ≤ q := by
  unfold cq
  split
  · rename_i h; exact ⟨fun _ => Rat.le_of_lt h, fun _ => by omega⟩
  · split
    · rename_i h; exact ⟨fun h => by omega, fun h' => absurd h (Rat.not_lt.2 h')⟩
    · rename_i h h'; exact ⟨fun _ => Rat.not_lt.1 h', fun _ => by omega⟩
theorem cq_lt {p q : Rat} : cq p q < 0 ↔ p < q := by
  unfold cq
  split
  · rename_i h; exact ⟨fun _ => h, fun _ => by omega⟩
  · rename_i h; split <;> exact ⟨fun h => by omega, fun h' => absurd h' h⟩
theorem cq_eq {p q : Rat} : cq p q = 0 ↔ p = q := by
  unfold cq
  split
  · rename_i h; exact ⟨fun h => by omega, fun e => by rw [e] at h; exact absurd h (Rat.lt_irrefl)⟩
  · split
    · rename_i h; exact ⟨fun h => by omega, fun e => by rw [e] at h; exact absurd h (Rat.lt_irrefl)⟩
    · rename_i h h'; exact ⟨fun _ => Rat.le_antisymm (Rat.not_lt.1 h') (Rat.not_lt.1 h), fun _ => rfl⟩
theorem cq_add (p q r : Rat) : cq (p + r) (q + r) = cq p q := by
  unfold cq
  simp only [Rat.add_lt_add_right]
end Ax
/-
Three laws of fractions, plain.
-/
set_option linter.unusedSimpArgs false
set_option linter.unusedVariables false
namespace Go.Proofs.Ytjijakfcahhioaa
open Go.RowKit Ax
theorem w_i64 {z : Int} (h : -9223372036854775808 ≤ z ∧ z ≤ 9223372036854775807) : IntKind.i64.wrap z = z := IntWalk.i64_in _ (by omega)
theorem pow64 {z : Int} (h : in64 z) : z.natAbs < 2 ^ 64 := by unfold in64 at h; show z.natAbs < 18446744073709551616; omega
theorem one_pow {k : Nat} (h : 0 < k) : (1 : Int).natAbs < 2 ^ k := Nat.one_lt_two_pow (by omega)
theorem lterms_wp (n d k : Int) (hn : -2147483648 ≤ n ∧ n ≤ 2147483647) (hd : 0 ≤ d ∧ d ≤ 65535) (hk : -32768 ≤ k ∧ k ≤ 32767) : (tr_lterms (n, d, k, ())).wp fun av => av = .one (.v (.bool true)) := by
  have e1 : IntKind.i64.wrap n = n := w_i64 (by omega)
  have e2 : IntKind.i64.wrap (IntKind.i64.wrap d + 1) = d + 1 := by rw [w_i64 (z := d) (by omega), w_i64 (by omega)]
  have e3 : IntKind.i64.wrap k = k := w_i64 (by omega)
  have b1 : -70368744177664 ≤ n * k ∧ n * k ≤ 70368744177664 := by
    have h : (n * k).natAbs ≤ 2147483648 * 32768 := by rw [Int.natAbs_mul]; exact Nat.mul_le_mul (by omega) (by omega)
    omega
  have b2 : -70368744177664 ≤ (d + 1) * k ∧ (d + 1) * k ≤ 70368744177664 := by
    have h : ((d + 1) * k).natAbs ≤ 65536 * 32768 := by rw [Int.natAbs_mul]; exact Nat.mul_le_mul (by omega) (by omega)
    omega
  have e4 : IntKind.i64.wrap (n * k) = n * k := w_i64 (by omega)
  have e5 : IntKind.i64.wrap ((d + 1) * k) = (d + 1) * k := w_i64 (by omega)
  have i1 : in64 n := ⟨by omega, by omega⟩
  have i2 : in64 (d + 1) := ⟨by omega, by omega⟩
  have i3 : in64 (n * k) := ⟨by omega, by omega⟩
  have i4 : in64 ((d + 1) * k) := ⟨by omega, by omega⟩
  have i0 : in64 0 := ⟨by omega, by omega⟩
  have hd0 : d + 1 ≠ 0 := by omega
  have hb : Bd 64 (Rat.divInt n (d + 1)) := bd_divInt hd0 (pow64 i1) (pow64 i2)
  have hok : okF (rOf (Rat.divInt n (d + 1))) = true := decide_eq_true (safe_rOf (b := 64) hb (by omega) (by omega)).1.2.2
  have hz0 : rOf 0 = (wOf 0, wOf 1) := rfl
  have hok0 : okF (wOf 0, wOf 1) = true := decide_eq_true (safe_rOf (b := 64) (r := ((0 : Int) : Rat)) (bd_int (k := 64) (by decide) (by omega)) (by omega) (by omega)).1.2.2
  have hk2 : k ≠ 0 → Rat.divInt (n * k) ((d + 1) * k) = Rat.divInt n (d + 1) := fun h => Rat.divInt_mul_right h
  unfold tr_lterms
  simp only [T.wp]
  dsimp only [El]
  simp only [e1, e2, e3, e4, e5, eqF]
  by_cases h0 : k = 0
  · subst h0
    by_cases hn0 : n = 0
    · simp [i1, i2, i3, i4, i0, hd0, hn0, hz0, hok0]
    · simp [i1, i2, i3, i4, i0, hd0, hok, hn0]
  · have h5 : (d + 1) * k ≠ 0 := Int.mul_ne_zero hd0 h0
    by_cases hn0 : n = 0
    · subst hn0
      simp [i1, i2, i3, i4, i0, hd0, h5, h0, hz0, hok0]
    · simp [i1, i2, i3, i4, i0, hd0, hok, hk2 h0, h5, h0, hn0]
theorem lfloors_wp (x : F) : (tr_lfloors (x, ())).wp fun av => av = .one (.v (.bool true)) := by
  unfold tr_lfloors
  simp only [T.wp]
  dsimp only [El]
  refine ⟨fun h => (by cases h), fun _ => ⟨fun _ => trivial, fun hs => ?_⟩⟩
  have hs : SafeF 400 x := safeF_iff.1 (by simpa using hs)
  have hb := safe_bd (k := 400) hs
  have hfl := bd_floor hb
  have hx := f_of hs.2.2
  have hf : Bd 401 ((qF x).floor : Rat) := (bd_int hfl (by omega)).mono (by omega)
  have h1 : Bd 1 ((1 : Int) : Rat) := bd_int (by decide) (by omega)
  have hf1 : Bd 403 (((qF x).floor : Rat) + ((1 : Int) : Rat)) := bd_add hf h1
  have hfl1 : (qF x).floor.natAbs < 2 ^ 1001 := pow_to (j := 400) (k := 1001) hfl (by decide)
  have h11 : (1 : Int).natAbs < 2 ^ 1001 := one_pow (k := 1001) (by decide)
  have en : newF (wOf (qF x).floor) (wOf 1) = rOf ((qF x).floor : Rat) := by
    rw [newF_b hfl1 h11]
    congr 1
    exact (Rat.num_divInt_den ((qF x).floor : Rat))
  have hN : NewOk (wOf (qF x).floor) (wOf 1) := new_b hfl1 h11 (by decide)
  have e1 : (wOf 1, wOf 1) = rOf ((1 : Int) : Rat) := rfl
  rw [en, e1, q_rOf hf (by omega), q_rOf h1 (by omega), q_rOf hf1 (by omega)]
  have c1 := Rat.floor_le (qF x)
  have c2 := Rat.lt_floor_add_one (qF x)
  rw [Rat.intCast_add] at c2
  refine ⟨decide_eq_true hs.2.2, ⟨by omega, by omega⟩, ⟨by omega, by omega⟩, decide_eq_true hN, both_rOf hf h1 (by omega) (by omega), ?_, ?_, fun _ => ?_, fun h => ?_⟩
  · conv => lhs; rw [hx]
    rw [q_rOf hb (by omega)]
    exact both_rOf hf hb (by omega) (by omega)
  · conv => lhs; rw [hx]
    rw [q_rOf hb (by omega)]
    exact both_rOf hb hf1 (by omega) (by omega)
  · rw [decide_eq_true (cq_lt.2 c2)]
  · exact absurd (cq_le.2 c1) (of_decide_eq_false h)
end Go.Proofs.Ytjijakfcahhioaa
/-
What the laws' rows want of the program.
-/
set_option linter.unusedSimpArgs false
set_option linter.unusedVariables false
namespace Go.Proofs.Ytjijakfcahhioaa
open Go.ChangeShapes Go.WideShapes Go.ChangeAt Go.RowKit Ax
theorem own : ownKnob Try.prog.godebug = none := by kernel_rfl
theorem laidOut : laidOutB Try.prog = true := by kernel_rfl
theorem o_i32 : Opens Try.prog 21 (.int .i32) := opens_int (by kernel_rfl) (by kernel_rfl)
theorem o_u16 : Opens Try.prog 40 (.int .u16) := opens_int (by kernel_rfl) (by kernel_rfl)
theorem o_i16 : Opens Try.prog 41 (.int .i16) := opens_int (by kernel_rfl) (by kernel_rfl)
theorem o_u8 : Opens Try.prog 5 (.int .u8) := opens_int (by kernel_rfl) (by kernel_rfl)
theorem o_bool : Opens Try.prog 4 .bool := opens_bool (by kernel_rfl) (by kernel_rfl)
theorem o_words : Opens Try.prog 23 .words := opens_words (e := 22) (by kernel_rfl) (by kernel_rfl) (by kernel_rfl) (by kernel_rfl)
theorem o_wide : Opens Try.prog 25 cW := opens_struct Try.underlying25 (by kernel_rfl) ⟨rfl, o_bool, rfl, o_words⟩
theorem o_rat : Opens Try.prog 27 cF := opens_struct Try.underlying27 (by kernel_rfl) ⟨rfl, o_wide, rfl, o_wide⟩
theorem o_rats : Opens Try.prog 49 (.sl cF) := opens_slice Try.underlying49 (by kernel_rfl) o_rat (by decide)
end Go.Proofs.Ytjijakfcahhioaa
/-
Several loops in one function.
-/
set_option linter.unusedSimpArgs false
set_option linter.unusedVariables false
namespace Ax
open Go Go.RowKit
def manyL (l : List (Nat × (St → T (Exit × St)))) : Loops := fun k => (l.find? fun p => p.1 == k).map (·.2)
theorem find_key {β : Type _} : ∀ (l : List (Nat × β)) (i : Nat) (p : Nat × β), (l.map (·.1)).Nodup → l[i]? = some p → l.find? (fun q => q.1 == p.1) = some p
  | [], i, p, _, h => by simp at h
  | q :: r, 0, p, _, h => by
    obtain rfl : q = p := by simpa using h
    simp
  | q :: r, i + 1, p, hn, h => by
    have h' : r[i]? = some p := by simpa using h
    have hm : p.1 ∈ r.map (·.1) := List.mem_map.2 ⟨p, List.mem_of_getElem? h', rfl⟩
    have hne : q.1 ≠ p.1 := fun e => (List.nodup_cons.1 hn).1 (by show q.1 ∈ _; rw [e]; exact hm)
    rw [List.find?_cons_of_neg (by simpa using hne)]
    exact find_key r i p (List.nodup_cons.1 hn).2 h'
/-- the loops' keys -/
def keysOf (fn : Func) : List Nat := match fn.body with | some c => (loopsOf c).map Code.first | none => []
theorem many_loops {P : Program} {n : Nat} {fn : Func} {l : List (Nat × (St → T (Exit × St)))} (hk : keysOf fn = l.map (·.1)) (hn : (l.map (·.1)).Nodup)
    (h : ∀ (i : Nat) p, l[i]? = some p → LoopOk P n (bodyOf fn i) p.2) : ∀ c, fn.body = some c → LoopsOk P n (manyL l) c := by
  intro c hc
  unfold keysOf at hk
  rw [hc] at hk
  replace hk : (loopsOf c).map Code.first = l.map (·.1) := hk
  refine loops_of fun b hb r hr => ?_
  obtain ⟨i, hi, rfl⟩ := List.getElem_of_mem hb
  have hl : (loopsOf c).length = l.length := by have := congrArg List.length hk; simpa using this
  have hp : l[i]? = some (l[i]'(by omega)) := List.getElem?_eq_getElem _
  have hkey : Code.first (loopsOf c)[i] = (l[i]'(by omega)).1 := by
    have h1 : ((loopsOf c).map Code.first)[i]? = (l.map (·.1))[i]? := by rw [hk]
    rw [List.getElem?_map, List.getElem?_map, hp, List.getElem?_eq_getElem hi] at h1
    simpa using h1
  unfold manyL at hr
  rw [hkey, find_key l i _ hn hp] at hr
  cases hr
  have hb : bodyOf fn i = (loopsOf c)[i] := by
    unfold bodyOf
    rw [hc]
    simp [hi]
  rw [← hb]
  exact h i _ hp
theorem two_loops {P : Program} {n k1 k2 : Nat} {fn : Func} {r1 r2 : St → T (Exit × St)} (hk : keysOf fn = [k1, k2]) (hn : k1 ≠ k2) (h1 : LoopOk P n (bodyOf fn 0) r1) (h2 : LoopOk P n (bodyOf fn 1) r2) :
    ∀ c, fn.body = some c → LoopsOk P n (manyL [(k1, r1), (k2, r2)]) c :=
  many_loops hk (by simp [hn]) fun i p hp => by
    match i, hp with
    | 0, hp => cases hp; exact h1
    | 1, hp => cases hp; exact h2
    | i + 2, hp => simp at hp
end Ax
/-
RatioNear: what its loops carry.
-/
set_option linter.unusedSimpArgs false
set_option linter.unusedVariables false
namespace Go.Proofs.Ytjijakfcahhioaa
open Go.RowKit Ax
abbrev spNearA : LSpec := ⟨170, [(9, false, .int .i64), (10, false, .str), (12, false, .int .i64), (13, false, .int .i64), (14, false, .bool), (15, false, .int .i64)], [(7, 0, 0)], [(27, cF)], fun e => match e with | .ret => [6] | .exit _ => [9, 10, 12, 13, 14] | _ => []⟩
abbrev spNearB : LSpec := ⟨170, [(9, false, .int .i64), (10, false, .str), (12, false, .int .i64), (13, false, .int .i64), (16, false, .int .i64), (17, false, .int .i64)], [(7, 0, 0)], [(27, cF)], fun e => match e with | .exit _ => [9, 10, 12, 13, 16] | _ => []⟩
end Go.Proofs.Ytjijakfcahhioaa
/-
RatioNear: its loops.
-/
set_option linter.unusedSimpArgs false
set_option linter.unusedVariables false
namespace Go.Proofs.Ytjijakfcahhioaa
open Go.RowKit Ax
noncomputable def tr_nearA (x : LSpec.X spNearA × LSpec.Y spNearA) : T (Rd spNearA) :=
 .ite (Decidable.decide (Prod.fst (Prod.snd (Prod.snd (Prod.snd (Prod.snd (Prod.snd (x.1)))))) < (↑(ByteArray.size (Prod.fst (Prod.snd (x.1)))) : Int)))
  (.get (Array.toList (ByteArray.data (Prod.fst (Prod.snd (x.1))))) (Prod.fst (Prod.snd (Prod.snd (Prod.snd (Prod.snd (Prod.snd (x.1))))))) (fun v0 =>
   .ite ((↑(UInt8.toNat v0) : Int) == (45 : Int))
    (.ite (Prod.fst (Prod.snd (Prod.snd (Prod.snd (Prod.snd (Prod.snd (x.1)))))) == (0 : Int))
     (.ret (.again (Prod.fst (x.1), (Prod.fst (Prod.snd (x.1)), (Prod.fst (Prod.snd (Prod.snd (x.1))), (Prod.fst (Prod.snd (Prod.snd (Prod.snd (x.1)))), (Bool.true, (Go.IntKind.wrap Go.IntKind.i64 (Prod.fst (Prod.snd (Prod.snd (Prod.snd (Prod.snd (Prod.snd (x.1)))))) + (1 : Int)), ())))))) (Prod.fst (Prod.snd x), ())))
     (.get (Array.toList (ByteArray.data (Prod.fst (Prod.snd (x.1))))) (Prod.fst (Prod.snd (Prod.snd (Prod.snd (Prod.snd (Prod.snd (x.1))))))) (fun v1 =>
      .ite ((↑(UInt8.toNat v1) : Int) == (46 : Int))
       (.ite (Decidable.decide (Prod.fst (Prod.snd (Prod.snd (Prod.snd (x.1)))) < (0 : Int)))
        (.ret (.again (Prod.fst (x.1), (Prod.fst (Prod.snd (x.1)), (Prod.fst (Prod.snd (Prod.snd (x.1))), (Prod.fst (Prod.snd (Prod.snd (Prod.snd (Prod.snd (Prod.snd (x.1)))))), (Prod.fst (Prod.snd (Prod.snd (Prod.snd (Prod.snd (x.1))))), (Go.IntKind.wrap Go.IntKind.i64 (Prod.fst (Prod.snd (Prod.snd (Prod.snd (Prod.snd (Prod.snd (x.1)))))) + (1 : Int)), ())))))) (Prod.fst (Prod.snd x), ())))
        (.get (Array.toList (ByteArray.data (Prod.fst (Prod.snd (x.1))))) (Prod.fst (Prod.snd (Prod.snd (Prod.snd (Prod.snd (Prod.snd (x.1))))))) (fun v2 =>
         .ite (Decidable.decide ((↑(UInt8.toNat v2) : Int) ≥ (48 : Int)))
          (.get (Array.toList (ByteArray.data (Prod.fst (Prod.snd (x.1))))) (Prod.fst (Prod.snd (Prod.snd (Prod.snd (Prod.snd (Prod.snd (x.1))))))) (fun v3 =>
           .ite (Decidable.decide ((↑(UInt8.toNat v3) : Int) ≤ (57 : Int)))
            (.get (Array.toList (ByteArray.data (Prod.fst (Prod.snd (x.1))))) (Prod.fst (Prod.snd (Prod.snd (Prod.snd (Prod.snd (Prod.snd (x.1))))))) (fun v4 =>
             .ret (.again (Prod.fst (x.1), (Prod.fst (Prod.snd (x.1)), (Go.IntKind.wrap Go.IntKind.i64 (Go.IntKind.wrap Go.IntKind.i64 (Prod.fst (Prod.snd (Prod.snd (x.1))) * (10 : Int)) + Go.IntKind.wrap Go.IntKind.i64 (Go.IntKind.wrap Go.IntKind.u8 ((↑(UInt8.toNat v4) : Int) - (48 : Int)))), (Prod.fst (Prod.snd (Prod.snd (Prod.snd (x.1)))), (Prod.fst (Prod.snd (Prod.snd (Prod.snd (Prod.snd (x.1))))), (Go.IntKind.wrap Go.IntKind.i64 (Prod.fst (Prod.snd (Prod.snd (Prod.snd (Prod.snd (Prod.snd (x.1)))))) + (1 : Int)), ())))))) (Prod.fst (Prod.snd x), ()))))
            (.ret (.out (Go.Exit.ret) [(.one (.v (.bool (Bool.false))))] (Prod.fst (Prod.snd x), ())))))
          (.ret (.out (Go.Exit.ret) [(.one (.v (.bool (Bool.false))))] (Prod.fst (Prod.snd x), ()))))))
       (.get (Array.toList (ByteArray.data (Prod.fst (Prod.snd (x.1))))) (Prod.fst (Prod.snd (Prod.snd (Prod.snd (Prod.snd (Prod.snd (x.1))))))) (fun v2 =>
        .ite (Decidable.decide ((↑(UInt8.toNat v2) : Int) ≥ (48 : Int)))
         (.get (Array.toList (ByteArray.data (Prod.fst (Prod.snd (x.1))))) (Prod.fst (Prod.snd (Prod.snd (Prod.snd (Prod.snd (Prod.snd (x.1))))))) (fun v3 =>
          .ite (Decidable.decide ((↑(UInt8.toNat v3) : Int) ≤ (57 : Int)))
           (.get (Array.toList (ByteArray.data (Prod.fst (Prod.snd (x.1))))) (Prod.fst (Prod.snd (Prod.snd (Prod.snd (Prod.snd (Prod.snd (x.1))))))) (fun v4 =>
            .ret (.again (Prod.fst (x.1), (Prod.fst (Prod.snd (x.1)), (Go.IntKind.wrap Go.IntKind.i64 (Go.IntKind.wrap Go.IntKind.i64 (Prod.fst (Prod.snd (Prod.snd (x.1))) * (10 : Int)) + Go.IntKind.wrap Go.IntKind.i64 (Go.IntKind.wrap Go.IntKind.u8 ((↑(UInt8.toNat v4) : Int) - (48 : Int)))), (Prod.fst (Prod.snd (Prod.snd (Prod.snd (x.1)))), (Prod.fst (Prod.snd (Prod.snd (Prod.snd (Prod.snd (x.1))))), (Go.IntKind.wrap Go.IntKind.i64 (Prod.fst (Prod.snd (Prod.snd (Prod.snd (Prod.snd (Prod.snd (x.1)))))) + (1 : Int)), ())))))) (Prod.fst (Prod.snd x), ()))))
           (.ret (.out (Go.Exit.ret) [(.one (.v (.bool (Bool.false))))] (Prod.fst (Prod.snd x), ())))))
         (.ret (.out (Go.Exit.ret) [(.one (.v (.bool (Bool.false))))] (Prod.fst (Prod.snd x), ()))))))))
    (.get (Array.toList (ByteArray.data (Prod.fst (Prod.snd (x.1))))) (Prod.fst (Prod.snd (Prod.snd (Prod.snd (Prod.snd (Prod.snd (x.1))))))) (fun v1 =>
     .ite ((↑(UInt8.toNat v1) : Int) == (46 : Int))
      (.ite (Decidable.decide (Prod.fst (Prod.snd (Prod.snd (Prod.snd (x.1)))) < (0 : Int)))
       (.ret (.again (Prod.fst (x.1), (Prod.fst (Prod.snd (x.1)), (Prod.fst (Prod.snd (Prod.snd (x.1))), (Prod.fst (Prod.snd (Prod.snd (Prod.snd (Prod.snd (Prod.snd (x.1)))))), (Prod.fst (Prod.snd (Prod.snd (Prod.snd (Prod.snd (x.1))))), (Go.IntKind.wrap Go.IntKind.i64 (Prod.fst (Prod.snd (Prod.snd (Prod.snd (Prod.snd (Prod.snd (x.1)))))) + (1 : Int)), ())))))) (Prod.fst (Prod.snd x), ())))
       (.get (Array.toList (ByteArray.data (Prod.fst (Prod.snd (x.1))))) (Prod.fst (Prod.snd (Prod.snd (Prod.snd (Prod.snd (Prod.snd (x.1))))))) (fun v2 =>
        .ite (Decidable.decide ((↑(UInt8.toNat v2) : Int) ≥ (48 : Int)))
         (.get (Array.toList (ByteArray.data (Prod.fst (Prod.snd (x.1))))) (Prod.fst (Prod.snd (Prod.snd (Prod.snd (Prod.snd (Prod.snd (x.1))))))) (fun v3 =>
          .ite (Decidable.decide ((↑(UInt8.toNat v3) : Int) ≤ (57 : Int)))
           (.get (Array.toList (ByteArray.data (Prod.fst (Prod.snd (x.1))))) (Prod.fst (Prod.snd (Prod.snd (Prod.snd (Prod.snd (Prod.snd (x.1))))))) (fun v4 =>
            .ret (.again (Prod.fst (x.1), (Prod.fst (Prod.snd (x.1)), (Go.IntKind.wrap Go.IntKind.i64 (Go.IntKind.wrap Go.IntKind.i64 (Prod.fst (Prod.snd (Prod.snd (x.1))) * (10 : Int)) + Go.IntKind.wrap Go.IntKind.i64 (Go.IntKind.wrap Go.IntKind.u8 ((↑(UInt8.toNat v4) : Int) - (48 : Int)))), (Prod.fst (Prod.snd (Prod.snd (Prod.snd (x.1)))), (Prod.fst (Prod.snd (Prod.snd (Prod.snd (Prod.snd (x.1))))), (Go.IntKind.wrap Go.IntKind.i64 (Prod.fst (Prod.snd (Prod.snd (Prod.snd (Prod.snd (Prod.snd (x.1)))))) + (1 : Int)), ())))))) (Prod.fst (Prod.snd x), ()))))
           (.ret (.out (Go.Exit.ret) [(.one (.v (.bool (Bool.false))))] (Prod.fst (Prod.snd x), ())))))
         (.ret (.out (Go.Exit.ret) [(.one (.v (.bool (Bool.false))))] (Prod.fst (Prod.snd x), ()))))))
      (.get (Array.toList (ByteArray.data (Prod.fst (Prod.snd (x.1))))) (Prod.fst (Prod.snd (Prod.snd (Prod.snd (Prod.snd (Prod.snd (x.1))))))) (fun v2 =>
       .ite (Decidable.decide ((↑(UInt8.toNat v2) : Int) ≥ (48 : Int)))
        (.get (Array.toList (ByteArray.data (Prod.fst (Prod.snd (x.1))))) (Prod.fst (Prod.snd (Prod.snd (Prod.snd (Prod.snd (Prod.snd (x.1))))))) (fun v3 =>
         .ite (Decidable.decide ((↑(UInt8.toNat v3) : Int) ≤ (57 : Int)))
          (.get (Array.toList (ByteArray.data (Prod.fst (Prod.snd (x.1))))) (Prod.fst (Prod.snd (Prod.snd (Prod.snd (Prod.snd (Prod.snd (x.1))))))) (fun v4 =>
           .ret (.again (Prod.fst (x.1), (Prod.fst (Prod.snd (x.1)), (Go.IntKind.wrap Go.IntKind.i64 (Go.IntKind.wrap Go.IntKind.i64 (Prod.fst (Prod.snd (Prod.snd (x.1))) * (10 : Int)) + Go.IntKind.wrap Go.IntKind.i64 (Go.IntKind.wrap Go.IntKind.u8 ((↑(UInt8.toNat v4) : Int) - (48 : Int)))), (Prod.fst (Prod.snd (Prod.snd (Prod.snd (x.1)))), (Prod.fst (Prod.snd (Prod.snd (Prod.snd (Prod.snd (x.1))))), (Go.IntKind.wrap Go.IntKind.i64 (Prod.fst (Prod.snd (Prod.snd (Prod.snd (Prod.snd (Prod.snd (x.1)))))) + (1 : Int)), ())))))) (Prod.fst (Prod.snd x), ()))))
          (.ret (.out (Go.Exit.ret) [(.one (.v (.bool (Bool.false))))] (Prod.fst (Prod.snd x), ())))))
        (.ret (.out (Go.Exit.ret) [(.one (.v (.bool (Bool.false))))] (Prod.fst (Prod.snd x), ())))))))))
  (.ret (.out (Go.Exit.exit (0 : Nat)) [(.one (.v (.int Go.IntKind.i64 (Prod.fst (x.1))))), (.one (.v (.string (Prod.fst (Prod.snd (x.1)))))), (.one (.v (.int Go.IntKind.i64 (Prod.fst (Prod.snd (Prod.snd (x.1))))))), (.one (.v (.int Go.IntKind.i64 (Prod.fst (Prod.snd (Prod.snd (Prod.snd (x.1)))))))), (.one (.v (.bool (Prod.fst (Prod.snd (Prod.snd (Prod.snd (Prod.snd (x.1)))))))))] (Prod.fst (Prod.snd x), ())))
theorem tr_nearA_eq (x : LSpec.X spNearA × LSpec.Y spNearA) : LSpec.round spNearA EM (fun _ => none) (bodyOf Try.f7 0) x.1 x.2 = tr_nearA x := by kernel_rfl
noncomputable def tr_nearB (x : LSpec.X spNearB × LSpec.Y spNearB) : T (Rd spNearB) :=
 .ite (Decidable.decide (Prod.fst (Prod.snd (Prod.snd (Prod.snd (Prod.snd (Prod.snd (x.1)))))) < Prod.fst (x.1)))
  (.ret (.again (Prod.fst (x.1), (Prod.fst (Prod.snd (x.1)), (Prod.fst (Prod.snd (Prod.snd (x.1))), (Prod.fst (Prod.snd (Prod.snd (Prod.snd (x.1)))), (Go.IntKind.wrap Go.IntKind.i64 (Prod.fst (Prod.snd (Prod.snd (Prod.snd (Prod.snd (x.1))))) * (10 : Int)), (Go.IntKind.wrap Go.IntKind.i64 (Prod.fst (Prod.snd (Prod.snd (Prod.snd (Prod.snd (Prod.snd (x.1)))))) + (1 : Int)), ())))))) (Prod.fst (Prod.snd x), ())))
  (.ret (.out (Go.Exit.exit (3 : Nat)) [(.one (.v (.int Go.IntKind.i64 (Prod.fst (x.1))))), (.one (.v (.string (Prod.fst (Prod.snd (x.1)))))), (.one (.v (.int Go.IntKind.i64 (Prod.fst (Prod.snd (Prod.snd (x.1))))))), (.one (.v (.int Go.IntKind.i64 (Prod.fst (Prod.snd (Prod.snd (Prod.snd (x.1)))))))), (.one (.v (.int Go.IntKind.i64 (Prod.fst (Prod.snd (Prod.snd (Prod.snd (Prod.snd (x.1)))))))))] (Prod.fst (Prod.snd x), ())))
theorem tr_nearB_eq (x : LSpec.X spNearB × LSpec.Y spNearB) : LSpec.round spNearB EM (fun _ => none) (bodyOf Try.f7 1) x.1 x.2 = tr_nearB x := by kernel_rfl
end Go.Proofs.Ytjijakfcahhioaa
/-
RatioNear: its loops, proved.
-/
set_option linter.unusedSimpArgs false
set_option linter.unusedVariables false
namespace Go.Proofs.Ytjijakfcahhioaa
open Go.RowKit Ax
theorem get_iff {α : Type} {l : List α} {i : Int} {c : α} {p : α → Prop} (h0 : 0 ≤ i) (hc : l[i.toNat]? = some c) : (∃ x, 0 ≤ i ∧ l[i.toNat]? = some x ∧ p x) ↔ p c :=
  ⟨fun ⟨x, _, h, hp⟩ => by rw [hc] at h; cases h; exact hp, fun h => ⟨c, h0, hc, h⟩⟩
/-- a decimal's bytes, read -/
def scn : List UInt8 → Int → Int → Int → Bool → Option (Int × Int × Bool)
  | [], _, v, a, n => some (v, a, n)
  | c :: r, i, v, a, n =>
    if (c.toNat : Int) = 45 ∧ i = 0 then scn r (i + 1) v a true
    else if (c.toNat : Int) = 46 ∧ a < 0 then scn r (i + 1) v i n
    else if 48 ≤ (c.toNat : Int) ∧ (c.toNat : Int) ≤ 57 then scn r (i + 1) (v * 10 + ((c.toNat : Int) - 48)) a n
    else none
theorem scn_mono : ∀ (l : List UInt8) (i v a : Int) (n : Bool) (r : Int × Int × Bool), 0 ≤ v → scn l i v a n = some r → v ≤ r.1
  | [], i, v, a, n, r, _, h => by cases h; exact Int.le_refl _
  | c :: t, i, v, a, n, r, h0, h => by
    unfold scn at h
    split at h
    · exact scn_mono t _ v a true r h0 h
    · split at h
      · exact scn_mono t _ v i n r h0 h
      · split at h
        · have := scn_mono t _ _ a n r (by omega) h
          omega
        · cases h
def NearInv (s : ByteArray) (v a : Int) (n : Bool) (i : Int) : Prop := 0 ≤ i ∧ i ≤ s.size ∧ s.size ≤ 100 ∧ 0 ≤ v ∧ ∃ r, scn (s.data.toList.drop i.toNat) i v a n = some r ∧ r.1 ≤ 4611686018427387904
def outNearA (x : LSpec.X spNearA) (y : LSpec.Y spNearA) : T (Exit × List Av × LSpec.Y spNearA) :=
  .need (NearInv x.2.1 x.2.2.1 x.2.2.2.1 x.2.2.2.2.1 x.2.2.2.2.2.1)
    (.lt ((scn ((ByteArray.data x.2.1).toList.drop x.2.2.2.2.2.1.toNat) x.2.2.2.2.2.1 x.2.2.1 x.2.2.2.1 x.2.2.2.2.1).getD (0, 0, false)) fun r => .ret (.exit 0, [aI .i64 x.1, .one (.v (.string x.2.1)), aI .i64 r.1, aI .i64 r.2.1, aB r.2.2], y))
theorem nearA_core (k : Int) (s : ByteArray) (v a : Int) (n : Bool) (i : Int) (y : LSpec.Y spNearA) (Q : Exit × List Av × LSpec.Y spNearA → Prop) (h : (outNearA (k, s, v, a, n, i, ()) y).wp Q) : (tr_nearA ((k, s, v, a, n, i, ()), y)).wp fun r => match r with
      | .again x' y' => ((ByteArray.size x'.2.1 : Int) - x'.2.2.2.2.2.1).toNat < (s.size - i).toNat ∧ (outNearA x' y').wp Q
      | .out e avs y' => Q (e, avs, y') := by
  unfold tr_nearA
  unfold outNearA at h ⊢
  simp only [T.wp] at h ⊢
  dsimp only [El, vts] at h ⊢
  obtain ⟨⟨h0, h1, h100, hv, r, hr, hr1⟩, hq⟩ := h
  have hsz : s.size = s.data.toList.length := by rw [Array.length_toList]; rfl
  have hl : lenOk s.data.toList.length := by unfold lenOk; omega
  refine ⟨fun hlt => ?_, fun hge => ?_⟩
  · have hlt := of_decide_eq_true hlt
    rw [hsz] at hlt
    obtain ⟨c, hc⟩ := elem_at h0 hlt
    have hd := drop_at h0 hc
    rw [hd] at hr hq
    rw [wrap_next h0 hlt hl]
    simp only [get_iff h0 hc]
    have hc8 : c.toNat < 256 := UInt8.toNat_lt c
    have key : ∀ (v' a' : Int) (n' : Bool), 0 ≤ v' → scn (c :: s.data.toList.drop (i + 1).toNat) i v a n = scn (s.data.toList.drop (i + 1).toNat) (i + 1) v' a' n' →
        ((s.size : Int) - (i + 1)).toNat < ((s.size : Int) - i).toNat ∧ NearInv s v' a' n' (i + 1) ∧ Q (Exit.exit 0, [aI .i64 k, .one (.v (.string s)), aI .i64 ((scn (s.data.toList.drop (i + 1).toNat) (i + 1) v' a' n').getD (0, 0, false)).1, aI .i64 ((scn (s.data.toList.drop (i + 1).toNat) (i + 1) v' a' n').getD (0, 0, false)).2.1, aB ((scn (s.data.toList.drop (i + 1).toNat) (i + 1) v' a' n').getD (0, 0, false)).2.2], y) := fun v' a' n' hv' e => by
      rw [e] at hr hq
      exact ⟨by omega, ⟨by omega, by omega, h100, hv', r, hr, hr1⟩, hq⟩
    have e1 : scn (c :: s.data.toList.drop (i + 1).toNat) i v a n = if (c.toNat : Int) = 45 ∧ i = 0 then scn (s.data.toList.drop (i + 1).toNat) (i + 1) v a true
        else if (c.toNat : Int) = 46 ∧ a < 0 then scn (s.data.toList.drop (i + 1).toNat) (i + 1) v i n
        else if 48 ≤ (c.toNat : Int) ∧ (c.toNat : Int) ≤ 57 then scn (s.data.toList.drop (i + 1).toNat) (i + 1) (v * 10 + ((c.toNat : Int) - 48)) a n
        else none := rfl
    have dig : 48 ≤ (c.toNat : Int) ∧ (c.toNat : Int) ≤ 57 → scn (c :: s.data.toList.drop (i + 1).toNat) i v a n = scn (s.data.toList.drop (i + 1).toNat) (i + 1) (v * 10 + ((c.toNat : Int) - 48)) a n ∧
        IntKind.i64.wrap (IntKind.i64.wrap (v * 10) + IntKind.i64.wrap (IntKind.u8.wrap ((c.toNat : Int) - 48))) = v * 10 + ((c.toNat : Int) - 48) := fun hd => by
      have e2 : scn (c :: s.data.toList.drop (i + 1).toNat) i v a n = scn (s.data.toList.drop (i + 1).toNat) (i + 1) (v * 10 + ((c.toNat : Int) - 48)) a n := by
        rw [e1, if_neg (by omega), if_neg (by omega), if_pos hd]
      refine ⟨e2, ?_⟩
      rw [e2] at hr
      have := scn_mono _ _ _ _ _ r (by omega) hr
      rw [IntKind.wrap_u8]
      rw [show ((c.toNat : Int) - 48) % 256 = (c.toNat : Int) - 48 from by omega]
      rw [IntWalk.i64_in (v * 10) (by omega), IntWalk.i64_in ((c.toNat : Int) - 48) (by omega), IntWalk.i64_in _ (by omega)]
    have bad : scn (c :: s.data.toList.drop (i + 1).toNat) i v a n = none → False := fun e => by rw [e] at hr; cases hr
    have last : ¬ ((c.toNat : Int) = 45 ∧ i = 0) → ¬ ((c.toNat : Int) = 46 ∧ a < 0) → ¬ (48 ≤ (c.toNat : Int) ∧ (c.toNat : Int) ≤ 57) → False := fun h1 h2 h3 => bad (by rw [e1, if_neg h1, if_neg h2, if_neg h3])
    have fin : ¬ ((c.toNat : Int) = 45 ∧ i = 0) → ¬ ((c.toNat : Int) = 46 ∧ a < 0) → (decide ((c.toNat : Int) ≥ 48) = true → (decide ((c.toNat : Int) ≤ 57) = true →
        ((s.size : Int) - (i + 1)).toNat < ((s.size : Int) - i).toNat ∧ NearInv s (IntKind.i64.wrap (IntKind.i64.wrap (v * 10) + IntKind.i64.wrap (IntKind.u8.wrap ((c.toNat : Int) - 48)))) a n (i + 1) ∧ Q (Exit.exit 0, [aI .i64 k, .one (.v (.string s)), aI .i64 ((scn (s.data.toList.drop (i + 1).toNat) (i + 1) (IntKind.i64.wrap (IntKind.i64.wrap (v * 10) + IntKind.i64.wrap (IntKind.u8.wrap ((c.toNat : Int) - 48)))) a n).getD (0, 0, false)).1, aI .i64 ((scn (s.data.toList.drop (i + 1).toNat) (i + 1) (IntKind.i64.wrap (IntKind.i64.wrap (v * 10) + IntKind.i64.wrap (IntKind.u8.wrap ((c.toNat : Int) - 48)))) a n).getD (0, 0, false)).2.1, aB ((scn (s.data.toList.drop (i + 1).toNat) (i + 1) (IntKind.i64.wrap (IntKind.i64.wrap (v * 10) + IntKind.i64.wrap (IntKind.u8.wrap ((c.toNat : Int) - 48)))) a n).getD (0, 0, false)).2.2], y)) ∧ (decide ((c.toNat : Int) ≤ 57) = false → Q (Exit.ret, [.one (.v (.bool false))], y))) ∧ (decide ((c.toNat : Int) ≥ 48) = false → Q (Exit.ret, [.one (.v (.bool false))], y)) := fun h1 h2 => by
      refine ⟨fun h3 => ⟨fun h4 => ?_, fun h4 => ?_⟩, fun h3 => ?_⟩
      · have h3 := of_decide_eq_true h3
        have h4 := of_decide_eq_true h4
        obtain ⟨e2, e3⟩ := dig ⟨h3, h4⟩
        rw [e3]
        exact key _ _ _ (by omega) e2
      · have h4 := of_decide_eq_false h4
        exact (last h1 h2 (by omega)).elim
      · have h3 := of_decide_eq_false h3
        exact (last h1 h2 (by omega)).elim
    refine ⟨fun h45 => ⟨fun hi => ?_, fun hi => ?_⟩, fun h45 => ?_⟩
    · have h45 : (c.toNat : Int) = 45 := by simpa using h45
      have hi : i = 0 := by simpa using hi
      exact key v a true hv (by rw [e1, if_pos ⟨h45, hi⟩])
    · have h45 : (c.toNat : Int) = 45 := by simpa using h45
      have hi : ¬ i = 0 := by simpa using hi
      refine ⟨fun h46 => ?_, fun h46 => fin (by omega) (by omega)⟩
      have h46 : (c.toNat : Int) = 46 := by simpa using h46
      omega
    · have h45 : ¬ (c.toNat : Int) = 45 := by simpa using h45
      refine ⟨fun h46 => ⟨fun ha => ?_, fun ha => ?_⟩, fun h46 => ?_⟩
      · have h46 : (c.toNat : Int) = 46 := by simpa using h46
        have ha := of_decide_eq_true ha
        exact key v i n hv (by rw [e1, if_neg (by omega), if_pos ⟨h46, ha⟩])
      · have ha := of_decide_eq_false ha
        exact fin (by omega) (by omega)
      · have h46 : ¬ (c.toNat : Int) = 46 := by simpa using h46
        exact fin (by omega) (by omega)
  · have hge := of_decide_eq_false hge
    rw [drop_end (by omega)] at hr hq
    exact hq
theorem nearA_ok : LoopOk Try.prog 0 (bodyOf Try.f7 0) (spNearA.run outNearA) :=
  loop_ok (E := EM) (L := fun _ => none) mixed 0 (loops_none _ _ _) spNearA (Nat.zero_le _) outNearA (fun x _ => ((ByteArray.size x.2.1 : Int) - x.2.2.2.2.2.1).toNat) (by
    rintro ⟨k, s, v, a, n, i, ⟨⟩⟩ y Q h
    rw [tr_nearA_eq ((k, s, v, a, n, i, ()), y)]
    exact nearA_core k s v a n i y Q h)
def outNearB (x : LSpec.X spNearB) (y : LSpec.Y spNearB) : T (Exit × List Av × LSpec.Y spNearB) :=
  .need (0 ≤ x.2.2.2.2.2.1 ∧ x.2.2.2.2.2.1 ≤ x.1 ∧ x.1 ≤ 9 ∧ x.2.2.2.2.1 = 10 ^ x.2.2.2.2.2.1.toNat) (.ret (.exit 3, [aI .i64 x.1, .one (.v (.string x.2.1)), aI .i64 x.2.2.1, aI .i64 x.2.2.2.1, aI .i64 (10 ^ (Int.toNat x.1))], y))
theorem ten_b {n : Nat} (h : n ≤ 9) : (0 : Int) < 10 ^ n ∧ (10 : Int) ^ n ≤ 1000000000 := by
  have h1 : (10 : Nat) ^ n ≤ 10 ^ 9 := Nat.pow_le_pow_right (by decide) h
  have h2 : 0 < (10 : Nat) ^ n := Nat.pow_pos (by decide)
  have e : (10 : Int) ^ n = ((10 ^ n : Nat) : Int) := by simp
  rw [e]
  omega
theorem nearB_core (k : Int) (s : ByteArray) (v a t i : Int) (y : LSpec.Y spNearB) (Q : Exit × List Av × LSpec.Y spNearB → Prop) (h : (outNearB (k, s, v, a, t, i, ()) y).wp Q) : (tr_nearB ((k, s, v, a, t, i, ()), y)).wp fun r => match r with
      | .again x' y' => (x'.1 - x'.2.2.2.2.2.1).toNat < (k - i).toNat ∧ (outNearB x' y').wp Q
      | .out e avs y' => Q (e, avs, y') := by
  unfold tr_nearB
  unfold outNearB at h ⊢
  simp only [T.wp] at h ⊢
  dsimp only [El, vts] at h ⊢
  obtain ⟨⟨h0, h1, h9, ht⟩, hq⟩ := h
  subst ht
  refine ⟨fun hlt => ?_, fun hge => ?_⟩
  · have hlt := of_decide_eq_true hlt
    have hb := ten_b (n := i.toNat) (by omega)
    rw [IntWalk.i64_in (i + 1) (by omega), IntWalk.i64_in _ (by omega), show (i + 1).toNat = i.toNat + 1 from by omega, Int.pow_succ]
    exact ⟨by omega, ⟨by omega, by omega, h9, rfl⟩, hq⟩
  · have hge := of_decide_eq_false hge
    obtain rfl : i = k := by omega
    exact hq
theorem nearB_ok : LoopOk Try.prog 0 (bodyOf Try.f7 1) (spNearB.run outNearB) :=
  loop_ok (E := EM) (L := fun _ => none) mixed 0 (loops_none _ _ _) spNearB (Nat.zero_le _) outNearB (fun x _ => (x.1 - x.2.2.2.2.2.1).toNat) (by
    rintro ⟨k, s, v, a, t, i, ⟨⟩⟩ y Q h
    rw [tr_nearB_eq ((k, s, v, a, t, i, ()), y)]
    exact nearB_core k s v a t i y Q h)
noncomputable def lpNear : Loops := manyL [(10, spNearA.run outNearA), (23, spNearB.run outNearB)]
end Go.Proofs.Ytjijakfcahhioaa
/-
RatioNear: its run.
-/
set_option linter.unusedSimpArgs false
set_option linter.unusedVariables false
namespace Go.Proofs.Ytjijakfcahhioaa
open Go.RowKit Ax
noncomputable def tr_lnear (x : Els [(false, .int .i32), (false, .int .u16), (false, .int .u8)]) : T Av :=
 .ite (!Bool.true)
  (.ret (.one (.v (.bool (Bool.false)))))
  (.need ((Ax.in64 (Go.IntKind.wrap Go.IntKind.i64 (x.1)) ∧ Ax.in64 (Go.IntKind.wrap Go.IntKind.i64 (Go.IntKind.wrap Go.IntKind.i64 (Prod.fst (Prod.snd x)) + (1 : Int)))) ∧ Decidable.decide (Go.IntKind.wrap Go.IntKind.i64 (Go.IntKind.wrap Go.IntKind.i64 (Prod.fst (Prod.snd x)) + (1 : Int)) ≠ (0 : Ax.El (Ax.Cd.int Go.IntKind.i64))) = Bool.true) (.lt (Ax.rOf (Rat.divInt (Go.IntKind.wrap Go.IntKind.i64 (x.1)) (Go.IntKind.wrap Go.IntKind.i64 (Go.IntKind.wrap Go.IntKind.i64 (Prod.fst (Prod.snd x)) + (1 : Int))))) (fun v0 =>
    .need ((10 : Int) ≠ (0 : Int)) (.need (Ax.safeF (500 : Int) v0 = Bool.true) (.lt (Go.Proofs.Ytjijakfcahhioaa.decS (Go.Proofs.Ytjijakfcahhioaa.qdec v0 (Go.Proofs.Ytjijakfcahhioaa.clampD (Go.IntKind.wrap Go.IntKind.i64 (Int.tmod (Prod.fst (Prod.snd (Prod.snd x))) (10 : Int))))) (Go.Proofs.Ytjijakfcahhioaa.clampD (Go.IntKind.wrap Go.IntKind.i64 (Int.tmod (Prod.fst (Prod.snd (Prod.snd x))) (10 : Int)))) (Ax.zW (Prod.fst v0))) (fun v1 =>
       .ite (!Bool.true)
        (.ret (.one (.v (.bool (Bool.false)))))
        (.ite (!Bool.true)
         (.ret (.one (.v (.bool (Bool.false)))))
         (.need (Go.Proofs.Ytjijakfcahhioaa.NearInv v1 (0 : Int) (-1 : Int) Bool.false (0 : Int)) (.lt (Option.getD (Go.Proofs.Ytjijakfcahhioaa.scn (List.drop (Int.toNat (0 : Int)) (Array.toList (ByteArray.data v1))) (0 : Int) (0 : Int) (-1 : Int) Bool.false) ((0 : Int), (0 : Int), Bool.false)) (fun v2 =>
           .ite (Prod.snd (Prod.snd v2))
            (.need ((0 : Ax.El (Ax.Cd.int Go.IntKind.i64)) ≤ (0 : Int) ∧ (0 : Int) ≤ Go.IntKind.wrap Go.IntKind.i64 (Int.tmod (Prod.fst (Prod.snd (Prod.snd x))) (10 : Int)) ∧ Go.IntKind.wrap Go.IntKind.i64 (Int.tmod (Prod.fst (Prod.snd (Prod.snd x))) (10 : Int)) ≤ (9 : Ax.El (Ax.Cd.int Go.IntKind.i64)) ∧ (1 : Int) = (10 : Ax.El (Ax.Cd.int Go.IntKind.i64)) ^ Int.toNat (0 : Int)) (.need ((Ax.in64 (Go.IntKind.wrap Go.IntKind.i64 ((0 : Int) - Prod.fst v2)) ∧ Ax.in64 ((10 : Int) ^ Int.toNat (Go.IntKind.wrap Go.IntKind.i64 (Int.tmod (Prod.fst (Prod.snd (Prod.snd x))) (10 : Int))))) ∧ Decidable.decide ((10 : Int) ^ Int.toNat (Go.IntKind.wrap Go.IntKind.i64 (Int.tmod (Prod.fst (Prod.snd (Prod.snd x))) (10 : Int))) ≠ (0 : Ax.El (Ax.Cd.int Go.IntKind.i64))) = Bool.true) (.lt (Ax.rOf (Rat.divInt (Go.IntKind.wrap Go.IntKind.i64 ((0 : Int) - Prod.fst v2)) ((10 : Int) ^ Int.toNat (Go.IntKind.wrap Go.IntKind.i64 (Int.tmod (Prod.fst (Prod.snd (Prod.snd x))) (10 : Int)))))) (fun v3 =>
               .need (Ax.both v0 v3 = Bool.true) (.lt (Ax.rOf (Ax.qF v0 - Ax.qF v3)) (fun v4 =>
                 .need ((Ax.in64 (1 : Int) ∧ Ax.in64 (Go.IntKind.wrap Go.IntKind.i64 ((2 : Int) * (10 : Int) ^ Int.toNat (Go.IntKind.wrap Go.IntKind.i64 (Int.tmod (Prod.fst (Prod.snd (Prod.snd x))) (10 : Int)))))) ∧ Decidable.decide (Go.IntKind.wrap Go.IntKind.i64 ((2 : Int) * (10 : Int) ^ Int.toNat (Go.IntKind.wrap Go.IntKind.i64 (Int.tmod (Prod.fst (Prod.snd (Prod.snd x))) (10 : Int)))) ≠ (0 : Ax.El (Ax.Cd.int Go.IntKind.i64))) = Bool.true) (.lt (Ax.rOf (Rat.divInt (1 : Int) (Go.IntKind.wrap Go.IntKind.i64 ((2 : Int) * (10 : Int) ^ Int.toNat (Go.IntKind.wrap Go.IntKind.i64 (Int.tmod (Prod.fst (Prod.snd (Prod.snd x))) (10 : Int))))))) (fun v5 =>
                   .ite (Decidable.decide (Pq.cz (Ax.zW (Prod.fst v4)) (0 : Int) < (0 : Int)))
                    (.need (Ax.both v3 v0 = Bool.true) (.lt (Ax.rOf (Ax.qF v3 - Ax.qF v0)) (fun v6 =>
                      .need (Ax.both v6 v5 = Bool.true) (.lt (Ax.cq (Ax.qF v6) (Ax.qF v5)) (fun v7 =>
                        .ite (Decidable.decide (v7 ≤ (0 : Int)))
                         (.ite ((Go.IntKind.wrap Go.IntKind.i64 (Int.tmod (Prod.fst (Prod.snd (Prod.snd x))) (10 : Int)) == (0 : Int)) == Decidable.decide (Prod.fst (Prod.snd v2) < (0 : Int)))
                          (.ite (Decidable.decide (Prod.fst (Prod.snd v2) < (0 : Int)))
                           (.ret (.one (.v (.bool (Bool.true)))))
                           (.ret (.one (.v (.bool (Go.IntKind.wrap Go.IntKind.i64 (Go.IntKind.wrap Go.IntKind.i64 ((↑(ByteArray.size v1) : Int) - Prod.fst (Prod.snd v2)) - (1 : Int)) == Go.IntKind.wrap Go.IntKind.i64 (Int.tmod (Prod.fst (Prod.snd (Prod.snd x))) (10 : Int))))))))
                          (.ret (.one (.v (.bool (Bool.false))))))
                         (.ret (.one (.v (.bool (Bool.false))))))))))
                    (.need (Ax.both v4 v5 = Bool.true) (.lt (Ax.cq (Ax.qF v4) (Ax.qF v5)) (fun v6 =>
                      .ite (Decidable.decide (v6 ≤ (0 : Int)))
                       (.ite ((Go.IntKind.wrap Go.IntKind.i64 (Int.tmod (Prod.fst (Prod.snd (Prod.snd x))) (10 : Int)) == (0 : Int)) == Decidable.decide (Prod.fst (Prod.snd v2) < (0 : Int)))
                        (.ite (Decidable.decide (Prod.fst (Prod.snd v2) < (0 : Int)))
                         (.ret (.one (.v (.bool (Bool.true)))))
                         (.ret (.one (.v (.bool (Go.IntKind.wrap Go.IntKind.i64 (Go.IntKind.wrap Go.IntKind.i64 ((↑(ByteArray.size v1) : Int) - Prod.fst (Prod.snd v2)) - (1 : Int)) == Go.IntKind.wrap Go.IntKind.i64 (Int.tmod (Prod.fst (Prod.snd (Prod.snd x))) (10 : Int))))))))
                        (.ret (.one (.v (.bool (Bool.false))))))
                       (.ret (.one (.v (.bool (Bool.false))))))))))))))))
            (.need ((0 : Ax.El (Ax.Cd.int Go.IntKind.i64)) ≤ (0 : Int) ∧ (0 : Int) ≤ Go.IntKind.wrap Go.IntKind.i64 (Int.tmod (Prod.fst (Prod.snd (Prod.snd x))) (10 : Int)) ∧ Go.IntKind.wrap Go.IntKind.i64 (Int.tmod (Prod.fst (Prod.snd (Prod.snd x))) (10 : Int)) ≤ (9 : Ax.El (Ax.Cd.int Go.IntKind.i64)) ∧ (1 : Int) = (10 : Ax.El (Ax.Cd.int Go.IntKind.i64)) ^ Int.toNat (0 : Int)) (.need ((Ax.in64 (Prod.fst v2) ∧ Ax.in64 ((10 : Int) ^ Int.toNat (Go.IntKind.wrap Go.IntKind.i64 (Int.tmod (Prod.fst (Prod.snd (Prod.snd x))) (10 : Int))))) ∧ Decidable.decide ((10 : Int) ^ Int.toNat (Go.IntKind.wrap Go.IntKind.i64 (Int.tmod (Prod.fst (Prod.snd (Prod.snd x))) (10 : Int))) ≠ (0 : Ax.El (Ax.Cd.int Go.IntKind.i64))) = Bool.true) (.lt (Ax.rOf (Rat.divInt (Prod.fst v2) ((10 : Int) ^ Int.toNat (Go.IntKind.wrap Go.IntKind.i64 (Int.tmod (Prod.fst (Prod.snd (Prod.snd x))) (10 : Int)))))) (fun v3 =>
               .need (Ax.both v0 v3 = Bool.true) (.lt (Ax.rOf (Ax.qF v0 - Ax.qF v3)) (fun v4 =>
                 .need ((Ax.in64 (1 : Int) ∧ Ax.in64 (Go.IntKind.wrap Go.IntKind.i64 ((2 : Int) * (10 : Int) ^ Int.toNat (Go.IntKind.wrap Go.IntKind.i64 (Int.tmod (Prod.fst (Prod.snd (Prod.snd x))) (10 : Int)))))) ∧ Decidable.decide (Go.IntKind.wrap Go.IntKind.i64 ((2 : Int) * (10 : Int) ^ Int.toNat (Go.IntKind.wrap Go.IntKind.i64 (Int.tmod (Prod.fst (Prod.snd (Prod.snd x))) (10 : Int)))) ≠ (0 : Ax.El (Ax.Cd.int Go.IntKind.i64))) = Bool.true) (.lt (Ax.rOf (Rat.divInt (1 : Int) (Go.IntKind.wrap Go.IntKind.i64 ((2 : Int) * (10 : Int) ^ Int.toNat (Go.IntKind.wrap Go.IntKind.i64 (Int.tmod (Prod.fst (Prod.snd (Prod.snd x))) (10 : Int))))))) (fun v5 =>
                   .ite (Decidable.decide (Pq.cz (Ax.zW (Prod.fst v4)) (0 : Int) < (0 : Int)))
                    (.need (Ax.both v3 v0 = Bool.true) (.lt (Ax.rOf (Ax.qF v3 - Ax.qF v0)) (fun v6 =>
                      .need (Ax.both v6 v5 = Bool.true) (.lt (Ax.cq (Ax.qF v6) (Ax.qF v5)) (fun v7 =>
                        .ite (Decidable.decide (v7 ≤ (0 : Int)))
                         (.ite ((Go.IntKind.wrap Go.IntKind.i64 (Int.tmod (Prod.fst (Prod.snd (Prod.snd x))) (10 : Int)) == (0 : Int)) == Decidable.decide (Prod.fst (Prod.snd v2) < (0 : Int)))
                          (.ite (Decidable.decide (Prod.fst (Prod.snd v2) < (0 : Int)))
                           (.ret (.one (.v (.bool (Bool.true)))))
                           (.ret (.one (.v (.bool (Go.IntKind.wrap Go.IntKind.i64 (Go.IntKind.wrap Go.IntKind.i64 ((↑(ByteArray.size v1) : Int) - Prod.fst (Prod.snd v2)) - (1 : Int)) == Go.IntKind.wrap Go.IntKind.i64 (Int.tmod (Prod.fst (Prod.snd (Prod.snd x))) (10 : Int))))))))
                          (.ret (.one (.v (.bool (Bool.false))))))
                         (.ret (.one (.v (.bool (Bool.false))))))))))
                    (.need (Ax.both v4 v5 = Bool.true) (.lt (Ax.cq (Ax.qF v4) (Ax.qF v5)) (fun v6 =>
                      .ite (Decidable.decide (v6 ≤ (0 : Int)))
                       (.ite ((Go.IntKind.wrap Go.IntKind.i64 (Int.tmod (Prod.fst (Prod.snd (Prod.snd x))) (10 : Int)) == (0 : Int)) == Decidable.decide (Prod.fst (Prod.snd v2) < (0 : Int)))
                        (.ite (Decidable.decide (Prod.fst (Prod.snd v2) < (0 : Int)))
                         (.ret (.one (.v (.bool (Bool.true)))))
                         (.ret (.one (.v (.bool (Go.IntKind.wrap Go.IntKind.i64 (Go.IntKind.wrap Go.IntKind.i64 ((↑(ByteArray.size v1) : Int) - Prod.fst (Prod.snd v2)) - (1 : Int)) == Go.IntKind.wrap Go.IntKind.i64 (Int.tmod (Prod.fst (Prod.snd (Prod.snd x))) (10 : Int))))))))
                        (.ret (.one (.v (.bool (Bool.false))))))
                       (.ret (.one (.v (.bool (Bool.false))))))))))))))))))))))))))
theorem tr_lnear_eq (x : Els [(false, .int .i32), (false, .int .u16), (false, .int .u8)]) : fnP EM lpNear Try.f7 (encs [(false, .int .i32), (false, .int .u16), (false, .int .u8)] x) = tr_lnear x := by kernel_rfl
end Go.Proofs.Ytjijakfcahhioaa
/-
A decimal's text, read back; plain.
-/
set_option linter.unusedSimpArgs false
set_option linter.unusedVariables false
namespace Go.Proofs.Ytjijakfcahhioaa
open Go.RowKit Ax
def isDig (c : UInt8) : Prop := 48 ≤ (c.toNat : Int) ∧ (c.toNat : Int) ≤ 57
/-- the number that digits tell, behind v -/
def dv (v : Int) (l : List UInt8) : Int := l.foldl (fun v c => v * 10 + ((c.toNat : Int) - 48)) v
theorem dv_app (v : Int) (l k : List UInt8) : dv v (l ++ k) = dv (dv v l) k := by unfold dv; rw [List.foldl_append]
theorem scn_digits : ∀ (l r : List UInt8) (i v a : Int) (n : Bool), (∀ c ∈ l, isDig c) → scn (l ++ r) i v a n = scn r (i + l.length) (dv v l) a n
  | [], r, i, v, a, n, _ => by simp [dv]
  | c :: l, r, i, v, a, n, h => by
    have hc : isDig c := h c (by simp)
    unfold isDig at hc
    rw [List.cons_append, scn, if_neg (by omega), if_neg (by omega), if_pos hc, scn_digits l r _ _ a n (fun c' h' => h c' (by simp [h']))]
    simp only [List.length_cons, dv, List.foldl_cons]
    congr 1
    omega
theorem dg_byte {x : Nat} : ∀ z ∈ dg x, 48 ≤ z ∧ z ≤ 57 := by
  induction x using Nat.strongRecOn with
  | ind x ih =>
    intro z hz
    by_cases h : x = 0
    · rw [h, dg_zero] at hz; cases hz
    · rw [dg_pos h] at hz
      rcases List.mem_cons.1 hz with rfl | hz
      · omega
      · exact ih (x / 10) (Nat.div_lt_self (by omega) (by omega)) z hz
def byt (z : Int) : UInt8 := UInt8.ofNat z.toNat
theorem byt_nat {z : Int} (h : 0 ≤ z ∧ z < 256) : ((byt z).toNat : Int) = z := by
  unfold byt
  rw [UInt8.toNat_ofNat_of_lt' (by simp; omega)]
  omega
theorem dv_dg (x : Nat) : dv 0 ((dg x).reverse.map byt) = x := by
  induction x using Nat.strongRecOn with
  | ind x ih =>
    by_cases h : x = 0
    · rw [h, dg_zero]; rfl
    · rw [dg_pos h, List.reverse_cons, List.map_append, dv_app, ih (x / 10) (Nat.div_lt_self (by omega) (by omega))]
      simp only [List.map_cons, List.map_nil, dv, List.foldl_cons, List.foldl_nil]
      rw [byt_nat (by omega)]
      omega
theorem txt_list {z : Int} (h0 : 0 ≤ z) (hz : z.natAbs < Pq.bp 32) : (txt (wOf z)).data.toList = if z = 0 then [48] else (dg z.toNat).reverse.map byt := by
  have e : wOf z = (decide (z < 0), ⟨z.natAbs, hz⟩) := by unfold wOf; rw [dif_pos hz]
  rw [e]
  unfold txt
  by_cases h : z = 0
  · subst h; rfl
  · rw [if_neg (show ¬ z.natAbs = 0 by omega), if_neg h, if_neg (by simpa using h0), List.append_nil]
    have e2 : z.natAbs = z.toNat := by omega
    show ((dg z.natAbs).reverse.map fun z => UInt8.ofNat z.toNat).toArray.toList = _
    rw [e2]
    rfl
theorem txt_dig {z : Int} (h0 : 0 ≤ z) (hz : z.natAbs < Pq.bp 32) : (∀ c ∈ (txt (wOf z)).data.toList, isDig c) ∧ dv 0 (txt (wOf z)).data.toList = z := by
  rw [txt_list h0 hz]
  by_cases h : z = 0
  · subst h
    rw [if_pos rfl]
    exact ⟨fun c hc => by rw [List.mem_singleton] at hc; subst hc; unfold isDig; decide, by decide⟩
  · rw [if_neg h]
    refine ⟨fun c hc => ?_, ?_⟩
    · obtain ⟨y, hy, rfl⟩ := List.mem_map.1 hc
      have := dg_byte y (List.mem_reverse.1 hy)
      unfold isDig
      rw [byt_nat (by omega)]; omega
    · rw [dv_dg]; omega
theorem dv_zeros (n : Nat) : dv 0 (List.replicate n 48) = 0 := by
  induction n with
  | zero => rfl
  | succ n ih => rw [List.replicate_succ]; exact ih
theorem pad_dig {z k : Int} (h0 : 0 ≤ z) (hz : z.natAbs < Pq.bp 32) : (∀ c ∈ (padS k (txt (wOf z))).data.toList, isDig c) ∧ dv 0 (padS k (txt (wOf z))).data.toList = z ∧ k + 1 ≤ ((padS k (txt (wOf z))).data.toList.length : Int) := by
  obtain ⟨h1, h2⟩ := txt_dig h0 hz
  have e : (padS k (txt (wOf z))).data.toList = List.replicate (k + 1 - (txt (wOf z)).size).toNat 48 ++ (txt (wOf z)).data.toList := by unfold padS; simp
  rw [e]
  refine ⟨fun c hc => ?_, ?_, ?_⟩
  · rcases List.mem_append.1 hc with hc | hc
    · rw [List.eq_of_mem_replicate hc]; unfold isDig; decide
    · exact h1 c hc
  · rw [dv_app, dv_zeros, h2]
  · rw [List.length_append, List.length_replicate]
    have : (txt (wOf z)).size = (txt (wOf z)).data.toList.length := by rw [Array.length_toList]; rfl
    omega
theorem point_list {k : Int} {s : ByteArray} (hk : 0 < k) (hs : k < s.size) : (pointS k s).data.toList = s.data.toList.take (s.size - k.toNat) ++ 46 :: s.data.toList.drop (s.size - k.toNat) := by
  have hsz : s.size = s.data.toList.length := by rw [Array.length_toList]; rfl
  unfold pointS
  rw [if_pos hk]
  simp only [ByteArray.data_append, ByteArray.data_extract, Array.toList_append, Array.toList_extract, List.extract_eq_take_drop]
  rw [show ((s.size : Int) - k).toNat = s.size - k.toNat from by omega]
  simp only [Nat.sub_zero, List.drop_zero, List.append_assoc]
  congr 1
  show [46] ++ _ = _
  rw [List.singleton_append, List.take_of_length_le (by rw [List.length_drop]; omega)]
/-- the text of a decimal, read -/
theorem scn_dec {z k nz : Int} (h0 : 0 ≤ z) (hz : z.natAbs < Pq.bp 32) (hk : 0 ≤ k) : ∃ a : Int, scn (decS z k nz).data.toList 0 0 (-1) false = some (z, a, decide (nz < 0 ∧ z ≠ 0)) ∧
    (k = 0 → a = -1) ∧ (0 < k → 0 ≤ a ∧ ((decS z k nz).size : Int) - a - 1 = k) := by
  obtain ⟨h1, h2, h3⟩ := pad_dig (k := k) h0 hz
  unfold decS
  generalize padS k (txt (wOf z)) = s at *
  have hsz : s.size = s.data.toList.length := by rw [Array.length_toList]; rfl
  have body : ∀ (i : Int) (n : Bool), 0 ≤ i → ∃ a : Int, scn (pointS k s).data.toList i 0 (-1) n = some (z, a, n) ∧ (k = 0 → a = -1) ∧ (0 < k → a = i + (s.size - k)) := fun i n hi => by
    by_cases hk0 : k = 0
    · subst hk0
      refine ⟨-1, ?_, fun _ => rfl, fun h => by omega⟩
      have e : pointS 0 s = s := by unfold pointS; rw [if_neg (by omega)]
      rw [e, ← List.append_nil s.data.toList, scn_digits _ _ _ _ _ _ h1, h2]
      rfl
    · refine ⟨i + (s.size - k), ?_, fun h => absurd h hk0, fun _ => rfl⟩
      rw [point_list (by omega) (by omega), scn_digits _ _ _ _ _ _ (fun c hc => h1 c (List.mem_of_mem_take hc))]
      rw [scn, if_neg (fun h => absurd h.1 (by decide)), if_pos ⟨by decide, by omega⟩]
      rw [← List.append_nil (s.data.toList.drop _), scn_digits _ _ _ _ _ _ (fun c hc => h1 c (List.mem_of_mem_drop hc)), ← dv_app, List.take_append_drop, h2]
      rw [scn, List.length_take]
      congr 3
      omega
  have hp : (pointS k s).size = s.size + if 0 < k then 1 else 0 := by
    by_cases hk0 : 0 < k
    · have e := congrArg List.length (point_list hk0 (s := s) (by omega))
      rw [Array.length_toList] at e
      rw [if_pos hk0]
      show (pointS k s).data.size = _
      rw [e]
      simp
      omega
    · rw [if_neg hk0]; unfold pointS; rw [if_neg hk0]; rfl
  by_cases hn : nz < 0 ∧ z ≠ 0
  · rw [decide_eq_true hn]
    obtain ⟨a, e1, e2, e3⟩ := body 1 true (by omega)
    have el : (signS true (pointS k s)).data.toList = 45 :: (pointS k s).data.toList := by
      unfold signS; simp
    have es : (signS true (pointS k s)).size = 1 + (pointS k s).size := by
      have := congrArg List.length el
      rw [Array.length_toList] at this
      show (signS true (pointS k s)).data.size = _
      rw [this, List.length_cons, Array.length_toList]
      show (pointS k s).size + 1 = _
      omega
    refine ⟨a, ?_, e2, fun h => ?_⟩
    · rw [el, scn, if_pos ⟨by decide, rfl⟩]
      exact e1
    · rw [es, hp, if_pos h, e3 h]; omega
  · rw [decide_eq_false hn]
    obtain ⟨a, e1, e2, e3⟩ := body 0 false (by omega)
    have el : signS false (pointS k s) = pointS k s := by unfold signS; simp
    rw [el]
    refine ⟨a, e1, e2, fun h => ?_⟩
    rw [hp, if_pos h, e3 h]; omega
theorem dec_size {z k nz : Int} (h0 : 0 ≤ z) (hz : z < 10000000000000000000) (hk : 0 ≤ k) (hk9 : k ≤ 9) : (decS z k nz).size ≤ 100 := by
  have hb : z.natAbs < Pq.bp 32 := Nat.lt_of_lt_of_le (show z.natAbs < 2 ^ 64 by show z.natAbs < 18446744073709551616; omega) (bp_ge (k := 64) 1024 rfl (by decide))
  have ht : (txt (wOf z)).size ≤ 65 := by
    have hsz : (txt (wOf z)).size = (txt (wOf z)).data.toList.length := by rw [Array.length_toList]; rfl
    rw [hsz, txt_list h0 hb]
    split
    · simp
    · rw [List.length_map, List.length_reverse]
      have := dg_len (n := 64) (x := z.toNat) (by show z.toNat < 18446744073709551616; omega)
      omega
  have hp := padS_size k (txt (wOf z))
  have hpt : (pointS k (padS k (txt (wOf z)))).size ≤ (padS k (txt (wOf z))).size + 1 := by
    unfold pointS
    split
    · rw [ByteArray.size_append, ByteArray.size_append, ByteArray.size_extract, ByteArray.size_extract]
      have : ByteArray.size (⟨#[46]⟩ : ByteArray) = 1 := rfl
      omega
    · omega
  unfold decS
  generalize pointS k (padS k (txt (wOf z))) = u at *
  have hs : (signS (decide (nz < 0 ∧ z ≠ 0)) u).size ≤ u.size + 1 := by
    unfold signS
    split
    · rw [ByteArray.size_append]
      have : ByteArray.size (⟨#[45]⟩ : ByteArray) = 1 := rfl
      omega
    · omega
  omega
end Go.Proofs.Ytjijakfcahhioaa
/-
RatioNear, plain.
-/
set_option linter.unusedSimpArgs false
set_option linter.unusedVariables false
namespace Go.Proofs.Ytjijakfcahhioaa
open Go.RowKit Ax
theorem clamp_in {k : Int} (h : 0 ≤ k ∧ k ≤ 20) : clampD k = k := by unfold clampD; split <;> split <;> omega
theorem near_int {m t d z : Int} (hd : 0 < d) (hz : z = if m * t % d * 2 ≥ d then m * t / d + 1 else m * t / d) : 2 * (m * t - z * d) ≤ d ∧ -d ≤ 2 * (m * t - z * d) := by
  have h1 := Int.mul_ediv_add_emod (m * t) d
  have h2 := Int.emod_nonneg (m * t) (show d ≠ 0 by omega)
  have h3 := Int.emod_lt_of_pos (m * t) hd
  generalize m * t = p at *
  generalize p / d = q at *
  generalize p % d = r at *
  have e : q * d = d * q := Int.mul_comm _ _
  split at hz
  · subst hz
    rw [Int.add_mul, e]
    omega
  · subst hz
    rw [e]
    omega
theorem divInt_le' {a b c d : Int} (hb : 0 < b) (hd : 0 < d) (h : a * d ≤ c * b) : Rat.divInt a b ≤ Rat.divInt c d := by
  rw [← Rat.not_lt]
  intro hlt
  rw [divInt_lt hd hb] at hlt
  omega
theorem near_q {n d v t : Int} (hd : 0 < d) (ht : 0 < t) (h : 2 * (n * t - v * d) ≤ d) : Rat.divInt n d - Rat.divInt v t ≤ Rat.divInt 1 (2 * t) := by
  rw [Rat.divInt_sub_divInt _ _ (by omega) (by omega)]
  refine divInt_le' (Int.mul_pos hd ht) (by omega) ?_
  have h2 := Int.mul_le_mul_of_nonneg_right h (show 0 ≤ t by omega)
  have e1 : (n * t - v * d) * (2 * t) = 2 * (n * t - v * d) * t := by rw [← Int.mul_assoc, Int.mul_comm (n * t - v * d) 2]
  rw [e1, Int.one_mul]
  exact h2
theorem near_q' {n d v t : Int} (hd : 0 < d) (ht : 0 < t) (h : -d ≤ 2 * (n * t - v * d)) : Rat.divInt v t - Rat.divInt n d ≤ Rat.divInt 1 (2 * t) := by
  rw [Rat.divInt_sub_divInt _ _ (by omega) (by omega)]
  refine divInt_le' (Int.mul_pos ht hd) (by omega) ?_
  have h2 := Int.mul_le_mul_of_nonneg_right h (show 0 ≤ t by omega)
  have e1 : (v * d - n * t) * (2 * t) = - (2 * (n * t - v * d) * t) := by
    rw [show v * d - n * t = - (n * t - v * d) by omega, Int.neg_mul, ← Int.mul_assoc, Int.mul_comm (n * t - v * d) 2]
  rw [e1, Int.one_mul, Int.mul_comm t d]
  rw [Int.neg_mul] at h2
  omega
theorem lnear_wp (n d g : Int) (hn : -2147483648 ≤ n ∧ n ≤ 2147483647) (hd : 0 ≤ d ∧ d ≤ 65535) (hg : 0 ≤ g ∧ g ≤ 255) : (tr_lnear (n, d, g, ())).wp fun av => av = .one (.v (.bool true)) := by
  have e1 : IntKind.i64.wrap n = n := w_i64 (by omega)
  have e2 : IntKind.i64.wrap (IntKind.i64.wrap d + 1) = d + 1 := by rw [w_i64 (z := d) (by omega), w_i64 (by omega)]
  have e3 : IntKind.i64.wrap (Int.tmod g 10) = g % 10 := by rw [Int.tmod_eq_emod_of_nonneg (by omega), w_i64 (by omega)]
  have hk : 0 ≤ g % 10 ∧ g % 10 ≤ 9 := by omega
  unfold tr_lnear
  simp only [T.wp]
  dsimp only [El]
  simp only [e1, e2, e3]
  generalize g % 10 = k at *
  rw [clamp_in (k := k) (by omega)]
  obtain ⟨t0, t9⟩ := ten_b (n := k.toNat) (by omega)
  have i1 : in64 n := ⟨by omega, by omega⟩
  have i2 : in64 (d + 1) := ⟨by omega, by omega⟩
  have hd0 : 0 < d + 1 := by omega
  have Bp : Bd 64 (Rat.divInt n (d + 1)) := bd_divInt (by omega) (pow64 i1) (pow64 i2)
  have hpd := divInt_le (a := n) (b := d + 1) (by omega)
  generalize hp : Rat.divInt n (d + 1) = p at *
  have hfs := safe_rOf (b := 500) Bp (by decide) (by decide)
  have zn : zW (rOf p).1 = p.num := zW_wOf (Bp.fits (by decide)).1
  have zd : zW (rOf p).2 = (p.den : Int) := zW_wOf (by have := (Bp.fits (by decide)).2; simpa using this)
  have hden : 0 < (p.den : Int) := by have := p.den_pos; omega
  have hz : ∃ z, qdec (rOf p) k = z ∧ 0 ≤ z ∧ z ≤ 2147483649000000000 ∧ 2 * ((p.num.natAbs : Int) * 10 ^ k.toNat - z * p.den) ≤ p.den ∧ -(p.den : Int) ≤ 2 * ((p.num.natAbs : Int) * 10 ^ k.toNat - z * p.den) := by
    refine ⟨_, rfl, ?_⟩
    have e : qdec (rOf p) k = if (p.num.natAbs : Int) * 10 ^ k.toNat % p.den * 2 ≥ p.den then (p.num.natAbs : Int) * 10 ^ k.toNat / p.den + 1 else (p.num.natAbs : Int) * 10 ^ k.toNat / p.den := by
      unfold qdec; rw [zn, zd]
    have hne := near_int hden e
    have hm0 : 0 ≤ (p.num.natAbs : Int) * 10 ^ k.toNat := Int.mul_nonneg (by omega) (by omega)
    have hm1 : (p.num.natAbs : Int) * 10 ^ k.toNat ≤ 2147483648 * 1000000000 := Int.mul_le_mul (by omega) t9 (by omega) (by omega)
    have hq0 := Int.ediv_nonneg hm0 (show 0 ≤ (p.den : Int) by omega)
    have hq1 := Int.ediv_le_self (p.den : Int) hm0
    refine ⟨?_, ?_, hne⟩
    · rw [e]; split <;> omega
    · rw [e]; split <;> omega
  obtain ⟨z, hze, z0, z1, n1, n2⟩ := hz
  rw [hze, zn]
  have hzb : z.natAbs < Pq.bp 32 := i64_lt (by omega) (by omega)
  obtain ⟨a, hsc, ha0, ha1⟩ := scn_dec (z := z) (k := k) (nz := p.num) z0 hzb hk.1
  have hsz := dec_size (z := z) (k := k) (nz := p.num) z0 (by omega) hk.1 hk.2
  generalize decS z k p.num = s at *
  have et : (10 : Int) ^ k.toNat ≠ 0 := by omega
  have w2 : IntKind.i64.wrap (2 * 10 ^ k.toNat) = 2 * 10 ^ k.toNat := w_i64 (by omega)
  simp only [Int.toNat_zero, List.drop_zero, hsc, Option.getD_some, w2]
  have iT : in64 (10 ^ k.toNat) := ⟨by omega, by omega⟩
  have iT2 : in64 (2 * 10 ^ k.toNat) := ⟨by omega, by omega⟩
  have i11 : in64 1 := ⟨by omega, by omega⟩
  have Bh : Bd 64 (Rat.divInt 1 (2 * 10 ^ k.toNat)) := bd_divInt (by omega) (pow64 i11) (pow64 iT2)
  have tail : ∀ v : Int, -9223372036854775808 ≤ v ∧ v ≤ 9223372036854775807 → 2 * (p.num * 10 ^ k.toNat - v * p.den) ≤ p.den → -(p.den : Int) ≤ 2 * (p.num * 10 ^ k.toNat - v * p.den) →
      Bd 64 (Rat.divInt v (10 ^ k.toNat)) ∧ p - Rat.divInt v (10 ^ k.toNat) ≤ Rat.divInt 1 (2 * 10 ^ k.toNat) ∧ Rat.divInt v (10 ^ k.toNat) - p ≤ Rat.divInt 1 (2 * 10 ^ k.toNat) := fun v hv h1 h2 => by
    have ep := Rat.num_divInt_den p
    refine ⟨bd_divInt et (pow64 hv) (pow64 iT), ?_, ?_⟩
    · conv => lhs; rw [← ep]
      exact near_q hden t0 h1
    · conv => lhs; rw [← ep]
      exact near_q' hden t0 h2
  have last : ((k == 0) == decide (a < 0)) = true := by
    by_cases h : k = 0
    · rw [ha0 h, h]; rfl
    · have := ha1 (by omega)
      have h1 : (k == 0) = false := by simpa using h
      have h2 : decide (a < 0) = false := decide_eq_false (by omega)
      rw [h1, h2]; rfl
  have fin : decide (a < 0) = false → (IntKind.i64.wrap (IntKind.i64.wrap ((s.size : Int) - a) - 1) == k) = true := fun h => by
    have h := of_decide_eq_false h
    have hk0 : 0 < k := by
      rcases Int.lt_or_eq_of_le hk.1 with h' | h'
      · exact h'
      · have := ha0 h'.symm; omega
    obtain ⟨h1, h2⟩ := ha1 hk0
    rw [w_i64 (z := (s.size : Int) - a) (by omega), w_i64 (by omega)]
    simpa using h2
  have ends : ∀ v : Int, Bd 64 (Rat.divInt v (10 ^ k.toNat)) → p - Rat.divInt v (10 ^ k.toNat) ≤ Rat.divInt 1 (2 * 10 ^ k.toNat) → Rat.divInt v (10 ^ k.toNat) - p ≤ Rat.divInt 1 (2 * 10 ^ k.toNat) →
      both (rOf p) (rOf (Rat.divInt v (10 ^ k.toNat))) = true ∧ both (rOf (Rat.divInt v (10 ^ k.toNat))) (rOf p) = true ∧ qF (rOf p) = p ∧ qF (rOf (Rat.divInt v (10 ^ k.toNat))) = Rat.divInt v (10 ^ k.toNat) ∧
      both (rOf (p - Rat.divInt v (10 ^ k.toNat))) (rOf (Rat.divInt 1 (2 * 10 ^ k.toNat))) = true ∧ both (rOf (Rat.divInt v (10 ^ k.toNat) - p)) (rOf (Rat.divInt 1 (2 * 10 ^ k.toNat))) = true ∧
      decide (cq (qF (rOf (p - Rat.divInt v (10 ^ k.toNat)))) (qF (rOf (Rat.divInt 1 (2 * 10 ^ k.toNat)))) ≤ 0) = true ∧ decide (cq (qF (rOf (Rat.divInt v (10 ^ k.toNat) - p))) (qF (rOf (Rat.divInt 1 (2 * 10 ^ k.toNat)))) ≤ 0) = true := fun v Bv h1 h2 => by
    have B1 : Bd 129 (p - Rat.divInt v (10 ^ k.toNat)) := bd_sub Bp Bv
    have B2 : Bd 129 (Rat.divInt v (10 ^ k.toNat) - p) := bd_sub Bv Bp
    refine ⟨both_rOf Bp Bv (by decide) (by decide), both_rOf Bv Bp (by decide) (by decide), q_rOf Bp (by decide), q_rOf Bv (by decide), both_rOf B1 Bh (by decide) (by decide), both_rOf B2 Bh (by decide) (by decide), ?_, ?_⟩
    · rw [q_rOf B1 (by decide), q_rOf Bh (by decide)]; exact decide_eq_true (cq_le.2 h1)
    · rw [q_rOf B2 (by decide), q_rOf Bh (by decide)]; exact decide_eq_true (cq_le.2 h2)
  have neF : ∀ {x : Bool}, x = true → x = false → False := fun h h' => by rw [h] at h'; cases h'
  refine ⟨fun h => (by cases h), fun _ => ⟨⟨⟨i1, i2⟩, decide_eq_true (by omega)⟩, by decide, safeF_iff.2 hfs.1, fun h => (by cases h), fun _ => ⟨fun h => (by cases h), fun _ => ⟨⟨by omega, by omega, hsz, by omega, _, by rw [Int.toNat_zero, List.drop_zero]; exact hsc, by show z ≤ _; omega⟩, fun hneg => ?_, fun hneg => ?_⟩⟩⟩⟩
  · have hneg := of_decide_eq_true hneg
    have w0 : IntKind.i64.wrap (0 - z) = -z := by rw [w_i64 (by omega)]; omega
    rw [w0]
    have ea : (p.num.natAbs : Int) = -p.num := by omega
    have eb : (p.num.natAbs : Int) * 10 ^ k.toNat = -(p.num * 10 ^ k.toNat) := by rw [ea, Int.neg_mul]
    rw [eb] at n1 n2
    have ec : (-z) * (p.den : Int) = -(z * p.den) := Int.neg_mul _ _
    obtain ⟨Bv, h1, h2⟩ := tail (-z) (by omega) (by rw [ec]; omega) (by rw [ec]; omega)
    obtain ⟨b1, b2, q1, q2, b3, b4, c1, c2⟩ := ends (-z) Bv h1 h2
    rw [q1, q2]
    exact ⟨⟨by omega, hk.1, hk.2, rfl⟩, ⟨⟨⟨by omega, by omega⟩, iT⟩, decide_eq_true et⟩, b1, ⟨⟨i11, iT2⟩, decide_eq_true (by omega)⟩, fun _ => ⟨b2, b4, fun _ => ⟨fun _ => ⟨fun _ => trivial, fun h => by rw [fin h]⟩, fun h => (neF last h).elim⟩, fun h => (neF c2 h).elim⟩, fun _ => ⟨b3, fun _ => ⟨fun _ => ⟨fun _ => trivial, fun h => by rw [fin h]⟩, fun h => (neF last h).elim⟩, fun h => (neF c1 h).elim⟩⟩
  · have hneg := of_decide_eq_false hneg
    have hcase : 2 * (p.num * 10 ^ k.toNat - z * p.den) ≤ p.den ∧ -(p.den : Int) ≤ 2 * (p.num * 10 ^ k.toNat - z * p.den) := by
      by_cases hz0 : z = 0
      · subst hz0
        rw [Int.zero_mul] at n1 n2 ⊢
        by_cases hs : p.num < 0
        · have eb : (p.num.natAbs : Int) * 10 ^ k.toNat = -(p.num * 10 ^ k.toNat) := by rw [show (p.num.natAbs : Int) = -p.num by omega, Int.neg_mul]
          rw [eb] at n1 n2
          omega
        · rw [show (p.num.natAbs : Int) = p.num by omega] at n1 n2
          exact ⟨n1, n2⟩
      · have hs : ¬ p.num < 0 := fun h => hneg ⟨h, hz0⟩
        rw [show (p.num.natAbs : Int) = p.num by omega] at n1 n2
        exact ⟨n1, n2⟩
    obtain ⟨Bv, h1, h2⟩ := tail z (by omega) hcase.1 hcase.2
    obtain ⟨b1, b2, q1, q2, b3, b4, c1, c2⟩ := ends z Bv h1 h2
    rw [q1, q2]
    exact ⟨⟨by omega, hk.1, hk.2, rfl⟩, ⟨⟨⟨by omega, by omega⟩, iT⟩, decide_eq_true et⟩, b1, ⟨⟨i11, iT2⟩, decide_eq_true (by omega)⟩, fun _ => ⟨b2, b4, fun _ => ⟨fun _ => ⟨fun _ => trivial, fun h => by rw [fin h]⟩, fun h => (neF last h).elim⟩, fun h => (neF c2 h).elim⟩, fun _ => ⟨b3, fun _ => ⟨fun _ => ⟨fun _ => trivial, fun h => by rw [fin h]⟩, fun h => (neF last h).elim⟩, fun h => (neF c1 h).elim⟩⟩
end Go.Proofs.Ytjijakfcahhioaa
