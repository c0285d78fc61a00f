import Derived.ProofKit
import Derived.OpenShut
import Derived.Deep.Slices
import Derived.Test.YtjijakfcahhioaaGreatRows
import Derived.Test.YtjijakfcahhioaaGreatK5
/-
The reference: both.
-/
set_option linter.unusedSimpArgs false
set_option linter.unusedVariables false
namespace Go.Proofs.YtjijakfcahhioaaGreat
open Go.RowKit Ax
noncomputable def tr_pboth (x : Els [(true, cF), (true, cF)]) : T Av :=
 .ite (safeF (500 : Int) (x.1))
  (.ret (.one (.v (.bool (safeF (500 : Int) x.2.1)))))
  (.ret (.one (.v (.bool (false)))))
theorem tr_pboth_eq (x : Els [(true, cF), (true, cF)]) : fnP E36 (fun _ => none) Tryz.f39 (encs [(true, cF), (true, cF)] x) = tr_pboth x := by kernel_rfl
noncomputable def con_pboth : Con Tryz.prog := ⟨39, [], _, cf_pboth, tot_con (E := E36) mixed Tryz.func39 no_loops [(true, cF), (true, cF)] (fun x => aB (both x.1 x.2.1)) fun x => by
  rw [tr_pboth_eq]
  obtain ⟨a, b, u⟩ := x
  revert a b
  intro (a : F) (b : F)
  unfold tr_pboth
  simp only [T.wp]
  unfold both
  refine ⟨fun h => ?_, fun h => ?_⟩
  · have h : safeF 500 a = true := h
    rw [h]; rfl
  · have h : safeF 500 a = false := h
    rw [h]; rfl⟩
noncomputable def E37 : Env Tryz.prog := E36.add [con_pboth]
end Go.Proofs.YtjijakfcahhioaaGreat
/-
The reference: trees of CmpRat, plus, MulRat, DivRat.
-/
set_option linter.unusedSimpArgs false
set_option linter.unusedVariables false
namespace Go.Proofs.YtjijakfcahhioaaGreat
open Go.RowKit Ax
noncomputable def tr_pCmpRat (x : Els [(true, cF), (true, cF)]) : T Av :=
 .ite (tyB (x.1) && tyB x.2.1)
  (.ite (decide (IntKind.wrap .i64 (zW x.1.1 * zW x.2.1.2) < IntKind.wrap .i64 (zW x.2.1.1 * zW x.1.2)))
   (.ret (.tup [(.one (.v (.int .i64 ((-1 : Int))))), (.one (.v (.bool (true))))]))
   (.ite (decide (IntKind.wrap .i64 (zW x.1.1 * zW x.2.1.2) > IntKind.wrap .i64 (zW x.2.1.1 * zW x.1.2)))
    (.ret (.tup [(.one (.v (.int .i64 ((1 : Int))))), (.one (.v (.bool (true))))]))
    (.ret (.tup [(.one (.v (.int .i64 ((0 : Int))))), (.one (.v (.bool (true))))]))))
  (.ite (!both (x.1) x.2.1)
   (.ret (.tup [(.one (.v (.int .i64 ((0 : Int))))), (.one (.v (.bool (false))))]))
   (.ret (.tup [(.one (.v (.int .i64 (Pq.cz (zW (wOf (zW x.1.1 * zW x.2.1.2))) (zW (wOf (zW x.2.1.1 * zW x.1.2))))))), (.one (.v (.bool (true))))])))
theorem tr_pCmpRat_eq (x : Els [(true, cF), (true, cF)]) : fnP E37 (fun _ => none) Tryz.f6 (encs [(true, cF), (true, cF)] x) = tr_pCmpRat x := by kernel_rfl
noncomputable def tr_pplus (x : Els [(true, cF), (true, cF), (false, .bool)]) : T Av :=
 .ite (tyB (x.1) && tyB x.2.1)
  (.ite x.2.2.1
   (.need ((-9223372036854775808 : El (Cd.int .i64)) < IntKind.wrap .i64 (IntKind.wrap .i64 (zW x.1.1 * zW x.2.1.2) + IntKind.wrap .i64 (IntKind.wrap .i64 ((0 : Int) - zW x.2.1.1) * zW x.1.2)) ∧ IntKind.wrap .i64 (IntKind.wrap .i64 (zW x.1.1 * zW x.2.1.2) + IntKind.wrap .i64 (IntKind.wrap .i64 ((0 : Int) - zW x.2.1.1) * zW x.1.2)) < (9223372036854775808 : El (Cd.int .i64)) ∧ (0 : El (Cd.int .i64)) < IntKind.wrap .i64 (zW x.1.2 * zW x.2.1.2) ∧ IntKind.wrap .i64 (zW x.1.2 * zW x.2.1.2) < (9223372036854775808 : El (Cd.int .i64))) (.ret (.tup [(.agg [.v (.bool (rOf (Rat.divInt (IntKind.wrap .i64 (IntKind.wrap .i64 (zW x.1.1 * zW x.2.1.2) + IntKind.wrap .i64 (IntKind.wrap .i64 ((0 : Int) - zW x.2.1.1) * zW x.1.2))) (IntKind.wrap .i64 (zW x.1.2 * zW x.2.1.2)))).1.1), .w (rOf (Rat.divInt (IntKind.wrap .i64 (IntKind.wrap .i64 (zW x.1.1 * zW x.2.1.2) + IntKind.wrap .i64 (IntKind.wrap .i64 ((0 : Int) - zW x.2.1.1) * zW x.1.2))) (IntKind.wrap .i64 (zW x.1.2 * zW x.2.1.2)))).1.2, .v (.bool (rOf (Rat.divInt (IntKind.wrap .i64 (IntKind.wrap .i64 (zW x.1.1 * zW x.2.1.2) + IntKind.wrap .i64 (IntKind.wrap .i64 ((0 : Int) - zW x.2.1.1) * zW x.1.2))) (IntKind.wrap .i64 (zW x.1.2 * zW x.2.1.2)))).2.1), .w (rOf (Rat.divInt (IntKind.wrap .i64 (IntKind.wrap .i64 (zW x.1.1 * zW x.2.1.2) + IntKind.wrap .i64 (IntKind.wrap .i64 ((0 : Int) - zW x.2.1.1) * zW x.1.2))) (IntKind.wrap .i64 (zW x.1.2 * zW x.2.1.2)))).2.2]), (.one (.v (.bool (true))))])))
   (.need ((-9223372036854775808 : El (Cd.int .i64)) < IntKind.wrap .i64 (IntKind.wrap .i64 (zW x.1.1 * zW x.2.1.2) + IntKind.wrap .i64 (zW x.2.1.1 * zW x.1.2)) ∧ IntKind.wrap .i64 (IntKind.wrap .i64 (zW x.1.1 * zW x.2.1.2) + IntKind.wrap .i64 (zW x.2.1.1 * zW x.1.2)) < (9223372036854775808 : El (Cd.int .i64)) ∧ (0 : El (Cd.int .i64)) < IntKind.wrap .i64 (zW x.1.2 * zW x.2.1.2) ∧ IntKind.wrap .i64 (zW x.1.2 * zW x.2.1.2) < (9223372036854775808 : El (Cd.int .i64))) (.ret (.tup [(.agg [.v (.bool (rOf (Rat.divInt (IntKind.wrap .i64 (IntKind.wrap .i64 (zW x.1.1 * zW x.2.1.2) + IntKind.wrap .i64 (zW x.2.1.1 * zW x.1.2))) (IntKind.wrap .i64 (zW x.1.2 * zW x.2.1.2)))).1.1), .w (rOf (Rat.divInt (IntKind.wrap .i64 (IntKind.wrap .i64 (zW x.1.1 * zW x.2.1.2) + IntKind.wrap .i64 (zW x.2.1.1 * zW x.1.2))) (IntKind.wrap .i64 (zW x.1.2 * zW x.2.1.2)))).1.2, .v (.bool (rOf (Rat.divInt (IntKind.wrap .i64 (IntKind.wrap .i64 (zW x.1.1 * zW x.2.1.2) + IntKind.wrap .i64 (zW x.2.1.1 * zW x.1.2))) (IntKind.wrap .i64 (zW x.1.2 * zW x.2.1.2)))).2.1), .w (rOf (Rat.divInt (IntKind.wrap .i64 (IntKind.wrap .i64 (zW x.1.1 * zW x.2.1.2) + IntKind.wrap .i64 (zW x.2.1.1 * zW x.1.2))) (IntKind.wrap .i64 (zW x.1.2 * zW x.2.1.2)))).2.2]), (.one (.v (.bool (true))))]))))
  (.ite (!both (x.1) x.2.1)
   (.ret (.tup [(.agg [.v (.bool w0.1), .w w0.2, .v (.bool w0.1), .w w0.2]), (.one (.v (.bool (false))))]))
   (.need (List.length (mg x.1.1.2.1) ≤ (1000000 : Nat) ∧ List.length (mg x.2.1.2.2.1) ≤ (1000000 : Nat) ∧ Words (mg x.1.1.2.1) ∧ Words (mg x.2.1.2.2.1)) (.need (List.length (mg x.2.1.1.2.1) ≤ (1000000 : Nat) ∧ List.length (mg x.1.2.2.1) ≤ (1000000 : Nat) ∧ Words (mg x.2.1.1.2.1) ∧ Words (mg x.1.2.2.1)) (.need (mg (valL (mg x.1.1.2.1) * valL (mg x.2.1.2.2.1)) = mg (valL (mg (valL (mg x.1.1.2.1) * valL (mg x.2.1.2.2.1)))) ∧ mg (valL (mg x.2.1.1.2.1) * valL (mg x.1.2.2.1)) = mg (valL (mg (valL (mg x.2.1.1.2.1) * valL (mg x.1.2.2.1)))) ∧ List.length (mg (valL (mg x.1.1.2.1) * valL (mg x.2.1.2.2.1))) ≤ (1000000 : Nat) ∧ List.length (mg (valL (mg x.2.1.1.2.1) * valL (mg x.1.2.2.1))) ≤ (1000000 : Nat)) (.need (List.length (mg x.1.2.2.1) ≤ (1000000 : Nat) ∧ List.length (mg x.2.1.2.2.1) ≤ (1000000 : Nat) ∧ Words (mg x.1.2.2.1) ∧ Words (mg x.2.1.2.2.1)) (.need (mg (sS (x.1.1.1 && decide (x.1.1.2.1 ≠ (0 : Nat))) (valL (mg (valL (mg x.1.1.2.1) * valL (mg x.2.1.2.2.1)))) (!(x.2.1.1.1 && decide (x.2.1.1.2.1 ≠ (0 : Nat))) == x.2.2.1) (valL (mg (valL (mg x.2.1.1.2.1) * valL (mg x.1.2.2.1))))).2 = mg (valL (mg (sS (x.1.1.1 && decide (x.1.1.2.1 ≠ (0 : Nat))) (valL (mg (valL (mg x.1.1.2.1) * valL (mg x.2.1.2.2.1)))) (!(x.2.1.1.1 && decide (x.2.1.1.2.1 ≠ (0 : Nat))) == x.2.2.1) (valL (mg (valL (mg x.2.1.1.2.1) * valL (mg x.1.2.2.1))))).2)) ∧ mg (valL (mg x.1.2.2.1) * valL (mg x.2.1.2.2.1)) = mg (valL (mg (valL (mg x.1.2.2.1) * valL (mg x.2.1.2.2.1)))) ∧ valL (mg (sS (x.1.1.1 && decide (x.1.1.2.1 ≠ (0 : Nat))) (valL (mg (valL (mg x.1.1.2.1) * valL (mg x.2.1.2.2.1)))) (!(x.2.1.1.1 && decide (x.2.1.1.2.1 ≠ (0 : Nat))) == x.2.2.1) (valL (mg (valL (mg x.2.1.1.2.1) * valL (mg x.1.2.2.1))))).2) < Pq.bp (32 : Nat) ∧ valL (mg (valL (mg x.1.2.2.1) * valL (mg x.2.1.2.2.1))) < Pq.bp (32 : Nat) ∧ valL (mg (valL (mg x.1.2.2.1) * valL (mg x.2.1.2.2.1))) ≠ (0 : Nat)) (.ret (.tup [(.agg [.v (.bool (rOf (Rat.divInt (Pq.zv (sS (x.1.1.1 && decide (x.1.1.2.1 ≠ (0 : Nat))) (valL (mg (valL (mg x.1.1.2.1) * valL (mg x.2.1.2.2.1)))) (!(x.2.1.1.1 && decide (x.2.1.1.2.1 ≠ (0 : Nat))) == x.2.2.1) (valL (mg (valL (mg x.2.1.1.2.1) * valL (mg x.1.2.2.1))))).1 (valL (mg (sS (x.1.1.1 && decide (x.1.1.2.1 ≠ (0 : Nat))) (valL (mg (valL (mg x.1.1.2.1) * valL (mg x.2.1.2.2.1)))) (!(x.2.1.1.1 && decide (x.2.1.1.2.1 ≠ (0 : Nat))) == x.2.2.1) (valL (mg (valL (mg x.2.1.1.2.1) * valL (mg x.1.2.2.1))))).2))) (↑(valL (mg (valL (mg x.1.2.2.1) * valL (mg x.2.1.2.2.1)))) : Int))).1.1), .w (rOf (Rat.divInt (Pq.zv (sS (x.1.1.1 && decide (x.1.1.2.1 ≠ (0 : Nat))) (valL (mg (valL (mg x.1.1.2.1) * valL (mg x.2.1.2.2.1)))) (!(x.2.1.1.1 && decide (x.2.1.1.2.1 ≠ (0 : Nat))) == x.2.2.1) (valL (mg (valL (mg x.2.1.1.2.1) * valL (mg x.1.2.2.1))))).1 (valL (mg (sS (x.1.1.1 && decide (x.1.1.2.1 ≠ (0 : Nat))) (valL (mg (valL (mg x.1.1.2.1) * valL (mg x.2.1.2.2.1)))) (!(x.2.1.1.1 && decide (x.2.1.1.2.1 ≠ (0 : Nat))) == x.2.2.1) (valL (mg (valL (mg x.2.1.1.2.1) * valL (mg x.1.2.2.1))))).2))) (↑(valL (mg (valL (mg x.1.2.2.1) * valL (mg x.2.1.2.2.1)))) : Int))).1.2, .v (.bool (rOf (Rat.divInt (Pq.zv (sS (x.1.1.1 && decide (x.1.1.2.1 ≠ (0 : Nat))) (valL (mg (valL (mg x.1.1.2.1) * valL (mg x.2.1.2.2.1)))) (!(x.2.1.1.1 && decide (x.2.1.1.2.1 ≠ (0 : Nat))) == x.2.2.1) (valL (mg (valL (mg x.2.1.1.2.1) * valL (mg x.1.2.2.1))))).1 (valL (mg (sS (x.1.1.1 && decide (x.1.1.2.1 ≠ (0 : Nat))) (valL (mg (valL (mg x.1.1.2.1) * valL (mg x.2.1.2.2.1)))) (!(x.2.1.1.1 && decide (x.2.1.1.2.1 ≠ (0 : Nat))) == x.2.2.1) (valL (mg (valL (mg x.2.1.1.2.1) * valL (mg x.1.2.2.1))))).2))) (↑(valL (mg (valL (mg x.1.2.2.1) * valL (mg x.2.1.2.2.1)))) : Int))).2.1), .w (rOf (Rat.divInt (Pq.zv (sS (x.1.1.1 && decide (x.1.1.2.1 ≠ (0 : Nat))) (valL (mg (valL (mg x.1.1.2.1) * valL (mg x.2.1.2.2.1)))) (!(x.2.1.1.1 && decide (x.2.1.1.2.1 ≠ (0 : Nat))) == x.2.2.1) (valL (mg (valL (mg x.2.1.1.2.1) * valL (mg x.1.2.2.1))))).1 (valL (mg (sS (x.1.1.1 && decide (x.1.1.2.1 ≠ (0 : Nat))) (valL (mg (valL (mg x.1.1.2.1) * valL (mg x.2.1.2.2.1)))) (!(x.2.1.1.1 && decide (x.2.1.1.2.1 ≠ (0 : Nat))) == x.2.2.1) (valL (mg (valL (mg x.2.1.1.2.1) * valL (mg x.1.2.2.1))))).2))) (↑(valL (mg (valL (mg x.1.2.2.1) * valL (mg x.2.1.2.2.1)))) : Int))).2.2]), (.one (.v (.bool (true))))]))))))))
theorem tr_pplus_eq (x : Els [(true, cF), (true, cF), (false, .bool)]) : fnP E37 (fun _ => none) Tryz.f45 (encs [(true, cF), (true, cF), (false, .bool)] x) = tr_pplus x := by kernel_rfl
noncomputable def tr_pMulRat (x : Els [(true, cF), (true, cF)]) : T Av :=
 .ite (tyB (x.1) && tyB x.2.1)
  (.need ((-9223372036854775808 : El (Cd.int .i64)) < IntKind.wrap .i64 (zW x.1.1 * zW x.2.1.1) ∧ IntKind.wrap .i64 (zW x.1.1 * zW x.2.1.1) < (9223372036854775808 : El (Cd.int .i64)) ∧ (0 : El (Cd.int .i64)) < IntKind.wrap .i64 (zW x.1.2 * zW x.2.1.2) ∧ IntKind.wrap .i64 (zW x.1.2 * zW x.2.1.2) < (9223372036854775808 : El (Cd.int .i64))) (.ret (.tup [(.agg [.v (.bool (rOf (Rat.divInt (IntKind.wrap .i64 (zW x.1.1 * zW x.2.1.1)) (IntKind.wrap .i64 (zW x.1.2 * zW x.2.1.2)))).1.1), .w (rOf (Rat.divInt (IntKind.wrap .i64 (zW x.1.1 * zW x.2.1.1)) (IntKind.wrap .i64 (zW x.1.2 * zW x.2.1.2)))).1.2, .v (.bool (rOf (Rat.divInt (IntKind.wrap .i64 (zW x.1.1 * zW x.2.1.1)) (IntKind.wrap .i64 (zW x.1.2 * zW x.2.1.2)))).2.1), .w (rOf (Rat.divInt (IntKind.wrap .i64 (zW x.1.1 * zW x.2.1.1)) (IntKind.wrap .i64 (zW x.1.2 * zW x.2.1.2)))).2.2]), (.one (.v (.bool (true))))])))
  (.ite (!both (x.1) x.2.1)
   (.ret (.tup [(.agg [.v (.bool w0.1), .w w0.2, .v (.bool w0.1), .w w0.2]), (.one (.v (.bool (false))))]))
   (.need (List.length (mg x.1.1.2.1) ≤ (1000000 : Nat) ∧ List.length (mg x.2.1.1.2.1) ≤ (1000000 : Nat) ∧ Words (mg x.1.1.2.1) ∧ Words (mg x.2.1.1.2.1)) (.need (List.length (mg x.1.2.2.1) ≤ (1000000 : Nat) ∧ List.length (mg x.2.1.2.2.1) ≤ (1000000 : Nat) ∧ Words (mg x.1.2.2.1) ∧ Words (mg x.2.1.2.2.1)) (.need (mg (valL (mg x.1.1.2.1) * valL (mg x.2.1.1.2.1)) = mg (valL (mg (valL (mg x.1.1.2.1) * valL (mg x.2.1.1.2.1)))) ∧ mg (valL (mg x.1.2.2.1) * valL (mg x.2.1.2.2.1)) = mg (valL (mg (valL (mg x.1.2.2.1) * valL (mg x.2.1.2.2.1)))) ∧ valL (mg (valL (mg x.1.1.2.1) * valL (mg x.2.1.1.2.1))) < Pq.bp (32 : Nat) ∧ valL (mg (valL (mg x.1.2.2.1) * valL (mg x.2.1.2.2.1))) < Pq.bp (32 : Nat) ∧ valL (mg (valL (mg x.1.2.2.1) * valL (mg x.2.1.2.2.1))) ≠ (0 : Nat)) (.ret (.tup [(.agg [.v (.bool (rOf (Rat.divInt (Pq.zv (!(x.1.1.1 && decide (x.1.1.2.1 ≠ (0 : Nat))) == (x.2.1.1.1 && decide (x.2.1.1.2.1 ≠ (0 : Nat)))) (valL (mg (valL (mg x.1.1.2.1) * valL (mg x.2.1.1.2.1))))) (↑(valL (mg (valL (mg x.1.2.2.1) * valL (mg x.2.1.2.2.1)))) : Int))).1.1), .w (rOf (Rat.divInt (Pq.zv (!(x.1.1.1 && decide (x.1.1.2.1 ≠ (0 : Nat))) == (x.2.1.1.1 && decide (x.2.1.1.2.1 ≠ (0 : Nat)))) (valL (mg (valL (mg x.1.1.2.1) * valL (mg x.2.1.1.2.1))))) (↑(valL (mg (valL (mg x.1.2.2.1) * valL (mg x.2.1.2.2.1)))) : Int))).1.2, .v (.bool (rOf (Rat.divInt (Pq.zv (!(x.1.1.1 && decide (x.1.1.2.1 ≠ (0 : Nat))) == (x.2.1.1.1 && decide (x.2.1.1.2.1 ≠ (0 : Nat)))) (valL (mg (valL (mg x.1.1.2.1) * valL (mg x.2.1.1.2.1))))) (↑(valL (mg (valL (mg x.1.2.2.1) * valL (mg x.2.1.2.2.1)))) : Int))).2.1), .w (rOf (Rat.divInt (Pq.zv (!(x.1.1.1 && decide (x.1.1.2.1 ≠ (0 : Nat))) == (x.2.1.1.1 && decide (x.2.1.1.2.1 ≠ (0 : Nat)))) (valL (mg (valL (mg x.1.1.2.1) * valL (mg x.2.1.1.2.1))))) (↑(valL (mg (valL (mg x.1.2.2.1) * valL (mg x.2.1.2.2.1)))) : Int))).2.2]), (.one (.v (.bool (true))))]))))))
theorem tr_pMulRat_eq (x : Els [(true, cF), (true, cF)]) : fnP E37 (fun _ => none) Tryz.f12 (encs [(true, cF), (true, cF)] x) = tr_pMulRat x := by kernel_rfl
noncomputable def tr_pDivRat (x : Els [(true, cF), (true, cF)]) : T Av :=
 .ite (tyB (x.1) && tyB x.2.1)
  (.ite (zW x.2.1.1 != (0 : Int))
   (.ite (decide (zW x.2.1.1 < (0 : Int)))
    (.need ((-9223372036854775808 : El (Cd.int .i64)) < IntKind.wrap .i64 (IntKind.wrap .i64 ((0 : Int) - zW x.1.1) * zW x.2.1.2) ∧ IntKind.wrap .i64 (IntKind.wrap .i64 ((0 : Int) - zW x.1.1) * zW x.2.1.2) < (9223372036854775808 : El (Cd.int .i64)) ∧ (0 : El (Cd.int .i64)) < IntKind.wrap .i64 (zW x.1.2 * IntKind.wrap .i64 ((0 : Int) - zW x.2.1.1)) ∧ IntKind.wrap .i64 (zW x.1.2 * IntKind.wrap .i64 ((0 : Int) - zW x.2.1.1)) < (9223372036854775808 : El (Cd.int .i64))) (.ret (.tup [(.agg [.v (.bool (rOf (Rat.divInt (IntKind.wrap .i64 (IntKind.wrap .i64 ((0 : Int) - zW x.1.1) * zW x.2.1.2)) (IntKind.wrap .i64 (zW x.1.2 * IntKind.wrap .i64 ((0 : Int) - zW x.2.1.1))))).1.1), .w (rOf (Rat.divInt (IntKind.wrap .i64 (IntKind.wrap .i64 ((0 : Int) - zW x.1.1) * zW x.2.1.2)) (IntKind.wrap .i64 (zW x.1.2 * IntKind.wrap .i64 ((0 : Int) - zW x.2.1.1))))).1.2, .v (.bool (rOf (Rat.divInt (IntKind.wrap .i64 (IntKind.wrap .i64 ((0 : Int) - zW x.1.1) * zW x.2.1.2)) (IntKind.wrap .i64 (zW x.1.2 * IntKind.wrap .i64 ((0 : Int) - zW x.2.1.1))))).2.1), .w (rOf (Rat.divInt (IntKind.wrap .i64 (IntKind.wrap .i64 ((0 : Int) - zW x.1.1) * zW x.2.1.2)) (IntKind.wrap .i64 (zW x.1.2 * IntKind.wrap .i64 ((0 : Int) - zW x.2.1.1))))).2.2]), (.one (.v (.bool (true))))])))
    (.need ((-9223372036854775808 : El (Cd.int .i64)) < IntKind.wrap .i64 (zW x.1.1 * zW x.2.1.2) ∧ IntKind.wrap .i64 (zW x.1.1 * zW x.2.1.2) < (9223372036854775808 : El (Cd.int .i64)) ∧ (0 : El (Cd.int .i64)) < IntKind.wrap .i64 (zW x.1.2 * zW x.2.1.1) ∧ IntKind.wrap .i64 (zW x.1.2 * zW x.2.1.1) < (9223372036854775808 : El (Cd.int .i64))) (.ret (.tup [(.agg [.v (.bool (rOf (Rat.divInt (IntKind.wrap .i64 (zW x.1.1 * zW x.2.1.2)) (IntKind.wrap .i64 (zW x.1.2 * zW x.2.1.1)))).1.1), .w (rOf (Rat.divInt (IntKind.wrap .i64 (zW x.1.1 * zW x.2.1.2)) (IntKind.wrap .i64 (zW x.1.2 * zW x.2.1.1)))).1.2, .v (.bool (rOf (Rat.divInt (IntKind.wrap .i64 (zW x.1.1 * zW x.2.1.2)) (IntKind.wrap .i64 (zW x.1.2 * zW x.2.1.1)))).2.1), .w (rOf (Rat.divInt (IntKind.wrap .i64 (zW x.1.1 * zW x.2.1.2)) (IntKind.wrap .i64 (zW x.1.2 * zW x.2.1.1)))).2.2]), (.one (.v (.bool (true))))]))))
   (.ite (!both (x.1) x.2.1)
    (.ret (.tup [(.agg [.v (.bool w0.1), .w w0.2, .v (.bool w0.1), .w w0.2]), (.one (.v (.bool (false))))]))
    (.ite (Pq.cz (zW x.2.1.1) (0 : Int) == (0 : Int))
     (.ret (.tup [(.agg [.v (.bool w0.1), .w w0.2, .v (.bool w0.1), .w w0.2]), (.one (.v (.bool (false))))]))
     (.need (List.length (mg x.1.1.2.1) ≤ (1000000 : Nat) ∧ List.length (mg x.2.1.2.2.1) ≤ (1000000 : Nat) ∧ Words (mg x.1.1.2.1) ∧ Words (mg x.2.1.2.2.1)) (.need (List.length (mg x.1.2.2.1) ≤ (1000000 : Nat) ∧ List.length (mg x.2.1.1.2.1) ≤ (1000000 : Nat) ∧ Words (mg x.1.2.2.1) ∧ Words (mg x.2.1.1.2.1)) (.need (mg (valL (mg x.1.1.2.1) * valL (mg x.2.1.2.2.1)) = mg (valL (mg (valL (mg x.1.1.2.1) * valL (mg x.2.1.2.2.1)))) ∧ mg (valL (mg x.1.2.2.1) * valL (mg x.2.1.1.2.1)) = mg (valL (mg (valL (mg x.1.2.2.1) * valL (mg x.2.1.1.2.1)))) ∧ valL (mg (valL (mg x.1.1.2.1) * valL (mg x.2.1.2.2.1))) < Pq.bp (32 : Nat) ∧ valL (mg (valL (mg x.1.2.2.1) * valL (mg x.2.1.1.2.1))) < Pq.bp (32 : Nat) ∧ valL (mg (valL (mg x.1.2.2.1) * valL (mg x.2.1.1.2.1))) ≠ (0 : Nat)) (.ret (.tup [(.agg [.v (.bool (rOf (Rat.divInt (Pq.zv (!(x.1.1.1 && decide (x.1.1.2.1 ≠ (0 : Nat))) == (x.2.1.1.1 && decide (x.2.1.1.2.1 ≠ (0 : Nat)))) (valL (mg (valL (mg x.1.1.2.1) * valL (mg x.2.1.2.2.1))))) (↑(valL (mg (valL (mg x.1.2.2.1) * valL (mg x.2.1.1.2.1)))) : Int))).1.1), .w (rOf (Rat.divInt (Pq.zv (!(x.1.1.1 && decide (x.1.1.2.1 ≠ (0 : Nat))) == (x.2.1.1.1 && decide (x.2.1.1.2.1 ≠ (0 : Nat)))) (valL (mg (valL (mg x.1.1.2.1) * valL (mg x.2.1.2.2.1))))) (↑(valL (mg (valL (mg x.1.2.2.1) * valL (mg x.2.1.1.2.1)))) : Int))).1.2, .v (.bool (rOf (Rat.divInt (Pq.zv (!(x.1.1.1 && decide (x.1.1.2.1 ≠ (0 : Nat))) == (x.2.1.1.1 && decide (x.2.1.1.2.1 ≠ (0 : Nat)))) (valL (mg (valL (mg x.1.1.2.1) * valL (mg x.2.1.2.2.1))))) (↑(valL (mg (valL (mg x.1.2.2.1) * valL (mg x.2.1.1.2.1)))) : Int))).2.1), .w (rOf (Rat.divInt (Pq.zv (!(x.1.1.1 && decide (x.1.1.2.1 ≠ (0 : Nat))) == (x.2.1.1.1 && decide (x.2.1.1.2.1 ≠ (0 : Nat)))) (valL (mg (valL (mg x.1.1.2.1) * valL (mg x.2.1.2.2.1))))) (↑(valL (mg (valL (mg x.1.2.2.1) * valL (mg x.2.1.1.2.1)))) : Int))).2.2]), (.one (.v (.bool (true))))]))))))))
  (.ite (!both (x.1) x.2.1)
   (.ret (.tup [(.agg [.v (.bool w0.1), .w w0.2, .v (.bool w0.1), .w w0.2]), (.one (.v (.bool (false))))]))
   (.ite (Pq.cz (zW x.2.1.1) (0 : Int) == (0 : Int))
    (.ret (.tup [(.agg [.v (.bool w0.1), .w w0.2, .v (.bool w0.1), .w w0.2]), (.one (.v (.bool (false))))]))
    (.need (List.length (mg x.1.1.2.1) ≤ (1000000 : Nat) ∧ List.length (mg x.2.1.2.2.1) ≤ (1000000 : Nat) ∧ Words (mg x.1.1.2.1) ∧ Words (mg x.2.1.2.2.1)) (.need (List.length (mg x.1.2.2.1) ≤ (1000000 : Nat) ∧ List.length (mg x.2.1.1.2.1) ≤ (1000000 : Nat) ∧ Words (mg x.1.2.2.1) ∧ Words (mg x.2.1.1.2.1)) (.need (mg (valL (mg x.1.1.2.1) * valL (mg x.2.1.2.2.1)) = mg (valL (mg (valL (mg x.1.1.2.1) * valL (mg x.2.1.2.2.1)))) ∧ mg (valL (mg x.1.2.2.1) * valL (mg x.2.1.1.2.1)) = mg (valL (mg (valL (mg x.1.2.2.1) * valL (mg x.2.1.1.2.1)))) ∧ valL (mg (valL (mg x.1.1.2.1) * valL (mg x.2.1.2.2.1))) < Pq.bp (32 : Nat) ∧ valL (mg (valL (mg x.1.2.2.1) * valL (mg x.2.1.1.2.1))) < Pq.bp (32 : Nat) ∧ valL (mg (valL (mg x.1.2.2.1) * valL (mg x.2.1.1.2.1))) ≠ (0 : Nat)) (.ret (.tup [(.agg [.v (.bool (rOf (Rat.divInt (Pq.zv (!(x.1.1.1 && decide (x.1.1.2.1 ≠ (0 : Nat))) == (x.2.1.1.1 && decide (x.2.1.1.2.1 ≠ (0 : Nat)))) (valL (mg (valL (mg x.1.1.2.1) * valL (mg x.2.1.2.2.1))))) (↑(valL (mg (valL (mg x.1.2.2.1) * valL (mg x.2.1.1.2.1)))) : Int))).1.1), .w (rOf (Rat.divInt (Pq.zv (!(x.1.1.1 && decide (x.1.1.2.1 ≠ (0 : Nat))) == (x.2.1.1.1 && decide (x.2.1.1.2.1 ≠ (0 : Nat)))) (valL (mg (valL (mg x.1.1.2.1) * valL (mg x.2.1.2.2.1))))) (↑(valL (mg (valL (mg x.1.2.2.1) * valL (mg x.2.1.1.2.1)))) : Int))).1.2, .v (.bool (rOf (Rat.divInt (Pq.zv (!(x.1.1.1 && decide (x.1.1.2.1 ≠ (0 : Nat))) == (x.2.1.1.1 && decide (x.2.1.1.2.1 ≠ (0 : Nat)))) (valL (mg (valL (mg x.1.1.2.1) * valL (mg x.2.1.2.2.1))))) (↑(valL (mg (valL (mg x.1.2.2.1) * valL (mg x.2.1.1.2.1)))) : Int))).2.1), .w (rOf (Rat.divInt (Pq.zv (!(x.1.1.1 && decide (x.1.1.2.1 ≠ (0 : Nat))) == (x.2.1.1.1 && decide (x.2.1.1.2.1 ≠ (0 : Nat)))) (valL (mg (valL (mg x.1.1.2.1) * valL (mg x.2.1.2.2.1))))) (↑(valL (mg (valL (mg x.1.2.2.1) * valL (mg x.2.1.1.2.1)))) : Int))).2.2]), (.one (.v (.bool (true))))])))))))
theorem tr_pDivRat_eq (x : Els [(true, cF), (true, cF)]) : fnP E37 (fun _ => none) Tryz.f14 (encs [(true, cF), (true, cF)] x) = tr_pDivRat x := by kernel_rfl
end Go.Proofs.YtjijakfcahhioaaGreat
/-
The reference: CmpRat, plus, MulRat, DivRat.
-/
set_option linter.unusedSimpArgs false
set_option linter.unusedVariables false
namespace Go.Proofs.YtjijakfcahhioaaGreat
open Go.RowKit Ax
theorem ty_z {x : F} (h : tyB x = true) : (zW x.1).natAbs < 2147483648 ∧ (zW x.2).natAbs < 2147483648 ∧ 0 < zW x.2 := by
  obtain ⟨h1, h2, h3, h4, h5, h6⟩ := of_decide_eq_true h
  have e : zW x.2 = x.2.2.1 := by
    unfold zW Pq.zv
    rw [h3]; rfl
  refine ⟨?_, ?_, by rw [e]; omega⟩
  · unfold zW; rw [Pq.zv_abs]; exact h1
  · unfold zW; rw [Pq.zv_abs]; exact h2
theorem ty_safe {x : F} (h : tyB x = true) : SafeF 500 x := by
  obtain ⟨h1, h2, h3⟩ := ty_z h
  have k : ∀ n : Nat, n < 2147483648 → Pq.bitn n ≤ 31 := fun n hn => Pq.bitn_le.2 (by simpa using hn)
  have := k _ h1
  have := k _ h2
  exact ⟨by omega, by omega, ty_ok h⟩
theorem ty_both {x y : F} (h : (tyB x && tyB y) = true) : both x y = true := by
  rw [Bool.and_eq_true] at h
  exact both_iff.2 ⟨ty_safe h.1, ty_safe h.2⟩
theorem mul_t {a b : Int} (ha : a.natAbs < 2147483648) (hb : b.natAbs < 2147483648) : -4611686018427387904 < a * b ∧ a * b < 4611686018427387904 := by
  have h : (a * b).natAbs < 4611686018427387904 := by
    rw [Int.natAbs_mul]
    exact Nat.mul_lt_mul'' ha hb
  omega
theorem mul_tw {a b : Int} (ha : a.natAbs < 2147483648) (hb : b.natAbs < 2147483648) : IntKind.i64.wrap (a * b) = a * b := IntWalk.i64_in _ (by have := mul_t ha hb; omega)
theorem prod_b {v w : W} (hv : (zW v).natAbs < 2 ^ 500) (hw : (zW w).natAbs < 2 ^ 500) : v.2.1 * w.2.1 < Pq.bp 32 := by
  have h := (big_b (b_le (mul_b hv hw))).1
  rw [Int.natAbs_mul] at h
  unfold zW at h
  rw [Pq.zv_abs, Pq.zv_abs] at h
  exact h
theorem prod_l {v w : W} (hv : (zW v).natAbs < 2 ^ 500) (hw : (zW w).natAbs < 2 ^ 500) : (mg (v.2.1 * w.2.1)).length ≤ 32 := mg_len.1 (prod_b hv hw)
theorem den_z {w : W} (h : 0 < zW w) : zW w = (w.2.1 : Int) ∧ w.2.1 ≠ 0 := by
  unfold zW Pq.zv at h ⊢
  cases hs : w.1 with
  | false => rw [hs] at h; simp at h ⊢; omega
  | true => rw [hs] at h; simp at h; omega
theorem zv_prod (w : W) (k : Nat) : Pq.zv (w.1 && decide (w.2.1 ≠ 0)) (w.2.1 * k) = zW w * k := by
  unfold zW Pq.zv
  cases w.1 with
  | false => simp
  | true =>
    by_cases h0 : w.2.1 = 0
    · rw [h0]; simp
    · simp [h0, Int.neg_mul]
theorem zv_not (s : Bool) (k : Nat) : Pq.zv (!s) k = - Pq.zv s k := by
  unfold Pq.zv
  cases s <;> simp
theorem nd {n d : Int} (hn : -9223372036854775808 < n ∧ n < 9223372036854775808) (hd : 0 < d ∧ d < 9223372036854775808) : -9223372036854775808 < n ∧ n < 9223372036854775808 ∧ 0 < d ∧ d < 9223372036854775808 := ⟨hn.1, hn.2, hd.1, hd.2⟩
noncomputable def con_pCmpRat : Con Tryz.prog := ⟨6, [], _, cf_pCmpRat, tot_con (E := E37) mixed Tryz.func6 no_loops [(true, cF), (true, cF)] (fun x => ansA false (.int .i64) (both x.1 x.2.1) (cq (qF x.1) (qF x.2.1)) (0 : Int)) fun x => by
  rw [tr_pCmpRat_eq]
  obtain ⟨a, b, u⟩ := x
  revert a b
  intro (a : F) (b : F)
  unfold tr_pCmpRat
  simp only [T.wp]
  refine ⟨fun h => ?_, fun h => ⟨fun hb => ?_, fun hb => ?_⟩⟩
  · have hbo := ty_both h
    rw [Bool.and_eq_true] at h
    obtain ⟨a1, a2, a3⟩ := ty_z h.1
    obtain ⟨b1, b2, b3⟩ := ty_z h.2
    rw [hbo, mul_tw a1 b2, mul_tw b1 a2]
    have hc := cz_q a3 b3
    unfold Pq.cz at hc
    show (_ → _) ∧ (_ → _)
    refine ⟨fun hlt => ?_, fun hge => ⟨fun hgt => ?_, fun hle => ?_⟩⟩
    · rw [if_pos (of_decide_eq_true hlt)] at hc
      rw [← hc]; rfl
    · rw [if_neg (of_decide_eq_false hge), if_pos (of_decide_eq_true hgt)] at hc
      rw [← hc]; rfl
    · rw [if_neg (of_decide_eq_false hge), if_neg (of_decide_eq_false hle)] at hc
      rw [← hc]; rfl
  · rw [show both a b = false from by simpa using hb]; rfl
  · have hbo : both a b = true := by simpa using hb
    rw [hbo]
    obtain ⟨sa, sb⟩ := both_iff.1 hbo
    obtain ⟨a1, a2, a3⟩ := safe_b sa
    obtain ⟨b1, b2, b3⟩ := safe_b sb
    rw [zW_b (b_le (mul_b a1 b2)), zW_b (b_le (mul_b b1 a2)), cz_q a3 b3]; rfl⟩
noncomputable def con_pplus : Con Tryz.prog := ⟨45, [], _, cf_pplus, tot_con (E := E37) mixed Tryz.func45 no_loops [(true, cF), (true, cF), (false, .bool)] (fun x => ansA true cF (both x.1 x.2.1) (if x.2.2.1 = true then rOf (qF x.1 - qF x.2.1) else rOf (qF x.1 + qF x.2.1)) (w0, w0)) fun x => by
  rw [tr_pplus_eq]
  obtain ⟨a, b, s, u⟩ := x
  revert a b s
  intro (a : F) (b : F) (s : Bool)
  unfold tr_pplus
  simp only [T.wp]
  refine ⟨fun h => ?_, fun h => ⟨fun hb => ?_, fun hb => ?_⟩⟩
  · have hbo := ty_both h
    rw [Bool.and_eq_true] at h
    obtain ⟨a1, a2, a3⟩ := ty_z h.1
    obtain ⟨b1, b2, b3⟩ := ty_z h.2
    have h1 := mul_t a1 b2
    have h2 := mul_t b1 a2
    have h3 := mul_t a2 b2
    have h4 := Int.mul_pos a3 b3
    have e0 : IntKind.i64.wrap (0 - zW b.1) = -zW b.1 := by rw [IntWalk.i64_in _ (by omega)]; omega
    have h5 : -zW b.1 * zW a.2 = -(zW b.1 * zW a.2) := Int.neg_mul _ _
    rw [hbo, e0, mul_tw a1 b2, mul_tw b1 a2, mul_tw a2 b2, mul_tw (by rw [Int.natAbs_neg]; exact b1) a2, h5, IntWalk.i64_in (zW a.1 * zW b.2 + -(zW b.1 * zW a.2)) (by omega), IntWalk.i64_in (zW a.1 * zW b.2 + zW b.1 * zW a.2) (by omega)]
    rw [add_q a3 b3, sub_q a3 b3, Int.sub_eq_add_neg]
    cases s with
    | true => exact ⟨fun _ => ⟨nd (by omega) (by omega), rfl⟩, fun h => Bool.noConfusion h⟩
    | false => exact ⟨fun h => Bool.noConfusion h, fun _ => ⟨nd (by omega) (by omega), rfl⟩⟩
  · rw [show both a b = false from by simpa using hb]; rfl
  · have hbo : both a b = true := by simpa using hb
    rw [hbo]
    obtain ⟨sa, sb⟩ := both_iff.1 hbo
    obtain ⟨a1, a2, a3⟩ := safe_b sa
    obtain ⟨b1, b2, b3⟩ := safe_b sb
    obtain ⟨za, na⟩ := den_z a3
    obtain ⟨zb, nb⟩ := den_z b3
    have l1 := mg_w a.1
    have l2 := mg_w a.2
    have l3 := mg_w b.1
    have l4 := mg_w b.2
    have l5 := prod_l a1 b2
    have l6 := prod_l b1 a2
    have l7 := prod_b a2 b2
    simp only [val_mg]
    have es := sS_zv (a.1.1 && decide (a.1.2.1 ≠ 0)) (a.1.2.1 * b.2.2.1) (!(b.1.1 && decide (b.1.2.1 ≠ 0)) == s) (b.1.2.1 * a.2.2.1)
    have hsgn : Pq.zv (!(b.1.1 && decide (b.1.2.1 ≠ 0)) == s) (b.1.2.1 * a.2.2.1) = if s = true then -(zW b.1 * zW a.2) else zW b.1 * zW a.2 := by
      have hp := zv_prod b.1 a.2.2.1
      rw [← za] at hp
      cases s with
      | true =>
        have hx : (!(b.1.1 && decide (b.1.2.1 ≠ 0)) == true) = !(b.1.1 && decide (b.1.2.1 ≠ 0)) := by cases (b.1.1 && decide (b.1.2.1 ≠ 0)) <;> rfl
        rw [hx, zv_not, hp, if_pos rfl]
      | false =>
        have hx : (!(b.1.1 && decide (b.1.2.1 ≠ 0)) == false) = (b.1.1 && decide (b.1.2.1 ≠ 0)) := by cases (b.1.1 && decide (b.1.2.1 ≠ 0)) <;> rfl
        rw [hx, hp, if_neg (by decide)]
    rw [zv_prod, ← zb, hsgn] at es
    have hden : ((a.2.2.1 * b.2.2.1 : Nat) : Int) = zW a.2 * zW b.2 := by rw [za, zb]; simp
    have hsb : (sS (a.1.1 && decide (a.1.2.1 ≠ 0)) (a.1.2.1 * b.2.2.1) (!(b.1.1 && decide (b.1.2.1 ≠ 0)) == s) (b.1.2.1 * a.2.2.1)).2 < Pq.bp 32 := by
      have hn : (zW a.1 * zW b.2 + if s = true then -(zW b.1 * zW a.2) else zW b.1 * zW a.2).natAbs < 2 ^ 1001 := by
        refine add_b (mul_b a1 b2) ?_
        have := mul_b b1 a2
        split
        · rw [Int.natAbs_neg]; exact this
        · exact this
      rw [← es, Pq.zv_abs] at hn
      exact Nat.lt_of_lt_of_le hn (bp_ge (k := 1001) 1024 rfl (by decide))
    rw [es, hden]
    have hfin : rOf (Rat.divInt (zW a.1 * zW b.2 + if s = true then -(zW b.1 * zW a.2) else zW b.1 * zW a.2) (zW a.2 * zW b.2)) = if s = true then rOf (qF a - qF b) else rOf (qF a + qF b) := by
      rw [add_q a3 b3, sub_q a3 b3, Int.sub_eq_add_neg]
      cases s <;> rfl
    rw [hfin]
    exact ⟨⟨by omega, by omega, mg_words _, mg_words _⟩, ⟨by omega, by omega, mg_words _, mg_words _⟩, ⟨trivial, trivial, by omega, by omega⟩, ⟨by omega, by omega, mg_words _, mg_words _⟩, ⟨trivial, trivial, hsb, l7, Nat.mul_ne_zero na nb⟩, rfl⟩⟩
noncomputable def con_pMulRat : Con Tryz.prog := ⟨12, [], _, cf_pMulRat, tot_con (E := E37) mixed Tryz.func12 no_loops [(true, cF), (true, cF)] (fun x => ansA true cF (both x.1 x.2.1) (rOf (qF x.1 * qF x.2.1)) (w0, w0)) fun x => by
  rw [tr_pMulRat_eq]
  obtain ⟨a, b, u⟩ := x
  revert a b
  intro (a : F) (b : F)
  unfold tr_pMulRat
  simp only [T.wp]
  refine ⟨fun h => ?_, fun h => ⟨fun hb => ?_, fun hb => ?_⟩⟩
  · have hbo := ty_both h
    rw [Bool.and_eq_true] at h
    obtain ⟨a1, a2, a3⟩ := ty_z h.1
    obtain ⟨b1, b2, b3⟩ := ty_z h.2
    have h1 := mul_t a1 b1
    have h3 := mul_t a2 b2
    have h4 := Int.mul_pos a3 b3
    rw [hbo, mul_tw a1 b1, mul_tw a2 b2, mul_q]
    exact ⟨nd (by omega) (by omega), rfl⟩
  · rw [show both a b = false from by simpa using hb]; rfl
  · have hbo : both a b = true := by simpa using hb
    rw [hbo]
    obtain ⟨sa, sb⟩ := both_iff.1 hbo
    obtain ⟨a1, a2, a3⟩ := safe_b sa
    obtain ⟨b1, b2, b3⟩ := safe_b sb
    obtain ⟨za, na⟩ := den_z a3
    obtain ⟨zb, nb⟩ := den_z b3
    have l1 := mg_w a.1
    have l2 := mg_w a.2
    have l3 := mg_w b.1
    have l4 := mg_w b.2
    simp only [val_mg]
    have hden : ((a.2.2.1 * b.2.2.1 : Nat) : Int) = zW a.2 * zW b.2 := by rw [za, zb]; simp
    rw [← zv_mul, hden, mul_q]
    exact ⟨⟨by omega, by omega, mg_words _, mg_words _⟩, ⟨by omega, by omega, mg_words _, mg_words _⟩, ⟨trivial, trivial, prod_b a1 b1, prod_b a2 b2, Nat.mul_ne_zero na nb⟩, rfl⟩⟩
theorem divInt_nn (a b : Int) : Rat.divInt (-a) (-b) = Rat.divInt a b := by
  by_cases h : b = 0
  · subst h; simp
  · rw [Rat.divInt_eq_divInt_iff (by omega) h, Int.neg_mul, Int.mul_neg]
noncomputable def con_pDivRat : Con Tryz.prog := ⟨14, [], _, cf_pDivRat, tot_con (E := E37) mixed Tryz.func14 no_loops [(true, cF), (true, cF)] (fun x => ansA true cF (both x.1 x.2.1 && decide (qF x.2.1 ≠ 0)) (rOf (qF x.1 / qF x.2.1)) (w0, w0)) fun x => by
  rw [tr_pDivRat_eq]
  obtain ⟨a, b, u⟩ := x
  revert a b
  intro (a : F) (b : F)
  unfold tr_pDivRat
  simp only [T.wp]
  have no : both a b = false → Av.tup [.agg [.v (.bool w0.1), .w w0.2, .v (.bool w0.1), .w w0.2], .one (.v (.bool false))] = ansA true cF (both a b && decide (qF b ≠ 0)) (rOf (qF a / qF b)) (w0, w0) := fun h => by rw [h]; rfl
  have no2 : both a b = true → zW b.1 = 0 → Av.tup [.agg [.v (.bool w0.1), .w w0.2, .v (.bool w0.1), .w w0.2], .one (.v (.bool false))] = ansA true cF (both a b && decide (qF b ≠ 0)) (rOf (qF a / qF b)) (w0, w0) := fun h h0 => by
    rw [decide_eq_false (fun h' => h' ((q_zero (safe_b (both_iff.1 h).2).2.2).2 h0)), Bool.and_false]; rfl
  have big : both a b = true → zW b.1 ≠ 0 → ((mg a.1.2.1).length ≤ 1000000 ∧ (mg b.2.2.1).length ≤ 1000000 ∧ Words (mg a.1.2.1) ∧ Words (mg b.2.2.1)) ∧ ((mg a.2.2.1).length ≤ 1000000 ∧ (mg b.1.2.1).length ≤ 1000000 ∧ Words (mg a.2.2.1) ∧ Words (mg b.1.2.1)) ∧ (a.1.2.1 * b.2.2.1 < Pq.bp 32 ∧ a.2.2.1 * b.1.2.1 < Pq.bp 32 ∧ a.2.2.1 * b.1.2.1 ≠ 0) ∧ Av.tup [.agg (ck cF (rOf (Rat.divInt (Pq.zv (!(a.1.1 && decide (a.1.2.1 ≠ 0)) == (b.1.1 && decide (b.1.2.1 ≠ 0))) (a.1.2.1 * b.2.2.1)) ((a.2.2.1 * b.1.2.1 : Nat) : Int)))), .one (.v (.bool true))] = ansA true cF (both a b && decide (qF b ≠ 0)) (rOf (qF a / qF b)) (w0, w0) := fun hbo h0 => by
    obtain ⟨sa, sb⟩ := both_iff.1 hbo
    obtain ⟨a1, a2, a3⟩ := safe_b sa
    obtain ⟨b1, b2, b3⟩ := safe_b sb
    obtain ⟨za, na⟩ := den_z a3
    obtain ⟨zb, nb⟩ := den_z b3
    have l1 := mg_w a.1
    have l2 := mg_w a.2
    have l3 := mg_w b.1
    have l4 := mg_w b.2
    have hb0 : b.1.2.1 ≠ 0 := fun h => h0 (by unfold zW; rw [h]; unfold Pq.zv; split <;> rfl)
    rw [hbo, decide_eq_true (show qF b ≠ 0 from fun h' => h0 ((q_zero b3).1 h')), div_q]
    refine ⟨⟨by omega, by omega, mg_words _, mg_words _⟩, ⟨by omega, by omega, mg_words _, mg_words _⟩, ⟨prod_b a1 b2, prod_b a2 b1, Nat.mul_ne_zero na hb0⟩, ?_⟩
    have hp := zv_prod a.1 b.2.2.1
    rw [← zb] at hp
    have key : Rat.divInt (Pq.zv (!(a.1.1 && decide (a.1.2.1 ≠ 0)) == (b.1.1 && decide (b.1.2.1 ≠ 0))) (a.1.2.1 * b.2.2.1)) ((a.2.2.1 * b.1.2.1 : Nat) : Int) = Rat.divInt (zW a.1 * zW b.2) (zW a.2 * zW b.1) := by
      rw [Int.natCast_mul, ← za]
      have eb : zW b.1 = if b.1.1 = true then -((b.1.2.1 : Nat) : Int) else b.1.2.1 := rfl
      rw [decide_eq_true hb0, Bool.and_true]
      cases hs : b.1.1 with
      | false =>
        rw [hs, if_neg (by decide)] at eb
        have hx : (!(a.1.1 && decide (a.1.2.1 ≠ 0)) == false) = (a.1.1 && decide (a.1.2.1 ≠ 0)) := by cases (a.1.1 && decide (a.1.2.1 ≠ 0)) <;> rfl
        first
          | rw [hx, hp, eb]
          | (have hx : (!((a.1.1 && decide (a.1.2.1 ≠ 0)) == false)) = (a.1.1 && decide (a.1.2.1 ≠ 0)) := by cases (a.1.1 && decide (a.1.2.1 ≠ 0)) <;> rfl
             rw [hx, hp, eb])
      | true =>
        rw [hs, if_pos rfl] at eb
        have e2 : ((b.1.2.1 : Nat) : Int) = -zW b.1 := by omega
        rw [e2]
        first
          | (have hx : (!(a.1.1 && decide (a.1.2.1 ≠ 0)) == true) = !(a.1.1 && decide (a.1.2.1 ≠ 0)) := by cases (a.1.1 && decide (a.1.2.1 ≠ 0)) <;> rfl
             rw [hx, zv_not, hp, Int.mul_neg, divInt_nn])
          | (have hx : (!((a.1.1 && decide (a.1.2.1 ≠ 0)) == true)) = !(a.1.1 && decide (a.1.2.1 ≠ 0)) := by cases (a.1.1 && decide (a.1.2.1 ≠ 0)) <;> rfl
             rw [hx, zv_not, hp, Int.mul_neg, divInt_nn])
    rw [key]; rfl
  refine ⟨fun h => ⟨fun hnz => ⟨fun hlt => ?_, fun hge => ?_⟩, fun hz => ⟨fun hb => no (by simpa using hb), fun hb => ⟨fun hc => no2 (by simpa using hb) ((cz_eq _ _).1 (beq_iff_eq.1 hc)), fun hc => ?_⟩⟩⟩, fun h => ⟨fun hb => no (by simpa using hb), fun hb => ⟨fun hc => no2 (by simpa using hb) ((cz_eq _ _).1 (beq_iff_eq.1 hc)), fun hc => ?_⟩⟩⟩
  · have hbo := ty_both h
    rw [Bool.and_eq_true] at h
    obtain ⟨a1, a2, a3⟩ := ty_z h.1
    obtain ⟨b1, b2, b3⟩ := ty_z h.2
    have hlt := of_decide_eq_true hlt
    have e0 : IntKind.i64.wrap (0 - zW b.1) = -zW b.1 := by rw [IntWalk.i64_in _ (by omega)]; omega
    have e1 : IntKind.i64.wrap (0 - zW a.1) = -zW a.1 := by rw [IntWalk.i64_in _ (by omega)]; omega
    have na1 : (-zW a.1).natAbs < 2147483648 := by rw [Int.natAbs_neg]; exact a1
    have nb1 : (-zW b.1).natAbs < 2147483648 := by rw [Int.natAbs_neg]; exact b1
    have h1 := mul_t na1 b2
    have h3 := mul_t a2 nb1
    have h4 := Int.mul_pos a3 (show 0 < -zW b.1 by omega)
    rw [hbo, e0, e1, mul_tw na1 b2, mul_tw a2 nb1, decide_eq_true (show qF b ≠ 0 from fun h' => by have := (q_zero b3).1 h'; omega), div_q]
    refine ⟨nd (by omega) (by omega), ?_⟩
    rw [Int.neg_mul, Int.mul_neg, divInt_nn]; rfl
  · have hbo := ty_both h
    rw [Bool.and_eq_true] at h
    obtain ⟨a1, a2, a3⟩ := ty_z h.1
    obtain ⟨b1, b2, b3⟩ := ty_z h.2
    have hge := of_decide_eq_false hge
    have hnz : zW b.1 ≠ 0 := by simpa using hnz
    have h1 := mul_t a1 b2
    have h3 := mul_t a2 b1
    have h4 := Int.mul_pos a3 (show 0 < zW b.1 by omega)
    rw [hbo, mul_tw a1 b2, mul_tw a2 b1, decide_eq_true (show qF b ≠ 0 from fun h' => hnz ((q_zero b3).1 h')), div_q]
    exact ⟨nd (by omega) (by omega), rfl⟩
  · obtain ⟨g1, g2, g3, g4⟩ := big (by simpa using hb) (fun h0 => by rw [(cz_eq _ _).2 h0] at hc; cases hc)
    simp only [val_mg]
    exact ⟨g1, g2, ⟨trivial, trivial, g3⟩, g4⟩
  · obtain ⟨g1, g2, g3, g4⟩ := big (by simpa using hb) (fun h0 => by rw [(cz_eq _ _).2 h0] at hc; cases hc)
    simp only [val_mg]
    exact ⟨g1, g2, ⟨trivial, trivial, g3⟩, g4⟩⟩
noncomputable def E38 : Env Tryz.prog := E37.add [con_pCmpRat, con_pplus, con_pMulRat, con_pDivRat]
end Go.Proofs.YtjijakfcahhioaaGreat
/-
The reference: trees of AddRat, SubRat; Decimal's loops.
-/
set_option linter.unusedSimpArgs false
set_option linter.unusedVariables false
namespace Go.Proofs.YtjijakfcahhioaaGreat
open Go.RowKit Ax
abbrev spDA : LSpec := ⟨80, [(6, false, .int .i64), (7, false, .sl (.int .u32)), (8, false, .int .i64)], [(2, 0, 0)], [(27, cF)], fun e => match e with | .exit _ => [6, 7] | _ => []⟩
abbrev spDB : LSpec := ⟨80, [(6, false, .int .i64), (9, false, .sl (.int .u32)), (11, false, .str)], [(2, 0, 0)], [(27, cF)], fun e => match e with | .exit _ => [6, 9, 11] | _ => []⟩
end Go.Proofs.YtjijakfcahhioaaGreat
/-
The reference: trees of AddRat, SubRat; Decimal's loops.
-/
set_option linter.unusedSimpArgs false
set_option linter.unusedVariables false
namespace Go.Proofs.YtjijakfcahhioaaGreat
open Go.RowKit Ax
noncomputable def tr_pAddRat (x : Els [(true, cF), (true, cF)]) : T Av :=
 .ret (.tup [(.agg [.v (.bool (if both (x.1) x.2.1 = true then if false = true then rOf (qF (x.1) - qF x.2.1) else rOf (qF (x.1) + qF x.2.1) else (w0, w0)).1.1), .w (if both (x.1) x.2.1 = true then if false = true then rOf (qF (x.1) - qF x.2.1) else rOf (qF (x.1) + qF x.2.1) else (w0, w0)).1.2, .v (.bool (if both (x.1) x.2.1 = true then if false = true then rOf (qF (x.1) - qF x.2.1) else rOf (qF (x.1) + qF x.2.1) else (w0, w0)).2.1), .w (if both (x.1) x.2.1 = true then if false = true then rOf (qF (x.1) - qF x.2.1) else rOf (qF (x.1) + qF x.2.1) else (w0, w0)).2.2]), (.one (.v (.bool (both (x.1) x.2.1))))])
theorem tr_pAddRat_eq (x : Els [(true, cF), (true, cF)]) : fnP E38 (fun _ => none) Tryz.f8 (encs [(true, cF), (true, cF)] x) = tr_pAddRat x := by kernel_rfl
noncomputable def tr_pSubRat (x : Els [(true, cF), (true, cF)]) : T Av :=
 .ret (.tup [(.agg [.v (.bool (if both (x.1) x.2.1 = true then if true = true then rOf (qF (x.1) - qF x.2.1) else rOf (qF (x.1) + qF x.2.1) else (w0, w0)).1.1), .w (if both (x.1) x.2.1 = true then if true = true then rOf (qF (x.1) - qF x.2.1) else rOf (qF (x.1) + qF x.2.1) else (w0, w0)).1.2, .v (.bool (if both (x.1) x.2.1 = true then if true = true then rOf (qF (x.1) - qF x.2.1) else rOf (qF (x.1) + qF x.2.1) else (w0, w0)).2.1), .w (if both (x.1) x.2.1 = true then if true = true then rOf (qF (x.1) - qF x.2.1) else rOf (qF (x.1) + qF x.2.1) else (w0, w0)).2.2]), (.one (.v (.bool (both (x.1) x.2.1))))])
theorem tr_pSubRat_eq (x : Els [(true, cF), (true, cF)]) : fnP E38 (fun _ => none) Tryz.f10 (encs [(true, cF), (true, cF)] x) = tr_pSubRat x := by kernel_rfl
noncomputable def tr_pdecA (x : LSpec.X spDA × LSpec.Y spDA) : T (Rd spDA) :=
 .ite (decide (x.1.2.2.1 < x.1.1))
  (.need (List.length x.1.2.1 ≤ (1000000 : Nat) ∧ List.length [(10 : Int)] ≤ (1000000 : Nat) ∧ Words x.1.2.1 ∧ Words [(10 : Int)]) (.ret (.again (x.1.1, (mg (valL x.1.2.1 * valL [(10 : Int)]), (IntKind.wrap .i64 (x.1.2.2.1 + (1 : Int)), ()))) (x.2.1, ()))))
  (.ret (.out (Go.Exit.exit (0 : Nat)) [(.one (.v (.int .i64 x.1.1))), (.one (.ds (Cd.int .u32) x.1.2.1))] (x.2.1, ())))
theorem tr_pdecA_eq (x : LSpec.X spDA × LSpec.Y spDA) : LSpec.round spDA E38 (fun _ => none) (bodyOf Tryz.f18 0) x.1 x.2 = tr_pdecA x := by kernel_rfl
noncomputable def tr_pdecB (x : LSpec.X spDB × LSpec.Y spDB) : T (Rd spDB) :=
 .ite (decide ((↑(ByteArray.size x.1.2.2.1) : Int) ≤ x.1.1))
  (.need ((↑(ByteArray.size { data := #[(48 : UInt8)] } + ByteArray.size x.1.2.2.1) : Int) ≤ IntKind.max .i64) (.lt ({ data := #[(48 : UInt8)] } ++ x.1.2.2.1) (fun v0 =>
    .ret (.again (x.1.1, (x.1.2.1, (v0, ()))) (x.2.1, ())))))
  (.ret (.out (Go.Exit.exit (2 : Nat)) [(.one (.v (.int .i64 x.1.1))), (.one (.ds (Cd.int .u32) x.1.2.1)), (.one (.v (.string x.1.2.2.1)))] (x.2.1, ())))
theorem tr_pdecB_eq (x : LSpec.X spDB × LSpec.Y spDB) : LSpec.round spDB E38 (fun _ => none) (bodyOf Tryz.f18 1) x.1 x.2 = tr_pdecB x := by kernel_rfl
end Go.Proofs.YtjijakfcahhioaaGreat
/-
The reference: AddRat, SubRat; Decimal's loops.
-/
set_option linter.unusedSimpArgs false
set_option linter.unusedVariables false
namespace Go.Proofs.YtjijakfcahhioaaGreat
open Go.RowKit Ax
noncomputable def con_pAddRat : Con Tryz.prog := ⟨8, [], _, cf_pAddRat, tot_con (E := E38) mixed Tryz.func8 no_loops [(true, cF), (true, cF)] (fun x => ansA true cF (both x.1 x.2.1) (rOf (qF x.1 + qF x.2.1)) (w0, w0)) fun x => by
  rw [tr_pAddRat_eq]
  exact rfl⟩
noncomputable def con_pSubRat : Con Tryz.prog := ⟨10, [], _, cf_pSubRat, tot_con (E := E38) mixed Tryz.func10 no_loops [(true, cF), (true, cF)] (fun x => ansA true cF (both x.1 x.2.1) (rOf (qF x.1 - qF x.2.1)) (w0, w0)) fun x => by
  rw [tr_pSubRat_eq]
  exact rfl⟩
def outDA (x : LSpec.X spDA) (y : LSpec.Y spDA) : T (Exit × List Av × LSpec.Y spDA) :=
  .need (0 ≤ x.2.2.1 ∧ x.2.2.1 ≤ x.1 ∧ x.1 ≤ 20 ∧ (x.2.1 : List Int) = mg (valL x.2.1) ∧ valL x.2.1 * 10 ^ (x.1 - x.2.2.1).toNat < Pq.bp 100) (.ret (.exit 0, [aI .i64 x.1, .one (.ds (.int .u32) (mg (valL x.2.1 * 10 ^ (x.1 - x.2.2.1).toNat)))], y))
theorem pdecA_core (k : Int) (m : List Int) (i : Int) (y : LSpec.Y spDA) (Q : Exit × List Av × LSpec.Y spDA → Prop) (h : (outDA (k, m, i, ()) y).wp Q) : (tr_pdecA ((k, m, i, ()), y)).wp fun r => match r with
      | .again x' y' => (x'.1 - x'.2.2.1).toNat < (k - i).toNat ∧ (outDA x' y').wp Q
      | .out e avs y' => Q (e, avs, y') := by
  unfold tr_pdecA
  unfold outDA at h ⊢
  simp only [T.wp] at h ⊢
  dsimp only [El, vts, bts, spDA] at h ⊢
  obtain ⟨⟨i0, i1, k1, mm, hb⟩, hq⟩ := h
  have e10 : valL [(10 : Int)] = 10 := rfl
  have w10 : Words [(10 : Int)] := fun v hv => by rw [List.mem_singleton] at hv; omega
  refine ⟨fun hlt => ?_, fun hge => ?_⟩
  · have hlt := of_decide_eq_true hlt
    obtain ⟨p, hp⟩ : ∃ p : Nat, (k - i).toNat = p + 1 := ⟨(k - i).toNat - 1, by omega⟩
    have ep : (k - (i + 1)).toNat = p := by omega
    rw [hp, Nat.pow_succ, Nat.mul_comm (10 ^ p) 10, ← Nat.mul_assoc] at hb hq
    have hp0 : 0 < 10 ^ p := Nat.pow_pos (by decide)
    have hl : valL m < Pq.bp 100 := by
      refine Nat.lt_of_le_of_lt ?_ hb
      rw [Nat.mul_assoc]
      exact Nat.le_mul_of_pos_right _ (by omega)
    have hl' := mg_len.1 hl
    rw [← mm] at hl'
    have wm : Words m := by rw [mm]; exact mg_words _
    rw [IntWalk.i64_in (i + 1) (by omega), e10, val_mg, ep]
    exact ⟨⟨by omega, by decide, wm, w10⟩, by omega, ⟨by omega, by omega, k1, rfl, hb⟩, hq⟩
  · have hge := of_decide_eq_false hge
    rw [show (k - i).toNat = 0 by omega, Nat.pow_zero, Nat.mul_one, ← mm] at hq
    exact hq
theorem pdecA_ok : LoopOk Tryz.prog 0 (bodyOf Tryz.f18 0) (spDA.run outDA) :=
  loop_ok (E := E38) (L := fun _ => none) mixed 0 (loops_none _ _ _) spDA (Nat.zero_le _) outDA (fun x _ => (x.1 - x.2.2.1).toNat) (by
    rintro ⟨k, m, i, ⟨⟩⟩ y Q h
    rw [tr_pdecA_eq ((k, m, i, ()), y)]
    exact pdecA_core k m i y Q h)
def outDB (x : LSpec.X spDB) (y : LSpec.Y spDB) : T (Exit × List Av × LSpec.Y spDB) :=
  .need (x.1 ≤ 20 ∧ (ByteArray.size x.2.2.1 : Int) ≤ 2000) (.lt (padS x.1 x.2.2.1) fun u => .ret (.exit 2, [aI .i64 x.1, .one (.ds (.int .u32) x.2.1), .one (.v (.string u))], y))
theorem pdecB_core (d : Int) (q : List Int) (s : ByteArray) (y : LSpec.Y spDB) (Q : Exit × List Av × LSpec.Y spDB → Prop) (h : (outDB (d, q, s, ()) y).wp Q) : (tr_pdecB ((d, q, s, ()), y)).wp fun r => match r with
      | .again x' y' => (x'.1 + 1 - (ByteArray.size x'.2.2.1 : Int)).toNat < (d + 1 - s.size).toNat ∧ (outDB x' y').wp Q
      | .out e avs y' => Q (e, avs, y') := by
  unfold tr_pdecB
  unfold outDB at h ⊢
  simp only [T.wp] at h ⊢
  dsimp only [El, vts, bts, spDB] at h ⊢
  obtain ⟨⟨h1, h2⟩, hq⟩ := h
  have e1 : ByteArray.size (⟨#[48]⟩ : ByteArray) = 1 := rfl
  refine ⟨fun hlt => ?_, fun hge => ?_⟩
  · have hlt := of_decide_eq_true hlt
    rw [ByteArray.size_append, e1, padS_step hlt]
    refine ⟨?_, by omega, ⟨h1, by omega⟩, hq⟩
    show ((_ : Nat) : Int) ≤ 9223372036854775807
    omega
  · have hge := of_decide_eq_false hge
    rw [padS_end hge] at hq
    exact hq
theorem pdecB_ok : LoopOk Tryz.prog 0 (bodyOf Tryz.f18 1) (spDB.run outDB) :=
  loop_ok (E := E38) (L := fun _ => none) mixed 0 (loops_none _ _ _) spDB (Nat.zero_le _) outDB (fun x _ => (x.1 + 1 - (ByteArray.size x.2.2.1 : Int)).toNat) (by
    rintro ⟨d, q, s, ⟨⟩⟩ y Q h
    rw [tr_pdecB_eq ((d, q, s, ()), y)]
    exact pdecB_core d q s y Q h)
noncomputable def lpDecs : Loops := manyL [(6, spDA.run outDA), (11, spDB.run outDB)]
end Go.Proofs.YtjijakfcahhioaaGreat
/-
The reference: Decimal's tree.
-/
set_option linter.unusedSimpArgs false
set_option linter.unusedVariables false
namespace Go.Proofs.YtjijakfcahhioaaGreat
open Go.RowKit Ax
noncomputable def tr_pDecimal (x : Els [(true, cF), (false, .int .i64)]) : T Av :=
 .ite (!safeF (500 : Int) (x.1))
  (.ret (.tup [(.one (.v (.string ({ data := #[] })))), (.one (.v (.bool (false))))]))
  (.lt (if (20 : Int) < x.2.1 then (20 : Int) else x.2.1) (fun v0 =>
   .lt (if v0 > (0 : Int) then v0 else (0 : Int)) (fun v1 =>
    .need ((0 : El (Cd.int .i64)) ≤ (0 : Int) ∧ (0 : Int) ≤ v1 ∧ v1 ≤ (20 : El (Cd.int .i64)) ∧ mg x.1.1.2.1 = mg (valL (mg x.1.1.2.1)) ∧ valL (mg x.1.1.2.1) * (10 : Nat) ^ Int.toNat (v1 - (0 : Int)) < Pq.bp (100 : Nat)) (.and
      (.and
       (.need (List.length (mg (valL (mg x.1.1.2.1) * (10 : Nat) ^ Int.toNat (v1 - (0 : Int)))) ≤ (1000000 : Nat) ∧ List.length [(2 : Int)] ≤ (1000000 : Nat) ∧ Words (mg (valL (mg x.1.1.2.1) * (10 : Nat) ^ Int.toNat (v1 - (0 : Int)))) ∧ Words [(2 : Int)]) (.and
         (.and
          (.need (List.length (mg (valL (mg (valL (mg x.1.1.2.1) * (10 : Nat) ^ Int.toNat (v1 - (0 : Int)))) * valL [(2 : Int)])) ≤ (1000000 : Nat) ∧ List.length (mg x.1.2.2.1) ≤ (1000000 : Nat) ∧ Words (mg (valL (mg (valL (mg x.1.1.2.1) * (10 : Nat) ^ Int.toNat (v1 - (0 : Int)))) * valL [(2 : Int)])) ∧ Words (mg x.1.2.2.1)) (dup (.need (List.length (mg x.1.2.2.1) ≤ (1000000 : Nat) ∧ List.length [(2 : Int)] ≤ (1000000 : Nat) ∧ Words (mg x.1.2.2.1) ∧ Words [(2 : Int)]) (.need (mg (valL (mg (valL (mg (valL (mg x.1.1.2.1) * (10 : Nat) ^ Int.toNat (v1 - (0 : Int)))) * valL [(2 : Int)])) + valL (mg x.1.2.2.1)) = mg (valL (mg (valL (mg (valL (mg (valL (mg x.1.1.2.1) * (10 : Nat) ^ Int.toNat (v1 - (0 : Int)))) * valL [(2 : Int)])) + valL (mg x.1.2.2.1)))) ∧ mg (valL (mg x.1.2.2.1) * valL [(2 : Int)]) = mg (valL (mg (valL (mg x.1.2.2.1) * valL [(2 : Int)]))) ∧ List.length (mg (valL (mg (valL (mg (valL (mg x.1.1.2.1) * (10 : Nat) ^ Int.toNat (v1 - (0 : Int)))) * valL [(2 : Int)])) + valL (mg x.1.2.2.1))) ≤ (100000 : Nat) ∧ List.length (mg (valL (mg x.1.2.2.1) * valL [(2 : Int)])) ≤ (100000 : Nat) ∧ valL (mg (valL (mg x.1.2.2.1) * valL [(2 : Int)])) ≠ (0 : Nat)) (.need (mg (valL (mg (valL (mg (valL (mg (valL (mg x.1.1.2.1) * (10 : Nat) ^ Int.toNat (v1 - (0 : Int)))) * valL [(2 : Int)])) + valL (mg x.1.2.2.1))) / valL (mg (valL (mg x.1.2.2.1) * valL [(2 : Int)]))) = mg (valL (mg (valL (mg (valL (mg (valL (mg (valL (mg x.1.1.2.1) * (10 : Nat) ^ Int.toNat (v1 - (0 : Int)))) * valL [(2 : Int)])) + valL (mg x.1.2.2.1))) / valL (mg (valL (mg x.1.2.2.1) * valL [(2 : Int)]))))) ∧ valL (mg (valL (mg (valL (mg (valL (mg (valL (mg x.1.1.2.1) * (10 : Nat) ^ Int.toNat (v1 - (0 : Int)))) * valL [(2 : Int)])) + valL (mg x.1.2.2.1))) / valL (mg (valL (mg x.1.2.2.1) * valL [(2 : Int)])))) < (2 : Nat) ^ (1024 : Nat)) (.need (v1 ≤ (20 : El (Cd.int .i64)) ∧ (↑(ByteArray.size (ptx (valL (mg (valL (mg (valL (mg (valL (mg (valL (mg x.1.1.2.1) * (10 : Nat) ^ Int.toNat (v1 - (0 : Int)))) * valL [(2 : Int)])) + valL (mg x.1.2.2.1))) / valL (mg (valL (mg x.1.2.2.1) * valL [(2 : Int)]))))))) : Int) ≤ (2000 : Int)) (.lt (padS v1 (ptx (valL (mg (valL (mg (valL (mg (valL (mg (valL (mg x.1.1.2.1) * (10 : Nat) ^ Int.toNat (v1 - (0 : Int)))) * valL [(2 : Int)])) + valL (mg x.1.2.2.1))) / valL (mg (valL (mg x.1.2.2.1) * valL [(2 : Int)]))))))) (fun v2 =>
                 .ite (decide (v1 > (0 : Int)))
                  (.need ((0 : Int) ≤ (0 : Int) ∧ (0 : Int) ≤ IntKind.wrap .i64 ((↑(ByteArray.size v2) : Int) - v1) ∧ IntKind.wrap .i64 ((↑(ByteArray.size v2) : Int) - v1) ≤ (↑(ByteArray.size v2) : Int)) (.lt (ByteArray.extract v2 (Int.toNat (0 : Int)) (Int.toNat (IntKind.wrap .i64 ((↑(ByteArray.size v2) : Int) - v1)))) (fun v3 =>
                    .need ((↑(ByteArray.size v3 + ByteArray.size { data := #[(46 : UInt8)] }) : Int) ≤ IntKind.max .i64) (.lt (v3 ++ { data := #[(46 : UInt8)] }) (fun v4 =>
                      .need ((0 : Int) ≤ IntKind.wrap .i64 ((↑(ByteArray.size v2) : Int) - v1) ∧ IntKind.wrap .i64 ((↑(ByteArray.size v2) : Int) - v1) ≤ (↑(ByteArray.size v2) : Int) ∧ (↑(ByteArray.size v2) : Int) ≤ (↑(ByteArray.size v2) : Int)) (.lt (ByteArray.extract v2 (Int.toNat (IntKind.wrap .i64 ((↑(ByteArray.size v2) : Int) - v1))) (Int.toNat (↑(ByteArray.size v2) : Int))) (fun v5 =>
                        .need ((↑(ByteArray.size v4 + ByteArray.size v5) : Int) ≤ IntKind.max .i64) (.lt (v4 ++ v5) (fun v6 =>
                          .ite (x.1.1.1 && decide (x.1.1.2.1 ≠ (0 : Nat)))
                           (.ite (decide ((↑(List.length (mg (valL (mg (valL (mg (valL (mg (valL (mg x.1.1.2.1) * (10 : Nat) ^ Int.toNat (v1 - (0 : Int)))) * valL [(2 : Int)])) + valL (mg x.1.2.2.1))) / valL (mg (valL (mg x.1.2.2.1) * valL [(2 : Int)]))))) : Int) > (0 : Int)))
                            (.need ((↑(ByteArray.size { data := #[(45 : UInt8)] } + ByteArray.size v6) : Int) ≤ IntKind.max .i64) (.lt ({ data := #[(45 : UInt8)] } ++ v6) (fun v7 =>
                              .ret (.tup [(.one (.v (.string (v7)))), (.one (.v (.bool (true))))]))))
                            (.ret (.tup [(.one (.v (.string (v6)))), (.one (.v (.bool (true))))])))
                           (.ret (.tup [(.one (.v (.string (v6)))), (.one (.v (.bool (true))))])))))))))))
                  (.ite (x.1.1.1 && decide (x.1.1.2.1 ≠ (0 : Nat)))
                   (.ite (decide ((↑(List.length (mg (valL (mg (valL (mg (valL (mg (valL (mg x.1.1.2.1) * (10 : Nat) ^ Int.toNat (v1 - (0 : Int)))) * valL [(2 : Int)])) + valL (mg x.1.2.2.1))) / valL (mg (valL (mg x.1.2.2.1) * valL [(2 : Int)]))))) : Int) > (0 : Int)))
                    (.need ((↑(ByteArray.size { data := #[(45 : UInt8)] } + ByteArray.size v2) : Int) ≤ IntKind.max .i64) (.lt ({ data := #[(45 : UInt8)] } ++ v2) (fun v3 =>
                      .ret (.tup [(.one (.v (.string (v3)))), (.one (.v (.bool (true))))]))))
                    (.ret (.tup [(.one (.v (.string (v2)))), (.one (.v (.bool (true))))])))
                   (.ret (.tup [(.one (.v (.string (v2)))), (.one (.v (.bool (true))))])))))))))))
          (.need (List.length (mg (valL (mg (valL (mg x.1.1.2.1) * (10 : Nat) ^ Int.toNat (v1 - (0 : Int)))) * valL [(2 : Int)])) ≤ (1000000 : Nat) ∧ List.length (mg x.1.2.2.1) ≤ (1000000 : Nat) ∧ Words (mg (valL (mg (valL (mg x.1.1.2.1) * (10 : Nat) ^ Int.toNat (v1 - (0 : Int)))) * valL [(2 : Int)])) ∧ Words (mg x.1.2.2.1)) (.need (List.length (mg x.1.2.2.1) ≤ (1000000 : Nat) ∧ List.length [(2 : Int)] ≤ (1000000 : Nat) ∧ Words (mg x.1.2.2.1) ∧ Words [(2 : Int)]) (.need (mg (valL (mg (valL (mg (valL (mg x.1.1.2.1) * (10 : Nat) ^ Int.toNat (v1 - (0 : Int)))) * valL [(2 : Int)])) + valL (mg x.1.2.2.1)) = mg (valL (mg (valL (mg (valL (mg (valL (mg x.1.1.2.1) * (10 : Nat) ^ Int.toNat (v1 - (0 : Int)))) * valL [(2 : Int)])) + valL (mg x.1.2.2.1)))) ∧ mg (valL (mg x.1.2.2.1) * valL [(2 : Int)]) = mg (valL (mg (valL (mg x.1.2.2.1) * valL [(2 : Int)]))) ∧ List.length (mg (valL (mg (valL (mg (valL (mg x.1.1.2.1) * (10 : Nat) ^ Int.toNat (v1 - (0 : Int)))) * valL [(2 : Int)])) + valL (mg x.1.2.2.1))) ≤ (100000 : Nat) ∧ List.length (mg (valL (mg x.1.2.2.1) * valL [(2 : Int)])) ≤ (100000 : Nat) ∧ valL (mg (valL (mg x.1.2.2.1) * valL [(2 : Int)])) ≠ (0 : Nat)) (.need (mg (valL (mg (valL (mg (valL (mg (valL (mg x.1.1.2.1) * (10 : Nat) ^ Int.toNat (v1 - (0 : Int)))) * valL [(2 : Int)])) + valL (mg x.1.2.2.1))) / valL (mg (valL (mg x.1.2.2.1) * valL [(2 : Int)]))) = mg (valL (mg (valL (mg (valL (mg (valL (mg (valL (mg x.1.1.2.1) * (10 : Nat) ^ Int.toNat (v1 - (0 : Int)))) * valL [(2 : Int)])) + valL (mg x.1.2.2.1))) / valL (mg (valL (mg x.1.2.2.1) * valL [(2 : Int)]))))) ∧ valL (mg (valL (mg (valL (mg (valL (mg (valL (mg x.1.1.2.1) * (10 : Nat) ^ Int.toNat (v1 - (0 : Int)))) * valL [(2 : Int)])) + valL (mg x.1.2.2.1))) / valL (mg (valL (mg x.1.2.2.1) * valL [(2 : Int)])))) < (2 : Nat) ^ (1024 : Nat)) (.need (v1 ≤ (20 : El (Cd.int .i64)) ∧ (↑(ByteArray.size (ptx (valL (mg (valL (mg (valL (mg (valL (mg (valL (mg x.1.1.2.1) * (10 : Nat) ^ Int.toNat (v1 - (0 : Int)))) * valL [(2 : Int)])) + valL (mg x.1.2.2.1))) / valL (mg (valL (mg x.1.2.2.1) * valL [(2 : Int)]))))))) : Int) ≤ (2000 : Int)) (.lt (padS v1 (ptx (valL (mg (valL (mg (valL (mg (valL (mg (valL (mg x.1.1.2.1) * (10 : Nat) ^ Int.toNat (v1 - (0 : Int)))) * valL [(2 : Int)])) + valL (mg x.1.2.2.1))) / valL (mg (valL (mg x.1.2.2.1) * valL [(2 : Int)]))))))) (fun v2 =>
                .ite (decide (v1 > (0 : Int)))
                 (.need ((0 : Int) ≤ (0 : Int) ∧ (0 : Int) ≤ IntKind.wrap .i64 ((↑(ByteArray.size v2) : Int) - v1) ∧ IntKind.wrap .i64 ((↑(ByteArray.size v2) : Int) - v1) ≤ (↑(ByteArray.size v2) : Int)) (.lt (ByteArray.extract v2 (Int.toNat (0 : Int)) (Int.toNat (IntKind.wrap .i64 ((↑(ByteArray.size v2) : Int) - v1)))) (fun v3 =>
                   .need ((↑(ByteArray.size v3 + ByteArray.size { data := #[(46 : UInt8)] }) : Int) ≤ IntKind.max .i64) (.lt (v3 ++ { data := #[(46 : UInt8)] }) (fun v4 =>
                     .need ((0 : Int) ≤ IntKind.wrap .i64 ((↑(ByteArray.size v2) : Int) - v1) ∧ IntKind.wrap .i64 ((↑(ByteArray.size v2) : Int) - v1) ≤ (↑(ByteArray.size v2) : Int) ∧ (↑(ByteArray.size v2) : Int) ≤ (↑(ByteArray.size v2) : Int)) (.lt (ByteArray.extract v2 (Int.toNat (IntKind.wrap .i64 ((↑(ByteArray.size v2) : Int) - v1))) (Int.toNat (↑(ByteArray.size v2) : Int))) (fun v5 =>
                       .need ((↑(ByteArray.size v4 + ByteArray.size v5) : Int) ≤ IntKind.max .i64) (.lt (v4 ++ v5) (fun v6 =>
                         .ite (x.1.1.1 && decide (x.1.1.2.1 ≠ (0 : Nat)))
                          (.ite (decide ((↑(List.length (mg (valL (mg (valL (mg (valL (mg (valL (mg x.1.1.2.1) * (10 : Nat) ^ Int.toNat (v1 - (0 : Int)))) * valL [(2 : Int)])) + valL (mg x.1.2.2.1))) / valL (mg (valL (mg x.1.2.2.1) * valL [(2 : Int)]))))) : Int) > (0 : Int)))
                           (.need ((↑(ByteArray.size { data := #[(45 : UInt8)] } + ByteArray.size v6) : Int) ≤ IntKind.max .i64) (.lt ({ data := #[(45 : UInt8)] } ++ v6) (fun v7 =>
                             .ret (.tup [(.one (.v (.string (v7)))), (.one (.v (.bool (true))))]))))
                           (.ret (.tup [(.one (.v (.string (v6)))), (.one (.v (.bool (true))))])))
                          (.ret (.tup [(.one (.v (.string (v6)))), (.one (.v (.bool (true))))])))))))))))
                 (.ite (x.1.1.1 && decide (x.1.1.2.1 ≠ (0 : Nat)))
                  (.ite (decide ((↑(List.length (mg (valL (mg (valL (mg (valL (mg (valL (mg x.1.1.2.1) * (10 : Nat) ^ Int.toNat (v1 - (0 : Int)))) * valL [(2 : Int)])) + valL (mg x.1.2.2.1))) / valL (mg (valL (mg x.1.2.2.1) * valL [(2 : Int)]))))) : Int) > (0 : Int)))
                   (.need ((↑(ByteArray.size { data := #[(45 : UInt8)] } + ByteArray.size v2) : Int) ≤ IntKind.max .i64) (.lt ({ data := #[(45 : UInt8)] } ++ v2) (fun v3 =>
                     .ret (.tup [(.one (.v (.string (v3)))), (.one (.v (.bool (true))))]))))
                   (.ret (.tup [(.one (.v (.string (v2)))), (.one (.v (.bool (true))))])))
                  (.ret (.tup [(.one (.v (.string (v2)))), (.one (.v (.bool (true))))])))))))))))
         (.need (List.length (mg (valL (mg (valL (mg x.1.1.2.1) * (10 : Nat) ^ Int.toNat (v1 - (0 : Int)))) * valL [(2 : Int)])) ≤ (1000000 : Nat) ∧ List.length (mg x.1.2.2.1) ≤ (1000000 : Nat) ∧ Words (mg (valL (mg (valL (mg x.1.1.2.1) * (10 : Nat) ^ Int.toNat (v1 - (0 : Int)))) * valL [(2 : Int)])) ∧ Words (mg x.1.2.2.1)) (.need (List.length (mg x.1.2.2.1) ≤ (1000000 : Nat) ∧ List.length [(2 : Int)] ≤ (1000000 : Nat) ∧ Words (mg x.1.2.2.1) ∧ Words [(2 : Int)]) (.need (mg (valL (mg (valL (mg (valL (mg x.1.1.2.1) * (10 : Nat) ^ Int.toNat (v1 - (0 : Int)))) * valL [(2 : Int)])) + valL (mg x.1.2.2.1)) = mg (valL (mg (valL (mg (valL (mg (valL (mg x.1.1.2.1) * (10 : Nat) ^ Int.toNat (v1 - (0 : Int)))) * valL [(2 : Int)])) + valL (mg x.1.2.2.1)))) ∧ mg (valL (mg x.1.2.2.1) * valL [(2 : Int)]) = mg (valL (mg (valL (mg x.1.2.2.1) * valL [(2 : Int)]))) ∧ List.length (mg (valL (mg (valL (mg (valL (mg x.1.1.2.1) * (10 : Nat) ^ Int.toNat (v1 - (0 : Int)))) * valL [(2 : Int)])) + valL (mg x.1.2.2.1))) ≤ (100000 : Nat) ∧ List.length (mg (valL (mg x.1.2.2.1) * valL [(2 : Int)])) ≤ (100000 : Nat) ∧ valL (mg (valL (mg x.1.2.2.1) * valL [(2 : Int)])) ≠ (0 : Nat)) (.need (mg (valL (mg (valL (mg (valL (mg (valL (mg x.1.1.2.1) * (10 : Nat) ^ Int.toNat (v1 - (0 : Int)))) * valL [(2 : Int)])) + valL (mg x.1.2.2.1))) / valL (mg (valL (mg x.1.2.2.1) * valL [(2 : Int)]))) = mg (valL (mg (valL (mg (valL (mg (valL (mg (valL (mg x.1.1.2.1) * (10 : Nat) ^ Int.toNat (v1 - (0 : Int)))) * valL [(2 : Int)])) + valL (mg x.1.2.2.1))) / valL (mg (valL (mg x.1.2.2.1) * valL [(2 : Int)]))))) ∧ valL (mg (valL (mg (valL (mg (valL (mg (valL (mg x.1.1.2.1) * (10 : Nat) ^ Int.toNat (v1 - (0 : Int)))) * valL [(2 : Int)])) + valL (mg x.1.2.2.1))) / valL (mg (valL (mg x.1.2.2.1) * valL [(2 : Int)])))) < (2 : Nat) ^ (1024 : Nat)) (.need (v1 ≤ (20 : El (Cd.int .i64)) ∧ (↑(ByteArray.size (ptx (valL (mg (valL (mg (valL (mg (valL (mg (valL (mg x.1.1.2.1) * (10 : Nat) ^ Int.toNat (v1 - (0 : Int)))) * valL [(2 : Int)])) + valL (mg x.1.2.2.1))) / valL (mg (valL (mg x.1.2.2.1) * valL [(2 : Int)]))))))) : Int) ≤ (2000 : Int)) (.lt (padS v1 (ptx (valL (mg (valL (mg (valL (mg (valL (mg (valL (mg x.1.1.2.1) * (10 : Nat) ^ Int.toNat (v1 - (0 : Int)))) * valL [(2 : Int)])) + valL (mg x.1.2.2.1))) / valL (mg (valL (mg x.1.2.2.1) * valL [(2 : Int)]))))))) (fun v2 =>
               .ite (decide (v1 > (0 : Int)))
                (.need ((0 : Int) ≤ (0 : Int) ∧ (0 : Int) ≤ IntKind.wrap .i64 ((↑(ByteArray.size v2) : Int) - v1) ∧ IntKind.wrap .i64 ((↑(ByteArray.size v2) : Int) - v1) ≤ (↑(ByteArray.size v2) : Int)) (.lt (ByteArray.extract v2 (Int.toNat (0 : Int)) (Int.toNat (IntKind.wrap .i64 ((↑(ByteArray.size v2) : Int) - v1)))) (fun v3 =>
                  .need ((↑(ByteArray.size v3 + ByteArray.size { data := #[(46 : UInt8)] }) : Int) ≤ IntKind.max .i64) (.lt (v3 ++ { data := #[(46 : UInt8)] }) (fun v4 =>
                    .need ((0 : Int) ≤ IntKind.wrap .i64 ((↑(ByteArray.size v2) : Int) - v1) ∧ IntKind.wrap .i64 ((↑(ByteArray.size v2) : Int) - v1) ≤ (↑(ByteArray.size v2) : Int) ∧ (↑(ByteArray.size v2) : Int) ≤ (↑(ByteArray.size v2) : Int)) (.lt (ByteArray.extract v2 (Int.toNat (IntKind.wrap .i64 ((↑(ByteArray.size v2) : Int) - v1))) (Int.toNat (↑(ByteArray.size v2) : Int))) (fun v5 =>
                      .need ((↑(ByteArray.size v4 + ByteArray.size v5) : Int) ≤ IntKind.max .i64) (.lt (v4 ++ v5) (fun v6 =>
                        .ite (x.1.1.1 && decide (x.1.1.2.1 ≠ (0 : Nat)))
                         (.ite (decide ((↑(List.length (mg (valL (mg (valL (mg (valL (mg (valL (mg x.1.1.2.1) * (10 : Nat) ^ Int.toNat (v1 - (0 : Int)))) * valL [(2 : Int)])) + valL (mg x.1.2.2.1))) / valL (mg (valL (mg x.1.2.2.1) * valL [(2 : Int)]))))) : Int) > (0 : Int)))
                          (.need ((↑(ByteArray.size { data := #[(45 : UInt8)] } + ByteArray.size v6) : Int) ≤ IntKind.max .i64) (.lt ({ data := #[(45 : UInt8)] } ++ v6) (fun v7 =>
                            .ret (.tup [(.one (.v (.string (v7)))), (.one (.v (.bool (true))))]))))
                          (.ret (.tup [(.one (.v (.string (v6)))), (.one (.v (.bool (true))))])))
                         (.ret (.tup [(.one (.v (.string (v6)))), (.one (.v (.bool (true))))])))))))))))
                (.ite (x.1.1.1 && decide (x.1.1.2.1 ≠ (0 : Nat)))
                 (.ite (decide ((↑(List.length (mg (valL (mg (valL (mg (valL (mg (valL (mg x.1.1.2.1) * (10 : Nat) ^ Int.toNat (v1 - (0 : Int)))) * valL [(2 : Int)])) + valL (mg x.1.2.2.1))) / valL (mg (valL (mg x.1.2.2.1) * valL [(2 : Int)]))))) : Int) > (0 : Int)))
                  (.need ((↑(ByteArray.size { data := #[(45 : UInt8)] } + ByteArray.size v2) : Int) ≤ IntKind.max .i64) (.lt ({ data := #[(45 : UInt8)] } ++ v2) (fun v3 =>
                    .ret (.tup [(.one (.v (.string (v3)))), (.one (.v (.bool (true))))]))))
                  (.ret (.tup [(.one (.v (.string (v2)))), (.one (.v (.bool (true))))])))
                 (.ret (.tup [(.one (.v (.string (v2)))), (.one (.v (.bool (true))))]))))))))))))
       (.need (List.length (mg (valL (mg x.1.1.2.1) * (10 : Nat) ^ Int.toNat (v1 - (0 : Int)))) ≤ (1000000 : Nat) ∧ List.length [(2 : Int)] ≤ (1000000 : Nat) ∧ Words (mg (valL (mg x.1.1.2.1) * (10 : Nat) ^ Int.toNat (v1 - (0 : Int)))) ∧ Words [(2 : Int)]) (.need (List.length (mg (valL (mg (valL (mg x.1.1.2.1) * (10 : Nat) ^ Int.toNat (v1 - (0 : Int)))) * valL [(2 : Int)])) ≤ (1000000 : Nat) ∧ List.length (mg x.1.2.2.1) ≤ (1000000 : Nat) ∧ Words (mg (valL (mg (valL (mg x.1.1.2.1) * (10 : Nat) ^ Int.toNat (v1 - (0 : Int)))) * valL [(2 : Int)])) ∧ Words (mg x.1.2.2.1)) (.need (List.length (mg x.1.2.2.1) ≤ (1000000 : Nat) ∧ List.length [(2 : Int)] ≤ (1000000 : Nat) ∧ Words (mg x.1.2.2.1) ∧ Words [(2 : Int)]) (.need (mg (valL (mg (valL (mg (valL (mg x.1.1.2.1) * (10 : Nat) ^ Int.toNat (v1 - (0 : Int)))) * valL [(2 : Int)])) + valL (mg x.1.2.2.1)) = mg (valL (mg (valL (mg (valL (mg (valL (mg x.1.1.2.1) * (10 : Nat) ^ Int.toNat (v1 - (0 : Int)))) * valL [(2 : Int)])) + valL (mg x.1.2.2.1)))) ∧ mg (valL (mg x.1.2.2.1) * valL [(2 : Int)]) = mg (valL (mg (valL (mg x.1.2.2.1) * valL [(2 : Int)]))) ∧ List.length (mg (valL (mg (valL (mg (valL (mg x.1.1.2.1) * (10 : Nat) ^ Int.toNat (v1 - (0 : Int)))) * valL [(2 : Int)])) + valL (mg x.1.2.2.1))) ≤ (100000 : Nat) ∧ List.length (mg (valL (mg x.1.2.2.1) * valL [(2 : Int)])) ≤ (100000 : Nat) ∧ valL (mg (valL (mg x.1.2.2.1) * valL [(2 : Int)])) ≠ (0 : Nat)) (.need (mg (valL (mg (valL (mg (valL (mg (valL (mg x.1.1.2.1) * (10 : Nat) ^ Int.toNat (v1 - (0 : Int)))) * valL [(2 : Int)])) + valL (mg x.1.2.2.1))) / valL (mg (valL (mg x.1.2.2.1) * valL [(2 : Int)]))) = mg (valL (mg (valL (mg (valL (mg (valL (mg (valL (mg x.1.1.2.1) * (10 : Nat) ^ Int.toNat (v1 - (0 : Int)))) * valL [(2 : Int)])) + valL (mg x.1.2.2.1))) / valL (mg (valL (mg x.1.2.2.1) * valL [(2 : Int)]))))) ∧ valL (mg (valL (mg (valL (mg (valL (mg (valL (mg x.1.1.2.1) * (10 : Nat) ^ Int.toNat (v1 - (0 : Int)))) * valL [(2 : Int)])) + valL (mg x.1.2.2.1))) / valL (mg (valL (mg x.1.2.2.1) * valL [(2 : Int)])))) < (2 : Nat) ^ (1024 : Nat)) (.need (v1 ≤ (20 : El (Cd.int .i64)) ∧ (↑(ByteArray.size (ptx (valL (mg (valL (mg (valL (mg (valL (mg (valL (mg x.1.1.2.1) * (10 : Nat) ^ Int.toNat (v1 - (0 : Int)))) * valL [(2 : Int)])) + valL (mg x.1.2.2.1))) / valL (mg (valL (mg x.1.2.2.1) * valL [(2 : Int)]))))))) : Int) ≤ (2000 : Int)) (.lt (padS v1 (ptx (valL (mg (valL (mg (valL (mg (valL (mg (valL (mg x.1.1.2.1) * (10 : Nat) ^ Int.toNat (v1 - (0 : Int)))) * valL [(2 : Int)])) + valL (mg x.1.2.2.1))) / valL (mg (valL (mg x.1.2.2.1) * valL [(2 : Int)]))))))) (fun v2 =>
              .ite (decide (v1 > (0 : Int)))
               (.need ((0 : Int) ≤ (0 : Int) ∧ (0 : Int) ≤ IntKind.wrap .i64 ((↑(ByteArray.size v2) : Int) - v1) ∧ IntKind.wrap .i64 ((↑(ByteArray.size v2) : Int) - v1) ≤ (↑(ByteArray.size v2) : Int)) (.lt (ByteArray.extract v2 (Int.toNat (0 : Int)) (Int.toNat (IntKind.wrap .i64 ((↑(ByteArray.size v2) : Int) - v1)))) (fun v3 =>
                 .need ((↑(ByteArray.size v3 + ByteArray.size { data := #[(46 : UInt8)] }) : Int) ≤ IntKind.max .i64) (.lt (v3 ++ { data := #[(46 : UInt8)] }) (fun v4 =>
                   .need ((0 : Int) ≤ IntKind.wrap .i64 ((↑(ByteArray.size v2) : Int) - v1) ∧ IntKind.wrap .i64 ((↑(ByteArray.size v2) : Int) - v1) ≤ (↑(ByteArray.size v2) : Int) ∧ (↑(ByteArray.size v2) : Int) ≤ (↑(ByteArray.size v2) : Int)) (.lt (ByteArray.extract v2 (Int.toNat (IntKind.wrap .i64 ((↑(ByteArray.size v2) : Int) - v1))) (Int.toNat (↑(ByteArray.size v2) : Int))) (fun v5 =>
                     .need ((↑(ByteArray.size v4 + ByteArray.size v5) : Int) ≤ IntKind.max .i64) (.lt (v4 ++ v5) (fun v6 =>
                       .ite (x.1.1.1 && decide (x.1.1.2.1 ≠ (0 : Nat)))
                        (.ite (decide ((↑(List.length (mg (valL (mg (valL (mg (valL (mg (valL (mg x.1.1.2.1) * (10 : Nat) ^ Int.toNat (v1 - (0 : Int)))) * valL [(2 : Int)])) + valL (mg x.1.2.2.1))) / valL (mg (valL (mg x.1.2.2.1) * valL [(2 : Int)]))))) : Int) > (0 : Int)))
                         (.need ((↑(ByteArray.size { data := #[(45 : UInt8)] } + ByteArray.size v6) : Int) ≤ IntKind.max .i64) (.lt ({ data := #[(45 : UInt8)] } ++ v6) (fun v7 =>
                           .ret (.tup [(.one (.v (.string (v7)))), (.one (.v (.bool (true))))]))))
                         (.ret (.tup [(.one (.v (.string (v6)))), (.one (.v (.bool (true))))])))
                        (.ret (.tup [(.one (.v (.string (v6)))), (.one (.v (.bool (true))))])))))))))))
               (.ite (x.1.1.1 && decide (x.1.1.2.1 ≠ (0 : Nat)))
                (.ite (decide ((↑(List.length (mg (valL (mg (valL (mg (valL (mg (valL (mg x.1.1.2.1) * (10 : Nat) ^ Int.toNat (v1 - (0 : Int)))) * valL [(2 : Int)])) + valL (mg x.1.2.2.1))) / valL (mg (valL (mg x.1.2.2.1) * valL [(2 : Int)]))))) : Int) > (0 : Int)))
                 (.need ((↑(ByteArray.size { data := #[(45 : UInt8)] } + ByteArray.size v2) : Int) ≤ IntKind.max .i64) (.lt ({ data := #[(45 : UInt8)] } ++ v2) (fun v3 =>
                   .ret (.tup [(.one (.v (.string (v3)))), (.one (.v (.bool (true))))]))))
                 (.ret (.tup [(.one (.v (.string (v2)))), (.one (.v (.bool (true))))])))
                (.ret (.tup [(.one (.v (.string (v2)))), (.one (.v (.bool (true))))]))))))))))))
      (.need (List.length (mg (valL (mg x.1.1.2.1) * (10 : Nat) ^ Int.toNat (v1 - (0 : Int)))) ≤ (1000000 : Nat) ∧ List.length [(2 : Int)] ≤ (1000000 : Nat) ∧ Words (mg (valL (mg x.1.1.2.1) * (10 : Nat) ^ Int.toNat (v1 - (0 : Int)))) ∧ Words [(2 : Int)]) (.need (List.length (mg (valL (mg (valL (mg x.1.1.2.1) * (10 : Nat) ^ Int.toNat (v1 - (0 : Int)))) * valL [(2 : Int)])) ≤ (1000000 : Nat) ∧ List.length (mg x.1.2.2.1) ≤ (1000000 : Nat) ∧ Words (mg (valL (mg (valL (mg x.1.1.2.1) * (10 : Nat) ^ Int.toNat (v1 - (0 : Int)))) * valL [(2 : Int)])) ∧ Words (mg x.1.2.2.1)) (.need (List.length (mg x.1.2.2.1) ≤ (1000000 : Nat) ∧ List.length [(2 : Int)] ≤ (1000000 : Nat) ∧ Words (mg x.1.2.2.1) ∧ Words [(2 : Int)]) (.need (mg (valL (mg (valL (mg (valL (mg x.1.1.2.1) * (10 : Nat) ^ Int.toNat (v1 - (0 : Int)))) * valL [(2 : Int)])) + valL (mg x.1.2.2.1)) = mg (valL (mg (valL (mg (valL (mg (valL (mg x.1.1.2.1) * (10 : Nat) ^ Int.toNat (v1 - (0 : Int)))) * valL [(2 : Int)])) + valL (mg x.1.2.2.1)))) ∧ mg (valL (mg x.1.2.2.1) * valL [(2 : Int)]) = mg (valL (mg (valL (mg x.1.2.2.1) * valL [(2 : Int)]))) ∧ List.length (mg (valL (mg (valL (mg (valL (mg x.1.1.2.1) * (10 : Nat) ^ Int.toNat (v1 - (0 : Int)))) * valL [(2 : Int)])) + valL (mg x.1.2.2.1))) ≤ (100000 : Nat) ∧ List.length (mg (valL (mg x.1.2.2.1) * valL [(2 : Int)])) ≤ (100000 : Nat) ∧ valL (mg (valL (mg x.1.2.2.1) * valL [(2 : Int)])) ≠ (0 : Nat)) (.need (mg (valL (mg (valL (mg (valL (mg (valL (mg x.1.1.2.1) * (10 : Nat) ^ Int.toNat (v1 - (0 : Int)))) * valL [(2 : Int)])) + valL (mg x.1.2.2.1))) / valL (mg (valL (mg x.1.2.2.1) * valL [(2 : Int)]))) = mg (valL (mg (valL (mg (valL (mg (valL (mg (valL (mg x.1.1.2.1) * (10 : Nat) ^ Int.toNat (v1 - (0 : Int)))) * valL [(2 : Int)])) + valL (mg x.1.2.2.1))) / valL (mg (valL (mg x.1.2.2.1) * valL [(2 : Int)]))))) ∧ valL (mg (valL (mg (valL (mg (valL (mg (valL (mg x.1.1.2.1) * (10 : Nat) ^ Int.toNat (v1 - (0 : Int)))) * valL [(2 : Int)])) + valL (mg x.1.2.2.1))) / valL (mg (valL (mg x.1.2.2.1) * valL [(2 : Int)])))) < (2 : Nat) ^ (1024 : Nat)) (.need (v1 ≤ (20 : El (Cd.int .i64)) ∧ (↑(ByteArray.size (ptx (valL (mg (valL (mg (valL (mg (valL (mg (valL (mg x.1.1.2.1) * (10 : Nat) ^ Int.toNat (v1 - (0 : Int)))) * valL [(2 : Int)])) + valL (mg x.1.2.2.1))) / valL (mg (valL (mg x.1.2.2.1) * valL [(2 : Int)]))))))) : Int) ≤ (2000 : Int)) (.lt (padS v1 (ptx (valL (mg (valL (mg (valL (mg (valL (mg (valL (mg x.1.1.2.1) * (10 : Nat) ^ Int.toNat (v1 - (0 : Int)))) * valL [(2 : Int)])) + valL (mg x.1.2.2.1))) / valL (mg (valL (mg x.1.2.2.1) * valL [(2 : Int)]))))))) (fun v2 =>
             .ite (decide (v1 > (0 : Int)))
              (.need ((0 : Int) ≤ (0 : Int) ∧ (0 : Int) ≤ IntKind.wrap .i64 ((↑(ByteArray.size v2) : Int) - v1) ∧ IntKind.wrap .i64 ((↑(ByteArray.size v2) : Int) - v1) ≤ (↑(ByteArray.size v2) : Int)) (.lt (ByteArray.extract v2 (Int.toNat (0 : Int)) (Int.toNat (IntKind.wrap .i64 ((↑(ByteArray.size v2) : Int) - v1)))) (fun v3 =>
                .need ((↑(ByteArray.size v3 + ByteArray.size { data := #[(46 : UInt8)] }) : Int) ≤ IntKind.max .i64) (.lt (v3 ++ { data := #[(46 : UInt8)] }) (fun v4 =>
                  .need ((0 : Int) ≤ IntKind.wrap .i64 ((↑(ByteArray.size v2) : Int) - v1) ∧ IntKind.wrap .i64 ((↑(ByteArray.size v2) : Int) - v1) ≤ (↑(ByteArray.size v2) : Int) ∧ (↑(ByteArray.size v2) : Int) ≤ (↑(ByteArray.size v2) : Int)) (.lt (ByteArray.extract v2 (Int.toNat (IntKind.wrap .i64 ((↑(ByteArray.size v2) : Int) - v1))) (Int.toNat (↑(ByteArray.size v2) : Int))) (fun v5 =>
                    .need ((↑(ByteArray.size v4 + ByteArray.size v5) : Int) ≤ IntKind.max .i64) (.lt (v4 ++ v5) (fun v6 =>
                      .ite (x.1.1.1 && decide (x.1.1.2.1 ≠ (0 : Nat)))
                       (.ite (decide ((↑(List.length (mg (valL (mg (valL (mg (valL (mg (valL (mg x.1.1.2.1) * (10 : Nat) ^ Int.toNat (v1 - (0 : Int)))) * valL [(2 : Int)])) + valL (mg x.1.2.2.1))) / valL (mg (valL (mg x.1.2.2.1) * valL [(2 : Int)]))))) : Int) > (0 : Int)))
                        (.need ((↑(ByteArray.size { data := #[(45 : UInt8)] } + ByteArray.size v6) : Int) ≤ IntKind.max .i64) (.lt ({ data := #[(45 : UInt8)] } ++ v6) (fun v7 =>
                          .ret (.tup [(.one (.v (.string (v7)))), (.one (.v (.bool (true))))]))))
                        (.ret (.tup [(.one (.v (.string (v6)))), (.one (.v (.bool (true))))])))
                       (.ret (.tup [(.one (.v (.string (v6)))), (.one (.v (.bool (true))))])))))))))))
              (.ite (x.1.1.1 && decide (x.1.1.2.1 ≠ (0 : Nat)))
               (.ite (decide ((↑(List.length (mg (valL (mg (valL (mg (valL (mg (valL (mg x.1.1.2.1) * (10 : Nat) ^ Int.toNat (v1 - (0 : Int)))) * valL [(2 : Int)])) + valL (mg x.1.2.2.1))) / valL (mg (valL (mg x.1.2.2.1) * valL [(2 : Int)]))))) : Int) > (0 : Int)))
                (.need ((↑(ByteArray.size { data := #[(45 : UInt8)] } + ByteArray.size v2) : Int) ≤ IntKind.max .i64) (.lt ({ data := #[(45 : UInt8)] } ++ v2) (fun v3 =>
                  .ret (.tup [(.one (.v (.string (v3)))), (.one (.v (.bool (true))))]))))
                (.ret (.tup [(.one (.v (.string (v2)))), (.one (.v (.bool (true))))])))
               (.ret (.tup [(.one (.v (.string (v2)))), (.one (.v (.bool (true))))])))))))))))))))
theorem tr_pDecimal_eq (x : Els [(true, cF), (false, .int .i64)]) : fnP E38 lpDecs Tryz.f18 (encs [(true, cF), (false, .int .i64)] x) = tr_pDecimal x := by kernel_rfl
end Go.Proofs.YtjijakfcahhioaaGreat
/-
The reference: Decimal.
-/
set_option linter.unusedSimpArgs false
set_option linter.unusedVariables false
namespace Go.Proofs.YtjijakfcahhioaaGreat
open Go.RowKit Ax
theorem near_nat {n D : Nat} (hD : 0 < D) : (n * 2 + D) / (D * 2) = if n % D * 2 ≥ D then n / D + 1 else n / D := by
  have h := Nat.div_add_mod n D
  have hl := Nat.mod_lt n hD
  generalize n / D = q at *
  generalize n % D = r at *
  have e : n * 2 + D = D * 2 * q + (r * 2 + D) := by
    rw [← h, Nat.add_mul, Nat.mul_right_comm]; omega
  rw [e, Nat.mul_add_div (by omega)]
  by_cases hr : r * 2 ≥ D
  · rw [if_pos hr]
    congr 1
    exact Nat.div_eq_of_lt_le (by omega) (by omega)
  · rw [if_neg hr, Nat.div_eq_of_lt (by omega), Nat.add_zero]
theorem qdec_nat {f : F} {k : Int} (h : 0 < zW f.2) : qdec f k = (((f.1.2.1 * 10 ^ k.toNat) * 2 + f.2.2.1) / (f.2.2.1 * 2) : Nat) := by
  obtain ⟨e1, e2⟩ := den_z h
  have e3 : (zW f.1).natAbs = f.1.2.1 := Pq.zv_abs _ _
  rw [near_nat (Nat.pos_of_ne_zero e2)]
  unfold qdec
  rw [e1, e3]
  have e4 : ((f.1.2.1 : Nat) : Int) * 10 ^ k.toNat = ((f.1.2.1 * 10 ^ k.toNat : Nat) : Int) := by
    rw [Int.natCast_mul, Int.natCast_pow]; rfl
  rw [e4, ← Int.natCast_emod, ← Int.natCast_ediv]
  by_cases hr : f.1.2.1 * 10 ^ k.toNat % f.2.2.1 * 2 ≥ f.2.2.1
  · rw [if_pos hr, if_pos (by omega)]; rfl
  · rw [if_neg hr, if_neg (by omega)]
theorem succ_pow {n k : Nat} (h : n < 2 ^ k) : n + 1 < 2 ^ (k + 1) := by
  rw [Nat.pow_succ]
  have := Nat.two_pow_pos k
  omega
theorem succ_bp {n k : Nat} (h : n < 2 ^ k) (hk : k + 1 ≤ 1024) : n + 1 < Pq.bp 32 := Nat.lt_of_lt_of_le (succ_pow h) (bp_ge (k := k + 1) 1024 rfl hk)
theorem txt_nat {q : Nat} (h : q < Pq.bp 32) : txt (wOf (q : Int)) = ptx q := by
  have e : wOf (q : Int) = (false, ⟨q, h⟩) := wOf_zv (n := false) h
  rw [e, txt_ptx]; rfl
theorem clamp_min (d : Int) : (if (if (20 : Int) < d then (20 : Int) else d) > 0 then (if (20 : Int) < d then (20 : Int) else d) else 0) = clampD d := by
  unfold clampD
  split <;> split <;> (try split) <;> (try split) <;> omega
noncomputable def con_pDecimal : Con Tryz.prog := ⟨18, [], _, cf_pDecimal, tot_con (E := E38) (L := lpDecs) mixed Tryz.func18 (two_loops (by kernel_rfl) (by decide) pdecA_ok pdecB_ok) [(true, cF), (false, .int .i64)] (fun x => ansA false .str (safeF 500 x.1) (decS (qdec x.1 (clampD x.2.1)) (clampD x.2.1) (zW x.1.1)) ⟨#[]⟩) fun x => by
  rw [tr_pDecimal_eq]
  obtain ⟨f, d, u⟩ := x
  revert f d
  intro (f : F) (d : Int)
  unfold tr_pDecimal
  have e2 : valL [(2 : Int)] = 2 := rfl
  simp only [T.wp, dup_wp, and_self, val_mg, e2, Int.sub_zero]
  obtain ⟨c0, c1⟩ := clampD_in d
  rw [clamp_min]
  generalize clampD d = k at *
  refine ⟨fun h => ?_, fun h => ?_⟩
  · have h : safeF 500 f = false := by simpa using h
    rw [h]; rfl
  have hsf : safeF 500 f = true := by simpa using h
  obtain ⟨a1, a2, a3⟩ := safe_b (of_decide_eq_true hsf)
  rw [hsf, qdec_nat a3]
  obtain ⟨zd, d0⟩ := den_z a3
  have e3 : (zW f.1).natAbs = f.1.2.1 := Pq.zv_abs _ _
  have e4 : (zW f.2).natAbs = f.2.2.1 := Pq.zv_abs _ _
  rw [e3] at a1
  rw [e4] at a2
  have p10 : 10 ^ k.toNat < 2 ^ 100 := Nat.lt_of_le_of_lt (Nat.pow_le_pow_right (by decide) (show k.toNat ≤ 20 from by omega)) (by decide +kernel)
  have hnb : f.1.2.1 * 10 ^ k.toNat < 2 ^ 600 := pow_mul_e (j := 500) (k := 100) (n := 600) rfl a1 p10
  have hng : (f.1.1 && decide (f.1.2.1 ≠ 0)) = decide (zW f.1 < 0) := by
    unfold zW Pq.zv
    cases f.1.1 with
    | false => rw [Bool.false_and, eq_comm, decide_eq_false_iff_not]; simp
    | true => rw [Bool.true_and, decide_eq_decide]; simp; omega
  rw [hng]
  generalize f.1.2.1 * 10 ^ k.toNat = n at *
  generalize f.2.2.1 = D at *
  generalize zW f.1 = nz at *
  have hn32 : n < Pq.bp 32 := Nat.lt_of_lt_of_le hnb (bp_ge (k := 600) 1024 rfl (by decide))
  have hD32 : D < Pq.bp 32 := Nat.lt_of_lt_of_le a2 (bp_ge (k := 500) 1024 rfl (by decide))
  have hn100 : n < Pq.bp 100 := Nat.lt_of_lt_of_le hn32 (Pq.bp_mono (by decide))
  have h33 : Pq.bp 33 = Pq.bp 32 * 4294967296 := Pq.bp_succ 32
  have l1 := mg_len.1 hn32
  have l2 := mg_len.1 hD32
  have l3 : (mg (n * 2)).length ≤ 33 := mg_len.1 (by omega)
  have l4 : (mg (n * 2 + D)).length ≤ 33 := mg_len.1 (by omega)
  have l5 : (mg (D * 2)).length ≤ 33 := mg_len.1 (by omega)
  have hq : (n * 2 + D) / (D * 2) < Pq.bp 32 := by
    have h1 : (n * 2 + D) / (D * 2) ≤ n + 1 := by
      rw [near_nat (by omega)]
      have := Nat.div_le_self n D
      split <;> omega
    exact Nat.lt_of_le_of_lt h1 (succ_bp (k := 600) hnb (by decide))
  generalize (n * 2 + D) / (D * 2) = q at *
  have hq24 : q < 2 ^ 1024 := bp_le 1024 rfl hq
  rw [← txt_nat hq, mg_pos_iff]
  have ht := txt_size (wOf (q : Int))
  have hp := padS_size k (txt (wOf (q : Int)))
  unfold decS
  generalize padS k (txt (wOf (q : Int))) = s at *
  generalize txt (wOf (q : Int)) = u at *
  have hs1 : s.size ≤ 2000 := by omega
  have hs2 : k < (s.size : Int) := by omega
  have e : IntKind.i64.wrap ((s.size : Int) - k) = (s.size : Int) - k := IntWalk.i64_in _ (by omega)
  have e1 : ByteArray.size (⟨#[46]⟩ : ByteArray) = 1 := rfl
  have e5 : ByteArray.size (⟨#[45]⟩ : ByteArray) = 1 := rfl
  have w2 : Words [(2 : Int)] := fun v hv => by rw [List.mem_singleton] at hv; omega
  rw [e]
  -- the sign
  have sg : ∀ t : ByteArray, t.size ≤ 3000 → (decide (nz < 0) = true → (decide (q ≠ 0) = true → ((ByteArray.size (⟨#[45]⟩ : ByteArray) + t.size : Nat) : Int) ≤ IntKind.i64.max ∧ Av.tup [.one (.v (.string (⟨#[45]⟩ ++ t))), .one (.v (.bool true))] = ansA false .str true (signS (decide (nz < 0 ∧ (q : Int) ≠ 0)) t) ⟨#[]⟩) ∧ (decide (q ≠ 0) = false → Av.tup [.one (.v (.string t)), .one (.v (.bool true))] = ansA false .str true (signS (decide (nz < 0 ∧ (q : Int) ≠ 0)) t) ⟨#[]⟩)) ∧ (decide (nz < 0) = false → Av.tup [.one (.v (.string t)), .one (.v (.bool true))] = ansA false .str true (signS (decide (nz < 0 ∧ (q : Int) ≠ 0)) t) ⟨#[]⟩) := fun t ht => by
    refine ⟨fun h1 => ⟨fun h2 => ⟨?_, ?_⟩, fun h2 => ?_⟩, fun h1 => ?_⟩
    · rw [e5]; show ((_ : Nat) : Int) ≤ 9223372036854775807; omega
    · have h1 := of_decide_eq_true h1
      have h2 := of_decide_eq_true h2
      rw [decide_eq_true (show nz < 0 ∧ (q : Int) ≠ 0 from ⟨h1, by omega⟩)]; rfl
    · have h2 := of_decide_eq_false h2
      rw [decide_eq_false (show ¬ (nz < 0 ∧ (q : Int) ≠ 0) from fun hh => h2 (by have := hh.2; omega))]; rfl
    · have h1 := of_decide_eq_false h1
      rw [decide_eq_false (show ¬ (nz < 0 ∧ (q : Int) ≠ 0) from fun hh => h1 hh.1)]; rfl
  refine ⟨⟨Int.le_refl 0, c0, c1, trivial, hn100⟩, ⟨by omega, by decide, mg_words _, w2⟩, ⟨by omega, by omega, mg_words _, mg_words _⟩, ⟨by omega, by decide, mg_words _, w2⟩, ⟨trivial, trivial, by omega, by omega, by omega⟩, ⟨trivial, hq24⟩, ⟨c1, by omega⟩, fun h => ⟨⟨by omega, by omega, by omega⟩, ?_, ⟨by omega, by omega, by omega⟩, ?_, ?_⟩, fun h => ?_⟩
  · rw [ByteArray.size_extract, e1]; show ((_ : Nat) : Int) ≤ 9223372036854775807; omega
  · rw [ByteArray.size_append, ByteArray.size_extract, ByteArray.size_extract, e1]; show ((_ : Nat) : Int) ≤ 9223372036854775807; omega
  · have hk' := of_decide_eq_true h
    have : pointS k s = s.extract (Int.toNat 0) ((s.size : Int) - k).toNat ++ ⟨#[46]⟩ ++ s.extract ((s.size : Int) - k).toNat (Int.toNat (s.size : Int)) := by
      unfold pointS; rw [if_pos hk', Int.toNat_natCast]; rfl
    rw [← this]
    refine sg _ ?_
    rw [this, ByteArray.size_append, ByteArray.size_append, ByteArray.size_extract, ByteArray.size_extract, e1]; omega
  · have hk' := of_decide_eq_false h
    have : pointS k s = s := by unfold pointS; rw [if_neg hk']
    rw [this]
    exact sg _ (by omega)⟩
end Go.Proofs.YtjijakfcahhioaaGreat
/-
RatioTells: what is known of its functions, told at once.
-/
set_option linter.unusedSimpArgs false
set_option linter.unusedVariables false
namespace Go.Proofs.YtjijakfcahhioaaGreat
open Go.RowKit Ax
noncomputable def con_rcmp1 : Con Tryz.prog := ⟨5, [], _, cf_rcmp, tot_con (E := E6) mixed Tryz.func5 no_loops [(true, cF), (true, cF)] (fun x => ansA false (.int .i64) (both x.1 x.2.1) (cq (qF x.1) (qF x.2.1)) (0 : Int)) fun x => by rw [tr_rcmp_eq]; exact rcmp_ok x⟩
noncomputable def con_radd1 : Con Tryz.prog := ⟨7, [], _, cf_radd, tot_con (E := E6) mixed Tryz.func7 no_loops [(true, cF), (true, cF)] (fun x => ansA true cF (both x.1 x.2.1) (rOf (qF x.1 + qF x.2.1)) (w0, w0)) fun x => by rw [tr_radd_eq]; exact radd_ok x⟩
noncomputable def con_rsub1 : Con Tryz.prog := ⟨9, [], _, cf_rsub, tot_con (E := E7) mixed Tryz.func9 no_loops [(true, cF), (true, cF)] (fun x => ansA true cF (both x.1 x.2.1) (rOf (qF x.1 - qF x.2.1)) (w0, w0)) fun x => by rw [tr_rsub_eq]; exact rsub_ok x⟩
noncomputable def con_rmul1 : Con Tryz.prog := ⟨11, [], _, cf_rmul, tot_con (E := E6) mixed Tryz.func11 no_loops [(true, cF), (true, cF)] (fun x => ansA true cF (both x.1 x.2.1) (rOf (qF x.1 * qF x.2.1)) (w0, w0)) fun x => by rw [tr_rmul_eq]; exact rmul_ok x⟩
noncomputable def con_rdiv1 : Con Tryz.prog := ⟨13, [], _, cf_rdiv, tot_con (E := E6) mixed Tryz.func13 no_loops [(true, cF), (true, cF)] (fun x => ansA true cF (both x.1 x.2.1 && decide (qF x.2.1 ≠ 0)) (rOf (qF x.1 / qF x.2.1)) (w0, w0)) fun x => by rw [tr_rdiv_eq]; exact rdiv_ok x⟩
noncomputable def con_rfloor1 : Con Tryz.prog := ⟨15, [], _, cf_rfloor, tot_con (E := E7) mixed Tryz.func15 no_loops [(true, cF)] (fun x => ansA true cW (okF x.1) (wOf (qF x.1).floor) w0) fun x => by rw [tr_rfloor_eq]; exact rfloor_ok x⟩
noncomputable def con_rdecimal1 : Con Tryz.prog := ⟨17, [], _, cf_rdecimal, tot_con (E := E17) (L := lpDec) mixed Tryz.func17 (one_loop decL_ok (by kernel_rfl)) [(true, cF), (false, .int .i64)] (fun x => ansA false .str (safeF 500 x.1) (decS (qdec x.1 (clampD x.2.1)) (clampD x.2.1) (zW x.1.1)) ⟨#[]⟩) fun x => by rw [tr_rdecimal_eq]; exact rdecimal_ok x⟩
noncomputable def EZ : Env Tryz.prog := E38.add [con_pAddRat, con_pSubRat, con_pDecimal, con_rcmp1, con_radd1, con_rsub1, con_rmul1, con_rdiv1, con_rfloor1, con_rdecimal1]
end Go.Proofs.YtjijakfcahhioaaGreat
/-
RatioTells: its run.
-/
set_option linter.unusedSimpArgs false
set_option linter.unusedVariables false
namespace Go.Proofs.YtjijakfcahhioaaGreat
open Go.RowKit Ax
noncomputable def tr_ltells (x : Els [(true, cF), (true, cF), (false, .int .i64), (false, .int .i64)]) : T Av :=
 .ite (!true)
  (.ret (.one (.v (.bool (false)))))
  (.ite ((if both (x.1) x.2.1 = true then cq (qF (x.1)) (qF x.2.1) else (0 : Int)) != if both (x.1) x.2.1 = true then cq (qF (x.1)) (qF x.2.1) else (0 : Int))
   (.ret (.one (.v (.bool (false)))))
   (.ite (!both (x.1) x.2.1 == both (x.1) x.2.1)
    (.ret (.one (.v (.bool (false)))))
    (.ite (!((if both (x.1) x.2.1 = true then rOf (qF (x.1) + qF x.2.1) else (w0, w0)).1.1 == (if both (x.1) x.2.1 = true then rOf (qF (x.1) + qF x.2.1) else (w0, w0)).1.1 && ((if both (x.1) x.2.1 = true then rOf (qF (x.1) + qF x.2.1) else (w0, w0)).1.2.1 == (if both (x.1) x.2.1 = true then rOf (qF (x.1) + qF x.2.1) else (w0, w0)).1.2.1 && true) && ((if both (x.1) x.2.1 = true then rOf (qF (x.1) + qF x.2.1) else (w0, w0)).2.1 == (if both (x.1) x.2.1 = true then rOf (qF (x.1) + qF x.2.1) else (w0, w0)).2.1 && ((if both (x.1) x.2.1 = true then rOf (qF (x.1) + qF x.2.1) else (w0, w0)).2.2.1 == (if both (x.1) x.2.1 = true then rOf (qF (x.1) + qF x.2.1) else (w0, w0)).2.2.1 && true) && true)))
     (.ret (.one (.v (.bool (false)))))
     (.ite (!both (x.1) x.2.1 == both (x.1) x.2.1)
      (.ret (.one (.v (.bool (false)))))
      (.ite (!((if both (x.1) x.2.1 = true then rOf (qF (x.1) - qF x.2.1) else (w0, w0)).1.1 == (if both (x.1) x.2.1 = true then rOf (qF (x.1) - qF x.2.1) else (w0, w0)).1.1 && ((if both (x.1) x.2.1 = true then rOf (qF (x.1) - qF x.2.1) else (w0, w0)).1.2.1 == (if both (x.1) x.2.1 = true then rOf (qF (x.1) - qF x.2.1) else (w0, w0)).1.2.1 && true) && ((if both (x.1) x.2.1 = true then rOf (qF (x.1) - qF x.2.1) else (w0, w0)).2.1 == (if both (x.1) x.2.1 = true then rOf (qF (x.1) - qF x.2.1) else (w0, w0)).2.1 && ((if both (x.1) x.2.1 = true then rOf (qF (x.1) - qF x.2.1) else (w0, w0)).2.2.1 == (if both (x.1) x.2.1 = true then rOf (qF (x.1) - qF x.2.1) else (w0, w0)).2.2.1 && true) && true)))
       (.ret (.one (.v (.bool (false)))))
       (.ite (!both (x.1) x.2.1 == both (x.1) x.2.1)
        (.ret (.one (.v (.bool (false)))))
        (.ite (!((if both (x.1) x.2.1 = true then rOf (qF (x.1) * qF x.2.1) else (w0, w0)).1.1 == (if both (x.1) x.2.1 = true then rOf (qF (x.1) * qF x.2.1) else (w0, w0)).1.1 && ((if both (x.1) x.2.1 = true then rOf (qF (x.1) * qF x.2.1) else (w0, w0)).1.2.1 == (if both (x.1) x.2.1 = true then rOf (qF (x.1) * qF x.2.1) else (w0, w0)).1.2.1 && true) && ((if both (x.1) x.2.1 = true then rOf (qF (x.1) * qF x.2.1) else (w0, w0)).2.1 == (if both (x.1) x.2.1 = true then rOf (qF (x.1) * qF x.2.1) else (w0, w0)).2.1 && ((if both (x.1) x.2.1 = true then rOf (qF (x.1) * qF x.2.1) else (w0, w0)).2.2.1 == (if both (x.1) x.2.1 = true then rOf (qF (x.1) * qF x.2.1) else (w0, w0)).2.2.1 && true) && true)))
         (.ret (.one (.v (.bool (false)))))
         (.ite (!both (x.1) x.2.1 == both (x.1) x.2.1)
          (.ret (.one (.v (.bool (false)))))
          (.ite (!((if (both (x.1) x.2.1 && decide (qF x.2.1 ≠ (0 : Rat))) = true then rOf (qF (x.1) / qF x.2.1) else (w0, w0)).1.1 == (if (both (x.1) x.2.1 && decide (qF x.2.1 ≠ (0 : Rat))) = true then rOf (qF (x.1) / qF x.2.1) else (w0, w0)).1.1 && ((if (both (x.1) x.2.1 && decide (qF x.2.1 ≠ (0 : Rat))) = true then rOf (qF (x.1) / qF x.2.1) else (w0, w0)).1.2.1 == (if (both (x.1) x.2.1 && decide (qF x.2.1 ≠ (0 : Rat))) = true then rOf (qF (x.1) / qF x.2.1) else (w0, w0)).1.2.1 && true) && ((if (both (x.1) x.2.1 && decide (qF x.2.1 ≠ (0 : Rat))) = true then rOf (qF (x.1) / qF x.2.1) else (w0, w0)).2.1 == (if (both (x.1) x.2.1 && decide (qF x.2.1 ≠ (0 : Rat))) = true then rOf (qF (x.1) / qF x.2.1) else (w0, w0)).2.1 && ((if (both (x.1) x.2.1 && decide (qF x.2.1 ≠ (0 : Rat))) = true then rOf (qF (x.1) / qF x.2.1) else (w0, w0)).2.2.1 == (if (both (x.1) x.2.1 && decide (qF x.2.1 ≠ (0 : Rat))) = true then rOf (qF (x.1) / qF x.2.1) else (w0, w0)).2.2.1 && true) && true)))
           (.ret (.one (.v (.bool (false)))))
           (.ite (!(both (x.1) x.2.1 && decide (qF x.2.1 ≠ (0 : Rat))) == (both (x.1) x.2.1 && decide (qF x.2.1 ≠ (0 : Rat))))
            (.ret (.one (.v (.bool (false)))))
            (.ite (!((if okF (x.1) = true then wOf (Rat.floor (qF (x.1))) else w0).1 == (if okF (x.1) = true then wOf (Rat.floor (qF (x.1))) else w0).1 && ((if okF (x.1) = true then wOf (Rat.floor (qF (x.1))) else w0).2.1 == (if okF (x.1) = true then wOf (Rat.floor (qF (x.1))) else w0).2.1 && true)))
             (.ret (.one (.v (.bool (false)))))
             (.ite (!okF (x.1) == okF (x.1))
              (.ret (.one (.v (.bool (false)))))
              (.ite (ByteArray.toList (if safeF (500 : Int) (x.1) = true then decS (qdec (x.1) (clampD x.2.2.2.1)) (clampD x.2.2.2.1) (zW x.1.1) else { data := #[] }) == ByteArray.toList (if safeF (500 : Int) (x.1) = true then decS (qdec (x.1) (clampD x.2.2.2.1)) (clampD x.2.2.2.1) (zW x.1.1) else { data := #[] }))
               (.ite (safeF (500 : Int) (x.1) == safeF (500 : Int) (x.1))
                (.ite (okF (x.1) == okF (x.1))
                 (.ite (safeF x.2.2.1 (x.1) == safeF x.2.2.1 (x.1))
                  (.ite (Pq.cz (zW x.1.1) (0 : Int) == Pq.cz (zW x.1.1) (0 : Int))
                   (.ret (.one (.v (.bool (ByteArray.toList (ftxt (x.1)) == ByteArray.toList (ftxt (x.1)))))))
                   (.ret (.one (.v (.bool (false))))))
                  (.ret (.one (.v (.bool (false))))))
                 (.ret (.one (.v (.bool (false))))))
                (.ret (.one (.v (.bool (false))))))
               (.ret (.one (.v (.bool (false))))))))))))))))))
theorem tr_ltells_eq (x : Els [(true, cF), (true, cF), (false, .int .i64), (false, .int .i64)]) : fnP EZ (fun _ => none) Tryz.f3 (encs [(true, cF), (true, cF), (false, .int .i64), (false, .int .i64)] x) = tr_ltells x := by kernel_rfl
end Go.Proofs.YtjijakfcahhioaaGreat
/-
Arguments out of their readings; a law's row out of its contract.
-/
set_option linter.unusedSimpArgs false
set_option linter.unusedVariables false
namespace Ax
open Go Go.RowKit Go.ChangeShapes Go.WideShapes

/-- the bounds that a reading gives -/
def Fit : (c : Cd) → El c → Prop
  | .int k, z => (Lit.int k z).wf = true
  | .bool, _ => True
  | .str, s => s.size ≤ maxLen
  | .words, _ => True
  | .unit, _ => True
  | .pair a b, x => Fit a x.1 ∧ Fit b x.2
  | .sl c, xs => xs.length ≤ maxLen ∧ ∀ x ∈ xs, Fit c x
  | .ptr c, x => Fit c x

abbrev Rw (w : World) : Nat → Prop := fun b => b < w.heap.size

structure Opens (P : Program) (t : TypeId) (c : Cd) : Prop where
  size : P.cellsOf t = csz c
  ok : ∀ {H : Type} (enc : TypeId × Value → H) (w : World) (fuel : Nat) (cs : List Value) (x : DataW H × List MemPlace),
    DataW.trod enc P w 0 (fun _ => true) true fuel t cs = some x → ∃ y : El c, Fit c y ∧ Is w (Rw w) [] (ck c y) cs

section
variable {P : Program}
theorem opens_int {t : TypeId} {k : IntKind} (hu : P.underlying t = some (.int k)) (hs : P.cellsOf t = 1) : Opens P t (.int k) :=
  ⟨hs, fun enc w fuel cs x h => by
    obtain ⟨n, rfl, rfl, hw⟩ := DataW.trod_int hu h
    exact ⟨n, hw, .v rfl .nil⟩⟩
theorem opens_bool {t : TypeId} (hu : P.underlying t = some .bool) (hs : P.cellsOf t = 1) : Opens P t .bool :=
  ⟨hs, fun enc w fuel cs x h => by
    obtain ⟨b, rfl, rfl⟩ := DataW.trod_bool hu h
    exact ⟨b, trivial, .v rfl .nil⟩⟩
theorem opens_str {t : TypeId} (hu : P.underlying t = some .string) (hs : P.cellsOf t = 1) : Opens P t .str :=
  ⟨hs, fun enc w fuel cs x h => by
    obtain ⟨s, rfl, rfl, hs⟩ := DataW.trod_string hu h
    exact ⟨s, hs, .v rfl .nil⟩⟩

theorem am_of : ∀ (n : Nat) (l : List Value), l.length = n → (∀ v ∈ l, ∃ z : Int, v = .int .u32 z ∧ 0 ≤ z ∧ z < 4294967296) → ∃ x, x < Pq.bp n ∧ l = Pq.am n x
  | 0, l, h, _ => ⟨0, Pq.bp_pos 0, by rw [List.length_eq_zero_iff.1 h]; rfl⟩
  | n + 1, [], h, _ => by simp at h
  | n + 1, v :: r, h, hv => by
    obtain ⟨x, hx, rfl⟩ := am_of n r (by simpa using h) (fun v hv' => hv v (by simp [hv']))
    obtain ⟨z, rfl, h0, h1⟩ := hv v (by simp)
    refine ⟨Pq.lo z.toNat 1 + Pq.bp 1 * x, ?_, ?_⟩
    · have e : Pq.bp (n + 1) = Pq.bp 1 * Pq.bp n := by unfold Pq.bp; rw [← Nat.pow_add]; congr 1; omega
      have hl : Pq.lo z.toNat 1 < Pq.bp 1 := by unfold Pq.lo; exact Nat.mod_lt _ (Pq.bp_pos 1)
      rw [e]
      have : Pq.bp 1 * x + Pq.bp 1 ≤ Pq.bp 1 * Pq.bp n := by rw [← Nat.mul_succ]; exact Nat.mul_le_mul_left _ hx
      omega
    · have := Pq.am_app 1 n z.toNat x
      rw [show n + 1 = 1 + n from by omega, ← this]
      have e1 : Pq.am 1 z.toNat = [Value.int .u32 z] := by
        refine (Pq.am_ext (n := 1) (l := [Value.int .u32 z]) rfl fun i hi => ?_).symm
        obtain rfl : i = 0 := by omega
        have : Pq.wd z.toNat 0 = z.toNat := by
          unfold Pq.wd
          rw [Pq.bp_zero, Nat.div_one]
          exact Nat.mod_eq_of_lt (by omega)
        rw [this]
        simp
        omega
      rw [e1]; rfl
theorem opens_words {t e : TypeId} (hu : P.underlying t = some (.array 32 e)) (he : P.underlying e = some (.int .u32)) (hs : P.cellsOf t = 32) (hc : P.cellsOf e = 1) : Opens P t .words :=
  ⟨hs, fun enc w fuel cs x h => by
    obtain ⟨xs, m, rfl, rfl, hlen, hxl, hx⟩ := DataW.trod_array hu h
    rw [hs] at hlen
    obtain ⟨a, ha, rfl⟩ := am_of 32 cs hlen (fun v hv => by
      obtain ⟨i, hi, rfl⟩ := List.getElem_of_mem hv
      have := hx i (by omega)
      rw [hc, List.getElem?_eq_getElem (by omega : i < xs.length)] at this
      obtain ⟨n, h1, _, h3⟩ := DataW.trod_int he this
      have e1 : (cs.drop (i * 1)).take 1 = [cs[i]] := by
        rw [Nat.mul_one, List.drop_eq_getElem_cons hi]; rfl
      rw [e1] at h1
      have := bounds_u32 h3
      exact ⟨n, by injection h1, this.1, by omega⟩)
    exact ⟨⟨a, ha⟩, trivial, by have := Is.w (w := w) (R := Rw w) (σ := []) (x := ⟨a, ha⟩) .nil; rwa [List.append_nil] at this⟩⟩

def OpensF (P : Program) : List Field → Nat → Cd → Prop
  | [f], o, c => f.offset = o ∧ Opens P f.type c
  | f :: g :: r, o, .pair a b => f.offset = o ∧ Opens P f.type a ∧ OpensF P (g :: r) (o + csz a) b
  | _, _, _ => False
theorem opensF_ok {H : Type} {enc : TypeId × Value → H} {w : World} {n : Nat} {cs : List Value} : ∀ (fs : List Field) (o : Nat) (c : Cd), OpensF P fs o c → cs.length = o + csz c →
    (∀ f ∈ fs, ∃ x, DataW.trod enc P w 0 (fun _ => true) true n f.type ((cs.drop f.offset).take (P.cellsOf f.type)) = some x) → ∃ y : El c, Fit c y ∧ Is w (Rw w) [] (ck c y) (cs.drop o)
  | [], _, _, h, _, _ => h.elim
  | [f], o, c, h, hl, hx => by
    obtain ⟨rfl, h'⟩ : f.offset = o ∧ Opens P f.type c := by unfold OpensF at h; exact h
    obtain ⟨x, hx⟩ := hx f (by simp)
    obtain ⟨y, h1, h2⟩ := h'.ok enc w n _ x hx
    rw [h'.size, List.take_of_length_le (by rw [List.length_drop]; omega)] at h2
    exact ⟨y, h1, h2⟩
  | f :: g :: r, o, .pair a b, h, hl, hx => by
    obtain ⟨rfl, ha, hr⟩ : f.offset = o ∧ Opens P f.type a ∧ OpensF P (g :: r) (o + csz a) b := by unfold OpensF at h; exact h
    obtain ⟨x, hx0⟩ := hx f (by simp)
    obtain ⟨y, h1, h2⟩ := ha.ok enc w n _ x hx0
    obtain ⟨z, h3, h4⟩ := opensF_ok (g :: r) _ b hr (by simp only [csz] at hl; omega) (fun f' hf' => hx f' (by simp only [List.mem_cons] at hf' ⊢; exact .inr hf'))
    refine ⟨(y, z), ⟨h1, h3⟩, ?_⟩
    rw [ha.size] at h2
    have e : cs.drop f.offset = (cs.drop f.offset).take (csz a) ++ cs.drop (f.offset + csz a) := by
      rw [← List.drop_drop]; exact (List.take_append_drop _ _).symm
    rw [e]
    exact h2.app h4
  | f :: g :: r, o, .int _, h, _, _ => by unfold OpensF at h; exact h.elim
  | f :: g :: r, o, .bool, h, _, _ => by unfold OpensF at h; exact h.elim
  | f :: g :: r, o, .str, h, _, _ => by unfold OpensF at h; exact h.elim
  | f :: g :: r, o, .words, h, _, _ => by unfold OpensF at h; exact h.elim
  | f :: g :: r, o, .unit, h, _, _ => by unfold OpensF at h; exact h.elim
  | f :: g :: r, o, .sl _, h, _, _ => by unfold OpensF at h; exact h.elim
  | f :: g :: r, o, .ptr _, h, _, _ => by unfold OpensF at h; exact h.elim
theorem opens_struct {t : TypeId} {c : Cd} {fs : Array Field} (hu : P.underlying t = some (.struct fs)) (hs : P.cellsOf t = csz c) (h : OpensF P fs.toList 0 c) : Opens P t c :=
  ⟨hs, fun enc w fuel cs x hx => by
    obtain ⟨xs, n, rfl, rfl, hlen, hxl, hf⟩ := DataW.trod_struct hu hx
    have := opensF_ok (enc := enc) (w := w) (n := n) (cs := cs) fs.toList 0 c h (by omega) (fun f hm => by
      obtain ⟨i, hi, rfl⟩ := List.getElem_of_mem hm
      have hi' : i < fs.size := by simpa using hi
      have h1 := hf i fs[i] (by simp [hi'])
      rw [List.getElem?_eq_getElem (by omega : i < xs.length)] at h1
      exact ⟨_, by simpa using h1⟩)
    simpa using this⟩

theorem cells_at {w : World} {a : Addr} {n : Nat} {cs : List Value} (h : w.cells? 0 a n = some cs) : cs.length = n ∧ ∀ j v, cs[j]? = some v → w.cell? (a.add j) = some v := by
  unfold World.cells? at h
  rw [if_pos (Nat.zero_le _)] at h
  have hl := mapM_some_length h
  refine ⟨by simpa using hl, fun j v hj => ?_⟩
  have hj' : j < n := by have := (List.getElem?_eq_some_iff.1 hj).1; simp at hl; omega
  rw [← hj]
  exact mapM_some_get h j j (by simp [hj'])
theorem opens_slice {t e : TypeId} {c : Cd} (hu : P.underlying t = some (.slice e)) (hs : P.cellsOf t = 1) (he : Opens P e c) (hc : 0 < csz c) : Opens P t (.sl c) :=
  ⟨hs, fun enc w fuel cs x hx => by
    rcases Deep.open_slice hu hx with ⟨rfl, rfl⟩ | ⟨a, len, cap, m, n, D, Pl, rfl, _, hl, hm, hmm, rfl, hel⟩
    · exact ⟨[], ⟨Nat.zero_le _, by simp⟩, .dn .nil⟩
    · have hlm : len ≤ m := by rw [hmm]; simp; omega
      have hex : ∀ i, i < len → ∃ p : List Value × El c, w.cells? 0 (a.add (i * csz c)) (csz c) = some p.1 ∧ Fit c p.2 ∧ Is w (Rw w) [] (ck c p.2) p.1 := fun i hi => by
        obtain ⟨cs', h1, h2⟩ := hel i (by omega)
        obtain ⟨y, h3, h4⟩ := he.ok enc w n cs' _ h2
        rw [he.size] at h1
        exact ⟨(cs', y), h1, h3, h4⟩
      by_cases h0 : len = 0
      · subst h0
        exact ⟨[], ⟨Nat.zero_le _, by simp⟩, .de a cap .nil⟩
      · obtain ⟨p0, hp0⟩ := hex 0 (by omega)
        have : Inhabited (List Value × El c) := ⟨p0⟩
        obtain ⟨g, hg⟩ := Deep.choose_lt hex
        have hl0 := cells_at (hg 0 (by omega)).1
        obtain ⟨b, o, spot⟩ := a
        have hne : (g 0).1 ≠ [] := by intro e; rw [e] at hl0; simp at hl0; omega
        obtain ⟨v, r, hvr⟩ := List.exists_cons_of_ne_nil hne
        have hcell := hl0.2 0 v (by rw [hvr]; rfl)
        rw [Nat.zero_mul] at hcell
        have hspot : spot = none := by simpa [Addr.add] using World.cell?_spot hcell
        subst hspot
        have hb : b < w.heap.size := by
          simp only [Addr.add, World.cell?] at hcell
          rcases Nat.lt_or_ge b w.heap.size with h | h
          · exact h
          · simp [Array.getElem?_eq_none h] at hcell
        have hxlen : ((List.range len).map fun i => (g i).2).length = len := by simp
        refine ⟨(List.range len).map fun i => (g i).2, ⟨by rw [hxlen]; omega, fun x hx => ?_⟩, ?_⟩
        · obtain ⟨i, hi, rfl⟩ := List.mem_map.1 hx
          exact (hg i (List.mem_range.1 hi)).2.1
        · have key : ∀ (i : Nat) x, ((List.range len).map fun i => (g i).2)[i]? = some x → i < len ∧ x = (g i).2 := fun i x hx => by
            have h := (List.getElem?_eq_some_iff.1 hx).1
            rw [hxlen] at h
            refine ⟨h, ?_⟩
            simp [h] at hx
            exact hx.symm
          have : Is w (Rw w) [] [.ds c ((List.range len).map fun i => (g i).2)] [.slice (some ⟨b, o, none⟩) ((List.range len).map fun i => (g i).2).length cap] :=
            .ds (fun i => (g i).1) (by rw [hxlen]; exact hl) hb (fun i x hx => (cells_at (hg i (key i x hx).1).1).1) (fun i x hx => by
              obtain ⟨h1, rfl⟩ := key i x hx
              exact (hg i h1).2.2) (fun i x hx => by
              obtain ⟨h1, rfl⟩ := key i x hx
              intro j v hj
              have := (cells_at (hg i h1).1).2 j v hj
              rw [Addr.add_mid, Addr.add_mid] at this
              exact this) .nil
          rw [hxlen] at this
          exact this⟩

/-! ### a call's arguments -/
def aggT (P : Program) (t : TypeId) : Option Bool := match P.underlying t with
  | some (.struct _) | some (.array _ _) => some true
  | some .bool | some (.int _) | some .string | some (.slice _) | some (.pointer _) => some false
  | _ => none
def OpensAll (P : Program) : List TypeId → List (Bool × Cd) → Prop
  | [], [] => True
  | t :: ts, c :: cs => Opens P t c.2 ∧ aggT P t = some c.1 ∧ OpensAll P ts cs
  | _, _ => False
def FitA : (ts : List (Bool × Cd)) → Els ts → Prop
  | [], _ => True
  | t :: ts, x => Fit t.2 x.1 ∧ FitA ts x.2

theorem single_cells {w : World} {r : Reach} {base : Nat} {t : TypeId} {v : Value} (ha : aggT P t = some false) (h : Value.okWide P w r base t v) : v.cells.toList = [v] := by
  unfold aggT at ha
  unfold Value.okWide at h
  cases hu : P.underlying t with
  | none => simp [hu] at ha
  | some u =>
    cases u <;> simp [hu] at ha h
    all_goals
      unfold Cell.okWide Cell.ok at h
      cases v <;> simp_all [Value.cells]
theorem agg_cells {w : World} {r : Reach} {base : Nat} {t : TypeId} {v : Value} (ha : aggT P t = some true) (h : Value.okWide P w r base t v) : ∃ us : List Value, v = .agg us.toArray ∧ v.cells.toList = us := by
  unfold aggT at ha
  unfold Value.okWide at h
  cases hu : P.underlying t with
  | none => simp [hu] at ha
  | some u =>
    cases u <;> simp [hu] at ha h
    all_goals
      obtain ⟨cs, rfl, _⟩ := h
      exact ⟨cs.toList, by simp, by simp [Value.cells]⟩
theorem is_one {w : World} {R : Nat → Prop} {σ : List Nat} {l : List Ck} {us : List Value} (h : Is w R σ l us) (h1 : us.length = 1) (hc : ∀ k ∈ l, 0 < k.size) : ∃ k, l = [k] ∧ k.size = 1 := by
  match l, h with
  | [], h => cases h; simp at h1
  | k :: r, h =>
    obtain ⟨ua, ub, rfl, e, i1, i2⟩ := h.head
    have hk := hc k (by simp)
    rw [List.length_append] at h1
    have hub : ub = [] := List.length_eq_zero_iff.1 (by omega)
    subst hub
    match r, i2 with
    | [], _ => exact ⟨k, rfl, by simp at h1; omega⟩
    | k2 :: r2, i2 =>
      obtain ⟨uc, ud, e1, e2, _, _⟩ := i2.head
      have := hc k2 (by simp)
      have : uc = [] := by
        have := congrArg List.length e1
        rw [List.length_append] at this
        exact List.length_eq_zero_iff.1 (by simp at this; omega)
      subst this
      simp at e2
      omega
theorem ck_size : ∀ (c : Cd) (x : El c), ∀ k ∈ ck c x, 0 < k.size
  | .int k, x, k', h => by simp [ck] at h; subst h; simp [Ck.size]
  | .bool, x, k', h => by simp [ck] at h; subst h; simp [Ck.size]
  | .str, x, k', h => by simp [ck] at h; subst h; simp [Ck.size]
  | .words, x, k', h => by simp [ck] at h; subst h; simp [Ck.size]
  | .unit, x, k', h => by simp [ck] at h
  | .pair a b, x, k', h => by
    simp only [ck, List.mem_append] at h
    rcases h with h | h
    · exact ck_size a _ _ h
    · exact ck_size b _ _ h
  | .sl c, x, k', h => by simp [ck] at h; subst h; simp [Ck.size]
  | .ptr c, x, k', h => by simp [ck] at h; subst h; simp [Ck.size]

theorem arg_is {H : Type} {enc : TypeId × Value → H} {w : World} {r : Reach} {base : Nat} {t : TypeId} {b : Bool} {c : Cd} {v : Value} {d : DataW H} {p : List MemPlace} (hO : Opens P t c) (ha : aggT P t = some b)
    (hv : Value.okWide P w r base t v) (h : DataW.Trod enc P w 0 (fun _ => true) true t v d p) : ∃ y : El c, Fit c y ∧ AvIs w (Rw w) [] (encA b c y) v := by
  obtain ⟨fuel, hf⟩ := h
  obtain ⟨y, h1, h2⟩ := hO.ok enc w fuel _ _ hf
  refine ⟨y, h1, ?_⟩
  cases b with
  | true =>
    obtain ⟨us, rfl, e⟩ := agg_cells ha hv
    rw [e] at h2
    exact .agg h2
  | false =>
    have e := single_cells ha hv
    rw [e] at h2
    obtain ⟨k, hk, hs⟩ := is_one h2 rfl (ck_size c y)
    unfold encA
    simp only [hk] at h2 ⊢
    exact .one hs h2
theorem args_are {H : Type} {enc : TypeId × Value → H} {w : World} {r : Reach} {base : Nat} : ∀ (ts : List (Bool × Cd)) (tys : List TypeId) (vs : List Value) (ds : List (DataW H)) (p : List MemPlace), OpensAll P tys ts →
    DataW.TrodAll enc P w 0 (fun _ => true) true tys vs ds p → (∀ (j : Nat) t v, tys[j]? = some t → vs[j]? = some v → Value.okWide P w r base t v) →
    ∃ x : Els ts, FitA ts x ∧ vs.length = (encs ts x).length ∧ (∀ (i : Nat) a v, (encs ts x)[i]? = some a → vs[i]? = some v → AvIs w (Rw w) [] a v)
  | [], [], vs, ds, p, _, h, _ => by
    obtain ⟨rfl, rfl, rfl⟩ := trodAll_nil h
    exact ⟨(), trivial, rfl, fun i a v h1 => by simp [encs] at h1⟩
  | [], _ :: _, _, _, _, hO, _, _ => hO.elim
  | _ :: _, [], _, _, _, hO, _, _ => hO.elim
  | c :: ts, t :: tys, vs, ds, p, hO, h, hv => by
    obtain ⟨v, vs1, d, ds1, a, b, rfl, rfl, rfl, h1, h2⟩ := trodAll_cons h
    obtain ⟨o1, o2, o3⟩ := hO
    obtain ⟨y, f1, i1⟩ := arg_is o1 o2 (hv 0 t v rfl rfl) h1
    obtain ⟨x, f2, hl, i2⟩ := args_are ts tys vs1 ds1 b o3 h2 (fun j t' v' ht hv' => hv (j + 1) t' v' (by simpa using ht) (by simpa using hv'))
    refine ⟨(y, x), ⟨f1, f2⟩, by simp [encs, hl], fun i a' v' ha' hv' => ?_⟩
    rcases i with _ | i
    · cases ha'; cases hv'; exact i1
    · exact i2 i a' v' (by simpa [encs] using ha') (by simpa using hv')

theorem trod_stays {H : Type} {enc : TypeId × Value → H} {W W' : World} (hl : laidOutB P = true) (hb : Below W.heap.size W W') : ∀ (tys : List TypeId) (vs : List Value) (ds : List (DataW H)) (p : List MemPlace), (∀ t ∈ tys, P.readableRec t = true ∧ t < P.types.size) →
    DataW.TrodAll enc P W 0 (fun _ => true) true tys vs ds p → (∀ x ∈ p, x.block < W.heap.size) → DataW.TrodAll enc P W' 0 (fun b => decide (b < W.heap.size)) true tys vs ds p
  | [], vs, ds, p, _, h, _ => by
    obtain ⟨rfl, rfl, rfl⟩ := trodAll_nil h
    exact trodAll_mk0
  | t :: tys, vs, ds, p, ht, h, hp => by
    obtain ⟨v, vs1, d, ds1, a, b, rfl, rfl, rfl, h1, h2⟩ := trodAll_cons h
    exact trodAll_cons_mk (Below.trod hl (ht t (by simp)).1 (ht t (by simp)).2 h1 hb (fun x hx => hp x (by simp [hx])))
      (trod_stays hl hb tys vs1 ds1 b (fun t' h' => ht t' (by simp [h'])) h2 (fun x hx => hp x (by simp [hx])))

/-- what a law's call leaves -/
theorem law_post {E : Env P} {L : Loops} {f : FuncId} {fn : Func} {H : Type} {enc : TypeId × Value → H} {s : ChangeSpec} {tb : TypeId} {W : World} {base : Nat} {args : Array Value} {ds gs : List (DataW H)} {before : List MemPlace}
    (hm : P.follows .mixedOrders = true) (hf : P.funcs[f]? = some fn) (hL : ∀ c, fn.body = some c → LoopsOk P 0 L c) (hlaid : laidOutB P = true) (ts : List (Bool × Cd))
    (hrun : ∀ x : Els ts, FitA ts x → (fnP E L fn (encs ts x)).wp fun av => av = .one (.v (.bool true)))
    (tys : List TypeId) (hty : fn.params.toList = tys) (hO : OpensAll P tys ts) (hread : ∀ t ∈ tys, P.readableRec t = true ∧ t < P.types.size) (hres : fn.resultTypes = #[tb]) (hub : P.underlying tb = some .bool)
    (hvars : s.vars = []) (hspec : ∀ ds : List (DataW H), ds.length = tys.length → s.fn H ds = { results := [.lit (.bool true)], args := ds })
    (hval : ∀ (j : Nat) t v, fn.params[j]? = some t → args[j]? = some v → Value.okWide P W .any base t v) (hW : DataW.Whole enc P fn.params.toList s.vars false W args.toList ds gs before) :
    Calls P f args W fun e W' => ∃ v, e = .returned v ∧ s.post enc P fn false true false false W args v W' := by
  have hW' := hW
  obtain ⟨p, q, hA, hV, rfl, hfz, hnd⟩ := hW
  rw [hvars] at hV
  obtain ⟨rfl, rfl⟩ := trodVars_none hV
  rw [hty] at hA
  obtain ⟨x, hfit, hlen, hargs⟩ := args_are (r := .any) (base := base) ts tys args.toList ds p hO hA (fun j t v ht hv => hval j t v (by rw [← hty] at ht; simpa using ht) (by simpa using hv))
  have hdl : ds.length = tys.length := by
    have : ∀ (tys : List TypeId) (vs : List Value) (ds : List (DataW H)) (p : List MemPlace), DataW.TrodAll enc P W 0 (fun _ => true) true tys vs ds p → ds.length = tys.length := by
      intro tys
      induction tys with
      | nil => intro vs ds p h; obtain ⟨rfl, rfl, rfl⟩ := trodAll_nil h; rfl
      | cons t tys ih =>
        intro vs ds p h
        obtain ⟨v, vs1, d, ds1, a, b, rfl, rfl, rfl, h1, h2⟩ := trodAll_cons h
        simp [ih _ _ _ h2]
    exact this _ _ _ _ hA
  have hmem0 : MemOk W [] [] [] := ⟨rfl, by simp, by simp, fun i t cs b h1 h2 => by simp at h1⟩
  have hro : ∀ b, Rw W b → Ro W [] [] b := fun b hb => ⟨hb, by simp, by simp⟩
  have hw := fnP_wp (hrun x hfit)
  have hcall := fn_ok (E := E) (L := L) (w := W) (φ := []) (σ := []) hm hf hL (Nat.zero_le _) hmem0 hlen (fun i a v h1 h2 => (hargs i a v h1 h2).ro hro []) hw
  have hargsE : args.toList.toArray = args := by simp
  rw [hargsE] at hcall
  refine hcall.mono fun e W' hr => ?_
  obtain ⟨v, av, m', σ', rfl, ⟨hQ, hno⟩, hext, hkeep, hav, hmem'⟩ := hr
  have hv : v = .bool true := by
    have := nA_is hav
    rw [hQ] at this
    exact val_of this rfl
  subst hv
  have hb := hkeep.below
  have hps : ∀ y ∈ p, y.block < W.heap.size := fun y hy => by simpa using hW'.lt y (by simp [hy])
  have hst := trod_stays (enc := enc) hlaid hb tys args.toList ds p hread hA hps
  refine ⟨_, rfl, ds, [], p ++ [], [], p, [], hW', ?_, ?_, ?_, hb.frame _, fun h => by cases h⟩
  · rw [List.append_nil, hspec ds hdl, hres]
    exact trodAll_mk1 (shut_bool hub true)
  · rw [List.append_nil, hspec ds hdl, hty]
    exact hst
  · rw [List.append_nil, hspec ds hdl, hvars]
    rfl
end
end Ax
/-
RatioTells: its run answers true; what the law's row wants of the program.
-/
set_option linter.unusedSimpArgs false
set_option linter.unusedVariables false
namespace Go.Proofs.YtjijakfcahhioaaGreat
open Go.ChangeShapes Go.WideShapes Go.ChangeAt Go.RowKit Ax
theorem ltells_wp (a b : F) (n m : Int) : (tr_ltells (a, b, n, m, ())).wp fun av => av = .one (.v (.bool true)) := by
  unfold tr_ltells
  simp only [T.wp]
  simp only [beq_self_eq_true, bne_self_eq_false, Bool.true_and, Bool.and_true, Bool.and_self, Bool.not_true, reduceCtorEq, false_implies, true_implies, forall_const, true_and, and_true]
theorem own : ownKnob Tryz.prog.godebug = none := by kernel_rfl
theorem laidOut : laidOutB Tryz.prog = true := by kernel_rfl
theorem o_int : Opens Tryz.prog 3 (.int .i64) := opens_int (by kernel_rfl) (by kernel_rfl)
theorem o_bool : Opens Tryz.prog 4 .bool := opens_bool (by kernel_rfl) (by kernel_rfl)
theorem o_words : Opens Tryz.prog 23 .words := opens_words (e := 22) (by kernel_rfl) (by kernel_rfl) (by kernel_rfl) (by kernel_rfl)
theorem o_wide : Opens Tryz.prog 25 cW := opens_struct Tryz.underlying25 (by kernel_rfl) ⟨rfl, o_bool, rfl, o_words⟩
theorem o_rat : Opens Tryz.prog 27 cF := opens_struct Tryz.underlying27 (by kernel_rfl) ⟨rfl, o_wide, rfl, o_wide⟩
end Go.Proofs.YtjijakfcahhioaaGreat
