/- RatioFloors: of every fraction (raw ones too) the law returns true, and the argument reads afterwards as before. No condition. -/
import Derived.Test.YtjijakfcahhioaaK5
/- RatioFloors: of every fraction (raw ones too) the law returns true, and the argument reads afterwards as before. No condition. -/
set_option linter.unusedSimpArgs false
set_option linter.unusedVariables false
namespace Go.Proofs.Ytjijakfcahhioaa
open Go.ChangeShapes Go.WideShapes Go.ChangeAt Go.RowKit Ax
set_option maxRecDepth 100000 in
theorem ratioFloors_lifted (os : Os) (started : os.Started) (H : Type) (enc : TypeId × Value → H) :
    ReturnsInHanded {} Try.checked os 3 .any (Rows.ratioFloorsSpec.pre6 enc Try.prog Try.f3 Rows.ratioFloorsRow.domain false) (Rows.ratioFloorsSpec.post enc Try.prog Try.f3 false true false false) := by
  refine returnsInHanded_of_change (C := Try.checked) own started (by kernel_rfl) Try.func3
    (ChangeSpec.witness6 (enc := enc) (C := Try.checked) false ⟨#[], #[.agg (Pq.fc false 0 false 0)], []⟩ 8 (by kernel_rfl) (by kernel_rfl) (by kernel_rfl) (by kernel_rfl)) ?_
  intro W base args ds gs before hval hW hcnd _
  exact law_post (P := Try.prog) (E := EM) (L := fun _ => none) mixed Try.func3 no_loops laidOut [(true, cF)]
    (fun x hx => by
      rw [tr_lfloors_eq]
      exact lfloors_wp x.1)
    [27] (by kernel_rfl) ⟨o_rat, by kernel_rfl, trivial⟩ (by decide +kernel) (by kernel_rfl) Try.underlying4 rfl
    (fun ds h => by match ds, h with | [a], _ => rfl) hval hW
theorem ratioFloors_holds : Rows.RatioFloorsSaid :=
  OpenClaim.holds_of_wide 3 Try.f3 rfl rfl rfl rfl rfl rfl rfl ⟨rfl, rfl, rfl, rfl, rfl⟩ rfl rfl rfl rfl rfl (by kernel_rfl) Try.func3 (by kernel_rfl)
    (of_decide_eq_true (by kernel_rfl)) (by unfold Func.isWrapper; first | (rw [if_pos (by decide +kernel)]; kernel_rfl) | (rw [if_neg (by decide +kernel)]; exact ⟨rfl, rfl⟩))
    (fun os started H enc _ => ratioFloors_lifted os started H enc)
#print axioms ratioFloors_holds
end Go.Proofs.Ytjijakfcahhioaa
