/- RatioTextBack: of every fraction (raw ones too) and every uint8 the law returns true, and the arguments read afterwards as before. No condition. -/
import Derived.Test.YtjijakfcahhioaaK6
/- RatioTextBack: of every fraction (raw ones too) and every uint8 the law returns true, and the arguments read afterwards as before. No condition. -/
set_option linter.unusedSimpArgs false
set_option linter.unusedVariables false
namespace Go.Proofs.Ytjijakfcahhioaa
open Go.ChangeShapes Go.WideShapes Go.ChangeAt Go.RowKit Ax
set_option maxRecDepth 100000 in
theorem ratioTextBack_lifted (os : Os) (started : os.Started) (H : Type) (enc : TypeId × Value → H) :
    ReturnsInHanded {} Try.checked os 5 .any (Rows.ratioTextBackSpec.pre6 enc Try.prog Try.f5 Rows.ratioTextBackRow.domain false) (Rows.ratioTextBackSpec.post enc Try.prog Try.f5 false true false false) := by
  refine returnsInHanded_of_change (C := Try.checked) own started (by kernel_rfl) Try.func5
    (ChangeSpec.witness6 (enc := enc) (C := Try.checked) false ⟨#[], #[.agg (Pq.fc false 0 false 0), .int .u8 0], []⟩ 8 (by kernel_rfl) (by kernel_rfl) (by kernel_rfl) (by kernel_rfl)) ?_
  intro W base args ds gs before hval hW hcnd _
  exact law_post (P := Try.prog) (E := E30) (L := fun _ => none) mixed Try.func5 no_loops laidOut [(true, cF), (false, .int .u8)]
    (fun x hx => by
      rw [tr_ltextback_eq]
      exact ltextback_wp x.1 x.2.1 (bounds_u8 hx.2.1))
    [27, 5] (by kernel_rfl) ⟨o_rat, by kernel_rfl, o_u8, by kernel_rfl, trivial⟩ (by decide +kernel) (by kernel_rfl) Try.underlying4 rfl
    (fun ds h => by match ds, h with | [a, b], _ => rfl) hval hW
theorem ratioTextBack_holds : Rows.RatioTextBackSaid :=
  OpenClaim.holds_of_wide 5 Try.f5 rfl rfl rfl rfl rfl rfl rfl ⟨rfl, rfl, rfl, rfl, rfl⟩ rfl rfl rfl rfl rfl (by kernel_rfl) Try.func5 (by kernel_rfl)
    (of_decide_eq_true (by kernel_rfl)) (by unfold Func.isWrapper; first | (rw [if_pos (by decide +kernel)]; kernel_rfl) | (rw [if_neg (by decide +kernel)]; exact ⟨rfl, rfl⟩))
    (fun os started H enc _ => ratioTextBack_lifted os started H enc)
#print axioms ratioTextBack_holds
end Go.Proofs.Ytjijakfcahhioaa
