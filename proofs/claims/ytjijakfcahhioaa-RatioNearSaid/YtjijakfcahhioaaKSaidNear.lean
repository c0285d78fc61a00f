/- RatioNear: of every int32, uint16, uint8 the law returns true, and the arguments read afterwards as before. No condition. -/
import Derived.Test.YtjijakfcahhioaaK5
/- RatioNear: of every int32, uint16, uint8 the law returns true, and the arguments read afterwards as before. No condition. -/
set_option linter.unusedSimpArgs false
set_option linter.unusedVariables false
namespace Go.Proofs.Ytjijakfcahhioaa
open Go.ChangeShapes Go.WideShapes Go.ChangeAt Go.RowKit Ax
set_option maxRecDepth 100000 in
theorem ratioNear_lifted (os : Os) (started : os.Started) (H : Type) (enc : TypeId × Value → H) :
    ReturnsInHanded {} Try.checked os 7 .any (Rows.ratioNearSpec.pre6 enc Try.prog Try.f7 Rows.ratioNearRow.domain false) (Rows.ratioNearSpec.post enc Try.prog Try.f7 false true false false) := by
  refine returnsInHanded_of_change (C := Try.checked) own started (by kernel_rfl) Try.func7
    (ChangeSpec.witness6 (enc := enc) (C := Try.checked) false ⟨#[], #[.int .i32 0, .int .u16 0, .int .u8 0], []⟩ 8 (by kernel_rfl) (by kernel_rfl) (by kernel_rfl) (by kernel_rfl)) ?_
  intro W base args ds gs before hval hW hcnd _
  exact law_post (P := Try.prog) (E := EM) (L := lpNear) mixed Try.func7 (two_loops (by kernel_rfl) (by decide) nearA_ok nearB_ok) laidOut [(false, .int .i32), (false, .int .u16), (false, .int .u8)]
    (fun x hx => by
      rw [tr_lnear_eq]
      exact lnear_wp x.1 x.2.1 x.2.2.1 (bounds_i32 hx.1) (bounds_u16 hx.2.1) (bounds_u8 hx.2.2.1))
    [21, 40, 5] (by kernel_rfl) ⟨o_i32, by kernel_rfl, o_u16, by kernel_rfl, o_u8, by kernel_rfl, trivial⟩ (by decide +kernel) (by kernel_rfl) Try.underlying4 rfl
    (fun ds h => by match ds, h with | [a, b, c], _ => rfl) hval hW
theorem ratioNear_holds : Rows.RatioNearSaid :=
  OpenClaim.holds_of_wide 7 Try.f7 rfl rfl rfl rfl rfl rfl rfl ⟨rfl, rfl, rfl, rfl, rfl⟩ rfl rfl rfl rfl rfl (by kernel_rfl) Try.func7 (by kernel_rfl)
    (of_decide_eq_true (by kernel_rfl)) (by unfold Func.isWrapper; first | (rw [if_pos (by decide +kernel)]; kernel_rfl) | (rw [if_neg (by decide +kernel)]; exact ⟨rfl, rfl⟩))
    (fun os started H enc _ => ratioNear_lifted os started H enc)
#print axioms ratioNear_holds
end Go.Proofs.Ytjijakfcahhioaa
