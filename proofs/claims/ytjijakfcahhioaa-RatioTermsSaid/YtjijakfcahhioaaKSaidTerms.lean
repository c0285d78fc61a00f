/- RatioTerms: of every int32, uint16, int16 the law returns true, and the arguments read afterwards as before. No condition. -/
import Derived.Test.YtjijakfcahhioaaK5
/- RatioTerms: of every int32, uint16, int16 the law returns true, and the arguments read afterwards as before. No condition. -/
set_option linter.unusedSimpArgs false
set_option linter.unusedVariables false
namespace Go.Proofs.Ytjijakfcahhioaa
open Go.ChangeShapes Go.WideShapes Go.ChangeAt Go.RowKit Ax
set_option maxRecDepth 100000 in
theorem ratioTerms_lifted (os : Os) (started : os.Started) (H : Type) (enc : TypeId × Value → H) :
    ReturnsInHanded {} Try.checked os 4 .any (Rows.ratioTermsSpec.pre6 enc Try.prog Try.f4 Rows.ratioTermsRow.domain false) (Rows.ratioTermsSpec.post enc Try.prog Try.f4 false true false false) := by
  refine returnsInHanded_of_change (C := Try.checked) own started (by kernel_rfl) Try.func4
    (ChangeSpec.witness6 (enc := enc) (C := Try.checked) false ⟨#[], #[.int .i32 0, .int .u16 0, .int .i16 0], []⟩ 8 (by kernel_rfl) (by kernel_rfl) (by kernel_rfl) (by kernel_rfl)) ?_
  intro W base args ds gs before hval hW hcnd _
  exact law_post (P := Try.prog) (E := E24) (L := fun _ => none) mixed Try.func4 no_loops laidOut [(false, .int .i32), (false, .int .u16), (false, .int .i16)]
    (fun x hx => by
      rw [tr_lterms_eq]
      exact lterms_wp x.1 x.2.1 x.2.2.1 (bounds_i32 hx.1) (bounds_u16 hx.2.1) (bounds_i16 hx.2.2.1))
    [21, 40, 41] (by kernel_rfl) ⟨o_i32, by kernel_rfl, o_u16, by kernel_rfl, o_i16, by kernel_rfl, trivial⟩ (by decide +kernel) (by kernel_rfl) Try.underlying4 rfl
    (fun ds h => by match ds, h with | [a, b, c], _ => rfl) hval hW
theorem ratioTerms_holds : Rows.RatioTermsSaid :=
  OpenClaim.holds_of_wide 4 Try.f4 rfl rfl rfl rfl rfl rfl rfl ⟨rfl, rfl, rfl, rfl, rfl⟩ rfl rfl rfl rfl rfl (by kernel_rfl) Try.func4 (by kernel_rfl)
    (of_decide_eq_true (by kernel_rfl)) (by unfold Func.isWrapper; first | (rw [if_pos (by decide +kernel)]; kernel_rfl) | (rw [if_neg (by decide +kernel)]; exact ⟨rfl, rfl⟩))
    (fun os started H enc _ => ratioTerms_lifted os started H enc)
#print axioms ratioTerms_holds
end Go.Proofs.Ytjijakfcahhioaa
