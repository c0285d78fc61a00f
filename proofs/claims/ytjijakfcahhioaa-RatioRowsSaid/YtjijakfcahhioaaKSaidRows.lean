/- RatioRows: of every slice of fractions (raw ones too) the law returns true, and the argument reads afterwards as before. No condition. -/
import Derived.Test.YtjijakfcahhioaaK5
/- RatioRows: of every slice of fractions (raw ones too) the law returns true, and the argument reads afterwards as before. No condition. -/
set_option linter.unusedSimpArgs false
set_option linter.unusedVariables false
namespace Go.Proofs.Ytjijakfcahhioaa
open Go.ChangeShapes Go.WideShapes Go.ChangeAt Go.RowKit Ax
set_option maxRecDepth 100000 in
theorem ratioRows_lifted (os : Os) (started : os.Started) (H : Type) (enc : TypeId × Value → H) :
    ReturnsInHanded {} Try.checked os 6 .any (Rows.ratioRowsSpec.pre6 enc Try.prog Try.f6 Rows.ratioRowsRow.domain false) (Rows.ratioRowsSpec.post enc Try.prog Try.f6 false true false false) := by
  refine returnsInHanded_of_change (C := Try.checked) own started (by kernel_rfl) Try.func6
    (ChangeSpec.witness6 (enc := enc) (C := Try.checked) false ⟨#[], #[.slice none 0 0], []⟩ 8 (by kernel_rfl) (by kernel_rfl) (by kernel_rfl) (by kernel_rfl)) ?_
  intro W base args ds gs before hval hW hcnd _
  exact law_post (P := Try.prog) (E := EM) (L := lpRows) mixed Try.func6 (two_loops (by kernel_rfl) (by decide) rowsA_ok rowsB_ok) laidOut [(false, .sl cF)]
    (fun x hx => by
      rw [tr_lrows_eq]
      exact lrows_wp x.1 hx.1.1)
    [49] (by kernel_rfl) ⟨o_rats, by kernel_rfl, trivial⟩ (by decide +kernel) (by kernel_rfl) Try.underlying4 rfl
    (fun ds h => by match ds, h with | [a], _ => rfl) hval hW
theorem ratioRows_holds : Rows.RatioRowsSaid :=
  OpenClaim.holds_of_wide 6 Try.f6 rfl rfl rfl rfl rfl rfl rfl ⟨rfl, rfl, rfl, rfl, rfl⟩ rfl rfl rfl rfl rfl (by kernel_rfl) Try.func6 (by kernel_rfl)
    (of_decide_eq_true (by kernel_rfl)) (by unfold Func.isWrapper; first | (rw [if_pos (by decide +kernel)]; kernel_rfl) | (rw [if_neg (by decide +kernel)]; exact ⟨rfl, rfl⟩))
    (fun os started H enc _ => ratioRows_lifted os started H enc)
#print axioms ratioRows_holds
end Go.Proofs.Ytjijakfcahhioaa
