/- RatioLaws: of every three fractions (raw ones too) the law returns true, and the arguments read afterwards as before. No condition. -/
import Derived.Test.YtjijakfcahhioaaK5
/- RatioLaws: of every three fractions (raw ones too) the law returns true, and the arguments read afterwards as before. No condition. -/
set_option linter.unusedSimpArgs false
set_option linter.unusedVariables false
namespace Go.Proofs.Ytjijakfcahhioaa
open Go.ChangeShapes Go.WideShapes Go.ChangeAt Go.RowKit Ax
set_option maxRecDepth 100000 in
theorem ratioLaws_lifted (os : Os) (started : os.Started) (H : Type) (enc : TypeId × Value → H) :
    ReturnsInHanded {} Try.checked os 8 .any (Rows.ratioLawsSpec.pre6 enc Try.prog Try.f8 Rows.ratioLawsRow.domain false) (Rows.ratioLawsSpec.post enc Try.prog Try.f8 false true false false) := by
  refine returnsInHanded_of_change (C := Try.checked) own started (by kernel_rfl) Try.func8
    (ChangeSpec.witness6 (enc := enc) (C := Try.checked) false ⟨#[], #[.agg (Pq.fc false 0 false 0), .agg (Pq.fc false 0 false 0), .agg (Pq.fc false 0 false 0)], []⟩ 8 (by kernel_rfl) (by kernel_rfl) (by kernel_rfl) (by kernel_rfl)) ?_
  intro W base args ds gs before hval hW hcnd _
  exact law_post (P := Try.prog) (E := EM) (L := fun _ => none) mixed Try.func8 no_loops laidOut [(true, cF), (true, cF), (true, cF)]
    (fun x hx => by
      rw [tr_llaws_eq]
      exact llaws_wp x.1 x.2.1 x.2.2.1)
    [27, 27, 27] (by kernel_rfl) ⟨o_rat, by kernel_rfl, o_rat, by kernel_rfl, o_rat, by kernel_rfl, trivial⟩ (by decide +kernel) (by kernel_rfl) Try.underlying4 rfl
    (fun ds h => by match ds, h with | [a, b, c], _ => rfl) hval hW
theorem ratioLaws_holds : Rows.RatioLawsSaid :=
  OpenClaim.holds_of_wide 8 Try.f8 rfl rfl rfl rfl rfl rfl rfl ⟨rfl, rfl, rfl, rfl, rfl⟩ rfl rfl rfl rfl rfl (by kernel_rfl) Try.func8 (by kernel_rfl)
    (of_decide_eq_true (by kernel_rfl)) (by unfold Func.isWrapper; first | (rw [if_pos (by decide +kernel)]; kernel_rfl) | (rw [if_neg (by decide +kernel)]; exact ⟨rfl, rfl⟩))
    (fun os started H enc _ => ratioLaws_lifted os started H enc)
#print axioms ratioLaws_holds
end Go.Proofs.Ytjijakfcahhioaa
