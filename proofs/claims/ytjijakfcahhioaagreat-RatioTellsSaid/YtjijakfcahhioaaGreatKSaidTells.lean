/- RatioTells: of every two fractions (raw ones too), every bound and number of digits the law returns true, and the arguments read afterwards as before. No condition. -/
import Derived.Test.YtjijakfcahhioaaGreatK6
/- RatioTells: of every two fractions (raw ones too), every bound and number of digits the law returns true, and the arguments read afterwards as before. No condition. -/
set_option linter.unusedSimpArgs false
set_option linter.unusedVariables false
namespace Go.Proofs.YtjijakfcahhioaaGreat
open Go.ChangeShapes Go.WideShapes Go.ChangeAt Go.RowKit Ax
set_option maxRecDepth 100000 in
theorem ratioTells_lifted (os : Os) (started : os.Started) (H : Type) (enc : TypeId × Value → H) :
    ReturnsInHanded {} Tryz.checked os 3 .any (Rows.ratioTellsSpec.pre6 enc Tryz.prog Tryz.f3 Rows.ratioTellsRow.domain false) (Rows.ratioTellsSpec.post enc Tryz.prog Tryz.f3 false true false false) := by
  refine returnsInHanded_of_change (C := Tryz.checked) own started (by kernel_rfl) Tryz.func3
    (ChangeSpec.witness6 (enc := enc) (C := Tryz.checked) false ⟨#[], #[.agg (Pq.fc false 0 false 0), .agg (Pq.fc false 0 false 0), .int .i64 0, .int .i64 0], []⟩ 8 (by kernel_rfl) (by kernel_rfl) (by kernel_rfl) (by kernel_rfl)) ?_
  intro W base args ds gs before hval hW hcnd _
  exact law_post (P := Tryz.prog) (E := EZ) (L := fun _ => none) mixed Tryz.func3 no_loops laidOut [(true, cF), (true, cF), (false, .int .i64), (false, .int .i64)]
    (fun x hx => by
      rw [tr_ltells_eq]
      exact ltells_wp x.1 x.2.1 x.2.2.1 x.2.2.2.1)
    [27, 27, 3, 3] (by kernel_rfl) ⟨o_rat, by kernel_rfl, o_rat, by kernel_rfl, o_int, by kernel_rfl, o_int, by kernel_rfl, trivial⟩ (by decide +kernel) (by kernel_rfl) Tryz.underlying4 rfl
    (fun ds h => by match ds, h with | [a, b, c, d], _ => rfl) hval hW
theorem ratioTells_holds : Rows.RatioTellsSaid :=
  OpenClaim.holds_of_wide 3 Tryz.f3 rfl rfl rfl rfl rfl rfl rfl ⟨rfl, rfl, rfl, rfl, rfl⟩ rfl rfl rfl rfl rfl (by kernel_rfl) Tryz.func3 (by kernel_rfl)
    (of_decide_eq_true (by kernel_rfl)) (by unfold Func.isWrapper; first | (rw [if_pos (by decide +kernel)]; kernel_rfl) | (rw [if_neg (by decide +kernel)]; exact ⟨rfl, rfl⟩))
    (fun os started H enc _ => ratioTells_lifted os started H enc)
#print axioms ratioTells_holds
end Go.Proofs.YtjijakfcahhioaaGreat
