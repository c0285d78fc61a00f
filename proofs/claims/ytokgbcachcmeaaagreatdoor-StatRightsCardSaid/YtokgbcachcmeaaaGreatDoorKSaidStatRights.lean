/- StatRights: of every argument the law returns true, and the arguments read afterwards as before: the tied card (the listed variables of the library hold what the program's text lays). No other condition. -/
import Derived.Test.YtokgbcachcmeaaaGreatDoorCards
import Derived.Test.YtokgbcachcmeaaaGreatDoorTie
import Derived.Test.YtokgbcachcmeaaaGreatDoorK5
/- StatRights: of every argument the law returns true, and the arguments read afterwards as before: the tied card (the listed variables of the library hold what the program's text lays). No other condition. -/
set_option linter.unusedSimpArgs false
set_option linter.unusedVariables false
namespace Go.Proofs.YtokgbcachcmeaaaGreatDoor
open Go.ChangeShapes Go.WideShapes Go.ChangeAt Go.RowKit Ax
set_option maxRecDepth 100000 in
theorem statRights_lifted (os : Os) (started : os.Started) (H : Type) (enc : TypeId × Value → H) :
    ReturnsInHanded {} Tryz.checked os 3 .any (fun w args => (Rows.statRightsSpec.pre enc Tryz.prog Tryz.f3 [] false w args ∧ laidMetH Tryz.prog laidL w) ∧ sizedMet enc Tryz.prog Tryz.f3 (OpenSpec.ofChange Rows.statRightsSpec) false w args)
      (Rows.statRightsSpec.post enc Tryz.prog Tryz.f3 false true false false) := by
  refine handed_laid (C := Tryz.checked) own started (by kernel_rfl) Tryz.func3
    (ChangeSpec.witness_shaped (enc := enc) (C := Tryz.checked) (os := os) (X := fun w _ => laidMetH Tryz.prog laidL w) false (World.laidAll Tryz.prog os laidL) #[.int .u8 0, .int .u8 0, .int .u8 0, .int .u8 0] 8 (World.laidAll_os _ _ _)
      (World.shaped_of_ZipB (by kernel_rfl) (by kernel_rfl)) (by kernel_rfl) (by kernel_rfl) (by kernel_rfl) (laid_wit os _)) ?_
  intro W base args ds gs before hval hW hL hsh
  exact law_post (P := Tryz.prog) (E := ELn) (L := (fun _ => none)) mixed Tryz.func3 no_loops laidOut [(false, .int .u8), (false, .int .u8), (false, .int .u8), (false, .int .u8)]
    (fun x hx => law_run (fit_u8 hx.1) (fit_u8 hx.2.1) (fit_u8 hx.2.2.1) (fit_u8 hx.2.2.2.1))
    [5, 5, 5, 5] (by kernel_rfl) ⟨o_u8, by kernel_rfl, o_u8, by kernel_rfl, o_u8, by kernel_rfl, o_u8, by kernel_rfl, trivial⟩ (by decide +kernel) (by kernel_rfl) Tryz.underlying4 rfl
    (fun ds h => by match ds, h with | [a, b, c, d], _ => rfl) hval hW (glob_laid hL hsh)
theorem statRights_row : Rows.StatRightsSaid :=
  OpenClaim.holds_of_wide 3 Tryz.f3 rfl rfl rfl rfl rfl rfl rfl ⟨rfl, rfl, rfl, rfl, rfl⟩ rfl rfl rfl rfl rfl (by kernel_rfl) Tryz.func3 (by kernel_rfl)
    (of_decide_eq_true (by kernel_rfl)) (by unfold Func.isWrapper; first | (rw [if_pos (by decide +kernel)]; kernel_rfl) | (rw [if_neg (by decide +kernel)]; exact ⟨rfl, rfl⟩))
    (fun os started H enc _ => statRights_lifted os started H enc)
theorem statRights_holds : Rows.StatRightsCardSaid :=
  Claim7.holds_tied_plain_at .later [] Rows.statRightsCard.laidKinds true Rows.statRightsCard.stood.harness Rows.statRightsCard.stood.looks statRights_row (fun _ h => by cases h) (by kernel_rfl) (fun _ h => by cases h) statRights_row_tie rfl ⟨rfl, rfl⟩ (by kernel_rfl) rfl
    (fun f fn hf hfn => by
      obtain rfl : f = 3 := Option.some.inj ((show Tryz.prog.funcNamed "parquet/parquetlaw25.StatRights" = some 3 by kernel_rfl).symm.trans hf) |>.symm
      obtain rfl : fn = Tryz.f3 := (Option.some.inj (Tryz.func3.symm.trans hfn)).symm
      exact ⟨by kernel_rfl, fun j t ht => by
        have hm : t ∈ [5, 5, 5, 5] := by
          have e : Tryz.f3.params.toList = [5, 5, 5, 5] := by kernel_rfl
          rw [← e]; exact List.mem_of_getElem? (by simpa using ht)
        have hall : ([5, 5, 5, 5].all fun u => !Tryz.prog.wantsStandIn u) = true := by kernel_rfl
        exact (show Tryz.prog.wantsStandIn t = false by simpa using List.all_eq_true.1 hall t hm)⟩)
    (by kernel_rfl)
#print axioms statRights_holds
end Go.Proofs.YtokgbcachcmeaaaGreatDoor
