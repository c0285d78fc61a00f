/- OptionSides: of every argument the law returns true, and the arguments read afterwards as before: the tied card (the listed variables of the library hold what the program's text lays). No other condition. -/
import Derived.Test.YtjijakfcahhioabDoorCards
import Derived.Test.YtjijakfcahhioabDoorTie
import Derived.Test.YtjijakfcahhioabDoorK4
/- OptionSides: of every argument the law returns true, and the arguments read afterwards as before: the tied card (the listed variables of the library hold what the program's text lays). No other condition. -/
set_option linter.unusedSimpArgs false
set_option linter.unusedVariables false
namespace Go.Proofs.YtjijakfcahhioabDoor
open Go.ChangeShapes Go.WideShapes Go.ChangeAt Go.RowKit Ax
set_option maxRecDepth 100000 in
theorem optionSides_lifted (os : Os) (started : os.Started) (H : Type) (enc : TypeId × Value → H) :
    ReturnsInHanded {} Tryd.checked os 5 .any (fun w args => (Rows.optionSidesSpec.pre enc Tryd.prog Tryd.f5 [] false w args ∧ laidMetH Tryd.prog laidL w) ∧ sizedMet enc Tryd.prog Tryd.f5 (OpenSpec.ofChange Rows.optionSidesSpec) false w args)
      (Rows.optionSidesSpec.post enc Tryd.prog Tryd.f5 false true false false) := by
  refine handed_laid (C := Tryd.checked) own started (by kernel_rfl) Tryd.func5
    (ChangeSpec.witness_shaped (enc := enc) (C := Tryd.checked) (os := os) (X := fun w _ => laidMetH Tryd.prog laidL w) false (World.laidAll Tryd.prog os laidL) #[.int .u8 0, .int .u16 0, .int .u8 0, .int .u8 0] 8 (World.laidAll_os _ _ _)
      (World.shaped_of_ZipB (by kernel_rfl) (by kernel_rfl)) (by kernel_rfl) (by kernel_rfl) (by kernel_rfl) (laid_wit os _)) ?_
  intro W base args ds gs before hval hW hL hsh
  exact law_post (P := Tryd.prog) (E := O9) (L := (fun _ => none)) mixed Tryd.func5 no_loops laidOut [(false, .int .u8), (false, .int .u16), (false, .int .u8), (false, .int .u8)]
    (fun x hx => by
      rw [tr_osides_eq x.1 x.2.1 x.2.2.1 x.2.2.2.1]
      exact osides_wp x.1 x.2.1 x.2.2.1 x.2.2.2.1 (fit_u8 hx.1) (fit_u16 hx.2.1) (fit_u8 hx.2.2.1) (fit_u8 hx.2.2.2.1))
    [5, 37, 5, 5] (by kernel_rfl) ⟨o_u8, by kernel_rfl, o_u16, by kernel_rfl, o_u8, by kernel_rfl, o_u8, by kernel_rfl, trivial⟩ (by decide +kernel) (by kernel_rfl) Tryd.underlying4 rfl
    (fun ds h => by match ds, h with | [a, b, c, d], _ => rfl) hval hW (glob_laid hL hsh)
theorem optionSides_row : Rows.OptionSidesSaid :=
  OpenClaim.holds_of_wide 5 Tryd.f5 rfl rfl rfl rfl rfl rfl rfl ⟨rfl, rfl, rfl, rfl, rfl⟩ rfl rfl rfl rfl rfl (by kernel_rfl) Tryd.func5 (by kernel_rfl)
    (of_decide_eq_true (by kernel_rfl)) (by unfold Func.isWrapper; first | (rw [if_pos (by decide +kernel)]; kernel_rfl) | (rw [if_neg (by decide +kernel)]; exact ⟨rfl, rfl⟩))
    (fun os started H enc _ => optionSides_lifted os started H enc)
theorem optionSides_holds : Rows.OptionSidesCardSaid :=
  Claim7.holds_tied_plain_at .later [] Rows.optionSidesCard.laidKinds true Rows.optionSidesCard.stood.harness true optionSides_row (fun _ h => by cases h) (by kernel_rfl) (fun _ h => by cases h) optionSides_row_tie rfl ⟨rfl, rfl⟩ (by kernel_rfl) rfl
    (fun f fn hf hfn => by
      obtain rfl : f = 5 := Option.some.inj ((show Tryd.prog.funcNamed "parquet/parquetlaw8.OptionSides" = some 5 by kernel_rfl).symm.trans hf) |>.symm
      obtain rfl : fn = Tryd.f5 := (Option.some.inj (Tryd.func5.symm.trans hfn)).symm
      exact ⟨by kernel_rfl, fun j t ht => by
        have hm : t ∈ [5, 37, 5, 5] := by
          have e : Tryd.f5.params.toList = [5, 37, 5, 5] := by kernel_rfl
          rw [← e]; exact List.mem_of_getElem? (by simpa using ht)
        have hall : ([5, 37, 5, 5].all fun u => !Tryd.prog.wantsStandIn u) = true := by kernel_rfl
        exact (show Tryd.prog.wantsStandIn t = false by simpa using List.all_eq_true.1 hall t hm)⟩)
    (by kernel_rfl)
#print axioms optionSides_holds
end Go.Proofs.YtjijakfcahhioabDoor
