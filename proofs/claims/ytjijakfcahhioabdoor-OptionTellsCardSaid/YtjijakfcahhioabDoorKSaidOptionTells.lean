/- OptionTells: of every argument the law returns true, and the arguments read afterwards as before: the tied card (the listed variables of the library hold what the program's text lays). No other condition. -/
import Derived.Test.YtjijakfcahhioabDoorCards
import Derived.Test.YtjijakfcahhioabDoorTie
import Derived.Test.YtjijakfcahhioabDoorK4
/- OptionTells: of every argument the law returns true, and the arguments read afterwards as before: the tied card (the listed variables of the library hold what the program's text lays). No other condition. -/
set_option linter.unusedSimpArgs false
set_option linter.unusedVariables false
namespace Go.Proofs.YtjijakfcahhioabDoor
open Go.ChangeShapes Go.WideShapes Go.ChangeAt Go.RowKit Ax
set_option maxRecDepth 100000 in
theorem optionTells_lifted (os : Os) (started : os.Started) (H : Type) (enc : TypeId × Value → H) :
    ReturnsInHanded {} Tryd.checked os 3 .any (fun w args => (Rows.optionTellsSpec.pre enc Tryd.prog Tryd.f3 [] false w args ∧ laidMetH Tryd.prog laidL w) ∧ sizedMet enc Tryd.prog Tryd.f3 (OpenSpec.ofChange Rows.optionTellsSpec) false w args)
      (Rows.optionTellsSpec.post enc Tryd.prog Tryd.f3 false true false false) := by
  refine handed_laid (C := Tryd.checked) own started (by kernel_rfl) Tryd.func3
    (ChangeSpec.witness_shaped (enc := enc) (C := Tryd.checked) (os := os) (X := fun w _ => laidMetH Tryd.prog laidL w) false (World.laidAll Tryd.prog os laidL) #[.slice none 0 0, .agg #[.int .i64 0, .int .i64 0, .slice none 0 0]] 8 (World.laidAll_os _ _ _)
      (World.shaped_of_ZipB (by kernel_rfl) (by kernel_rfl)) (by kernel_rfl) (by kernel_rfl) (by kernel_rfl) (laid_wit os _)) ?_
  intro W base args ds gs before hval hW hL hsh
  exact law_post (P := Tryd.prog) (E := O9) (L := lpTl) mixed Tryd.func3 (one_loop tlL_ok (by kernel_rfl)) laidOut [(false, .sl .str), (true, cOp)]
    (fun x hx => by
      rw [tr_otells_eq x]
      exact otells_wp x.1 x.2.1 (fit_opt hx.2.1))
    [22, 25] (by kernel_rfl) ⟨o_s, by kernel_rfl, o_opt, by kernel_rfl, trivial⟩ (by decide +kernel) (by kernel_rfl) Tryd.underlying4 rfl
    (fun ds h => by match ds, h with | [a, b], _ => rfl) hval hW (glob_laid hL hsh)
theorem optionTells_row : Rows.OptionTellsSaid :=
  OpenClaim.holds_of_wide 3 Tryd.f3 rfl rfl rfl rfl rfl rfl rfl ⟨rfl, rfl, rfl, rfl, rfl⟩ rfl rfl rfl rfl rfl (by kernel_rfl) Tryd.func3 (by kernel_rfl)
    (of_decide_eq_true (by kernel_rfl)) (by unfold Func.isWrapper; first | (rw [if_pos (by decide +kernel)]; kernel_rfl) | (rw [if_neg (by decide +kernel)]; exact ⟨rfl, rfl⟩))
    (fun os started H enc _ => optionTells_lifted os started H enc)
theorem optionTells_holds : Rows.OptionTellsCardSaid :=
  Claim7.holds_tied_plain_at .later [] Rows.optionTellsCard.laidKinds true Rows.optionTellsCard.stood.harness true optionTells_row (fun _ h => by cases h) (by kernel_rfl) (fun _ h => by cases h) optionTells_row_tie rfl ⟨rfl, rfl⟩ (by kernel_rfl) rfl
    (fun f fn hf hfn => by
      obtain rfl : f = 3 := Option.some.inj ((show Tryd.prog.funcNamed "parquet/parquetlaw8.OptionTells" = some 3 by kernel_rfl).symm.trans hf) |>.symm
      obtain rfl : fn = Tryd.f3 := (Option.some.inj (Tryd.func3.symm.trans hfn)).symm
      exact ⟨by kernel_rfl, fun j t ht => by
        have hm : t ∈ [22, 25] := by
          have e : Tryd.f3.params.toList = [22, 25] := by kernel_rfl
          rw [← e]; exact List.mem_of_getElem? (by simpa using ht)
        have hall : ([22, 25].all fun u => !Tryd.prog.wantsStandIn u) = true := by kernel_rfl
        exact (show Tryd.prog.wantsStandIn t = false by simpa using List.all_eq_true.1 hall t hm)⟩)
    (by kernel_rfl)
#print axioms optionTells_holds
end Go.Proofs.YtjijakfcahhioabDoor
