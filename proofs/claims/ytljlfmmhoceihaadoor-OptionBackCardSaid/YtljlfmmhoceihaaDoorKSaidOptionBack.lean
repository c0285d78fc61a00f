/- OptionBack: of every argument the law returns true, and the arguments read afterwards as before: the tied card (the listed variables of the library hold what the program's text lays). No other condition. -/
import Derived.Test.YtljlfmmhoceihaaDoorCards
import Derived.Test.YtljlfmmhoceihaaDoorTie
import Derived.Test.YtljlfmmhoceihaaDoorK5
/- OptionBack: of every argument the law returns true, and the arguments read afterwards as before: the tied card (the listed variables of the library hold what the program's text lays). No other condition. -/
set_option linter.unusedSimpArgs false
set_option linter.unusedVariables false
namespace Go.Proofs.YtljlfmmhoceihaaDoor
open Go.ChangeShapes Go.WideShapes Go.ChangeAt Go.RowKit Ax
set_option maxRecDepth 100000 in
theorem optionBack_lifted (os : Os) (started : os.Started) (H : Type) (enc : TypeId × Value → H) :
    ReturnsInHanded {} Tryd.checked os 4 .any (fun w args => (Rows.optionBackSpec.pre enc Tryd.prog Tryd.f4 [] false w args ∧ laidMetH Tryd.prog laidL w) ∧ sizedMet enc Tryd.prog Tryd.f4 (OpenSpec.ofChange Rows.optionBackSpec) false w args)
      (Rows.optionBackSpec.post enc Tryd.prog Tryd.f4 false true false false) := by
  refine handed_laid (C := Tryd.checked) own started (by kernel_rfl) Tryd.func4
    (ChangeSpec.witness_shaped (enc := enc) (C := Tryd.checked) (os := os) (X := fun w _ => laidMetH Tryd.prog laidL w) false (World.laidAll Tryd.prog os laidL) #[.agg #[.int .i64 0, .int .i64 0, .slice none 0 0], .int .u8 0, .int .u8 0] 8 (World.laidAll_os _ _ _)
      (World.shaped_of_ZipB (by kernel_rfl) (by kernel_rfl)) (by kernel_rfl) (by kernel_rfl) (by kernel_rfl) (laid_wit os _)) ?_
  intro W base args ds gs before hval hW hL hsh
  exact law_post (P := Tryd.prog) (E := OM) (L := lpBk) mixed Tryd.func4 (one_loop bkL_ok (by kernel_rfl)) laidOut [(true, cOp), (false, .int .u8), (false, .int .u8)]
    (fun x hx => by
      rw [← fnPF_eq, tr_oback_eq x.1 x.2.1 x.2.2.1]
      exact oback_wp x.1 x.2.1 x.2.2.1 (fit_opt hx.1) (fit_u8 hx.2.1) (fit_u8 hx.2.2.1))
    [25, 5, 5] (by kernel_rfl) ⟨o_opt, by kernel_rfl, o_u8, by kernel_rfl, o_u8, by kernel_rfl, trivial⟩ (by decide +kernel) (by kernel_rfl) Tryd.underlying4 rfl
    (fun ds h => by match ds, h with | [a, b, c], _ => rfl) hval hW (glob_laid hL hsh)
theorem optionBack_row : Rows.OptionBackSaid :=
  OpenClaim.holds_of_wide 4 Tryd.f4 rfl rfl rfl rfl rfl rfl rfl ⟨rfl, rfl, rfl, rfl, rfl⟩ rfl rfl rfl rfl rfl (by kernel_rfl) Tryd.func4 (by kernel_rfl)
    (of_decide_eq_true (by kernel_rfl)) (by unfold Func.isWrapper; first | (rw [if_pos (by decide +kernel)]; kernel_rfl) | (rw [if_neg (by decide +kernel)]; exact ⟨rfl, rfl⟩))
    (fun os started H enc _ => optionBack_lifted os started H enc)
theorem optionBack_holds : Rows.OptionBackCardSaid :=
  Claim7.holds_tied_plain_at .later [] Rows.optionBackCard.laidKinds true Rows.optionBackCard.stood.harness true optionBack_row (fun _ h => by cases h) (by kernel_rfl) (fun _ h => by cases h) optionBack_row_tie rfl ⟨rfl, rfl⟩ (by kernel_rfl) rfl
    (fun f fn hf hfn => by
      obtain rfl : f = 4 := Option.some.inj ((show Tryd.prog.funcNamed "parquet/parquetlaw8.OptionBack" = some 4 by kernel_rfl).symm.trans hf) |>.symm
      obtain rfl : fn = Tryd.f4 := (Option.some.inj (Tryd.func4.symm.trans hfn)).symm
      exact ⟨by kernel_rfl, fun j t ht => by
        have hm : t ∈ [25, 5, 5] := by
          have e : Tryd.f4.params.toList = [25, 5, 5] := by kernel_rfl
          rw [← e]; exact List.mem_of_getElem? (by simpa using ht)
        have hall : ([25, 5, 5].all fun u => !Tryd.prog.wantsStandIn u) = true := by kernel_rfl
        exact (show Tryd.prog.wantsStandIn t = false by simpa using List.all_eq_true.1 hall t hm)⟩)
    (by kernel_rfl)
#print axioms optionBack_holds
end Go.Proofs.YtljlfmmhoceihaaDoor
