/- LexWords: of every argument the law returns true, and the arguments read afterwards as before: the tied card (the listed variables of the library hold what the program's text lays). No other condition. -/
import Derived.Test.YtjijakfcahhioabDoorCards
import Derived.Test.YtjijakfcahhioabDoorTie
import Derived.Test.YtjijakfcahhioabDoorK4
/- LexWords: of every argument the law returns true, and the arguments read afterwards as before: the tied card (the listed variables of the library hold what the program's text lays). No other condition. -/
set_option linter.unusedSimpArgs false
set_option linter.unusedVariables false
namespace Go.Proofs.YtjijakfcahhioabDoor
open Go.ChangeShapes Go.WideShapes Go.ChangeAt Go.RowKit Ax
set_option maxRecDepth 100000 in
theorem lexWords_lifted (os : Os) (started : os.Started) (H : Type) (enc : TypeId × Value → H) :
    ReturnsInHanded {} Tryd.checked os 7 .any (fun w args => (Rows.lexWordsSpec.pre enc Tryd.prog Tryd.f7 [] false w args ∧ laidMetH Tryd.prog laidL w) ∧ sizedMet enc Tryd.prog Tryd.f7 (OpenSpec.ofChange Rows.lexWordsSpec) false w args)
      (Rows.lexWordsSpec.post enc Tryd.prog Tryd.f7 false true false false) := by
  refine handed_laid (C := Tryd.checked) own started (by kernel_rfl) Tryd.func7
    (ChangeSpec.witness_shaped (enc := enc) (C := Tryd.checked) (os := os) (X := fun w _ => laidMetH Tryd.prog laidL w) false (World.laidAll Tryd.prog os laidL) #[.slice none 0 0, .int .u8 0, .bool false] 8 (World.laidAll_os _ _ _)
      (World.shaped_of_ZipB (by kernel_rfl) (by kernel_rfl)) (by kernel_rfl) (by kernel_rfl) (by kernel_rfl) (laid_wit os _)) ?_
  intro W base args ds gs before hval hW hL hsh
  exact law_post (P := Tryd.prog) (E := LEf) (L := lpWO) mixed Tryd.func7 (one_loop woL_ok (by kernel_rfl)) laidOut [(false, cSS), (false, .int .u8), (false, .bool)]
    (fun x hx => by
      rw [tr_lexwords_eq x.1 x.2.1 x.2.2.1]
      exact lexwords_wp x.1 x.2.1 x.2.2.1 (fit_u8 hx.2.1) fun ws h => ⟨fit_len (hx.1.2 ws h).1, fun w hw => fit_len ((hx.1.2 ws h).2 w hw)⟩)
    [47, 5, 4] (by kernel_rfl) ⟨o_ss, by kernel_rfl, o_u8, by kernel_rfl, o_bool, by kernel_rfl, trivial⟩ (by decide +kernel) (by kernel_rfl) Tryd.underlying4 rfl
    (fun ds h => by match ds, h with | [a, b, c], _ => rfl) hval hW (glob_laid hL hsh)
theorem lexWords_row : Rows.LexWordsSaid :=
  OpenClaim.holds_of_wide 7 Tryd.f7 rfl rfl rfl rfl rfl rfl rfl ⟨rfl, rfl, rfl, rfl, rfl⟩ rfl rfl rfl rfl rfl (by kernel_rfl) Tryd.func7 (by kernel_rfl)
    (of_decide_eq_true (by kernel_rfl)) (by unfold Func.isWrapper; first | (rw [if_pos (by decide +kernel)]; kernel_rfl) | (rw [if_neg (by decide +kernel)]; exact ⟨rfl, rfl⟩))
    (fun os started H enc _ => lexWords_lifted os started H enc)
theorem lexWords_holds : Rows.LexWordsCardSaid :=
  Claim7.holds_tied_plain_at .later [] Rows.lexWordsCard.laidKinds true Rows.lexWordsCard.stood.harness true lexWords_row (fun _ h => by cases h) (by kernel_rfl) (fun _ h => by cases h) lexWords_row_tie rfl ⟨rfl, rfl⟩ (by kernel_rfl) rfl
    (fun f fn hf hfn => by
      obtain rfl : f = 7 := Option.some.inj ((show Tryd.prog.funcNamed "parquet/parquetlaw6.LexWords" = some 7 by kernel_rfl).symm.trans hf) |>.symm
      obtain rfl : fn = Tryd.f7 := (Option.some.inj (Tryd.func7.symm.trans hfn)).symm
      exact ⟨by kernel_rfl, fun j t ht => by
        have hm : t ∈ [47, 5, 4] := by
          have e : Tryd.f7.params.toList = [47, 5, 4] := by kernel_rfl
          rw [← e]; exact List.mem_of_getElem? (by simpa using ht)
        have hall : ([47, 5, 4].all fun u => !Tryd.prog.wantsStandIn u) = true := by kernel_rfl
        exact (show Tryd.prog.wantsStandIn t = false by simpa using List.all_eq_true.1 hall t hm)⟩)
    (by kernel_rfl)
#print axioms lexWords_holds
end Go.Proofs.YtjijakfcahhioabDoor
