/- LexInts: of every argument the law returns true, and the arguments read afterwards as before: the tied card (the listed variables of the library hold what the program's text lays). No other condition. -/
import Derived.Test.YtjijakfcahhioabDoorCards
import Derived.Test.YtjijakfcahhioabDoorTie
import Derived.Test.YtjijakfcahhioabDoorK4
/- LexInts: of every argument the law returns true, and the arguments read afterwards as before: the tied card (the listed variables of the library hold what the program's text lays). No other condition. -/
set_option linter.unusedSimpArgs false
set_option linter.unusedVariables false
namespace Go.Proofs.YtjijakfcahhioabDoor
open Go.ChangeShapes Go.WideShapes Go.ChangeAt Go.RowKit Ax
set_option maxRecDepth 100000 in
theorem lexInts_lifted (os : Os) (started : os.Started) (H : Type) (enc : TypeId × Value → H) :
    ReturnsInHanded {} Tryd.checked os 8 .any (fun w args => (Rows.lexIntsSpec.pre enc Tryd.prog Tryd.f8 [] false w args ∧ laidMetH Tryd.prog laidL w) ∧ sizedMet enc Tryd.prog Tryd.f8 (OpenSpec.ofChange Rows.lexIntsSpec) false w args)
      (Rows.lexIntsSpec.post enc Tryd.prog Tryd.f8 false true false false) := by
  refine handed_laid (C := Tryd.checked) own started (by kernel_rfl) Tryd.func8
    (ChangeSpec.witness_shaped (enc := enc) (C := Tryd.checked) (os := os) (X := fun w _ => laidMetH Tryd.prog laidL w) false (World.laidAll Tryd.prog os laidL) #[.int .i32 0] 8 (World.laidAll_os _ _ _)
      (World.shaped_of_ZipB (by kernel_rfl) (by kernel_rfl)) (by kernel_rfl) (by kernel_rfl) (by kernel_rfl) (laid_wit os _)) ?_
  intro W base args ds gs before hval hW hL hsh
  exact law_post (P := Tryd.prog) (E := LC) (L := (fun _ => none)) mixed Tryd.func8 no_loops laidOut [(false, .int .i32)]
    (fun x hx => by
      rw [tr_lexints_eq]
      exact lexints_wp x.1 (fit_i32 hx.1).1 (fit_i32 hx.1).2)
    [21] (by kernel_rfl) ⟨o_i32, by kernel_rfl, trivial⟩ (by decide +kernel) (by kernel_rfl) Tryd.underlying4 rfl
    (fun ds h => by match ds, h with | [a], _ => rfl) hval hW (glob_laid hL hsh)
theorem lexInts_row : Rows.LexIntsSaid :=
  OpenClaim.holds_of_wide 8 Tryd.f8 rfl rfl rfl rfl rfl rfl rfl ⟨rfl, rfl, rfl, rfl, rfl⟩ rfl rfl rfl rfl rfl (by kernel_rfl) Tryd.func8 (by kernel_rfl)
    (of_decide_eq_true (by kernel_rfl)) (by unfold Func.isWrapper; first | (rw [if_pos (by decide +kernel)]; kernel_rfl) | (rw [if_neg (by decide +kernel)]; exact ⟨rfl, rfl⟩))
    (fun os started H enc _ => lexInts_lifted os started H enc)
theorem lexInts_holds : Rows.LexIntsCardSaid :=
  Claim7.holds_tied_plain_at .later [] Rows.lexIntsCard.laidKinds true Rows.lexIntsCard.stood.harness true lexInts_row (fun _ h => by cases h) (by kernel_rfl) (fun _ h => by cases h) lexInts_row_tie rfl ⟨rfl, rfl⟩ (by kernel_rfl) rfl
    (fun f fn hf hfn => by
      obtain rfl : f = 8 := Option.some.inj ((show Tryd.prog.funcNamed "parquet/parquetlaw6.LexInts" = some 8 by kernel_rfl).symm.trans hf) |>.symm
      obtain rfl : fn = Tryd.f8 := (Option.some.inj (Tryd.func8.symm.trans hfn)).symm
      exact ⟨by kernel_rfl, fun j t ht => by
        have hm : t ∈ [21] := by
          have e : Tryd.f8.params.toList = [21] := by kernel_rfl
          rw [← e]; exact List.mem_of_getElem? (by simpa using ht)
        have hall : ([21].all fun u => !Tryd.prog.wantsStandIn u) = true := by kernel_rfl
        exact (show Tryd.prog.wantsStandIn t = false by simpa using List.all_eq_true.1 hall t hm)⟩)
    (by kernel_rfl)
#print axioms lexInts_holds
end Go.Proofs.YtjijakfcahhioabDoor
