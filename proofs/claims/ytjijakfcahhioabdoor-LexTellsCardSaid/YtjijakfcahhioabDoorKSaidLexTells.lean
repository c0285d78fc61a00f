/- LexTells: of every text and every word the law returns true, and the arguments read afterwards as before: the tied card (the listed variables of the library hold what the program's text lays). No other condition. -/
import Derived.Test.YtjijakfcahhioabDoorCards
import Derived.Test.YtjijakfcahhioabDoorTie
import Derived.Test.YtjijakfcahhioabDoorK4
/- LexTells: of every text and every word the law returns true, and the arguments read afterwards as before: the tied card (the listed variables of the library hold what the program's text lays). No other condition. -/
set_option linter.unusedSimpArgs false
set_option linter.unusedVariables false
namespace Go.Proofs.YtjijakfcahhioabDoor
open Go.ChangeShapes Go.WideShapes Go.ChangeAt Go.RowKit Ax
set_option maxRecDepth 100000 in
theorem lexTells_lifted (os : Os) (started : os.Started) (H : Type) (enc : TypeId × Value → H) :
    ReturnsInHanded {} Tryd.checked os 6 .any (fun w args => (Rows.lexTellsSpec.pre enc Tryd.prog Tryd.f6 [] false w args ∧ laidMetH Tryd.prog laidL w) ∧ sizedMet enc Tryd.prog Tryd.f6 (OpenSpec.ofChange Rows.lexTellsSpec) false w args)
      (Rows.lexTellsSpec.post enc Tryd.prog Tryd.f6 false true false false) := by
  refine handed_laid (C := Tryd.checked) own started (by kernel_rfl) Tryd.func6
    (ChangeSpec.witness_shaped (enc := enc) (C := Tryd.checked) (os := os) (X := fun w _ => laidMetH Tryd.prog laidL w) false (World.laidAll Tryd.prog os laidL) #[.string ⟨#[]⟩, .string ⟨#[]⟩] 8 (World.laidAll_os _ _ _)
      (World.shaped_of_ZipB (by kernel_rfl) (by kernel_rfl)) (by kernel_rfl) (by kernel_rfl) (by kernel_rfl) (laid_wit os _)) ?_
  intro W base args ds gs before hval hW hL hsh
  exact law_post (P := Tryd.prog) (E := LA) (L := fun _ => none) mixed Tryd.func6 no_loops laidOut [(false, .str), (false, .str)]
    (fun x hx => by
      rw [tr_lextells_eq]
      exact lextells_wp x.1 x.2.1)
    [9, 9] (by kernel_rfl) ⟨o_str, by kernel_rfl, o_str, by kernel_rfl, trivial⟩ (by decide +kernel) (by kernel_rfl) Tryd.underlying4 rfl
    (fun ds h => by match ds, h with | [a, b], _ => rfl) hval hW (glob_laid hL hsh)
theorem lexTells_row : Rows.LexTellsSaid :=
  OpenClaim.holds_of_wide 6 Tryd.f6 rfl rfl rfl rfl rfl rfl rfl ⟨rfl, rfl, rfl, rfl, rfl⟩ rfl rfl rfl rfl rfl (by kernel_rfl) Tryd.func6 (by kernel_rfl)
    (of_decide_eq_true (by kernel_rfl)) (by unfold Func.isWrapper; first | (rw [if_pos (by decide +kernel)]; kernel_rfl) | (rw [if_neg (by decide +kernel)]; exact ⟨rfl, rfl⟩))
    (fun os started H enc _ => lexTells_lifted os started H enc)
theorem lexTells_holds : Rows.LexTellsCardSaid :=
  Claim7.holds_tied_plain_at .later [] [.data, .data, .data, .data, .sentinel, .sentinel, .pinned] true (true, "944e2699118e5f696503b255479cc28092755e0e6c75544220046b590adb6a93") true lexTells_row (fun _ h => by cases h) (by kernel_rfl) (fun _ h => by cases h) lexTells_row_tie rfl ⟨rfl, rfl⟩ (by kernel_rfl) rfl
    (fun f fn hf hfn => by
      obtain rfl : f = 6 := Option.some.inj ((show Tryd.prog.funcNamed "parquet/parquetlaw6.LexTells" = some 6 by kernel_rfl).symm.trans hf) |>.symm
      obtain rfl : fn = Tryd.f6 := (Option.some.inj (Tryd.func6.symm.trans hfn)).symm
      exact ⟨by kernel_rfl, fun j t ht => by
        have hm : t ∈ [9, 9] := by
          have e : Tryd.f6.params.toList = [9, 9] := by kernel_rfl
          rw [← e]; exact List.mem_of_getElem? (by simpa using ht)
        have hall : ([9, 9].all fun u => !Tryd.prog.wantsStandIn u) = true := by kernel_rfl
        exact (show Tryd.prog.wantsStandIn t = false by simpa using List.all_eq_true.1 hall t hm)⟩)
    (by kernel_rfl)
#print axioms lexTells_holds
end Go.Proofs.YtjijakfcahhioabDoor
