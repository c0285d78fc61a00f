/- PolyNumbers: of every argument the law returns true, and the arguments read afterwards as before: the tied card (the listed variables of the library hold what the program's text lays). No other condition. -/
import Derived.Test.YtbkfakkkikmcbaaGreatDoorCards
import Derived.Test.YtbkfakkkikmcbaaGreatDoorTie
import Derived.Test.YtbkfakkkikmcbaaGreatDoorK7
set_option linter.unusedSimpArgs false
set_option linter.unusedVariables false
namespace Go.Proofs.YtbkfakkkikmcbaaGreatDoor
open Go.ChangeShapes Go.WideShapes Go.ChangeAt Go.RowKit Ax
set_option maxRecDepth 100000 in
theorem polyNumbers_lifted (os:Os) (started:os.Started) (H:Type) (enc:TypeId×Value→H) :
    ReturnsInHanded {} Tryz.checked os 6 .any (fun w args=>(Rows.polyNumbersSpec.pre enc Tryz.prog Tryz.f6 [] false w args∧laidMetH Tryz.prog laidL w)∧sizedMet enc Tryz.prog Tryz.f6 (OpenSpec.ofChange Rows.polyNumbersSpec) false w args)
      (Rows.polyNumbersSpec.post enc Tryz.prog Tryz.f6 false true false false):=by
  refine handed_laid (C:=Tryz.checked) own started (by kernel_rfl) Tryz.func6
    (ChangeSpec.witness_shaped (enc:=enc) (C:=Tryz.checked) (os:=os) (X:=fun w _=>laidMetH Tryz.prog laidL w) false (World.laidAll Tryz.prog os laidL) #[.int .u8 0,.int .u8 0,.int .u8 0,.bool false] 8 (World.laidAll_os _ _ _)
      (World.shaped_of_ZipB (by kernel_rfl) (by kernel_rfl)) (by kernel_rfl) (by kernel_rfl) (by kernel_rfl) (laid_wit os _)) ?_
  intro W base args ds gs before hval hW hL hsh
  exact law_post (P:=Tryz.prog) (E:=EPn) (L:=lpNm) mixed Tryz.func6 loopsPn laidOut [(false,.int .u8),(false,.int .u8),(false,.int .u8),(false,.bool)]
    (fun x hx=>law_run (fit_u8 hx.1) (fit_u8 hx.2.1) (fit_u8 hx.2.2.1))
    [5,5,5,4] (by kernel_rfl) ⟨o_u8,by kernel_rfl,o_u8,by kernel_rfl,o_u8,by kernel_rfl,o_bool,by kernel_rfl,trivial⟩ (by decide +kernel) (by kernel_rfl) Tryz.underlying4 rfl
    (fun ds h=>by match ds,h with|[a,b,c,d],_=>rfl) hval hW (glob_laid hL hsh)
theorem polyNumbers_row:Rows.PolyNumbersSaid:=
  OpenClaim.holds_of_wide 6 Tryz.f6 rfl rfl rfl rfl rfl rfl rfl ⟨rfl,rfl,rfl,rfl,rfl⟩ rfl rfl rfl rfl rfl (by kernel_rfl) Tryz.func6 (by kernel_rfl)
    (of_decide_eq_true (by kernel_rfl)) (by unfold Func.isWrapper;first|(rw[if_pos (by decide +kernel)];kernel_rfl)|(rw[if_neg (by decide +kernel)];exact ⟨rfl,rfl⟩))
    (fun os started H enc _=>polyNumbers_lifted os started H enc)
theorem polyNumbers_holds:Rows.PolyNumbersCardSaid:=
  Claim7.holds_tied_plain_at .later [] Rows.polyNumbersCard.laidKinds true Rows.polyNumbersCard.stood.harness Rows.polyNumbersCard.stood.looks polyNumbers_row (fun _ h=>by cases h) (by kernel_rfl) (fun _ h=>by cases h) polyNumbers_row_tie rfl ⟨rfl,rfl⟩ (by kernel_rfl) rfl
    (fun f fn hf hfn=>by
      obtain rfl:f=6:=Option.some.inj ((show Tryz.prog.funcNamed "parquet/parquetlaw7.PolyNumbers" = some 6 by kernel_rfl).symm.trans hf) |>.symm
      obtain rfl:fn=Tryz.f6:=(Option.some.inj (Tryz.func6.symm.trans hfn)).symm
      exact ⟨by kernel_rfl,fun j t ht=>by
        have hm:t∈[5,5,5,4]:=by
          have e:Tryz.f6.params.toList=[5,5,5,4]:=by kernel_rfl
          rw[←e];exact List.mem_of_getElem? (by simpa using ht)
        have hall:([5,5,5,4].all fun u => !Tryz.prog.wantsStandIn u)=true:=by kernel_rfl
        exact (show Tryz.prog.wantsStandIn t=false by simpa using List.all_eq_true.1 hall t hm)⟩)
    (by kernel_rfl)
#print axioms polyNumbers_holds
end Go.Proofs.YtbkfakkkikmcbaaGreatDoor
