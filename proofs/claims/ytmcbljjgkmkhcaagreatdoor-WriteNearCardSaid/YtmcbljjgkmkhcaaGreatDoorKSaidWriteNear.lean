/- WriteNear: of every argument the law returns true, and the arguments read afterwards as before: the tied card (the listed variables of the library hold what the program's text lays). No other condition. -/
import Derived.Test.YtmcbljjgkmkhcaaGreatDoorCards
import Derived.Test.YtmcbljjgkmkhcaaGreatDoorTie
import Derived.Test.YtmcbljjgkmkhcaaGreatDoorK8
set_option linter.unusedSimpArgs false
set_option linter.unusedVariables false
namespace Go.Proofs.YtmcbljjgkmkhcaaGreatDoor
open Go.ChangeShapes Go.WideShapes Go.ChangeAt Go.RowKit Ax
set_option maxRecDepth 100000 in
theorem writeNear_lifted (os:Os) (started:os.Started) (H:Type) (enc:TypeId×Value→H) :
    ReturnsInHanded {} Tryz.checked os 3 .any (fun w args=>(Rows.writeNearSpec.pre enc Tryz.prog Tryz.f3 [] false w args∧laidMetH Tryz.prog laidL w)∧sizedMet enc Tryz.prog Tryz.f3 (OpenSpec.ofChange Rows.writeNearSpec) false w args)
      (Rows.writeNearSpec.post enc Tryz.prog Tryz.f3 false true false false):=by
  refine handed_laid (C:=Tryz.checked) own started (by kernel_rfl) Tryz.func3
    (ChangeSpec.witness_shaped (enc:=enc) (C:=Tryz.checked) (os:=os) (X:=fun w _=>laidMetH Tryz.prog laidL w) false (World.laidAll Tryz.prog os laidL) #[.int .i32 0,.int .u16 0,.int .u8 0] 8 (World.laidAll_os _ _ _)
      (World.shaped_of_ZipB (by kernel_rfl) (by kernel_rfl)) (by kernel_rfl) (by kernel_rfl) (by kernel_rfl) (laid_wit os _)) ?_
  intro W base args ds gs before hval hW hL hsh
  exact law_post (P:=Tryz.prog) (E:=EWL) (L:=lpWn) mixed Tryz.func3 loopsWn laidOut [(false,.int .i32),(false,.int .u16),(false,.int .u8)]
    (fun x hx=>law_run (fit_i32 hx.1) (fit_u16 hx.2.1) (fit_u8 hx.2.2.1))
    [21,22,5] (by kernel_rfl) ⟨o_i32,by kernel_rfl,o_u16,by kernel_rfl,o_u8,by kernel_rfl,trivial⟩ (by decide +kernel) (by kernel_rfl) Tryz.underlying4 rfl
    (fun ds h=>by match ds,h with|[a,b,c],_=>rfl) hval hW (glob_laid hL hsh)
theorem writeNear_row:Rows.WriteNearSaid:=
  OpenClaim.holds_of_wide 3 Tryz.f3 rfl rfl rfl rfl rfl rfl rfl ⟨rfl,rfl,rfl,rfl,rfl⟩ rfl rfl rfl rfl rfl (by kernel_rfl) Tryz.func3 (by kernel_rfl)
    (of_decide_eq_true (by kernel_rfl)) (by unfold Func.isWrapper;first|(rw[if_pos (by decide +kernel)];kernel_rfl)|(rw[if_neg (by decide +kernel)];exact ⟨rfl,rfl⟩))
    (fun os started H enc _=>writeNear_lifted os started H enc)
theorem writeNear_holds:Rows.WriteNearCardSaid:=
  Claim7.holds_tied_plain_at .later [] Rows.writeNearCard.laidKinds true Rows.writeNearCard.stood.harness Rows.writeNearCard.stood.looks writeNear_row (fun _ h=>by cases h) (by kernel_rfl) (fun _ h=>by cases h) writeNear_row_tie rfl ⟨rfl,rfl⟩ (by kernel_rfl) rfl
    (fun f fn hf hfn=>by
      obtain rfl:f=3:=Option.some.inj ((show Tryz.prog.funcNamed "parquet/parquetlaw27.WriteNear" = some 3 by kernel_rfl).symm.trans hf) |>.symm
      obtain rfl:fn=Tryz.f3:=(Option.some.inj (Tryz.func3.symm.trans hfn)).symm
      exact ⟨by kernel_rfl,fun j t ht=>by
        have hm:t∈[21,22,5]:=by
          have e:Tryz.f3.params.toList=[21,22,5]:=by kernel_rfl
          rw[←e];exact List.mem_of_getElem? (by simpa using ht)
        have hall:([21,22,5].all fun u => !Tryz.prog.wantsStandIn u)=true:=by kernel_rfl
        exact (show Tryz.prog.wantsStandIn t=false by simpa using List.all_eq_true.1 hall t hm)⟩)
    (by kernel_rfl)
#print axioms writeNear_holds
end Go.Proofs.YtmcbljjgkmkhcaaGreatDoor
