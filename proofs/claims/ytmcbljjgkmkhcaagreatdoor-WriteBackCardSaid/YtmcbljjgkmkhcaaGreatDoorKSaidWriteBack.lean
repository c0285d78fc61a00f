/- WriteBack: of every argument the law returns true, and the arguments read afterwards as before: the tied card (the listed variables of the library hold what the program's text lays). No other condition. -/
import Derived.Test.YtmcbljjgkmkhcaaGreatDoorCards
import Derived.Test.YtmcbljjgkmkhcaaGreatDoorTie
import Derived.Test.YtmcbljjgkmkhcaaGreatDoorK7
set_option linter.unusedSimpArgs false
set_option linter.unusedVariables false
namespace Go.Proofs.YtmcbljjgkmkhcaaGreatDoor
open Go.ChangeShapes Go.WideShapes Go.ChangeAt Go.RowKit Ax
set_option maxRecDepth 100000 in
theorem writeBack_lifted (os:Os) (started:os.Started) (H:Type) (enc:TypeId×Value→H) :
    ReturnsInHanded {} Tryz.checked os 4 .any (fun w args=>(Rows.writeBackSpec.pre enc Tryz.prog Tryz.f4 [] false w args∧laidMetH Tryz.prog laidL w)∧sizedMet enc Tryz.prog Tryz.f4 (OpenSpec.ofChange Rows.writeBackSpec) false w args)
      (Rows.writeBackSpec.post enc Tryz.prog Tryz.f4 false true false false):=by
  refine handed_laid (C:=Tryz.checked) own started (by kernel_rfl) Tryz.func4
    (ChangeSpec.witness_shaped (enc:=enc) (C:=Tryz.checked) (os:=os) (X:=fun w _=>laidMetH Tryz.prog laidL w) false (World.laidAll Tryz.prog os laidL) #[.agg #[.slice none 0 0,.slice none 0 0,.slice none 0 0],.int .u8 0] 8 (World.laidAll_os _ _ _)
      (World.shaped_of_ZipB (by kernel_rfl) (by kernel_rfl)) (by kernel_rfl) (by kernel_rfl) (by kernel_rfl) (laid_wit os _)) ?_
  intro W base args ds gs before hval hW hL hsh
  exact law_post (P:=Tryz.prog) (E:=EWD) (L:=lpWK) mixed Tryz.func4 loopsWk laidOut [(true,cMesh),(false,.int .u8)]
    (fun x hx=>law_run (fit_u8 hx.2.1))
    [41,5] (by kernel_rfl) ⟨o_mesh,by kernel_rfl,o_u8,by kernel_rfl,trivial⟩ (by decide +kernel) (by kernel_rfl) Tryz.underlying4 rfl
    (fun ds h=>by match ds,h with|[a,b],_=>rfl) hval hW (glob_laid hL hsh)
theorem writeBack_row:Rows.WriteBackSaid:=
  OpenClaim.holds_of_wide 4 Tryz.f4 rfl rfl rfl rfl rfl rfl rfl ⟨rfl,rfl,rfl,rfl,rfl⟩ rfl rfl rfl rfl rfl (by kernel_rfl) Tryz.func4 (by kernel_rfl)
    (of_decide_eq_true (by kernel_rfl)) (by unfold Func.isWrapper;first|(rw[if_pos (by decide +kernel)];kernel_rfl)|(rw[if_neg (by decide +kernel)];exact ⟨rfl,rfl⟩))
    (fun os started H enc _=>writeBack_lifted os started H enc)
theorem writeBack_holds:Rows.WriteBackCardSaid:=
  Claim7.holds_tied_plain_at .later [] Rows.writeBackCard.laidKinds true Rows.writeBackCard.stood.harness Rows.writeBackCard.stood.looks writeBack_row (fun _ h=>by cases h) (by kernel_rfl) (fun _ h=>by cases h) writeBack_row_tie rfl ⟨rfl,rfl⟩ (by kernel_rfl) rfl
    (fun f fn hf hfn=>by
      obtain rfl:f=4:=Option.some.inj ((show Tryz.prog.funcNamed "parquet/parquetlaw27.WriteBack" = some 4 by kernel_rfl).symm.trans hf) |>.symm
      obtain rfl:fn=Tryz.f4:=(Option.some.inj (Tryz.func4.symm.trans hfn)).symm
      exact ⟨by kernel_rfl,fun j t ht=>by
        have hm:t∈[41,5]:=by
          have e:Tryz.f4.params.toList=[41,5]:=by kernel_rfl
          rw[←e];exact List.mem_of_getElem? (by simpa using ht)
        have hall:([41,5].all fun u => !Tryz.prog.wantsStandIn u)=true:=by kernel_rfl
        exact (show Tryz.prog.wantsStandIn t=false by simpa using List.all_eq_true.1 hall t hm)⟩)
    (by kernel_rfl)
#print axioms writeBack_holds
end Go.Proofs.YtmcbljjgkmkhcaaGreatDoor
