/-
  No cell of these rows narrows 'for every input' (looked for: loops, veiled, ifaces, maps, wideKeys, modest, calm, conditions, laid).
  DERIVED. THE GIVEN ROWS OF THIS SEAT. 6 by the template 'for every input the law returns true; each argument reads behind the call as it read before'; 0 by the template 'total and deterministic' (their statements: YtjijakfcahhioaaTotals.lean).
  GIVEN WITH THE SEED: the statements are not yours to turn. If you find one false, say at which input.
  Laid BY PROGRAM, IN A SANDBOX (cutbox-rows.mjs): the forced cells as the released guide's own fill.sh prints them over the translation 00156e4b42168839… (all of the seat's roots in one cut). By AI agents, Wed Nov 11 2026. No macro, syntax, notation, axiom, sorry.
-/
import Derived.Test.YtjijakfcahhioaaChecked
import GoSem.Claim
import GoSem.ClaimJoined
import GoSem.ClaimMapViews
import Derived.JoinedTies
import Derived.KernelRfl
namespace Go.Proofs.Ytjijakfcahhioaa
/- THE CELL 'sum', in the pinned program and in every row, IS THE sha256 OF THE DUMP (.gsa) THAT YtjijakfcahhioaaProg.lean LOADS. Nothing in Lean hashes anything: it is a label: what it is worth is what the hold of that sum in a sandbox is worth. -/
noncomputable def Try.pinned : Pinned := { name := "ytjijakfcahhioaa", sum := "00156e4b4216883979a2e52a39c56751447d5234b3bc228c1980d30a8b476913", checked := Try.checked }
namespace Rows
def none {H : Type} : Left H := { results := [], args := [] }

/-- 'parquetlaw2.RatioFloors': WHATEVER THE INPUT: true; the input reads as it did. -/
def ratioFloorsSpec : ChangeSpec := { name := "ratioFloors", fn := fun _ => fun
  | [d] => { results := [.lit (.bool true)], args := [d] }
  | _ => none }
def ratioFloorsRow : OpenClaim := { program := "ytjijakfcahhioaa", sum := "00156e4b4216883979a2e52a39c56751447d5234b3bc228c1980d30a8b476913", func := "parquet/parquetlaw2.RatioFloors", spec := "ratioFloors", inPlace := ["internal/bytealg.IndexByteString", "internal/bytealg.IndexString"], named := ["math/bits.overflowError", "internal/bytealg.MaxLen"], apart := false }
def RatioFloorsSaid : Prop := ratioFloorsRow.holds Try.pinned (OpenSpec.ofChange ratioFloorsSpec)

/-- ITS FALSE NEIGHBOUR: 'it returns false'. Refute it at one input. -/
def ratioFloorsWrong : ChangeSpec := { name := "ratioFloors", fn := fun _ => fun
  | [d] => { results := [.lit (.bool false)], args := [d] }
  | _ => none }
def RatioFloorsWrongFalsely : Prop := ratioFloorsRow.holds Try.pinned (OpenSpec.ofChange ratioFloorsWrong)

/-- 'parquetlaw2.RatioTerms': WHATEVER THE INPUT: true; the input reads as it did. -/
def ratioTermsSpec : ChangeSpec := { name := "ratioTerms", fn := fun _ => fun
  | [d1, d2, d3] => { results := [.lit (.bool true)], args := [d1, d2, d3] }
  | _ => none }
def ratioTermsRow : OpenClaim := { program := "ytjijakfcahhioaa", sum := "00156e4b4216883979a2e52a39c56751447d5234b3bc228c1980d30a8b476913", func := "parquet/parquetlaw2.RatioTerms", spec := "ratioTerms", inPlace := ["internal/bytealg.IndexByteString", "internal/bytealg.IndexString"], named := ["math/bits.overflowError", "internal/bytealg.MaxLen"], apart := false }
def RatioTermsSaid : Prop := ratioTermsRow.holds Try.pinned (OpenSpec.ofChange ratioTermsSpec)

/-- ITS FALSE NEIGHBOUR: 'it returns false'. Refute it at one input. -/
def ratioTermsWrong : ChangeSpec := { name := "ratioTerms", fn := fun _ => fun
  | [d1, d2, d3] => { results := [.lit (.bool false)], args := [d1, d2, d3] }
  | _ => none }
def RatioTermsWrongFalsely : Prop := ratioTermsRow.holds Try.pinned (OpenSpec.ofChange ratioTermsWrong)

/-- 'parquetlaw2.RatioTextBack': WHATEVER THE INPUT: true; the input reads as it did. -/
def ratioTextBackSpec : ChangeSpec := { name := "ratioTextBack", fn := fun _ => fun
  | [d1, d2] => { results := [.lit (.bool true)], args := [d1, d2] }
  | _ => none }
def ratioTextBackRow : OpenClaim := { program := "ytjijakfcahhioaa", sum := "00156e4b4216883979a2e52a39c56751447d5234b3bc228c1980d30a8b476913", func := "parquet/parquetlaw2.RatioTextBack", spec := "ratioTextBack", inPlace := ["internal/bytealg.IndexByteString", "internal/bytealg.IndexString"], named := ["math/bits.overflowError", "internal/bytealg.MaxLen"], apart := false }
def RatioTextBackSaid : Prop := ratioTextBackRow.holds Try.pinned (OpenSpec.ofChange ratioTextBackSpec)

/-- ITS FALSE NEIGHBOUR: 'it returns false'. Refute it at one input. -/
def ratioTextBackWrong : ChangeSpec := { name := "ratioTextBack", fn := fun _ => fun
  | [d1, d2] => { results := [.lit (.bool false)], args := [d1, d2] }
  | _ => none }
def RatioTextBackWrongFalsely : Prop := ratioTextBackRow.holds Try.pinned (OpenSpec.ofChange ratioTextBackWrong)

/-- 'parquetlaw2.RatioRows': WHATEVER THE INPUT: true; the input reads as it did. -/
def ratioRowsSpec : ChangeSpec := { name := "ratioRows", fn := fun _ => fun
  | [d] => { results := [.lit (.bool true)], args := [d] }
  | _ => none }
def ratioRowsRow : OpenClaim := { program := "ytjijakfcahhioaa", sum := "00156e4b4216883979a2e52a39c56751447d5234b3bc228c1980d30a8b476913", func := "parquet/parquetlaw2.RatioRows", spec := "ratioRows", inPlace := ["internal/bytealg.IndexByteString", "internal/bytealg.IndexString"], named := ["math/bits.overflowError", "internal/bytealg.MaxLen"], apart := false }
def RatioRowsSaid : Prop := ratioRowsRow.holds Try.pinned (OpenSpec.ofChange ratioRowsSpec)

/-- ITS FALSE NEIGHBOUR: 'it returns false'. Refute it at one input. -/
def ratioRowsWrong : ChangeSpec := { name := "ratioRows", fn := fun _ => fun
  | [d] => { results := [.lit (.bool false)], args := [d] }
  | _ => none }
def RatioRowsWrongFalsely : Prop := ratioRowsRow.holds Try.pinned (OpenSpec.ofChange ratioRowsWrong)

/-- 'parquetlaw2.RatioNear': WHATEVER THE INPUT: true; the input reads as it did. -/
def ratioNearSpec : ChangeSpec := { name := "ratioNear", fn := fun _ => fun
  | [d1, d2, d3] => { results := [.lit (.bool true)], args := [d1, d2, d3] }
  | _ => none }
def ratioNearRow : OpenClaim := { program := "ytjijakfcahhioaa", sum := "00156e4b4216883979a2e52a39c56751447d5234b3bc228c1980d30a8b476913", func := "parquet/parquetlaw2.RatioNear", spec := "ratioNear", inPlace := ["internal/bytealg.IndexByteString", "internal/bytealg.IndexString"], named := ["math/bits.overflowError", "internal/bytealg.MaxLen"], apart := false }
def RatioNearSaid : Prop := ratioNearRow.holds Try.pinned (OpenSpec.ofChange ratioNearSpec)

/-- ITS FALSE NEIGHBOUR: 'it returns false'. Refute it at one input. -/
def ratioNearWrong : ChangeSpec := { name := "ratioNear", fn := fun _ => fun
  | [d1, d2, d3] => { results := [.lit (.bool false)], args := [d1, d2, d3] }
  | _ => none }
def RatioNearWrongFalsely : Prop := ratioNearRow.holds Try.pinned (OpenSpec.ofChange ratioNearWrong)

/-- 'parquetlaw2.RatioLaws': WHATEVER THE INPUT: true; the input reads as it did. -/
def ratioLawsSpec : ChangeSpec := { name := "ratioLaws", fn := fun _ => fun
  | [d1, d2, d3] => { results := [.lit (.bool true)], args := [d1, d2, d3] }
  | _ => none }
def ratioLawsRow : OpenClaim := { program := "ytjijakfcahhioaa", sum := "00156e4b4216883979a2e52a39c56751447d5234b3bc228c1980d30a8b476913", func := "parquet/parquetlaw2.RatioLaws", spec := "ratioLaws", inPlace := ["internal/bytealg.IndexByteString", "internal/bytealg.IndexString"], named := ["math/bits.overflowError", "internal/bytealg.MaxLen"], apart := false }
def RatioLawsSaid : Prop := ratioLawsRow.holds Try.pinned (OpenSpec.ofChange ratioLawsSpec)

/-- ITS FALSE NEIGHBOUR: 'it returns false'. Refute it at one input. -/
def ratioLawsWrong : ChangeSpec := { name := "ratioLaws", fn := fun _ => fun
  | [d1, d2, d3] => { results := [.lit (.bool false)], args := [d1, d2, d3] }
  | _ => none }
def RatioLawsWrongFalsely : Prop := ratioLawsRow.holds Try.pinned (OpenSpec.ofChange ratioLawsWrong)

/- THE SECOND FORM. 'bulk': how many values and letters a reading holds, each counted each time it is reached (what is shared counts as often as it is met; a slice's spare places count too). A statement '..UptoSaid' is the law's where the arguments, and the package variables that the reading takes, are together of bulk at most 1048576: NARROWER than '..Said'. Prove '..Said' where nothing that the law and all that it calls make is longer than what came in: it says more and counts as full. Else prove '..UptoSaid'. A law counts once. -/
mutual
def uptoBulk {H : Type} : DataW H → Nat
  | .lit (.string bytes) => bytes.length + 1
  | .lit _ => 1
  | .nil => 1
  | .ptr d => uptoBulk d + 1
  | .slice elems spare => uptoBulkAll elems + uptoBulkAll spare + 1
  | .agg parts => uptoBulkAll parts + 1
  | .iface _ d => uptoBulk d + 1
  | .map entries => uptoBulkEntries entries + 1
  | .held _ => 1
def uptoBulkAll {H : Type} : List (DataW H) → Nat
  | [] => 0
  | d :: r => uptoBulk d + uptoBulkAll r
def uptoBulkEntries {H : Type} : List (Lit × DataW H) → Nat
  | [] => 0
  | x :: r => uptoBulkEntry x + uptoBulkEntries r
def uptoBulkEntry {H : Type} : Lit × DataW H → Nat
  | (.string bytes, d) => bytes.length + uptoBulk d + 1
  | (_, d) => uptoBulk d + 1
 end
def uptoSmall : (H : Type) → List (DataW H) → Bool := fun _ ds => decide (uptoBulkAll ds ≤ 1048576)
def OpenSpec.upto (s : _root_.Go.ChangeSpec) : _root_.Go.OpenSpec := { _root_.Go.OpenSpec.ofChange s with cond := some uptoSmall }

/-- 'parquetlaw2.RatioFloors', WHERE WHAT IT READS IS OF BULK AT MOST 1048576: true; the input reads as it did. -/
def ratioFloorsUptoRow : OpenClaim := { program := "ytjijakfcahhioaa", sum := "00156e4b4216883979a2e52a39c56751447d5234b3bc228c1980d30a8b476913", func := "parquet/parquetlaw2.RatioFloors", spec := "ratioFloors", inPlace := ["internal/bytealg.IndexByteString", "internal/bytealg.IndexString"], named := ["math/bits.overflowError", "internal/bytealg.MaxLen"], apart := false, narrowed := true }
def RatioFloorsUptoSaid : Prop := ratioFloorsUptoRow.holds Try.pinned (OpenSpec.upto ratioFloorsSpec)

/-- 'parquetlaw2.RatioTerms', WHERE WHAT IT READS IS OF BULK AT MOST 1048576: true; the input reads as it did. -/
def ratioTermsUptoRow : OpenClaim := { program := "ytjijakfcahhioaa", sum := "00156e4b4216883979a2e52a39c56751447d5234b3bc228c1980d30a8b476913", func := "parquet/parquetlaw2.RatioTerms", spec := "ratioTerms", inPlace := ["internal/bytealg.IndexByteString", "internal/bytealg.IndexString"], named := ["math/bits.overflowError", "internal/bytealg.MaxLen"], apart := false, narrowed := true }
def RatioTermsUptoSaid : Prop := ratioTermsUptoRow.holds Try.pinned (OpenSpec.upto ratioTermsSpec)

/-- 'parquetlaw2.RatioTextBack', WHERE WHAT IT READS IS OF BULK AT MOST 1048576: true; the input reads as it did. -/
def ratioTextBackUptoRow : OpenClaim := { program := "ytjijakfcahhioaa", sum := "00156e4b4216883979a2e52a39c56751447d5234b3bc228c1980d30a8b476913", func := "parquet/parquetlaw2.RatioTextBack", spec := "ratioTextBack", inPlace := ["internal/bytealg.IndexByteString", "internal/bytealg.IndexString"], named := ["math/bits.overflowError", "internal/bytealg.MaxLen"], apart := false, narrowed := true }
def RatioTextBackUptoSaid : Prop := ratioTextBackUptoRow.holds Try.pinned (OpenSpec.upto ratioTextBackSpec)

/-- 'parquetlaw2.RatioRows', WHERE WHAT IT READS IS OF BULK AT MOST 1048576: true; the input reads as it did. -/
def ratioRowsUptoRow : OpenClaim := { program := "ytjijakfcahhioaa", sum := "00156e4b4216883979a2e52a39c56751447d5234b3bc228c1980d30a8b476913", func := "parquet/parquetlaw2.RatioRows", spec := "ratioRows", inPlace := ["internal/bytealg.IndexByteString", "internal/bytealg.IndexString"], named := ["math/bits.overflowError", "internal/bytealg.MaxLen"], apart := false, narrowed := true }
def RatioRowsUptoSaid : Prop := ratioRowsUptoRow.holds Try.pinned (OpenSpec.upto ratioRowsSpec)

/-- 'parquetlaw2.RatioNear', WHERE WHAT IT READS IS OF BULK AT MOST 1048576: true; the input reads as it did. -/
def ratioNearUptoRow : OpenClaim := { program := "ytjijakfcahhioaa", sum := "00156e4b4216883979a2e52a39c56751447d5234b3bc228c1980d30a8b476913", func := "parquet/parquetlaw2.RatioNear", spec := "ratioNear", inPlace := ["internal/bytealg.IndexByteString", "internal/bytealg.IndexString"], named := ["math/bits.overflowError", "internal/bytealg.MaxLen"], apart := false, narrowed := true }
def RatioNearUptoSaid : Prop := ratioNearUptoRow.holds Try.pinned (OpenSpec.upto ratioNearSpec)

/-- 'parquetlaw2.RatioLaws', WHERE WHAT IT READS IS OF BULK AT MOST 1048576: true; the input reads as it did. -/
def ratioLawsUptoRow : OpenClaim := { program := "ytjijakfcahhioaa", sum := "00156e4b4216883979a2e52a39c56751447d5234b3bc228c1980d30a8b476913", func := "parquet/parquetlaw2.RatioLaws", spec := "ratioLaws", inPlace := ["internal/bytealg.IndexByteString", "internal/bytealg.IndexString"], named := ["math/bits.overflowError", "internal/bytealg.MaxLen"], apart := false, narrowed := true }
def RatioLawsUptoSaid : Prop := ratioLawsUptoRow.holds Try.pinned (OpenSpec.upto ratioLawsSpec)

end Rows
end Go.Proofs.Ytjijakfcahhioaa
