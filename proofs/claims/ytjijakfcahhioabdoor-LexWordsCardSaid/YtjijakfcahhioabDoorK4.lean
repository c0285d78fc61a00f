import Derived.ProofKit
import Derived.OpenShut
import Derived.Deep.Slices
import Derived.Handed
import Derived.LaidLaws
import Derived.Lib.LaidU8
import Derived.Shelf.Vars
import Derived.Lay
import Derived.MakeChecks
import Derived.PinnedBridge
import Derived.SevenTiedAt
import Derived.Test.YtjijakfcahhioabDoorRows
import Derived.Lib.ItoaLen
import Derived.Test.YtjijakfcahhioabDoorK3
/-
parquetref6.words: its loop.
-/
set_option linter.unusedSimpArgs false
set_option linter.unusedVariables false
namespace Go.Proofs.YtjijakfcahhioabDoor
open Go.RowKit Ax
/-- the words that are still to come -/
def wLeft (s : ByteArray) (f i : Int) : List ByteArray := (fgo (if f < 0 then [] else Lib.pieceU s.data.toList f.toNat i.toNat) ((s.data.toList.drop i.toNat).takeWhile (· != 35))).map mkB
def outWords (x : RSpec.X spWords) (y : RSpec.Y spWords) (g : Gr ByteArray) : T (Exit × List Av × RSpec.Y spWords × Gr ByteArray) :=
  .need (0 ≤ x.2.2.1 ∧ x.2.2.1 ≤ (ByteArray.size x.1 : Int) + 1 ∧ -1 ≤ x.2.1 ∧ x.2.1 < x.2.2.1 ∨ x.2.1 = -1 ∧ x.2.2.1 = 0) (.need ((x.2.2.1 = (ByteArray.size x.1 : Int) + 1 → x.2.1 = -1) ∧ ByteArray.size x.1 ≤ 1000000 ∧ (gl g : Int) ≤ x.2.2.1)
    (.ite ((List.drop x.2.2.1.toNat (Array.toList (ByteArray.data x.1))).contains 35) (finG Exit.ret [] y g (wLeft x.1 x.2.1 x.2.2.1)) (finG (Exit.exit 0) [] y g (wLeft x.1 x.2.1 x.2.2.1))))
theorem fgo_blank (cur : List UInt8) (c : UInt8) (r : List UInt8) (h : bl c = true) : fgo cur (c :: r) = (if cur = [] then [] else [cur]) ++ fgo [] r := by
  rw [fgo, if_pos h]
  split <;> simp_all
theorem fgo_other (cur : List UInt8) (c : UInt8) (r : List UInt8) (h : bl c = false) : fgo cur (c :: r) = fgo (cur ++ [c]) r := by
  rw [fgo, if_neg (by rw [h]; exact Bool.false_ne_true)]
theorem fgo_nil (cur : List UInt8) : fgo cur [] = (if cur = [] then [] else [cur]) := rfl
def curOf (s : ByteArray) (f i : Int) : List UInt8 := if f < 0 then [] else Lib.pieceU s.data.toList f.toNat i.toNat
theorem cur_ne (s : ByteArray) {f i : Int} (h0 : 0 ≤ f) (h1 : f < i) (h2 : i ≤ s.size) : curOf s f i ≠ [] := by
  unfold curOf
  rw [if_neg (by omega)]
  exact Lib.pieceU_ne _ _ _ (by omega) (by rw [← Lib.size_eq]; omega)
theorem cur_ext (s : ByteArray) {f i : Int} (h0 : 0 ≤ f) : mkB (curOf s f i) = s.extract f.toNat i.toNat := by
  unfold curOf
  rw [if_neg (by omega), Lib.extract_eq]; rfl
theorem loop_fin (s : ByteArray) (f i : Int) (n : Nat) (g : Gr ByteArray) (Q : Exit × List Av × RSpec.Y spWords × Gr ByteArray → Prop) (hi : 0 ≤ i ∧ i ≤ (s.size : Int)) (hs : s.size ≤ 1000000) (hn : gnd n g) (hg : (gl g : Int) ≤ i + 1)
    (hy : (List.drop (i + 1).toNat s.data.toList).contains 35 = true → (finG Exit.ret [] () g (wLeft s (-1) (i + 1))).wp Q) (hz : (List.drop (i + 1).toNat s.data.toList).contains 35 = false → (finG (Exit.exit 0) [] () g (wLeft s (-1) (i + 1))).wp Q) :
    (wFin s i n g).wp fun r => match r with
      | .again x' y' g' => ((ByteArray.size x'.1 : Int) + 1 - x'.2.2.1).toNat < ((s.size : Int) + 1 - i).toNat ∧ (outWords x' y' g').wp Q
      | .out e avs y' g' => Q (e, avs, y', g') := by
  unfold wFin outWords
  simp only [T.wp]
  dsimp only [El, vts, spWords]
  rw [IntWalk.i64_in (i + 1) (by omega)]
  exact ⟨hn, by omega, by omega, ⟨fun _ => trivial, hs, by omega⟩, hy, hz⟩
theorem take_blank {c : UInt8} {r : List UInt8} (h : c ≠ 35) : (c :: r).takeWhile (· != 35) = c :: r.takeWhile (· != 35) := by
  rw [List.takeWhile_cons, if_pos (by simp [h])]
theorem cont_ne {c : UInt8} {r : List UInt8} (h : c ≠ 35) : (c :: r).contains 35 = r.contains 35 := by
  rw [List.contains_cons, beq_false_of_ne (Ne.symm h), Bool.false_or]
/-- a byte ends a word; or the line ends -/
theorem clo_ok (s : ByteArray) (f i : Int) (g : Gr ByteArray) (Q : Exit × List Av × RSpec.Y spWords × Gr ByteArray → Prop) (h0 : 0 ≤ i ∧ i ≤ (s.size : Int)) (h1 : -1 ≤ f) (h2 : f < i ∨ f = -1) (hs : s.size ≤ 1000000) (hg : (gl g : Int) ≤ i)
    (hc : i = s.size ∨ ∃ c, s.data.toList[i.toNat]? = some c ∧ (bl c = true ∨ c = 35))
    (hy : (List.drop i.toNat s.data.toList).contains 35 = true → (finG Exit.ret [] () g (wLeft s f i)).wp Q) (hz : (List.drop i.toNat s.data.toList).contains 35 = false → (finG (Exit.exit 0) [] () g (wLeft s f i)).wp Q) :
    (wClo s f i (gl g) g).wp fun r => match r with
      | .again x' y' g' => ((ByteArray.size x'.1 : Int) + 1 - x'.2.2.1).toNat < ((s.size : Int) + 1 - i).toNat ∧ (outWords x' y' g').wp Q
      | .out e avs y' g' => Q (e, avs, y', g') := by
  have hsz : s.data.toList.length = s.size := (Lib.size_eq s).symm
  -- behind what is appended
  have tail : ∀ (n : Nat) (g' : Gr ByteArray), gnd n g' → (gl g' : Int) ≤ i + 1 →
      ((List.drop i.toNat s.data.toList).contains 35 = true → (finG Exit.ret [] () g' ((fgo [] (((s.data.toList.drop i.toNat).takeWhile (· != 35)).drop 1)).map mkB)).wp Q) →
      ((List.drop i.toNat s.data.toList).contains 35 = false → (finG (Exit.exit 0) [] () g' ((fgo [] (((s.data.toList.drop i.toNat).takeWhile (· != 35)).drop 1)).map mkB)).wp Q) →
      (wTail s i n g').wp fun r => match r with
      | .again x' y' g' => ((ByteArray.size x'.1 : Int) + 1 - x'.2.2.1).toNat < ((s.size : Int) + 1 - i).toNat ∧ (outWords x' y' g').wp Q
      | .out e avs y' g' => Q (e, avs, y', g') := by
    intro n g' hn hg' hy hz
    unfold wTail
    simp only [T.wp]
    refine ⟨fun hlt => ?_, fun hge => ?_⟩
    · have hlt := of_decide_eq_true hlt
      obtain ⟨c, hc'⟩ := elem_at (l := s.data.toList) h0.1 (by omega)
      have hd := drop_at h0.1 hc'
      rw [hd] at hy hz
      refine ⟨c, h0.1, hc', fun e => ?_, fun e => ?_⟩
      · have e : c = 35 := by
          have : (c.toNat : Int) = 35 := by simpa using e
          exact byte_of (k := 35) (by omega)
        subst e
        have hy := hy (by simp)
        rw [List.takeWhile_cons, if_neg (by simp)] at hy
        exact ⟨hn, finG_nil hy⟩
      · have e : c ≠ 35 := fun h => by
          have : ¬ (c.toNat : Int) = 35 := by simpa using e
          exact this (by rw [h]; rfl)
        rw [take_blank e, cont_ne e, List.drop_one, List.tail_cons] at hy hz
        refine loop_fin s f i n g' Q h0 hs hn hg' ?_ ?_
        · unfold wLeft; rw [if_pos (by omega)]; exact hy
        · unfold wLeft; rw [if_pos (by omega)]; exact hz
    · have hge := of_decide_eq_false hge
      rw [drop_end (by omega)] at hy hz
      refine loop_fin s f i n g' Q h0 hs hn hg' ?_ ?_
      · rw [drop_end (by omega)]; intro h; simp at h
      · unfold wLeft
        rw [drop_end (by omega), if_pos (by omega)]; intro _; exact hz rfl
  have hW : wLeft s f i = (if curOf s f i = [] then [] else [mkB (curOf s f i)]) ++ (fgo [] (((s.data.toList.drop i.toNat).takeWhile (· != 35)).drop 1)).map mkB := by
    unfold wLeft
    rw [show (if f < 0 then [] else Lib.pieceU s.data.toList f.toNat i.toNat) = curOf s f i from rfl]
    rcases hc with hc | ⟨c, hc, hb⟩
    · rw [drop_end (by omega)]
      rw [List.takeWhile_nil, fgo_nil]
      split <;> simp [fgo]
    · rw [drop_at h0.1 hc]
      by_cases h35 : c = 35
      · rw [List.takeWhile_cons, if_neg (by simp [h35]), fgo_nil]
        split <;> simp [fgo]
      · rw [take_blank h35, fgo_blank _ _ _ (by rcases hb with h | h; exact h; exact absurd h h35), List.drop_one, List.tail_cons, List.map_append]
        split <;> simp
  rw [hW] at hy hz
  unfold wClo
  simp only [T.wp]
  refine ⟨fun hf => ?_, fun hf => ?_⟩
  · have hf : 0 ≤ f := of_decide_eq_true hf
    have hne := cur_ne s hf (by omega) h0.2
    rw [if_neg hne, cur_ext s hf] at hy hz
    refine ⟨⟨hf, by omega, h0.2⟩, appG_wp (by omega) (by simp only [Go.maxLen]; omega) fun k => tail _ _ (gnd_app g _ k) ?_ ?_ ?_⟩
    · have : gl (some (gx g ++ [s.extract f.toNat i.toNat], k)) = gl g + 1 := by show List.length _ = _; rw [List.length_append, gl_eq]; rfl
      rw [this]; omega
    · exact fun h => finG_cons (hy h) k
    · exact fun h => finG_cons (hz h) k
  · have hf : ¬ 0 ≤ f := of_decide_eq_false hf
    have hcur : curOf s f i = [] := by unfold curOf; rw [if_pos (by omega)]
    rw [if_pos hcur, List.nil_append] at hy hz
    exact tail _ _ (gnd_gl g) (by omega) hy hz
theorem opn_ok (s : ByteArray) (f i : Int) (g : Gr ByteArray) (c : UInt8) (Q : Exit × List Av × RSpec.Y spWords × Gr ByteArray → Prop) (h0 : 0 ≤ i ∧ i < (s.size : Int)) (h1 : -1 ≤ f) (h2 : f < i ∨ f = -1) (hs : s.size ≤ 1000000) (hg : (gl g : Int) ≤ i)
    (hc : s.data.toList[i.toNat]? = some c) (hb : bl c = false) (h35 : c ≠ 35)
    (hy : (List.drop i.toNat s.data.toList).contains 35 = true → (finG Exit.ret [] () g (wLeft s f i)).wp Q) (hz : (List.drop i.toNat s.data.toList).contains 35 = false → (finG (Exit.exit 0) [] () g (wLeft s f i)).wp Q) :
    (wOpn s f i (gl g) g).wp fun r => match r with
      | .again x' y' g' => ((ByteArray.size x'.1 : Int) + 1 - x'.2.2.1).toNat < ((s.size : Int) + 1 - i).toNat ∧ (outWords x' y' g').wp Q
      | .out e avs y' g' => Q (e, avs, y', g') := by
  have hsz : s.data.toList.length = s.size := (Lib.size_eq s).symm
  have hd := drop_at h0.1 hc
  have e1 : (i + 1).toNat = i.toNat + 1 := by omega
  have key : ∀ f' : Int, 0 ≤ f' → f' ≤ i → (curOf s f i ++ [c] = Lib.pieceU s.data.toList f'.toNat (i + 1).toNat) → wLeft s f i = wLeft s f' (i + 1) := fun f' hf' hle he => by
    unfold wLeft
    rw [show (if f < 0 then [] else Lib.pieceU s.data.toList f.toNat i.toNat) = curOf s f i from rfl, hd, take_blank h35, fgo_other _ _ _ hb, if_neg (by omega), he]
  have htake : (s.data.toList.drop i.toNat).take 1 = [c] := by rw [hd]; rfl
  rw [hd, cont_ne h35] at hy hz
  unfold wOpn outWords
  simp only [T.wp]
  dsimp only [El, vts, spWords]
  rw [IntWalk.i64_in (i + 1) (by omega)]
  refine ⟨fun hf => ?_, fun hf => ?_⟩
  · have hf := of_decide_eq_true hf
    have hk := key i h0.1 (Int.le_refl _) (by
      unfold curOf Lib.pieceU
      rw [if_pos hf, List.nil_append, e1, Nat.add_sub_cancel_left, htake])
    rw [hk] at hy hz
    exact ⟨gnd_gl g, by omega, by omega, ⟨fun h => by omega, hs, by omega⟩, hy, hz⟩
  · have hf := of_decide_eq_false hf
    have hk := key f (by omega) (by omega) (by
      unfold curOf
      rw [if_neg hf, e1, ← Lib.pieceU_grow _ _ _ _ (by omega), htake])
    rw [hk] at hy hz
    exact ⟨gnd_gl g, by omega, by omega, ⟨fun h => by omega, hs, by omega⟩, hy, hz⟩
theorem bl_of {c : UInt8} : bl c = decide (c.toNat = 32 ∨ c.toNat = 9 ∨ c.toNat = 13) := by
  unfold bl blank
  rw [decide_eq_decide]
  simp only [List.mem_cons, List.not_mem_nil, or_false]
  omega
theorem round_ok (s : ByteArray) (f i : Int) (g : Gr ByteArray) (Q : Exit × List Av × RSpec.Y spWords × Gr ByteArray → Prop) (h : (outWords (s, f, i, ()) () g).wp Q) :
    (wRound s f i g).wp fun r => match r with
      | .again x' y' g' => ((ByteArray.size x'.1 : Int) + 1 - x'.2.2.1).toNat < ((s.size : Int) + 1 - i).toNat ∧ (outWords x' y' g').wp Q
      | .out e avs y' g' => Q (e, avs, y', g') := by
  have hsz : s.data.toList.length = s.size := (Lib.size_eq s).symm
  unfold outWords at h
  simp only [T.wp] at h
  dsimp only [El, vts, spWords] at h
  obtain ⟨h1, ⟨h2, h3, h4⟩, hy, hz⟩ := h
  unfold wRound
  simp only [T.wp]
  refine ⟨fun hle => ⟨fun he => ?_, fun hne => ?_⟩, fun hgt => ?_⟩
  · have he : i = s.size := by simpa using he
    exact clo_ok s f i g Q (by omega) (by omega) (by omega) h3 h4 (.inl he) hy hz
  · have hle := of_decide_eq_true hle
    have hne : ¬ i = s.size := by simpa using hne
    obtain ⟨c, hc⟩ := elem_at (l := s.data.toList) (show 0 ≤ i by omega) (by omega)
    have clo : (bl c = true ∨ c = 35) → _ := fun hb => clo_ok s f i g Q (by omega) (by omega) (by omega) h3 h4 (.inr ⟨c, hc, hb⟩) hy hz
    refine ⟨c, by omega, hc, fun e => clo (.inr ?_), fun e35 => ⟨c, by omega, hc, fun e => clo (.inl ?_), fun e32 => ⟨c, by omega, hc, fun e => clo (.inl ?_), fun e9 => ⟨c, by omega, hc, fun e => clo (.inl ?_), fun e13 => ?_⟩⟩⟩⟩
    · have : (c.toNat : Int) = 35 := by simpa using e
      exact byte_of (k := 35) (by omega)
    · have : (c.toNat : Int) = 32 := by simpa using e
      rw [bl_of]; exact decide_eq_true (by omega)
    · have : (c.toNat : Int) = 9 := by simpa using e
      rw [bl_of]; exact decide_eq_true (by omega)
    · have : (c.toNat : Int) = 13 := by simpa using e
      rw [bl_of]; exact decide_eq_true (by omega)
    · have q1 : ¬ (c.toNat : Int) = 35 := by simpa using e35
      have q2 : ¬ (c.toNat : Int) = 32 := by simpa using e32
      have q3 : ¬ (c.toNat : Int) = 9 := by simpa using e9
      have q4 : ¬ (c.toNat : Int) = 13 := by simpa using e13
      exact opn_ok s f i g c Q (by omega) (by omega) (by omega) h3 h4 hc (by rw [bl_of]; exact decide_eq_false (by omega)) (fun h => q1 (by rw [h]; rfl)) hy hz
  · have hgt := of_decide_eq_false hgt
    have hf := h2 (by omega)
    rw [drop_end (by omega)] at hz
    have := hz rfl
    unfold wLeft at this
    rw [drop_end (by omega), if_pos (by omega)] at this
    exact ⟨gnd_gl g, finG_nil this⟩
theorem rwordsL_ok : LoopOk Tryd.prog 0 (bodyOf Tryd.f32 0) (spWords.run outWords) :=
  loopR_ok (E := L6) (L := fun _ => none) mixed 0 (loops_none _ _ _) spWords (Nat.zero_le _) outWords (fun x _ _ => ((ByteArray.size x.1 : Int) + 1 - x.2.2.1).toNat) (by
    rintro ⟨s, f, i, ⟨⟩⟩ ⟨⟩ g Q h
    match g, h with
    | some (xs, cap), h =>
      rw [tr_rwordsL_eq s f i xs cap]
      exact round_ok s f i (some (xs, cap)) Q h
    | none, h =>
      rw [tr_rwordsL0_eq s f i]
      exact round_ok s f i none Q h)
noncomputable def lpWords : Loops := oneL 4 (spWords.run outWords)
end Go.Proofs.YtjijakfcahhioabDoor
/-
parquetref6.words: its tree.
-/
set_option linter.unusedSimpArgs false
set_option linter.unusedVariables false
namespace Go.Proofs.YtjijakfcahhioabDoor
open Go.RowKit Ax
noncomputable def tr_rwords (x : Els [(false, .str)]) : T Av :=
 .need (True) (.need ((0 : El (Cd.int .i64)) ≤ (0 : Int) ∧ (0 : Int) ≤ (↑(ByteArray.size (x.1)) : Int) + (1 : El (Cd.int .i64)) ∧ (-1 : El (Cd.int .i64)) ≤ (-1 : Int) ∧ (-1 : Int) < (0 : Int) ∨ (-1 : Int) = (-1 : El (Cd.int .i64)) ∧ (0 : Int) = (0 : El (Cd.int .i64))) (.need (((0 : Int) = (↑(ByteArray.size (x.1)) : Int) + (1 : El (Cd.int .i64)) → (-1 : Int) = (-1 : El (Cd.int .i64))) ∧ ByteArray.size (x.1) ≤ (1000000 : Nat) ∧ (↑(gl (Option.none : Gr ByteArray)) : Int) ≤ (0 : Int)) (.ite (List.contains (List.drop (Int.toNat (0 : Int)) (Array.toList (ByteArray.data (x.1)))) (35 : UInt8))
     (.ite (List.isEmpty (wLeft (x.1) (-1 : Int) (0 : Int)))
      (.ret (.one (.v (Go.Value.slice Option.none (0 : Nat) (0 : Nat)))))
      (.up ((0 : Nat)) (fun v0 =>
       .need (List.length (wLeft (x.1) (-1 : Int) (0 : Int)) ≤ List.length (wLeft (x.1) (-1 : Int) (0 : Int))) (.ret (.one (.ds (Cd.str) (List.take (List.length (wLeft (x.1) (-1 : Int) (0 : Int))) (wLeft (x.1) (-1 : Int) (0 : Int)))))))))
     (.ite (List.isEmpty (wLeft (x.1) (-1 : Int) (0 : Int)))
      (.ret (.one (.v (Go.Value.slice Option.none (0 : Nat) (0 : Nat)))))
      (.up ((0 : Nat)) (fun v0 =>
       .need (List.length (wLeft (x.1) (-1 : Int) (0 : Int)) ≤ List.length (wLeft (x.1) (-1 : Int) (0 : Int))) (.ret (.one (.ds (Cd.str) (List.take (List.length (wLeft (x.1) (-1 : Int) (0 : Int))) (wLeft (x.1) (-1 : Int) (0 : Int))))))))))))
theorem tr_rwords_eq (x : Els [(false, .str)]) : fnP L6 lpWords Tryd.f32 (encs [(false, .str)] x) = tr_rwords x := by kernel_rfl
end Go.Proofs.YtjijakfcahhioabDoor
/-
parquetref6.words: what it tells; parquetref6.Lines: what its loop carries.
-/
set_option linter.unusedSimpArgs false
set_option linter.unusedVariables false
namespace Go.Proofs.YtjijakfcahhioabDoor
open Go.RowKit Ax
theorem wLeft_all (s : ByteArray) : wLeft s (-1) 0 = wordsB s.data.toList := rfl
theorem gl_none : ((gl (none : Gr ByteArray) : Nat) : Int) ≤ 0 := Int.le_refl 0
noncomputable def con_rwords : Con Tryd.prog := ⟨32, [], _, cf_rwords, val_con_w (E := L6) (L := lpWords) mixed Tryd.func32 (one_loop rwordsL_ok (by kernel_rfl)) [(false, .str)] (fun x => ByteArray.size x.1 ≤ 1000000) (fun x => .one (.ds .str (wordsB (Array.toList (ByteArray.data x.1))))) fun x hx => by
  rw [tr_rwords_eq]
  obtain ⟨s, u⟩ := x
  revert s
  intro (s : ByteArray) (hx : s.size ≤ 1000000)
  unfold tr_rwords
  simp only [T.wp, wLeft_all]
  have hin : ∀ w R σ v, AvIs w R σ (.one (.ds .str (List.take (List.length (wordsB s.data.toList)) (wordsB s.data.toList)))) v → AvIs w R σ (.one (.ds .str (wordsB s.data.toList))) v := fun w R σ v hv => by
    rwa [List.take_length] at hv
  have hnil : List.isEmpty (wordsB s.data.toList) = true → ∀ w R σ v, AvIs w R σ (.one (.v (.slice none 0 0))) v → AvIs w R σ (.one (.ds .str (wordsB s.data.toList))) v := fun h w R σ v hv => by
    rw [List.isEmpty_iff.1 h]; exact nil_av1 hv
  refine ⟨trivial, .inr ⟨trivial, trivial⟩, ⟨fun _ => trivial, hx, gl_none⟩, fun _ => ⟨fun h => hnil h, fun _ k _ => ⟨Nat.le_refl _, hin⟩⟩, fun _ => ⟨fun h => hnil h, fun _ k _ => ⟨Nat.le_refl _, hin⟩⟩⟩⟩
noncomputable def L7 : Env Tryd.prog := L6.add [con_rwords]
abbrev spRL : RSpec := ⟨56, [(0, false, .str), (5, false, .int .i64), (6, false, .int .i64), (7, false, .int .i64)], [], [], fun e => match e with | .exit _ => [6] | _ => [], 4, 50, cL, false, fun _ => 4⟩
end Go.Proofs.YtjijakfcahhioabDoor
/-
parquetref6.Lines: its loop.
-/
set_option linter.unusedSimpArgs false
set_option linter.unusedVariables false
namespace Go.Proofs.YtjijakfcahhioabDoor
open Go.RowKit Ax
abbrev GL := Gr (Int × List ByteArray)
def rAgain (s : ByteArray) (f n i : Int) (m : Nat) (g : GL) : T (RRd spRL) := .need (gnd m g) (.ret (.again (s, f, n, i, ()) () g))
def rBody (s : ByteArray) (f n i : Int) (g : GL) : T (RRd spRL) := .need ((0 : Int) ≤ f ∧ f ≤ i ∧ i ≤ (ByteArray.size s : Int)) (.lt (ByteArray.extract s (Int.toNat f) (Int.toNat i)) fun v =>
  .need (ByteArray.size v ≤ (1000000 : Nat)) (.ite (decide ((List.length (wordsB (Array.toList (ByteArray.data v))) : Int) > (0 : Int)))
    (appG 31 g (IntKind.wrap .i64 (n + (1 : Int)), wordsB (Array.toList (ByteArray.data v))) fun m g => rAgain s (IntKind.wrap .i64 (i + (1 : Int))) (IntKind.wrap .i64 (n + (1 : Int))) (IntKind.wrap .i64 (i + (1 : Int))) m g)
    (rAgain s (IntKind.wrap .i64 (i + (1 : Int))) (IntKind.wrap .i64 (n + (1 : Int))) (IntKind.wrap .i64 (i + (1 : Int))) (gl g) g)))
def rCnt (s : ByteArray) (f n i : Int) (g : GL) : T (RRd spRL) := .ite (i == (ByteArray.size s : Int)) (.ite (f == i) (rAgain s f n (IntKind.wrap .i64 (i + (1 : Int))) (gl g) g) (rBody s f n i g)) (rBody s f n i g)
def rRound (s : ByteArray) (f n i : Int) (g : GL) : T (RRd spRL) := .ite (decide (i ≤ (ByteArray.size s : Int)))
  (.ite (decide (i < (ByteArray.size s : Int))) (.get (Array.toList (ByteArray.data s)) i fun c => .ite ((UInt8.toNat c : Int) != (10 : Int)) (rAgain s f n (IntKind.wrap .i64 (i + (1 : Int))) (gl g) g) (rCnt s f n i g)) (rCnt s f n i g))
  (.need (gnd (gl g) g) (.ret (.out (Exit.exit 0) [.one (.v (.int .i64 n))] () g)))
theorem tr_rlinesL_eq (s : ByteArray) (f n i : Int) (xs : List (Int × List ByteArray)) (cap : Nat) : RSpec.round spRL L7 (fun _ => none) (bodyOf Tryd.f20 0) (s, f, n, i, ()) () (some (xs, cap)) = rRound s f n i (some (xs, cap)) := by kernel_rfl
theorem tr_rlinesL0_eq (s : ByteArray) (f n i : Int) : RSpec.round spRL L7 (fun _ => none) (bodyOf Tryd.f20 0) (s, f, n, i, ()) () none = rRound s f n i none := by kernel_rfl
/-- how many lines are still to be counted -/
def lcnt : List UInt8 → List UInt8 → Nat
  | cur, [] => if cur = [] then 0 else 1
  | cur, c :: r => if c = 10 then 1 + lcnt [] r else lcnt (cur ++ [c]) r
def rcur (s : ByteArray) (f i : Int) : List UInt8 := Lib.pieceU s.data.toList f.toNat i.toNat
def rLeft (s : ByteArray) (f n i : Int) : List (Int × List ByteArray) := if i ≤ (s.size : Int) then lf (rcur s f i) (s.data.toList.drop i.toNat) n else []
def rNum (s : ByteArray) (f n i : Int) : Int := if i ≤ (s.size : Int) then n + lcnt (rcur s f i) (s.data.toList.drop i.toNat) else n
def outRL (x : RSpec.X spRL) (y : RSpec.Y spRL) (g : GL) : T (Exit × List Av × RSpec.Y spRL × GL) :=
  .need (0 ≤ x.2.2.2.1 ∧ x.2.2.2.1 ≤ (ByteArray.size x.1 : Int) + 1 ∧ 0 ≤ x.2.1 ∧ x.2.1 ≤ x.2.2.2.1 ∧ 0 ≤ x.2.2.1 ∧ x.2.2.1 ≤ x.2.2.2.1 ∧ (List.length (gx g) : Int) ≤ x.2.2.2.1 ∧ ByteArray.size x.1 ≤ 900000)
    (finG (Exit.exit 0) [.one (.v (.int .i64 (rNum x.1 x.2.1 x.2.2.1 x.2.2.2.1)))] y g (rLeft x.1 x.2.1 x.2.2.1 x.2.2.2.1))
theorem rl_again (s : ByteArray) (f n i f' n' : Int) (m : Nat) (g : GL) (Q : Exit × List Av × RSpec.Y spRL × GL → Prop) (hi : 0 ≤ i ∧ i ≤ (s.size : Int)) (hs : s.size ≤ 900000) (hf : 0 ≤ f' ∧ f' ≤ i + 1) (hn : 0 ≤ n' ∧ n' ≤ i + 1) (hm : gnd m g) (hg : ((gx g).length : Int) ≤ i + 1)
    (h : (finG (Exit.exit 0) [.one (.v (.int .i64 (rNum s f' n' (i + 1))))] () g (rLeft s f' n' (i + 1))).wp Q) :
    (rAgain s f' n' (i + 1) m g).wp fun r => match r with
      | .again x' y' g' => ((ByteArray.size x'.1 : Int) + 1 - x'.2.2.2.1).toNat < ((s.size : Int) + 1 - i).toNat ∧ (outRL x' y' g').wp Q
      | .out e avs y' g' => Q (e, avs, y', g') := by
  unfold rAgain outRL
  simp only [T.wp]
  dsimp only [El, vts, spRL]
  exact ⟨hm, by omega, ⟨by omega, by omega, hf.1, hf.2, hn.1, hn.2, hg, hs⟩, h⟩
theorem rl_body (s : ByteArray) (f n i : Int) (g : GL) (Q : Exit × List Av × RSpec.Y spRL × GL → Prop) (hi : 0 ≤ i ∧ i ≤ (s.size : Int)) (hs : s.size ≤ 900000) (hf : 0 ≤ f ∧ f ≤ i) (hn : 0 ≤ n ∧ n ≤ i) (hg : ((gx g).length : Int) ≤ i)
    (hc : i = s.size ∧ f < i ∨ s.data.toList[i.toNat]? = some 10)
    (h : (finG (Exit.exit 0) [.one (.v (.int .i64 (rNum s f n i)))] () g (rLeft s f n i)).wp Q) :
    (rBody s f n i g).wp fun r => match r with
      | .again x' y' g' => ((ByteArray.size x'.1 : Int) + 1 - x'.2.2.2.1).toNat < ((s.size : Int) + 1 - i).toNat ∧ (outRL x' y' g').wp Q
      | .out e avs y' g' => Q (e, avs, y', g') := by
  have hsz : s.data.toList.length = s.size := (Lib.size_eq s).symm
  have hcur : (s.extract f.toNat i.toNat).data.toList = rcur s f i := by unfold rcur Lib.pieceU; rw [Lib.extract_data]
  have hL : rLeft s f n i = one1 (rcur s f i) n ++ rLeft s (i + 1) (n + 1) (i + 1) := by
    unfold rLeft
    rw [if_pos hi.2]
    rcases hc with ⟨hc, _⟩ | hc
    · rw [drop_end (by omega), if_neg (by omega), lf, List.append_nil]
    · have hlt := (List.getElem?_eq_some_iff.1 hc).1
      rw [drop_at hi.1 hc, lf, if_pos rfl, if_pos (by omega)]
      congr 2
      unfold rcur Lib.pieceU
      rw [Nat.sub_self, List.take_zero]
  have hN : rNum s f n i = rNum s (i + 1) (n + 1) (i + 1) := by
    unfold rNum
    rw [if_pos hi.2]
    rcases hc with ⟨hc, hfi⟩ | hc
    · rw [drop_end (by omega), if_neg (by omega), lcnt, if_neg]
      · rfl
      · exact Lib.pieceU_ne _ _ _ (by omega) (by omega)
    · have hlt := (List.getElem?_eq_some_iff.1 hc).1
      rw [drop_at hi.1 hc, lcnt, if_pos rfl, if_pos (by omega)]
      have : rcur s (i + 1) (i + 1) = [] := by
        unfold rcur Lib.pieceU
        rw [Nat.sub_self, List.take_zero]
      rw [this]
      omega
  rw [hL, hN] at h
  have hle : (s.extract f.toNat i.toNat).size ≤ 1000000 := by
    rw [Lib.size_eq, hcur]
    unfold rcur Lib.pieceU
    rw [List.length_take, List.length_drop]
    omega
  unfold rBody
  simp only [T.wp]
  rw [hcur, IntWalk.i64_in (i + 1) (by omega), IntWalk.i64_in (n + 1) (by omega)]
  refine ⟨⟨hf.1, hf.2, hi.2⟩, hle, fun hp => ?_, fun hp => ?_⟩
  · have hp : (wordsB (rcur s f i)).length > 0 := Int.ofNat_lt.1 (of_decide_eq_true hp)
    unfold one1 at h
    rw [if_pos hp, List.singleton_append] at h
    rw [← gl_eq] at hg
    refine appG_wp (by omega) (by simp only [Go.maxLen]; omega) fun k => rl_again s f n i _ _ _ _ Q hi hs (by omega) (by omega) (gnd_app g _ k) ?_ (finG_cons h k)
    show (((gx g ++ [_]).length : Nat) : Int) ≤ _
    rw [List.length_append, ← gl_eq]
    simp only [List.length_cons, List.length_nil]
    omega
  · have hp : ¬ (wordsB (rcur s f i)).length > 0 := fun h' => (of_decide_eq_false hp) (Int.ofNat_lt.2 h')
    unfold one1 at h
    rw [if_neg hp, List.nil_append] at h
    exact rl_again s f n i _ _ _ _ Q hi hs (by omega) (by omega) (gnd_gl g) (by omega) h
theorem rl_round (s : ByteArray) (f n i : Int) (g : GL) (Q : Exit × List Av × RSpec.Y spRL × GL → Prop) (h : (outRL (s, f, n, i, ()) () g).wp Q) :
    (rRound s f n i g).wp fun r => match r with
      | .again x' y' g' => ((ByteArray.size x'.1 : Int) + 1 - x'.2.2.2.1).toNat < ((s.size : Int) + 1 - i).toNat ∧ (outRL x' y' g').wp Q
      | .out e avs y' g' => Q (e, avs, y', g') := by
  have hsz : s.data.toList.length = s.size := (Lib.size_eq s).symm
  unfold outRL at h
  simp only [T.wp] at h
  dsimp only [El, vts, spRL] at h
  obtain ⟨⟨h1, h2, h3, h4, h5, h6, h7, h8⟩, h⟩ := h
  unfold rRound
  simp only [T.wp]
  refine ⟨fun hle => ?_, fun hgt => ?_⟩
  · have hle := of_decide_eq_true hle
    have e1 : (i + 1).toNat = i.toNat + 1 := by omega
    refine ⟨fun hlt => ?_, fun hge => ?_⟩
    · have hlt := of_decide_eq_true hlt
      obtain ⟨c, hc⟩ := elem_at (l := s.data.toList) h1 (by omega)
      have hd := drop_at h1 hc
      refine ⟨c, h1, hc, fun hne => ?_, fun heq => ?_⟩
      · have hne : c ≠ 10 := fun e => by rw [e] at hne; exact absurd hne (by decide)
        rw [IntWalk.i64_in (i + 1) (by omega)]
        refine rl_again s f n i f n _ g Q ⟨h1, hle⟩ h8 (by omega) (by omega) (gnd_gl g) (by omega) ?_
        have hcur : rcur s f i ++ [c] = rcur s f (i + 1) := by
          unfold rcur
          rw [e1, ← Lib.pieceU_grow _ _ _ _ (by omega), hd]; rfl
        have e2 : rLeft s f n i = rLeft s f n (i + 1) := by
          unfold rLeft
          rw [if_pos hle, if_pos (by omega), hd, lf, if_neg hne, hcur]
        have e3 : rNum s f n i = rNum s f n (i + 1) := by
          unfold rNum
          rw [if_pos hle, if_pos (by omega), hd, lcnt, if_neg hne, hcur]
        rwa [← e2, ← e3]
      · have heq : c = 10 := by
          have : (c.toNat : Int) = 10 := by simpa using heq
          exact byte_of (k := 10) (by omega)
        subst heq
        unfold rCnt
        simp only [T.wp]
        refine ⟨fun he => ?_, fun _ => rl_body s f n i g Q ⟨h1, hle⟩ h8 ⟨h3, h4⟩ ⟨h5, h6⟩ h7 (.inr hc) h⟩
        have he : i = s.size := by simpa using he
        omega
    · have hge := of_decide_eq_false hge
      have he : i = s.size := by omega
      unfold rCnt
      simp only [T.wp]
      refine ⟨fun _ => ⟨fun hf => ?_, fun hf => ?_⟩, fun hne => absurd he (by simpa using hne)⟩
      · have hf : f = i := by simpa using hf
        rw [IntWalk.i64_in (i + 1) (by omega)]
        refine rl_again s f n i f n _ g Q ⟨h1, hle⟩ h8 (by omega) (by omega) (gnd_gl g) (by omega) ?_
        have hcur : rcur s f i = [] := by
          unfold rcur Lib.pieceU
          rw [hf, Nat.sub_self, List.take_zero]
        have e2 : rLeft s f n i = rLeft s f n (i + 1) := by
          unfold rLeft
          rw [if_pos hle, if_neg (by omega), drop_end (by omega), hcur]; rfl
        have e3 : rNum s f n i = rNum s f n (i + 1) := by
          unfold rNum
          rw [if_pos hle, if_neg (by omega), drop_end (by omega), hcur, lcnt, if_pos rfl]; omega
        rwa [← e2, ← e3]
      · have hf : ¬ f = i := by simpa using hf
        exact rl_body s f n i g Q ⟨h1, hle⟩ h8 ⟨h3, h4⟩ ⟨h5, h6⟩ h7 (.inl ⟨he, by omega⟩) h
  · have hgt := of_decide_eq_false hgt
    unfold rLeft rNum at h
    rw [if_neg hgt, if_neg hgt] at h
    exact ⟨gnd_gl g, finG_nil h⟩
theorem rlinesL_ok : LoopOk Tryd.prog 0 (bodyOf Tryd.f20 0) (spRL.run outRL) :=
  loopR_ok (E := L7) (L := fun _ => none) mixed 0 (loops_none _ _ _) spRL (Nat.zero_le _) outRL (fun x _ _ => ((ByteArray.size x.1 : Int) + 1 - x.2.2.2.1).toNat) (by
    rintro ⟨s, f, n, i, ⟨⟩⟩ ⟨⟩ g Q h
    match g, h with
    | some (xs, cap), h =>
      rw [tr_rlinesL_eq s f n i xs cap]
      exact rl_round s f n i (some (xs, cap)) Q h
    | none, h =>
      rw [tr_rlinesL0_eq s f n i]
      exact rl_round s f n i none Q h)
noncomputable def lpRL : Loops := oneL 4 (spRL.run outRL)
end Go.Proofs.YtjijakfcahhioabDoor
/-
parquetref6.Lines: its tree. (By hand: 'gx (Option.none : GL)' wants its type.)
-/
set_option linter.unusedSimpArgs false
set_option linter.unusedVariables false
namespace Go.Proofs.YtjijakfcahhioabDoor
open Go.RowKit Ax
noncomputable def tr_rlines (x : Els [(false, .str)]) : T Av :=
 .need (True) (.need ((0 : El (Cd.int .i64)) ≤ (0 : Int) ∧ (0 : Int) ≤ (↑(ByteArray.size (x.1)) : Int) + (1 : El (Cd.int .i64)) ∧ (0 : El (Cd.int .i64)) ≤ (0 : Int) ∧ (0 : Int) ≤ (0 : Int) ∧ (0 : El (Cd.int .i64)) ≤ (0 : Int) ∧ (0 : Int) ≤ (0 : Int) ∧ (↑(List.length (gx (Option.none : GL))) : Int) ≤ (0 : Int) ∧ ByteArray.size (x.1) ≤ (900000 : Nat)) (.ite (List.isEmpty (rLeft (x.1) (0 : Int) (0 : Int) (0 : Int)))
    (.ret (.tup [(.one (.v (Go.Value.slice Option.none (0 : Nat) (0 : Nat)))), (.one (.v (.int .i64 (rNum (x.1) (0 : Int) (0 : Int) (0 : Int)))))]))
    (.up ((0 : Nat)) (fun v0 =>
     .need (List.length (rLeft (x.1) (0 : Int) (0 : Int) (0 : Int)) ≤ List.length (rLeft (x.1) (0 : Int) (0 : Int) (0 : Int))) (.ret (.tup [(.one (.ds (Cd.pair (Cd.int .i64) (Cd.sl Cd.str)) (List.take (List.length (rLeft (x.1) (0 : Int) (0 : Int) (0 : Int))) (rLeft (x.1) (0 : Int) (0 : Int) (0 : Int))))), (.one (.v (.int .i64 (rNum (x.1) (0 : Int) (0 : Int) (0 : Int)))))]))))))
theorem tr_rlines_eq (x : Els [(false, .str)]) : fnP L7 lpRL Tryd.f20 (encs [(false, .str)] x) = tr_rlines x := by kernel_rfl
end Go.Proofs.YtjijakfcahhioabDoor
/-
parquetref6.Lines: what it tells; parquetlaw6.same: what its loops carry.
-/
set_option linter.unusedSimpArgs false
set_option linter.unusedVariables false
namespace Go.Proofs.YtjijakfcahhioabDoor
open Go.RowKit Ax
theorem rLeft_all (s : ByteArray) : rLeft s 0 0 0 = linesOf s := by
  unfold rLeft
  rw [if_pos (by omega), linesOf_lf]; rfl
def linesNum (s : ByteArray) : Int := lcnt [] s.data.toList
theorem rNum_all (s : ByteArray) : rNum s 0 0 0 = linesNum s := by
  unfold rNum
  rw [if_pos (by omega)]
  show 0 + (lcnt [] s.data.toList : Int) = _
  rw [Int.zero_add]; rfl
theorem gx_none : ((List.length (gx (none : GL)) : Nat) : Int) ≤ 0 := Int.le_refl 0
theorem nil_av2 {w : World} {R : Nat → Prop} {σ : List Nat} {c : Cd} {a : Av} {v : Value} (h : AvIs w R σ (.tup [.one (.v (.slice none 0 0)), a]) v) : AvIs w R σ (.tup [.one (.ds c []), a]) v := by
  cases h with
  | tup us hl hi =>
    refine .tup us hl fun i x u hx hu => ?_
    match i, hx with
    | 0, hx =>
      have hx : Av.one (.ds c []) = x := by simpa using hx
      subst hx
      exact nil_av1 (hi 0 _ u rfl hu)
    | 1, hx => exact hi 1 x u hx hu
noncomputable def con_rlines : Con Tryd.prog := ⟨20, [], _, cf_rlines, val_con_w (E := L7) (L := lpRL) mixed Tryd.func20 (one_loop rlinesL_ok (by kernel_rfl)) [(false, .str)] (fun x => ByteArray.size x.1 ≤ 900000) (fun x => .tup [.one (.ds cL (linesOf x.1)), .one (.v (.int .i64 (linesNum x.1)))]) fun x hx => by
  rw [tr_rlines_eq]
  obtain ⟨s, u⟩ := x
  revert s
  intro (s : ByteArray) (hx : s.size ≤ 900000)
  unfold tr_rlines
  simp only [T.wp, rLeft_all, rNum_all]
  refine ⟨trivial, ⟨Int.le_refl 0, by omega, Int.le_refl 0, by decide, Int.le_refl 0, by decide, gx_none, hx⟩, fun h w R σ v hv => ?_, fun _ k _ => ⟨Nat.le_refl _, fun w R σ v hv => ?_⟩⟩
  · rw [List.isEmpty_iff.1 h]; exact nil_av2 hv
  · rwa [List.take_length] at hv⟩
theorem cf_same (xs : Array Value) (w : World) : (callFunc 23 xs).run Tryd.prog w = .ok (.enter 23 xs) w := by kernel_rfl
theorem cf_known6 (xs : Array Value) (w : World) : (callFunc 19 xs).run Tryd.prog w = .ok (.enter 19 xs) w := by kernel_rfl
noncomputable def L8 : Env Tryd.prog := L7.add [con_rlines]
abbrev spSI : LSpec := ⟨71, [(0, false, .sl cL), (1, false, .sl cL), (5, false, .int .i64), (6, false, .int .i64)], [], [], fun e => match e with | .ret => [4] | .exit _ => [0, 1, 5] | _ => []⟩
abbrev spSO : LSpec := ⟨71, [(0, false, .sl cL), (1, false, .sl cL), (5, false, .int .i64)], [], [], fun e => match e with | .ret => [4] | _ => []⟩
end Go.Proofs.YtjijakfcahhioabDoor
/-
parquetlaw6.same: its inner loop's tree.
-/
set_option linter.unusedSimpArgs false
set_option linter.unusedVariables false
namespace Go.Proofs.YtjijakfcahhioabDoor
open Go.RowKit Ax
noncomputable def tr_sameI (x : LSpec.X spSI × LSpec.Y spSI) : T (Rd spSI) :=
 .get x.1.1 x.1.2.2.1 (fun v0 =>
  .ite (decide (x.1.2.2.2.1 < (↑(List.length v0.2) : Int)))
   (.get x.1.1 x.1.2.2.1 (fun v1 =>
    .get v1.2 x.1.2.2.2.1 (fun v2 =>
     .get x.1.2.1 x.1.2.2.1 (fun v3 =>
      .get v3.2 x.1.2.2.2.1 (fun v4 =>
       .ite (!ByteArray.toList v2 == ByteArray.toList v4)
        (.ret (.out (Go.Exit.ret) [(.one (.v (.bool (false))))] ()))
        (.ret (.again (x.1.1, (x.1.2.1, (x.1.2.2.1, (IntKind.wrap .i64 (x.1.2.2.2.1 + (1 : Int)), ())))) ())))))))
   (.ret (.out (Go.Exit.exit (2 : Nat)) [(.one (.ds (Cd.pair (Cd.int .i64) (Cd.sl Cd.str)) x.1.1)), (.one (.ds (Cd.pair (Cd.int .i64) (Cd.sl Cd.str)) x.1.2.1)), (.one (.v (.int .i64 x.1.2.2.1)))] ())))
theorem tr_sameI_eq (x : LSpec.X spSI × LSpec.Y spSI) : LSpec.round spSI L8 (fun _ => none) (innerOf (bodyOf Tryd.f23 0) 0) x.1 x.2 = tr_sameI x := by kernel_rfl
end Go.Proofs.YtjijakfcahhioabDoor
/-
parquetlaw6.same: its inner loop.
-/
set_option linter.unusedSimpArgs false
set_option linter.unusedVariables false
namespace Go.Proofs.YtjijakfcahhioabDoor
open Go.RowKit Ax
abbrev LL := List (Int × List ByteArray)
def wAt (a : LL) (i : Int) : List ByteArray := ((a[i.toNat]?).map (·.2)).getD []
theorem wAt_eq {a : LL} {i : Int} {p : Int × List ByteArray} (h : a[i.toNat]? = some p) : wAt a i = p.2 := by unfold wAt; rw [h]; rfl
def SIn (a b : LL) (i k : Int) : Prop := 0 ≤ i ∧ i < (List.length a : Int) ∧ i < (List.length b : Int) ∧ 0 ≤ k ∧ k ≤ ((wAt a i).length : Int) ∧ (wAt a i).length = (wAt b i).length ∧ (wAt a i).length ≤ 1000000
def outSI (x : LSpec.X spSI) (y : LSpec.Y spSI) : T (Exit × List Av × LSpec.Y spSI) :=
  .need (SIn x.1 x.2.1 x.2.2.1 x.2.2.2.1) (.ite (decide ((wAt x.1 x.2.2.1).drop x.2.2.2.1.toNat = (wAt x.2.1 x.2.2.1).drop x.2.2.2.1.toNat))
    (.ret (.exit 2, [.one (.ds cL x.1), .one (.ds cL x.2.1), .one (.v (.int .i64 x.2.2.1))], ())) (.ret (.ret, [.one (.v (.bool false))], ())))
theorem bytes_beq (a b : ByteArray) : (a.toList == b.toList) = decide (a = b) := by
  rw [Bool.eq_iff_iff, beq_iff_eq, decide_eq_true_iff, Lib.toList_data, Lib.toList_data]
  refine ⟨fun h => ?_, fun h => by rw [h]⟩
  rw [← Lib.mk_data a, ← Lib.mk_data b, h]
theorem sameI_core (a b : LL) (i k : Int) (Q : Exit × List Av × LSpec.Y spSI → Prop) (h : (outSI (a, b, i, k, ()) ()).wp Q) : (tr_sameI ((a, b, i, k, ()), ())).wp fun r => match r with
      | .again x' y' => ((wAt x'.1 x'.2.2.1).length - x'.2.2.2.1.toNat) < ((wAt a i).length - k.toNat) ∧ (outSI x' y').wp Q
      | .out e avs y' => Q (e, avs, y') := by
  unfold tr_sameI
  unfold outSI at h ⊢
  simp only [T.wp] at h ⊢
  dsimp only [El, vts, spSI] at h ⊢
  obtain ⟨hI, hy, hz⟩ := h
  obtain ⟨i0, i1, i2, k0, k1, hl, hm⟩ := hI
  obtain ⟨p, hp⟩ := elem_at (l := a) i0 i1
  obtain ⟨q, hq⟩ := elem_at (l := b) i0 i2
  have ep := wAt_eq hp
  have eq := wAt_eq hq
  refine ⟨p, i0, hp, fun hlt => ?_, fun hge => ?_⟩
  · have hlt : k < (p.2.length : Int) := of_decide_eq_true hlt
    rw [ep, eq] at hl
    rw [ep] at hm
    obtain ⟨u, hu⟩ := elem_at (l := p.2) k0 hlt
    obtain ⟨v, hv⟩ := elem_at (l := q.2) k0 (by omega)
    rw [ep, eq, drop_at k0 hu, drop_at k0 hv] at hy hz
    refine ⟨p, i0, hp, u, k0, hu, q, i0, hq, v, k0, hv, fun hne => ?_, fun heq => ?_⟩
    · have hne : ¬ u = v := by
        have hne : (!(u.toList == v.toList)) = true := hne
        rw [bytes_beq] at hne
        simpa using hne
      exact hz (by rw [decide_eq_false_iff_not]; intro h; exact hne (List.cons.inj h).1)
    · have heq : u = v := by
        have heq : (!(u.toList == v.toList)) = false := heq
        rw [bytes_beq] at heq
        simpa using heq
      subst heq
      rw [IntWalk.i64_in (k + 1) (by omega), ep, eq]
      have e : decide (u :: p.2.drop (k + 1).toNat = u :: q.2.drop (k + 1).toNat) = decide (p.2.drop (k + 1).toNat = q.2.drop (k + 1).toNat) := by
        rw [decide_eq_decide]; simp
      rw [e] at hy hz
      exact ⟨by omega, ⟨i0, i1, i2, by omega, by rw [ep]; omega, by rw [ep, eq]; exact hl, by rw [ep]; exact hm⟩, hy, hz⟩
  · have hge : ¬ k < (p.2.length : Int) := of_decide_eq_false hge
    rw [ep, eq] at hl
    rw [ep, eq, drop_end (by omega), drop_end (by omega)] at hy
    exact hy (decide_eq_true rfl)
theorem sameI_ok (n : Nat) (hn : n ≤ 0) : LoopOk Tryd.prog n (innerOf (bodyOf Tryd.f23 0) 0) (spSI.run outSI) :=
  loop_ok (E := L8) (L := fun _ => none) mixed n (loops_none _ _ _) spSI hn outSI (fun x _ => (wAt x.1 x.2.2.1).length - x.2.2.2.1.toNat) (by
    rintro ⟨a, b, i, k, ⟨⟩⟩ ⟨⟩ Q h
    rw [tr_sameI_eq ((a, b, i, k, ()), ())]
    exact sameI_core a b i k Q h)
noncomputable def lpSI : Loops := manyL [(9, spSI.run outSI)]
end Go.Proofs.YtjijakfcahhioabDoor
/-
parquetlaw6.same: its outer loop's tree.
-/
set_option linter.unusedSimpArgs false
set_option linter.unusedVariables false
namespace Go.Proofs.YtjijakfcahhioabDoor
open Go.RowKit Ax
noncomputable def tr_sameO (x : LSpec.X spSO × LSpec.Y spSO) : T (Rd spSO) :=
 .ite (decide (x.1.2.2.1 < (↑(List.length x.1.1) : Int)))
  (.get x.1.1 x.1.2.2.1 (fun v0 =>
   .get x.1.2.1 x.1.2.2.1 (fun v1 =>
    .ite (v0.1 != v1.1)
     (.ret (.out (Go.Exit.ret) [(.one (.v (.bool (false))))] ()))
     (.get x.1.1 x.1.2.2.1 (fun v2 =>
      .get x.1.2.1 x.1.2.2.1 (fun v3 =>
       .ite ((↑(List.length v2.2) : Int) != (↑(List.length v3.2) : Int))
        (.ret (.out (Go.Exit.ret) [(.one (.v (.bool (false))))] ()))
        (.need (SIn x.1.1 x.1.2.1 x.1.2.2.1 (0 : Int)) (.ite (decide (List.drop (Int.toNat (0 : Int)) (wAt x.1.1 x.1.2.2.1) = List.drop (Int.toNat (0 : Int)) (wAt x.1.2.1 x.1.2.2.1)))
          (.ret (.again (x.1.1, (x.1.2.1, (IntKind.wrap .i64 (x.1.2.2.1 + (1 : Int)), ()))) ()))
          (.ret (.out (Go.Exit.ret) [(.one (.v (.bool (false))))] ()))))))))))
  (.ret (.out (Go.Exit.exit (0 : Nat)) [] ()))
theorem tr_sameO_eq (x : LSpec.X spSO × LSpec.Y spSO) : LSpec.round spSO L8 lpSI (bodyOf Tryd.f23 0) x.1 x.2 = tr_sameO x := by kernel_rfl
end Go.Proofs.YtjijakfcahhioabDoor
/-
parquetlaw6.same: its outer loop.
-/
set_option linter.unusedSimpArgs false
set_option linter.unusedVariables false
namespace Go.Proofs.YtjijakfcahhioabDoor
open Go.RowKit Ax
def SameFit (a : LL) : Prop := a.length ≤ 1000000 ∧ ∀ e ∈ a, e.2.length ≤ 1000000
def outSO (x : LSpec.X spSO) (y : LSpec.Y spSO) : T (Exit × List Av × LSpec.Y spSO) :=
  .need (0 ≤ x.2.2.1 ∧ List.length x.1 = List.length x.2.1 ∧ SameFit x.1) (.ite (decide (List.drop x.2.2.1.toNat x.1 = List.drop x.2.2.1.toNat x.2.1)) (.ret (.exit 0, [], ())) (.ret (.ret, [.one (.v (.bool false))], ())))
theorem sameO_core (a b : LL) (i : Int) (Q : Exit × List Av × LSpec.Y spSO → Prop) (h : (outSO (a, b, i, ()) ()).wp Q) : (tr_sameO ((a, b, i, ()), ())).wp fun r => match r with
      | .again x' y' => (List.length x'.1 - x'.2.2.1.toNat) < (a.length - i.toNat) ∧ (outSO x' y').wp Q
      | .out e avs y' => Q (e, avs, y') := by
  unfold tr_sameO
  unfold outSO at h ⊢
  simp only [T.wp] at h ⊢
  dsimp only [El, vts, spSO, cL] at h ⊢
  obtain ⟨⟨i0, hl, hf⟩, hy, hz⟩ := h
  refine ⟨fun hlt => ?_, fun hge => ?_⟩
  · have hlt := of_decide_eq_true hlt
    obtain ⟨p, hp⟩ := elem_at (l := a) i0 hlt
    obtain ⟨q, hq⟩ := elem_at (l := b) i0 (by omega)
    rw [drop_at i0 hp, drop_at i0 hq] at hy hz
    have hpm := hf.2 p (List.mem_of_getElem? hp)
    have no : p ≠ q → Q (.ret, [.one (.v (.bool false))], ()) := fun hne => hz (by rw [decide_eq_false_iff_not]; intro h; exact hne (List.cons.inj h).1)
    refine ⟨p, i0, hp, q, i0, hq, fun h1 => no ?_, fun h1 => ⟨p, i0, hp, q, i0, hq, fun h2 => no ?_, fun h2 => ?_⟩⟩
    · intro e; rw [e] at h1; simp at h1
    · intro e; rw [e] at h2; simp at h2
    · have h1 : p.1 = q.1 := by simpa using h1
      have h2 : p.2.length = q.2.length := by
        have : (p.2.length : Int) = q.2.length := by simpa using h2
        omega
      have ep := wAt_eq hp
      have eq := wAt_eq hq
      rw [ep, eq]
      refine ⟨⟨i0, hlt, by omega, Int.le_refl 0, by omega, by rw [ep, eq]; exact h2, by rw [ep]; exact hpm⟩, fun h3 => ?_, fun h3 => no ?_⟩
      · have h3 : p.2 = q.2 := of_decide_eq_true h3
        have e : p = q := Prod.ext h1 h3
        subst e
        have hlen := hf.1
        rw [IntWalk.i64_in (i + 1) (by omega)]
        have e : decide (p :: a.drop (i + 1).toNat = p :: b.drop (i + 1).toNat) = decide (a.drop (i + 1).toNat = b.drop (i + 1).toNat) := by
          rw [decide_eq_decide]; simp
        rw [e] at hy hz
        exact ⟨by omega, ⟨by omega, hl, hf⟩, hy, hz⟩
      · have h3 : ¬ p.2 = q.2 := of_decide_eq_false h3
        intro e; exact h3 (by rw [e])
  · have hge := of_decide_eq_false hge
    rw [drop_end (by omega), drop_end (by omega)] at hy
    exact hy (decide_eq_true rfl)
theorem sameO_ok : LoopOk Tryd.prog 0 (bodyOf Tryd.f23 0) (spSO.run outSO) :=
  loop_ok (E := L8) (L := lpSI) mixed 0 (inner_one (by kernel_rfl) (sameI_ok 0 (Nat.le_refl 0))) spSO (Nat.zero_le _) outSO (fun x _ => List.length x.1 - x.2.2.1.toNat) (by
    rintro ⟨a, b, i, ⟨⟩⟩ ⟨⟩ Q h
    rw [tr_sameO_eq ((a, b, i, ()), ())]
    exact sameO_core a b i Q h)
noncomputable def lpSO : Loops := oneL 4 (spSO.run outSO)
end Go.Proofs.YtjijakfcahhioabDoor
/-
parquetlaw6.same: its tree.
-/
set_option linter.unusedSimpArgs false
set_option linter.unusedVariables false
namespace Go.Proofs.YtjijakfcahhioabDoor
open Go.RowKit Ax
noncomputable def tr_same (x : Els [(false, .sl cL), (false, .sl cL)]) : T Av :=
 .ite ((↑(List.length (x.1)) : Int) != (↑(List.length x.2.1) : Int))
  (.ret (.one (.v (.bool (false)))))
  (.need ((0 : El (Cd.int .i64)) ≤ (0 : Int) ∧ List.length (x.1) = List.length x.2.1 ∧ SameFit (x.1)) (.ite (decide (List.drop (Int.toNat (0 : Int)) (x.1) = List.drop (Int.toNat (0 : Int)) x.2.1))
    (.ret (.one (.v (.bool (true)))))
    (.ret (.one (.v (.bool (false)))))))
theorem tr_same_eq (x : Els [(false, .sl cL), (false, .sl cL)]) : fnP L8 lpSO Tryd.f23 (encs [(false, .sl cL), (false, .sl cL)] x) = tr_same x := by kernel_rfl
end Go.Proofs.YtjijakfcahhioabDoor
/-
parquetlaw6.same: what it tells.
-/
set_option linter.unusedSimpArgs false
set_option linter.unusedVariables false
namespace Go.Proofs.YtjijakfcahhioabDoor
open Go.RowKit Ax
noncomputable def con_same : Con Tryd.prog := ⟨23, [], _, cf_same, val_con (E := L8) (L := lpSO) mixed Tryd.func23 (one_loop sameO_ok (by kernel_rfl)) [(false, .sl cL), (false, .sl cL)] (fun x => SameFit x.1) (fun x => .one (.v (.bool (decide ((x.1 : LL) = x.2.1))))) fun x hx => by
  rw [tr_same_eq]
  obtain ⟨a, b, u⟩ := x
  revert a b
  intro (a : LL) (b : LL) (hx : SameFit a)
  unfold tr_same
  simp only [T.wp]
  dsimp only [El, cL]
  refine ⟨fun h => ?_, fun h => ?_⟩
  · have hne : ¬ a = b := fun e => by rw [e] at h; simp at h
    rw [decide_eq_false hne]
  · have hl : a.length = b.length := by
      have : (a.length : Int) = b.length := by simpa using h
      omega
    refine ⟨⟨Int.le_refl 0, hl, hx⟩, fun h => ?_, fun h => ?_⟩
    · have h : decide (a = b) = true := h
      rw [h]
    · have h : decide (a = b) = false := h
      rw [h]⟩
noncomputable def L9 : Env Tryd.prog := L8.add [con_same]
end Go.Proofs.YtjijakfcahhioabDoor
/-
parquetlaw6.known: its tree.
-/
set_option linter.unusedSimpArgs false
set_option linter.unusedVariables false
namespace Go.Proofs.YtjijakfcahhioabDoor
open Go.RowKit Ax
noncomputable def tr_known6 (x : Els []) : T Av :=
 .need (LinesFit { data := #[(35 : UInt8), (32 : UInt8), (120 : UInt8), (10 : UInt8), (32 : UInt8), (49 : UInt8), (32 : UInt8), (50 : UInt8), (32 : UInt8), (35 : UInt8), (32 : UInt8), (121 : UInt8), (10 : UInt8), (10 : UInt8), (51 : UInt8)] }) (.need (ByteArray.size { data := #[(45 : UInt8), (49 : UInt8), (50 : UInt8)] } ≤ (281474976710656 : Nat)) (.need (ByteArray.size { data := #[(48 : UInt8), (49 : UInt8), (50 : UInt8)] } ≤ (281474976710656 : Nat)) (.ite ((↑(List.length (linesOf { data := #[(35 : UInt8), (32 : UInt8), (120 : UInt8), (10 : UInt8), (32 : UInt8), (49 : UInt8), (32 : UInt8), (50 : UInt8), (32 : UInt8), (35 : UInt8), (32 : UInt8), (121 : UInt8), (10 : UInt8), (10 : UInt8), (51 : UInt8)] })) : Int) == (2 : Int))
     (.get (linesOf { data := #[(35 : UInt8), (32 : UInt8), (120 : UInt8), (10 : UInt8), (32 : UInt8), (49 : UInt8), (32 : UInt8), (50 : UInt8), (32 : UInt8), (35 : UInt8), (32 : UInt8), (121 : UInt8), (10 : UInt8), (10 : UInt8), (51 : UInt8)] }) ((0 : Int)) (fun v0 =>
      .ite (v0.1 == (2 : Int))
       (.get (linesOf { data := #[(35 : UInt8), (32 : UInt8), (120 : UInt8), (10 : UInt8), (32 : UInt8), (49 : UInt8), (32 : UInt8), (50 : UInt8), (32 : UInt8), (35 : UInt8), (32 : UInt8), (121 : UInt8), (10 : UInt8), (10 : UInt8), (51 : UInt8)] }) ((0 : Int)) (fun v1 =>
        .ite ((↑(List.length v1.2) : Int) == (2 : Int))
         (.get (linesOf { data := #[(35 : UInt8), (32 : UInt8), (120 : UInt8), (10 : UInt8), (32 : UInt8), (49 : UInt8), (32 : UInt8), (50 : UInt8), (32 : UInt8), (35 : UInt8), (32 : UInt8), (121 : UInt8), (10 : UInt8), (10 : UInt8), (51 : UInt8)] }) ((0 : Int)) (fun v2 =>
          .get v2.2 ((1 : Int)) (fun v3 =>
           .ite (ByteArray.toList v3 == ByteArray.toList { data := #[(50 : UInt8)] })
            (.get (linesOf { data := #[(35 : UInt8), (32 : UInt8), (120 : UInt8), (10 : UInt8), (32 : UInt8), (49 : UInt8), (32 : UInt8), (50 : UInt8), (32 : UInt8), (35 : UInt8), (32 : UInt8), (121 : UInt8), (10 : UInt8), (10 : UInt8), (51 : UInt8)] }) ((1 : Int)) (fun v4 =>
             .ite (v4.1 == (4 : Int))
              (.ite (lintB { data := #[(45 : UInt8), (49 : UInt8), (50 : UInt8)] })
               (.ite ((if lintB { data := #[(45 : UInt8), (49 : UInt8), (50 : UInt8)] } = true then atoiV { data := #[(45 : UInt8), (49 : UInt8), (50 : UInt8)] } else (0 : Int)) == (-12 : Int))
                (.ret (.one (.v (.bool (!lintB { data := #[(48 : UInt8), (49 : UInt8), (50 : UInt8)] })))))
                (.ret (.one (.v (.bool (false))))))
               (.ret (.one (.v (.bool (false))))))
              (.ret (.one (.v (.bool (false)))))))
            (.ret (.one (.v (.bool (false))))))))
         (.ret (.one (.v (.bool (false)))))))
       (.ret (.one (.v (.bool (false)))))))
     (.ret (.one (.v (.bool (false))))))))
theorem tr_known6_eq (x : Els []) : fnP L9 (fun _ => none) Tryd.f19 (encs [] x) = tr_known6 x := by kernel_rfl
end Go.Proofs.YtjijakfcahhioabDoor
/-
parquetlaw6.known tells true.
-/
set_option linter.unusedSimpArgs false
set_option linter.unusedVariables false
namespace Go.Proofs.YtjijakfcahhioabDoor
open Go.RowKit Ax
def kTxt : ByteArray := ⟨#[35, 32, 120, 10, 32, 49, 32, 50, 32, 35, 32, 121, 10, 10, 51]⟩
theorem kTxt_lines : linesOf kTxt = [(2, [⟨#[49]⟩, ⟨#[50]⟩]), (4, [⟨#[51]⟩])] := by
  rw [linesOf_lf]
  kernel_rfl
theorem numB_of (s : ByteArray) (b : Bool) (h : numB s.data.toList = b) : lintB s = b := (lint_num s).1.trans h
theorem k12 : lintB ⟨#[45, 49, 50]⟩ = true := numB_of _ _ (by kernel_rfl)
theorem v12 : atoiV ⟨#[45, 49, 50]⟩ = -12 := ((lint_num _).2 k12).trans (by kernel_rfl)
theorem k012 : lintB ⟨#[48, 49, 50]⟩ = false := numB_of _ _ (by kernel_rfl)
theorem known6_wp : (tr_known6 ()).wp fun av => av = .one (.v (.bool true)) := by
  unfold tr_known6
  rw [show ({ data := #[(35 : UInt8), (32 : UInt8), (120 : UInt8), (10 : UInt8), (32 : UInt8), (49 : UInt8), (32 : UInt8), (50 : UInt8), (32 : UInt8), (35 : UInt8), (32 : UInt8), (121 : UInt8), (10 : UInt8), (10 : UInt8), (51 : UInt8)] } : ByteArray) = kTxt from rfl, kTxt_lines, k12, v12, k012]
  simp only [T.wp]
  refine ⟨fit_of kTxt (by decide), by decide, by decide, fun _ => ⟨_, Int.le_refl 0, rfl, fun _ => ⟨_, Int.le_refl 0, rfl, fun _ => ⟨_, Int.le_refl 0, rfl, _, by decide, rfl, fun _ => ⟨_, by decide, rfl, fun _ => ⟨fun _ => ⟨fun _ => rfl, fun h => ?_⟩, fun h => ?_⟩, fun h => ?_⟩, fun h => ?_⟩, fun h => ?_⟩, fun h => ?_⟩, fun h => ?_⟩
  all_goals first
    | (exfalso; revert h; decide)
    | (exact absurd h (by kernel_rfl))
    | (rw [bytes_beq] at h; exact absurd h (by decide))
noncomputable def con_known6 : Con Tryd.prog := ⟨19, [], _, cf_known6, kb_con' (tot_con (E := L9) mixed Tryd.func19 no_loops [] (fun _ => .one (.v (.bool true))) fun x => by
  rw [tr_known6_eq]
  exact known6_wp)⟩
noncomputable def LA : Env Tryd.prog := L9.add [con_known6]
end Go.Proofs.YtjijakfcahhioabDoor
/-
LexTells: its tree.
-/
set_option linter.unusedSimpArgs false
set_option linter.unusedVariables false
namespace Go.Proofs.YtjijakfcahhioabDoor
open Go.RowKit Ax
noncomputable def tr_lextells (x : Els [(false, .str), (false, .str)]) : T Av :=
 .ite (!true)
  (.ret (.one (.v (.bool (false)))))
  (.ite (decide ((↑(ByteArray.size (x.1)) : Int) > (600 : Int)))
   (.ret (.one (.v (.bool (true)))))
   (.ite (decide ((↑(ByteArray.size x.2.1) : Int) > (40 : Int)))
    (.ret (.one (.v (.bool (true)))))
    (.need (ByteArray.size (x.1) ≤ (900000 : Nat)) (.need (ByteArray.size x.2.1 ≤ (281474976710656 : Nat)) (.need (True) (.need (LinesFit (x.1)) (.need (SameFit (linesOf (x.1))) (.ite (decide (linesOf (x.1) = linesOf (x.1)))
          (.ite ((if lintB x.2.1 = true then atoiV x.2.1 else (0 : Int)) == if lintB x.2.1 = true then atoiV x.2.1 else (0 : Int))
           (.ret (.one (.v (.bool (lintB x.2.1 == lintB x.2.1)))))
           (.ret (.one (.v (.bool (false))))))
          (.ret (.one (.v (.bool (false)))))))))))))
theorem tr_lextells_eq (x : Els [(false, .str), (false, .str)]) : fnP LA (fun _ => none) Tryd.f6 (encs [(false, .str), (false, .str)] x) = tr_lextells x := by kernel_rfl
end Go.Proofs.YtjijakfcahhioabDoor
/-
Arguments out of their readings; a law's row out of its contract.
-/
set_option linter.unusedSimpArgs false
set_option linter.unusedVariables false
namespace Ax
open Go Go.RowKit Go.ChangeShapes Go.WideShapes

/-- the bounds that a reading gives -/
def Fit : (c : Cd) → El c → Prop
  | .int k, z => (Lit.int k z).wf = true
  | .bool, _ => True
  | .str, s => s.size ≤ maxLen
  | .words, _ => True
  | .unit, _ => True
  | .pair a b, x => Fit a x.1 ∧ Fit b x.2
  | .sl c, xs => xs.length ≤ maxLen ∧ ∀ x ∈ xs, Fit c x
  | .ptr c, x => Fit c x

abbrev Rw (w : World) : Nat → Prop := fun b => b < w.heap.size

structure Opens (P : Program) (t : TypeId) (c : Cd) : Prop where
  size : P.cellsOf t = csz c
  ok : ∀ {H : Type} (enc : TypeId × Value → H) (w : World) (fuel : Nat) (cs : List Value) (x : DataW H × List MemPlace),
    DataW.trod enc P w 0 (fun _ => true) true fuel t cs = some x → ∃ y : El c, Fit c y ∧ Is w (Rw w) [] (ck c y) cs

section
variable {P : Program}
theorem opens_int {t : TypeId} {k : IntKind} (hu : P.underlying t = some (.int k)) (hs : P.cellsOf t = 1) : Opens P t (.int k) :=
  ⟨hs, fun enc w fuel cs x h => by
    obtain ⟨n, rfl, rfl, hw⟩ := DataW.trod_int hu h
    exact ⟨n, hw, .v rfl .nil⟩⟩
theorem opens_bool {t : TypeId} (hu : P.underlying t = some .bool) (hs : P.cellsOf t = 1) : Opens P t .bool :=
  ⟨hs, fun enc w fuel cs x h => by
    obtain ⟨b, rfl, rfl⟩ := DataW.trod_bool hu h
    exact ⟨b, trivial, .v rfl .nil⟩⟩
theorem opens_str {t : TypeId} (hu : P.underlying t = some .string) (hs : P.cellsOf t = 1) : Opens P t .str :=
  ⟨hs, fun enc w fuel cs x h => by
    obtain ⟨s, rfl, rfl, hs⟩ := DataW.trod_string hu h
    exact ⟨s, hs, .v rfl .nil⟩⟩

theorem am_of : ∀ (n : Nat) (l : List Value), l.length = n → (∀ v ∈ l, ∃ z : Int, v = .int .u32 z ∧ 0 ≤ z ∧ z < 4294967296) → ∃ x, x < Pq.bp n ∧ l = Pq.am n x
  | 0, l, h, _ => ⟨0, Pq.bp_pos 0, by rw [List.length_eq_zero_iff.1 h]; rfl⟩
  | n + 1, [], h, _ => by simp at h
  | n + 1, v :: r, h, hv => by
    obtain ⟨x, hx, rfl⟩ := am_of n r (by simpa using h) (fun v hv' => hv v (by simp [hv']))
    obtain ⟨z, rfl, h0, h1⟩ := hv v (by simp)
    refine ⟨Pq.lo z.toNat 1 + Pq.bp 1 * x, ?_, ?_⟩
    · have e : Pq.bp (n + 1) = Pq.bp 1 * Pq.bp n := by unfold Pq.bp; rw [← Nat.pow_add]; congr 1; omega
      have hl : Pq.lo z.toNat 1 < Pq.bp 1 := by unfold Pq.lo; exact Nat.mod_lt _ (Pq.bp_pos 1)
      rw [e]
      have : Pq.bp 1 * x + Pq.bp 1 ≤ Pq.bp 1 * Pq.bp n := by rw [← Nat.mul_succ]; exact Nat.mul_le_mul_left _ hx
      omega
    · have := Pq.am_app 1 n z.toNat x
      rw [show n + 1 = 1 + n from by omega, ← this]
      have e1 : Pq.am 1 z.toNat = [Value.int .u32 z] := by
        refine (Pq.am_ext (n := 1) (l := [Value.int .u32 z]) rfl fun i hi => ?_).symm
        obtain rfl : i = 0 := by omega
        have : Pq.wd z.toNat 0 = z.toNat := by
          unfold Pq.wd
          rw [Pq.bp_zero, Nat.div_one]
          exact Nat.mod_eq_of_lt (by omega)
        rw [this]
        simp
        omega
      rw [e1]; rfl
theorem opens_words {t e : TypeId} (hu : P.underlying t = some (.array 32 e)) (he : P.underlying e = some (.int .u32)) (hs : P.cellsOf t = 32) (hc : P.cellsOf e = 1) : Opens P t .words :=
  ⟨hs, fun enc w fuel cs x h => by
    obtain ⟨xs, m, rfl, rfl, hlen, hxl, hx⟩ := DataW.trod_array hu h
    rw [hs] at hlen
    obtain ⟨a, ha, rfl⟩ := am_of 32 cs hlen (fun v hv => by
      obtain ⟨i, hi, rfl⟩ := List.getElem_of_mem hv
      have := hx i (by omega)
      rw [hc, List.getElem?_eq_getElem (by omega : i < xs.length)] at this
      obtain ⟨n, h1, _, h3⟩ := DataW.trod_int he this
      have e1 : (cs.drop (i * 1)).take 1 = [cs[i]] := by
        rw [Nat.mul_one, List.drop_eq_getElem_cons hi]; rfl
      rw [e1] at h1
      have := bounds_u32 h3
      exact ⟨n, by injection h1, this.1, by omega⟩)
    exact ⟨⟨a, ha⟩, trivial, by have := Is.w (w := w) (R := Rw w) (σ := []) (x := ⟨a, ha⟩) .nil; rwa [List.append_nil] at this⟩⟩

def OpensF (P : Program) : List Field → Nat → Cd → Prop
  | [f], o, c => f.offset = o ∧ Opens P f.type c
  | f :: g :: r, o, .pair a b => f.offset = o ∧ Opens P f.type a ∧ OpensF P (g :: r) (o + csz a) b
  | _, _, _ => False
theorem opensF_ok {H : Type} {enc : TypeId × Value → H} {w : World} {n : Nat} {cs : List Value} : ∀ (fs : List Field) (o : Nat) (c : Cd), OpensF P fs o c → cs.length = o + csz c →
    (∀ f ∈ fs, ∃ x, DataW.trod enc P w 0 (fun _ => true) true n f.type ((cs.drop f.offset).take (P.cellsOf f.type)) = some x) → ∃ y : El c, Fit c y ∧ Is w (Rw w) [] (ck c y) (cs.drop o)
  | [], _, _, h, _, _ => h.elim
  | [f], o, c, h, hl, hx => by
    obtain ⟨rfl, h'⟩ : f.offset = o ∧ Opens P f.type c := by unfold OpensF at h; exact h
    obtain ⟨x, hx⟩ := hx f (by simp)
    obtain ⟨y, h1, h2⟩ := h'.ok enc w n _ x hx
    rw [h'.size, List.take_of_length_le (by rw [List.length_drop]; omega)] at h2
    exact ⟨y, h1, h2⟩
  | f :: g :: r, o, .pair a b, h, hl, hx => by
    obtain ⟨rfl, ha, hr⟩ : f.offset = o ∧ Opens P f.type a ∧ OpensF P (g :: r) (o + csz a) b := by unfold OpensF at h; exact h
    obtain ⟨x, hx0⟩ := hx f (by simp)
    obtain ⟨y, h1, h2⟩ := ha.ok enc w n _ x hx0
    obtain ⟨z, h3, h4⟩ := opensF_ok (g :: r) _ b hr (by simp only [csz] at hl; omega) (fun f' hf' => hx f' (by simp only [List.mem_cons] at hf' ⊢; exact .inr hf'))
    refine ⟨(y, z), ⟨h1, h3⟩, ?_⟩
    rw [ha.size] at h2
    have e : cs.drop f.offset = (cs.drop f.offset).take (csz a) ++ cs.drop (f.offset + csz a) := by
      rw [← List.drop_drop]; exact (List.take_append_drop _ _).symm
    rw [e]
    exact h2.app h4
  | f :: g :: r, o, .int _, h, _, _ => by unfold OpensF at h; exact h.elim
  | f :: g :: r, o, .bool, h, _, _ => by unfold OpensF at h; exact h.elim
  | f :: g :: r, o, .str, h, _, _ => by unfold OpensF at h; exact h.elim
  | f :: g :: r, o, .words, h, _, _ => by unfold OpensF at h; exact h.elim
  | f :: g :: r, o, .unit, h, _, _ => by unfold OpensF at h; exact h.elim
  | f :: g :: r, o, .sl _, h, _, _ => by unfold OpensF at h; exact h.elim
  | f :: g :: r, o, .ptr _, h, _, _ => by unfold OpensF at h; exact h.elim
theorem opens_struct {t : TypeId} {c : Cd} {fs : Array Field} (hu : P.underlying t = some (.struct fs)) (hs : P.cellsOf t = csz c) (h : OpensF P fs.toList 0 c) : Opens P t c :=
  ⟨hs, fun enc w fuel cs x hx => by
    obtain ⟨xs, n, rfl, rfl, hlen, hxl, hf⟩ := DataW.trod_struct hu hx
    have := opensF_ok (enc := enc) (w := w) (n := n) (cs := cs) fs.toList 0 c h (by omega) (fun f hm => by
      obtain ⟨i, hi, rfl⟩ := List.getElem_of_mem hm
      have hi' : i < fs.size := by simpa using hi
      have h1 := hf i fs[i] (by simp [hi'])
      rw [List.getElem?_eq_getElem (by omega : i < xs.length)] at h1
      exact ⟨_, by simpa using h1⟩)
    simpa using this⟩

theorem cells_at {w : World} {a : Addr} {n : Nat} {cs : List Value} (h : w.cells? 0 a n = some cs) : cs.length = n ∧ ∀ j v, cs[j]? = some v → w.cell? (a.add j) = some v := by
  unfold World.cells? at h
  rw [if_pos (Nat.zero_le _)] at h
  have hl := mapM_some_length h
  refine ⟨by simpa using hl, fun j v hj => ?_⟩
  have hj' : j < n := by have := (List.getElem?_eq_some_iff.1 hj).1; simp at hl; omega
  rw [← hj]
  exact mapM_some_get h j j (by simp [hj'])
theorem opens_slice {t e : TypeId} {c : Cd} (hu : P.underlying t = some (.slice e)) (hs : P.cellsOf t = 1) (he : Opens P e c) (hc : 0 < csz c) : Opens P t (.sl c) :=
  ⟨hs, fun enc w fuel cs x hx => by
    rcases Deep.open_slice hu hx with ⟨rfl, rfl⟩ | ⟨a, len, cap, m, n, D, Pl, rfl, _, hl, hm, hmm, rfl, hel⟩
    · exact ⟨[], ⟨Nat.zero_le _, by simp⟩, .dn .nil⟩
    · have hlm : len ≤ m := by rw [hmm]; simp; omega
      have hex : ∀ i, i < len → ∃ p : List Value × El c, w.cells? 0 (a.add (i * csz c)) (csz c) = some p.1 ∧ Fit c p.2 ∧ Is w (Rw w) [] (ck c p.2) p.1 := fun i hi => by
        obtain ⟨cs', h1, h2⟩ := hel i (by omega)
        obtain ⟨y, h3, h4⟩ := he.ok enc w n cs' _ h2
        rw [he.size] at h1
        exact ⟨(cs', y), h1, h3, h4⟩
      by_cases h0 : len = 0
      · subst h0
        exact ⟨[], ⟨Nat.zero_le _, by simp⟩, .de a cap .nil⟩
      · obtain ⟨p0, hp0⟩ := hex 0 (by omega)
        have : Inhabited (List Value × El c) := ⟨p0⟩
        obtain ⟨g, hg⟩ := Deep.choose_lt hex
        have hl0 := cells_at (hg 0 (by omega)).1
        obtain ⟨b, o, spot⟩ := a
        have hne : (g 0).1 ≠ [] := by intro e; rw [e] at hl0; simp at hl0; omega
        obtain ⟨v, r, hvr⟩ := List.exists_cons_of_ne_nil hne
        have hcell := hl0.2 0 v (by rw [hvr]; rfl)
        rw [Nat.zero_mul] at hcell
        have hspot : spot = none := by simpa [Addr.add] using World.cell?_spot hcell
        subst hspot
        have hb : b < w.heap.size := by
          simp only [Addr.add, World.cell?] at hcell
          rcases Nat.lt_or_ge b w.heap.size with h | h
          · exact h
          · simp [Array.getElem?_eq_none h] at hcell
        have hxlen : ((List.range len).map fun i => (g i).2).length = len := by simp
        refine ⟨(List.range len).map fun i => (g i).2, ⟨by rw [hxlen]; omega, fun x hx => ?_⟩, ?_⟩
        · obtain ⟨i, hi, rfl⟩ := List.mem_map.1 hx
          exact (hg i (List.mem_range.1 hi)).2.1
        · have key : ∀ (i : Nat) x, ((List.range len).map fun i => (g i).2)[i]? = some x → i < len ∧ x = (g i).2 := fun i x hx => by
            have h := (List.getElem?_eq_some_iff.1 hx).1
            rw [hxlen] at h
            refine ⟨h, ?_⟩
            simp [h] at hx
            exact hx.symm
          have : Is w (Rw w) [] [.ds c ((List.range len).map fun i => (g i).2)] [.slice (some ⟨b, o, none⟩) ((List.range len).map fun i => (g i).2).length cap] :=
            .ds (fun i => (g i).1) (by rw [hxlen]; exact hl) hb (fun i x hx => (cells_at (hg i (key i x hx).1).1).1) (fun i x hx => by
              obtain ⟨h1, rfl⟩ := key i x hx
              exact (hg i h1).2.2) (fun i x hx => by
              obtain ⟨h1, rfl⟩ := key i x hx
              intro j v hj
              have := (cells_at (hg i h1).1).2 j v hj
              rw [Addr.add_mid, Addr.add_mid] at this
              exact this) .nil
          rw [hxlen] at this
          exact this⟩

/-! ### a call's arguments -/
def aggT (P : Program) (t : TypeId) : Option Bool := match P.underlying t with
  | some (.struct _) | some (.array _ _) => some true
  | some .bool | some (.int _) | some .string | some (.slice _) | some (.pointer _) => some false
  | _ => none
def OpensAll (P : Program) : List TypeId → List (Bool × Cd) → Prop
  | [], [] => True
  | t :: ts, c :: cs => Opens P t c.2 ∧ aggT P t = some c.1 ∧ OpensAll P ts cs
  | _, _ => False
def FitA : (ts : List (Bool × Cd)) → Els ts → Prop
  | [], _ => True
  | t :: ts, x => Fit t.2 x.1 ∧ FitA ts x.2

theorem single_cells {w : World} {r : Reach} {base : Nat} {t : TypeId} {v : Value} (ha : aggT P t = some false) (h : Value.okWide P w r base t v) : v.cells.toList = [v] := by
  unfold aggT at ha
  unfold Value.okWide at h
  cases hu : P.underlying t with
  | none => simp [hu] at ha
  | some u =>
    cases u <;> simp [hu] at ha h
    all_goals
      unfold Cell.okWide Cell.ok at h
      cases v <;> simp_all [Value.cells]
theorem agg_cells {w : World} {r : Reach} {base : Nat} {t : TypeId} {v : Value} (ha : aggT P t = some true) (h : Value.okWide P w r base t v) : ∃ us : List Value, v = .agg us.toArray ∧ v.cells.toList = us := by
  unfold aggT at ha
  unfold Value.okWide at h
  cases hu : P.underlying t with
  | none => simp [hu] at ha
  | some u =>
    cases u <;> simp [hu] at ha h
    all_goals
      obtain ⟨cs, rfl, _⟩ := h
      exact ⟨cs.toList, by simp, by simp [Value.cells]⟩
theorem is_one {w : World} {R : Nat → Prop} {σ : List Nat} {l : List Ck} {us : List Value} (h : Is w R σ l us) (h1 : us.length = 1) (hc : ∀ k ∈ l, 0 < k.size) : ∃ k, l = [k] ∧ k.size = 1 := by
  match l, h with
  | [], h => cases h; simp at h1
  | k :: r, h =>
    obtain ⟨ua, ub, rfl, e, i1, i2⟩ := h.head
    have hk := hc k (by simp)
    rw [List.length_append] at h1
    have hub : ub = [] := List.length_eq_zero_iff.1 (by omega)
    subst hub
    match r, i2 with
    | [], _ => exact ⟨k, rfl, by simp at h1; omega⟩
    | k2 :: r2, i2 =>
      obtain ⟨uc, ud, e1, e2, _, _⟩ := i2.head
      have := hc k2 (by simp)
      have : uc = [] := by
        have := congrArg List.length e1
        rw [List.length_append] at this
        exact List.length_eq_zero_iff.1 (by simp at this; omega)
      subst this
      simp at e2
      omega
theorem ck_size : ∀ (c : Cd) (x : El c), ∀ k ∈ ck c x, 0 < k.size
  | .int k, x, k', h => by simp [ck] at h; subst h; simp [Ck.size]
  | .bool, x, k', h => by simp [ck] at h; subst h; simp [Ck.size]
  | .str, x, k', h => by simp [ck] at h; subst h; simp [Ck.size]
  | .words, x, k', h => by simp [ck] at h; subst h; simp [Ck.size]
  | .unit, x, k', h => by simp [ck] at h
  | .pair a b, x, k', h => by
    simp only [ck, List.mem_append] at h
    rcases h with h | h
    · exact ck_size a _ _ h
    · exact ck_size b _ _ h
  | .sl c, x, k', h => by simp [ck] at h; subst h; simp [Ck.size]
  | .ptr c, x, k', h => by simp [ck] at h; subst h; simp [Ck.size]

theorem arg_is {H : Type} {enc : TypeId × Value → H} {w : World} {r : Reach} {base : Nat} {t : TypeId} {b : Bool} {c : Cd} {v : Value} {d : DataW H} {p : List MemPlace} (hO : Opens P t c) (ha : aggT P t = some b)
    (hv : Value.okWide P w r base t v) (h : DataW.Trod enc P w 0 (fun _ => true) true t v d p) : ∃ y : El c, Fit c y ∧ AvIs w (Rw w) [] (encA b c y) v := by
  obtain ⟨fuel, hf⟩ := h
  obtain ⟨y, h1, h2⟩ := hO.ok enc w fuel _ _ hf
  refine ⟨y, h1, ?_⟩
  cases b with
  | true =>
    obtain ⟨us, rfl, e⟩ := agg_cells ha hv
    rw [e] at h2
    exact .agg h2
  | false =>
    have e := single_cells ha hv
    rw [e] at h2
    obtain ⟨k, hk, hs⟩ := is_one h2 rfl (ck_size c y)
    unfold encA
    simp only [hk] at h2 ⊢
    exact .one hs h2
theorem args_are {H : Type} {enc : TypeId × Value → H} {w : World} {r : Reach} {base : Nat} : ∀ (ts : List (Bool × Cd)) (tys : List TypeId) (vs : List Value) (ds : List (DataW H)) (p : List MemPlace), OpensAll P tys ts →
    DataW.TrodAll enc P w 0 (fun _ => true) true tys vs ds p → (∀ (j : Nat) t v, tys[j]? = some t → vs[j]? = some v → Value.okWide P w r base t v) →
    ∃ x : Els ts, FitA ts x ∧ vs.length = (encs ts x).length ∧ (∀ (i : Nat) a v, (encs ts x)[i]? = some a → vs[i]? = some v → AvIs w (Rw w) [] a v)
  | [], [], vs, ds, p, _, h, _ => by
    obtain ⟨rfl, rfl, rfl⟩ := trodAll_nil h
    exact ⟨(), trivial, rfl, fun i a v h1 => by simp [encs] at h1⟩
  | [], _ :: _, _, _, _, hO, _, _ => hO.elim
  | _ :: _, [], _, _, _, hO, _, _ => hO.elim
  | c :: ts, t :: tys, vs, ds, p, hO, h, hv => by
    obtain ⟨v, vs1, d, ds1, a, b, rfl, rfl, rfl, h1, h2⟩ := trodAll_cons h
    obtain ⟨o1, o2, o3⟩ := hO
    obtain ⟨y, f1, i1⟩ := arg_is o1 o2 (hv 0 t v rfl rfl) h1
    obtain ⟨x, f2, hl, i2⟩ := args_are ts tys vs1 ds1 b o3 h2 (fun j t' v' ht hv' => hv (j + 1) t' v' (by simpa using ht) (by simpa using hv'))
    refine ⟨(y, x), ⟨f1, f2⟩, by simp [encs, hl], fun i a' v' ha' hv' => ?_⟩
    rcases i with _ | i
    · cases ha'; cases hv'; exact i1
    · exact i2 i a' v' (by simpa [encs] using ha') (by simpa using hv')

theorem trod_stays {H : Type} {enc : TypeId × Value → H} {W W' : World} (hl : laidOutB P = true) (hb : Below W.heap.size W W') : ∀ (tys : List TypeId) (vs : List Value) (ds : List (DataW H)) (p : List MemPlace), (∀ t ∈ tys, P.readableRec t = true ∧ t < P.types.size) →
    DataW.TrodAll enc P W 0 (fun _ => true) true tys vs ds p → (∀ x ∈ p, x.block < W.heap.size) → DataW.TrodAll enc P W' 0 (fun b => decide (b < W.heap.size)) true tys vs ds p
  | [], vs, ds, p, _, h, _ => by
    obtain ⟨rfl, rfl, rfl⟩ := trodAll_nil h
    exact trodAll_mk0
  | t :: tys, vs, ds, p, ht, h, hp => by
    obtain ⟨v, vs1, d, ds1, a, b, rfl, rfl, rfl, h1, h2⟩ := trodAll_cons h
    exact trodAll_cons_mk (Below.trod hl (ht t (by simp)).1 (ht t (by simp)).2 h1 hb (fun x hx => hp x (by simp [hx])))
      (trod_stays hl hb tys vs1 ds1 b (fun t' h' => ht t' (by simp [h'])) h2 (fun x hx => hp x (by simp [hx])))

/-- what a law's call leaves -/
theorem law_post {E : Env P} {L : Loops} {f : FuncId} {fn : Func} {H : Type} {enc : TypeId × Value → H} {s : ChangeSpec} {tb : TypeId} {W : World} {base : Nat} {args : Array Value} {ds gs : List (DataW H)} {before : List MemPlace}
    (hm : P.follows .mixedOrders = true) (hf : P.funcs[f]? = some fn) (hL : ∀ c, fn.body = some c → LoopsOk P 0 L c) (hlaid : laidOutB P = true) (ts : List (Bool × Cd))
    (hrun : ∀ x : Els ts, FitA ts x → (fnP E L fn (encs ts x)).wp fun av => av = .one (.v (.bool true)))
    (tys : List TypeId) (hty : fn.params.toList = tys) (hO : OpensAll P tys ts) (hread : ∀ t ∈ tys, P.readableRec t = true ∧ t < P.types.size) (hres : fn.resultTypes = #[tb]) (hub : P.underlying tb = some .bool)
    (hvars : s.vars = []) (hspec : ∀ ds : List (DataW H), ds.length = tys.length → s.fn H ds = { results := [.lit (.bool true)], args := ds })
    (hval : ∀ (j : Nat) t v, fn.params[j]? = some t → args[j]? = some v → Value.okWide P W .any base t v) (hW : DataW.Whole enc P fn.params.toList s.vars false W args.toList ds gs before) (hgl : GlobAt W (Ro W [] [])) :
    Calls P f args W fun e W' => ∃ v, e = .returned v ∧ s.post enc P fn false true false false W args v W' := by
  have hW' := hW
  obtain ⟨p, q, hA, hV, rfl, hfz, hnd⟩ := hW
  rw [hvars] at hV
  obtain ⟨rfl, rfl⟩ := trodVars_none hV
  rw [hty] at hA
  obtain ⟨x, hfit, hlen, hargs⟩ := args_are (r := .any) (base := base) ts tys args.toList ds p hO hA (fun j t v ht hv => hval j t v (by rw [← hty] at ht; simpa using ht) (by simpa using hv))
  have hdl : ds.length = tys.length := by
    have : ∀ (tys : List TypeId) (vs : List Value) (ds : List (DataW H)) (p : List MemPlace), DataW.TrodAll enc P W 0 (fun _ => true) true tys vs ds p → ds.length = tys.length := by
      intro tys
      induction tys with
      | nil => intro vs ds p h; obtain ⟨rfl, rfl, rfl⟩ := trodAll_nil h; rfl
      | cons t tys ih =>
        intro vs ds p h
        obtain ⟨v, vs1, d, ds1, a, b, rfl, rfl, rfl, h1, h2⟩ := trodAll_cons h
        simp [ih _ _ _ h2]
    exact this _ _ _ _ hA
  have hmem0 : MemOk W [] [] [] := ⟨rfl, by simp, by simp, hgl, fun i t cs b h1 h2 => by simp at h1⟩
  have hro : ∀ b, Rw W b → Ro W [] [] b := fun b hb => ⟨hb, by simp, by simp⟩
  have hw := fnP_wp (hrun x hfit)
  have hcall := fn_ok (E := E) (L := L) (w := W) (φ := []) (σ := []) hm hf hL (Nat.zero_le _) hmem0 hlen (fun i a v h1 h2 => (hargs i a v h1 h2).ro hro []) hw
  have hargsE : args.toList.toArray = args := by simp
  rw [hargsE] at hcall
  refine hcall.mono fun e W' hr => ?_
  obtain ⟨v, av, m', σ', rfl, ⟨hQ, hno⟩, hext, hkeep, hav, hmem'⟩ := hr
  have hv : v = .bool true := by
    have := nA_is hav
    rw [hQ] at this
    exact val_of this rfl
  subst hv
  have hb := hkeep.below
  have hps : ∀ y ∈ p, y.block < W.heap.size := fun y hy => by simpa using hW'.lt y (by simp [hy])
  have hst := trod_stays (enc := enc) hlaid hb tys args.toList ds p hread hA hps
  refine ⟨_, rfl, ds, [], p ++ [], [], p, [], hW', ?_, ?_, ?_, hb.frame _, fun h => by cases h⟩
  · rw [List.append_nil, hspec ds hdl, hres]
    exact trodAll_mk1 (shut_bool hub true)
  · rw [List.append_nil, hspec ds hdl, hty]
    exact hst
  · rw [List.append_nil, hspec ds hdl, hvars]
    rfl
end
end Ax
/-
A law's row that lists package-level variables: what the library reads of them; the wrap that hands on the world's shape.
-/
set_option linter.unusedSimpArgs false
set_option linter.unusedVariables false
namespace Ax
open Go Go.RowKit Go.ChangeShapes Go.WideShapes
theorem handed_laid {H : Type} {enc : TypeId × Value → H} {a : Assume} {C : Checked} {os : Os} {f : FuncId} {fn : Func} {s : ChangeSpec} {conds : List PathCond} {apart fresh handsOn again : Bool} {laid : List (String × DataW Unit)}
    (own : ownKnob C.prog.godebug = none) (started : os.Started) (noInit : C.prog.inits.idxOf? f = none) (hfn : C.prog.funcs[f]? = some fn)
    (witness : ∃ (w : World) (tape : Tape) (i : Input), w.os = os ∧ (w.forCall tape i).Shaped C.prog ∧ i.vars = [] ∧ Input.okWide C.prog (w.forCall tape i) .any w.heap.size f i ∧
      ((s.pre enc C.prog fn conds apart (w.forCall tape i).memory i.args ∧ laidMetH C.prog laid (w.forCall tape i).memory) ∧ sizedMet enc C.prog fn (OpenSpec.ofChange s) apart (w.forCall tape i).memory i.args) ∧ a.holds C.prog (lone (Frame.enter C.prog f i.args .normal) [] (w.forCall tape i)))
    (contract : ∀ (W : World) (base : Nat) (args : Array Value) (ds gs : List (DataW H)) (before : List MemPlace),
      (∀ (j : Nat) t v, fn.params[j]? = some t → args[j]? = some v → Value.okWide C.prog W .any base t v) →
      DataW.Whole enc C.prog fn.params.toList s.vars apart W args.toList ds gs before → laidMetH C.prog laid W → W.ShapedOpen C.prog →
      Calls C.prog f args W fun e W' => ∃ v, e = .returned v ∧ s.post enc C.prog fn apart fresh handsOn again W args v W') :
    ReturnsInHanded a C os f .any (fun w args => (s.pre enc C.prog fn conds apart w args ∧ laidMetH C.prog laid w) ∧ sizedMet enc C.prog fn (OpenSpec.ofChange s) apart w args) (s.post enc C.prog fn apart fresh handsOn again) := by
  refine returnsInHanded_of_calls own started noInit witness ?_
  intro w tape i _ hsh _ hok hpre hholds
  obtain ⟨_, _, _, fn', hfn', _, _, _, _, hval⟩ := hok
  have e : fn' = fn := Option.some.inj (hfn'.symm.trans hfn)
  subst e
  obtain ⟨⟨⟨ds, gs, before, hw, hc⟩, hx⟩, hz⟩ := hpre
  have hw' := DataW.Whole.of_heap (w' := w.forCall tape i) (by rfl) hw
  refine (contract (w.forCall tape i) w.heap.size i.args ds gs before hval hw' (hx.of_heap (by rfl)) hsh).mono fun e W' ⟨v, he, hp⟩ => ?_
  subst he
  exact ChangeSpec.post_blind hp
theorem cells_of_var {P : Program} {W : World} {n : String} {g : Nat} {cs : Array Value} (h : W.var? P n = some cs) (hg : P.globalNamed n = some g) : ∃ t z, W.heap[g]? = some (.cells cs t z) := by
  unfold World.var? at h
  rw [hg] at h
  simp only [Option.bind_some] at h
  split at h
  · rename_i c t z hh
    cases h
    exact ⟨t, z, hh⟩
  · cases h
theorem reads_iface {P : Program} {W : World} {n nm : String} {d : DataW Unit} {g ti : Nat} {ms : Array (String × TypeId)} (h : Lib.VarReads P W n (.iface nm d)) (hg : P.globalNamed n = some g) (ht : (P.globals[g]?).map (·.type) = some ti) (hi : P.underlying ti = some (.interface ms)) :
    ∃ cs t z, W.heap[g]? = some (.cells cs t z) ∧ ∃ te pe, cs = #[.iface te pe] := by
  obtain ⟨g', t', cs, fuel, p, hg', ht', hv, hd⟩ := h
  obtain rfl := Option.some.inj (hg.symm.trans hg')
  obtain rfl := Option.some.inj (ht.symm.trans ht')
  obtain ⟨t, z, hh⟩ := cells_of_var hv hg
  obtain ⟨_, u, v, e, _⟩ := iface_of_trod hi hd
  refine ⟨cs, t, z, hh, u, v, ?_⟩
  obtain ⟨l⟩ := cs
  have e : l = [.iface u v] := e
  rw [e]
theorem reads_tab {P : Program} {W : World} {n : String} {k : IntKind} {zs : List Int} {g ti te m : Nat} (h : Lib.VarReads P W n (Lib.tabData k zs)) (hg : P.globalNamed n = some g) (ht : (P.globals[g]?).map (·.type) = some ti) (hu : P.underlying ti = some (.array m te)) (he : P.underlying te = some (.int k)) (hce : P.cellsOf te = 1) (hct : P.cellsOf ti = m) :
    ∃ cs t z, W.heap[g]? = some (.cells cs t z) ∧ cs = (zs.map fun z => Value.int k z).toArray := by
  obtain ⟨g', t', cs, fuel, p, hg', ht', hv, hd⟩ := h
  obtain rfl := Option.some.inj (hg.symm.trans hg')
  obtain rfl := Option.some.inj (ht.symm.trans ht')
  obtain ⟨t, z, hh⟩ := cells_of_var hv hg
  refine ⟨cs, t, z, hh, ?_⟩
  rw [← Lib.cells_of_tab hu he hce hct hd]
theorem shaped_int {P : Program} {w : World} {g t : Nat} {zero : Array Value} {k : IntKind} (h : w.ShapedOpen P) (hg : g < P.globals.size) (h0 : ((begin P (fun _ _ => 0) default).world.heap[g]?).bind Obj.row? = some (zero, t)) (hz : zero.size = 1)
    (hb : P.buildable t = true) (hc : P.cellTypes P.depth t = some [t]) (hu : P.underlying t = some (.int k)) : ∃ cs t z, w.heap[g]? = some (.cells cs t z) ∧ ∃ m, cs = #[.int k m] := by
  obtain ⟨m, hm⟩ := Go.Proofs.cell_of_shapedOpen_int h hg h0 hz hb hc hu
  obtain ⟨cs, hh, hs, _⟩ := h.1 g zero t hg h0
  refine ⟨cs, t, _, hh, m, ?_⟩
  rw [hz] at hs
  obtain ⟨l⟩ := cs
  match l, hs with
  | [x], _ =>
    have : w.cell? ⟨g, 0, none⟩ = some x := by simp [World.cell?, hh]
    rw [hm] at this
    cases this
    rfl
end Ax
/-
What the laws of this seat want of the program: the listed variables; how arguments are opened.
-/
set_option linter.unusedSimpArgs false
set_option linter.unusedVariables false
namespace Go.Proofs.YtjijakfcahhioabDoor
open Go.ChangeShapes Go.WideShapes Go.ChangeAt Go.RowKit Ax
theorem own : ownKnob Tryd.prog.godebug = none := by kernel_rfl
theorem laidOut : laidOutB Tryd.prog = true := by kernel_rfl
abbrev laidL : List (String × DataW Unit) := Rows.lexTellsRow.laid
theorem glob_laid {W : World} (h : laidMetH Tryd.prog laidL W) (hs : W.ShapedOpen Tryd.prog) : GlobAt W (Ro W [] []) := by
  rw [MakeChecks.laidMetH_plain _ _ _ (by kernel_rfl)] at h
  have hro : ∀ (g : Nat) cs t z, W.heap[g]? = some (.cells cs t z) → Ro W [] [] g := fun g cs t z hh => ⟨(Array.getElem?_eq_some_iff.1 hh).1, by simp, by simp⟩
  intro f hf g hg
  unfold gfacts at hf
  simp only [List.mem_cons, List.not_mem_nil, or_false] at hf
  have fin : (∃ cs t z, W.heap[g]? = some (.cells cs t z) ∧ f.2 cs) → Ro W [] [] g ∧ ∃ cs t z, W.heap[g]? = some (.cells cs t z) ∧ f.2 cs := fun ⟨cs, t, z, h1, h2⟩ => ⟨hro g cs t z h1, cs, t, z, h1, h2⟩
  refine fin ?_
  rcases hf with rfl | rfl | rfl | rfl
  · have e : Tryd.prog.globalNamed "strconv.ErrSyntax" = some 0 := by kernel_rfl
    obtain rfl := Option.some.inj (e.symm.trans hg)
    exact reads_iface (ti := 68) (Lib.laidMet.reads h (n := "strconv.ErrSyntax") (d := Rows.laid_strconv_ErrSyntax) (.tail _ (.tail _ (.tail _ (.tail _ (.tail _ (.head _))))))) e (by kernel_rfl) Tryd.underlying68
  · have e : Tryd.prog.globalNamed "strconv.ErrRange" = some 1 := by kernel_rfl
    obtain rfl := Option.some.inj (e.symm.trans hg)
    exact reads_iface (ti := 68) (Lib.laidMet.reads h (n := "strconv.ErrRange") (d := Rows.laid_strconv_ErrRange) (.tail _ (.tail _ (.tail _ (.tail _ (.head _)))))) e (by kernel_rfl) Tryd.underlying68
  · have e : Tryd.prog.globalNamed "internal/bytealg.MaxLen" = some 2 := by kernel_rfl
    obtain rfl := Option.some.inj (e.symm.trans hg)
    exact shaped_int (P := Tryd.prog) (t := 3) (zero := #[.int .i64 0]) hs (by decide +kernel) (by kernel_rfl) rfl (by kernel_rfl) (by kernel_rfl) (by kernel_rfl)
  · have e : Tryd.prog.globalNamed "internal/strconv.uint64pow10" = some 3 := by kernel_rfl
    obtain rfl := Option.some.inj (e.symm.trans hg)
    exact reads_tab (zs := Lib.pow10Tab) (ti := 113) (te := 65) (m := 20) (Lib.laidMet.reads h (n := "internal/strconv.uint64pow10") (d := Rows.laid_internal_strconv_uint64pow10) (.tail _ (.tail _ (.head _)))) e (by kernel_rfl) (by kernel_rfl) (by kernel_rfl) (by kernel_rfl) (by kernel_rfl)
theorem o_str : Opens Tryd.prog 9 .str := opens_str (by kernel_rfl) (by kernel_rfl)
theorem o_s : Opens Tryd.prog 22 (.sl .str) := opens_slice (e := 9) (by kernel_rfl) (by kernel_rfl) o_str (by decide)
theorem o_ss : Opens Tryd.prog 47 (.sl (.sl .str)) := opens_slice (e := 22) (by kernel_rfl) (by kernel_rfl) o_s (by decide)
theorem o_int : Opens Tryd.prog 3 (.int .i64) := opens_int (by kernel_rfl) (by kernel_rfl)
theorem o_i32 : Opens Tryd.prog 21 (.int .i32) := opens_int (by kernel_rfl) (by kernel_rfl)
theorem o_u8 : Opens Tryd.prog 5 (.int .u8) := opens_int (by kernel_rfl) (by kernel_rfl)
theorem o_bool : Opens Tryd.prog 4 .bool := opens_bool (by kernel_rfl) (by kernel_rfl)
theorem fit_i32 {z : Int} (h : (Lit.int .i32 z).wf = true) : -2147483648 ≤ z ∧ z ≤ 2147483647 := by simpa [Lit.wf, IntKind.min, IntKind.max, IntKind.signed, IntKind.bits] using h
theorem fit_u8 {z : Int} (h : (Lit.int .u8 z).wf = true) : 0 ≤ z ∧ z ≤ 255 := by simpa [Lit.wf, IntKind.min, IntKind.max, IntKind.signed, IntKind.bits] using h
theorem fit_len {n : Nat} (h : n ≤ maxLen) : n ≤ 9223372036854775807 := by simp only [Go.maxLen] at h; omega
theorem laid_wit (os : Os) (args : Array Value) : laidMetH Tryd.prog laidL ((World.laidAll Tryd.prog os laidL).forCall (fun _ _ => 0) ⟨#[], args, []⟩).memory := by
  rw [MakeChecks.laidMetH_plain _ _ _ (by kernel_rfl)]
  exact laidMet_laidAll _ (by kernel_rfl) (by kernel_rfl)
end Go.Proofs.YtjijakfcahhioabDoor
/-
parquetref6.digits calls itself: its contract below so many digits.
-/
set_option linter.unusedSimpArgs false
set_option linter.unusedVariables false
namespace Go.Proofs.YtjijakfcahhioabDoor
open Go.RowKit Ax
def digRun (k : Nat) : List Av → Mem → T (Av × Mem) := pureRun' [(false, .int .u64)] fun x => .need (0 ≤ (x.1 : Int) ∧ (x.1 : Int) < 18446744073709551616 ∧ (x.1 : Int) < (10 : Int) ^ k) (.ret (.one (.v (.string (mkB (Lib.decDigits (Int.toNat x.1)))))))
def DigOk (k : Nat) : Prop := ConOk Tryd.prog 31 [] (digRun k)
abbrev DigK := { k : Nat // DigOk k }
noncomputable def conD (k : Nat) (h : DigOk k) : Con Tryd.prog := ⟨31, [], digRun k, cf_rdig, h⟩
noncomputable def LD (x : DigK) : Env Tryd.prog := LA.add [conD x.1 x.2]
end Go.Proofs.YtjijakfcahhioabDoor
/-
parquetref6.digits: its trees.
-/
set_option linter.unusedSimpArgs false
set_option linter.unusedVariables false
namespace Go.Proofs.YtjijakfcahhioabDoor
open Go.RowKit Ax
noncomputable def tr_dig0 (x : Els [(false, .int .u64)]) : T Av :=
 .ite (decide (x.1 < (10 : Int)))
  (.ret (.one (.v (.string (bytesOf [IntKind.wrap .u8 (IntKind.wrap .u64 ((48 : Int) + x.1))])))))
  (.need ((10 : Int) ≠ (0 : Int)) (.need ((10 : Int) ≠ (0 : Int)) (dup (.fail))))
theorem tr_dig0_eq (x : Els [(false, .int .u64)]) : fnP LA (fun _ => none) Tryd.f31 (encs [(false, .int .u64)] x) = tr_dig0 x := by kernel_rfl
noncomputable def tr_dig (x : DigK × Els [(false, .int .u64)]) : T Av :=
 .ite (decide (x.2.1 < (10 : Int)))
  (.ret (.one (.v (.string (bytesOf [IntKind.wrap .u8 (IntKind.wrap .u64 ((48 : Int) + x.2.1))])))))
  (.need ((10 : Int) ≠ (0 : Int)) (.need ((10 : Int) ≠ (0 : Int)) (dup (.need ((0 : El (Cd.int .u64)) ≤ IntKind.wrap .u64 (Int.tdiv x.2.1 (10 : Int)) ∧ IntKind.wrap .u64 (Int.tdiv x.2.1 (10 : Int)) < (18446744073709551616 : El (Cd.int .u64)) ∧ IntKind.wrap .u64 (Int.tdiv x.2.1 (10 : Int)) < (10 : Int) ^ x.1.1) (.need ((↑(ByteArray.size (mkB (Go.Lib.decDigits (Int.toNat (IntKind.wrap .u64 (Int.tdiv x.2.1 (10 : Int)))))) + ByteArray.size (bytesOf [IntKind.wrap .u8 (IntKind.wrap .u64 ((48 : Int) + Int.tmod x.2.1 (10 : Int)))])) : Int) ≤ IntKind.max .i64) (.lt (mkB (Go.Lib.decDigits (Int.toNat (IntKind.wrap .u64 (Int.tdiv x.2.1 (10 : Int))))) ++ bytesOf [IntKind.wrap .u8 (IntKind.wrap .u64 ((48 : Int) + Int.tmod x.2.1 (10 : Int)))]) (fun v0 =>
        .ret (.one (.v (.string (v0)))))))))))
theorem tr_dig_eq (x : DigK × Els [(false, .int .u64)]) : fnP (LD x.1) (fun _ => none) Tryd.f31 (encs [(false, .int .u64)] x.2) = tr_dig x := by kernel_rfl
end Go.Proofs.YtjijakfcahhioabDoor
/-
parquetref6.digits: what it tells.
-/
set_option linter.unusedSimpArgs false
set_option linter.unusedVariables false
namespace Go.Proofs.YtjijakfcahhioabDoor
open Go.RowKit Ax
theorem bytes_digit {z : Int} (h0 : 0 ≤ z) (h1 : z < 10) : bytesOf [IntKind.wrap .u8 (IntKind.wrap .u64 ((48 : Int) + z))] = mkB [UInt8.ofNat (48 + z.toNat)] := by
  rw [IntWalk.u64_in (48 + z) (by omega), IntWalk.u8_in (48 + z) (by omega)]
  unfold bytesOf mkB
  simp only [List.map_cons, List.map_nil]
  congr 3
  rw [show (48 + z).toNat = 48 + z.toNat by omega]
theorem mkB_app (a b : List UInt8) : mkB a ++ mkB b = mkB (a ++ b) := by
  apply ByteArray.ext
  simp [mkB, ByteArray.data_append]
theorem dec_size {z : Int} (h0 : 0 ≤ z) (h1 : z < 18446744073709551616) : (mkB (Lib.decDigits z.toNat)).size ≤ 20 := by
  show (Lib.decDigits z.toNat).length ≤ 20
  rw [Lib.decDigits_length]
  exact Lib.nDigits_le20 _ (by omega)
theorem dig_one : DigOk 1 := val_con (E := LA) (L := fun _ => none) mixed Tryd.func31 no_loops [(false, .int .u64)] (fun x => 0 ≤ (x.1 : Int) ∧ (x.1 : Int) < 18446744073709551616 ∧ (x.1 : Int) < (10 : Int) ^ 1) (fun x => .one (.v (.string (mkB (Lib.decDigits (Int.toNat x.1)))))) fun x hx => by
  rw [tr_dig0_eq]
  obtain ⟨z, u⟩ := x
  revert z
  intro (z : Int) (hx : 0 ≤ z ∧ z < 18446744073709551616 ∧ z < (10 : Int) ^ 1)
  obtain ⟨h0, h1, h2⟩ := hx
  unfold tr_dig0
  simp only [T.wp]
  refine ⟨fun _ => ?_, fun h => ?_⟩
  · have h2 : z < 10 := by simpa using h2
    rw [bytes_digit h0 h2, dec_small (by omega)]
  · have h : ¬ z < 10 := of_decide_eq_false h
    simp at h2; omega
theorem dig_next (k : Nat) (hk : DigOk k) : DigOk (k + 1) := val_con (E := LD ⟨k, hk⟩) (L := fun _ => none) mixed Tryd.func31 no_loops [(false, .int .u64)] (fun x => 0 ≤ (x.1 : Int) ∧ (x.1 : Int) < 18446744073709551616 ∧ (x.1 : Int) < (10 : Int) ^ (k + 1)) (fun x => .one (.v (.string (mkB (Lib.decDigits (Int.toNat x.1)))))) fun x hx => by
  rw [tr_dig_eq (⟨k, hk⟩, x)]
  obtain ⟨z, u⟩ := x
  revert z
  intro (z : Int) (hx : 0 ≤ z ∧ z < 18446744073709551616 ∧ z < (10 : Int) ^ (k + 1))
  obtain ⟨h0, h1, h2⟩ := hx
  unfold tr_dig
  simp only [T.wp, dup_wp]
  refine ⟨fun h => ?_, fun h => ?_⟩
  · have h : z < 10 := of_decide_eq_true h
    rw [bytes_digit h0 h, dec_small (by omega)]
  · have h : ¬ z < 10 := of_decide_eq_false h
    obtain ⟨n, rfl⟩ : ∃ n : Nat, z = n := ⟨z.toNat, by omega⟩
    have e1 : Int.tdiv (n : Int) 10 = ((n / 10 : Nat) : Int) := by rw [Int.tdiv_eq_ediv_of_nonneg (by omega)]; omega
    have e2 : Int.tmod (n : Int) 10 = ((n % 10 : Nat) : Int) := by rw [Int.tmod_eq_emod_of_nonneg (by omega)]; omega
    rw [e1, e2, IntWalk.u64_in ((n / 10 : Nat) : Int) (by omega)]
    rw [Int.pow_succ] at h2
    have hs := dec_size (z := ((n / 10 : Nat) : Int)) (by omega) (by omega)
    rw [Int.toNat_natCast] at hs
    rw [bytes_digit (by omega) (by omega), Int.toNat_natCast, Int.toNat_natCast, Int.toNat_natCast, mkB_app]
    refine ⟨by decide, by decide, ⟨show (0 : Int) ≤ ((n / 10 : Nat) : Int) by omega, show ((n / 10 : Nat) : Int) < 18446744073709551616 by omega, show ((n / 10 : Nat) : Int) < (10 : Int) ^ k by omega⟩, ?_, ?_⟩
    · show (((mkB (Lib.decDigits (n / 10))).size + 1 : Nat) : Int) ≤ 9223372036854775807
      omega
    · rw [dec_big (n := n) (by omega)]
theorem dig_ok : ∀ k, DigOk (k + 1)
  | 0 => dig_one
  | k + 1 => dig_next (k + 1) (dig_ok k)
noncomputable def con_dig : Con Tryd.prog := conD 20 (dig_ok 19)
noncomputable def LB : Env Tryd.prog := LA.add [con_dig]
end Go.Proofs.YtjijakfcahhioabDoor
/-
parquetref6.Num: its tree.
-/
set_option linter.unusedSimpArgs false
set_option linter.unusedVariables false
namespace Go.Proofs.YtjijakfcahhioabDoor
open Go.RowKit Ax
noncomputable def tr_num (x : Els [(false, .int .i64)]) : T Av :=
 .ite (decide (x.1 < (0 : Int)))
  (.need ((0 : El (Cd.int .u64)) ≤ IntKind.wrap .u64 (IntKind.wrap .u64 (IntKind.wrap .i64 ((0 : Int) - IntKind.wrap .i64 (x.1 + (1 : Int)))) + (1 : Int)) ∧ IntKind.wrap .u64 (IntKind.wrap .u64 (IntKind.wrap .i64 ((0 : Int) - IntKind.wrap .i64 (x.1 + (1 : Int)))) + (1 : Int)) < (18446744073709551616 : El (Cd.int .u64)) ∧ IntKind.wrap .u64 (IntKind.wrap .u64 (IntKind.wrap .i64 ((0 : Int) - IntKind.wrap .i64 (x.1 + (1 : Int)))) + (1 : Int)) < (10 : Int) ^ (20 : Nat)) (.need ((↑(ByteArray.size { data := #[(45 : UInt8)] } + ByteArray.size (mkB (Go.Lib.decDigits (Int.toNat (IntKind.wrap .u64 (IntKind.wrap .u64 (IntKind.wrap .i64 ((0 : Int) - IntKind.wrap .i64 (x.1 + (1 : Int)))) + (1 : Int))))))) : Int) ≤ IntKind.max .i64) (.lt ({ data := #[(45 : UInt8)] } ++ mkB (Go.Lib.decDigits (Int.toNat (IntKind.wrap .u64 (IntKind.wrap .u64 (IntKind.wrap .i64 ((0 : Int) - IntKind.wrap .i64 (x.1 + (1 : Int)))) + (1 : Int)))))) (fun v0 =>
     .ret (.one (.v (.string (v0))))))))
  (.need ((0 : El (Cd.int .u64)) ≤ IntKind.wrap .u64 (x.1) ∧ IntKind.wrap .u64 (x.1) < (18446744073709551616 : El (Cd.int .u64)) ∧ IntKind.wrap .u64 (x.1) < (10 : Int) ^ (20 : Nat)) (.ret (.one (.v (.string (mkB (Go.Lib.decDigits (Int.toNat (IntKind.wrap .u64 (x.1))))))))))
theorem tr_num_eq (x : Els [(false, .int .i64)]) : fnP LB (fun _ => none) Tryd.f18 (encs [(false, .int .i64)] x) = tr_num x := by kernel_rfl
end Go.Proofs.YtjijakfcahhioabDoor
/-
parquetref6.Num: what it tells.
-/
set_option linter.unusedSimpArgs false
set_option linter.unusedVariables false
namespace Go.Proofs.YtjijakfcahhioabDoor
open Go.RowKit Ax
theorem neg_chain {z : Int} (h0 : -9223372036854775808 ≤ z) (h1 : z < 0) : IntKind.wrap .u64 (IntKind.wrap .u64 (IntKind.wrap .i64 ((0 : Int) - IntKind.wrap .i64 (z + (1 : Int)))) + (1 : Int)) = (z.natAbs : Int) := by
  rw [IntWalk.i64_in (z + 1) (by omega), IntWalk.i64_in (0 - (z + 1)) (by omega), IntWalk.u64_in (0 - (z + 1)) (by omega), IntWalk.u64_in (0 - (z + 1) + 1) (by omega)]
  omega
theorem pow20 {z : Int} (h : z < 18446744073709551616) : z < (10 : Int) ^ 20 := by
  have : (10 : Int) ^ 20 = 100000000000000000000 := by decide
  omega
theorem num_wp (z : Int) (h0 : -9223372036854775808 ≤ z) (h1 : z ≤ 9223372036854775807) : (tr_num (z, ())).wp fun a => a = .one (.v (.string (mkB (Lib.itoa z)))) := by
  unfold tr_num
  simp only [T.wp]
  refine ⟨fun h => ?_, fun h => ?_⟩
  · have h : z < 0 := of_decide_eq_true h
    rw [neg_chain h0 h]
    have hs := dec_size (z := (z.natAbs : Int)) (by omega) (by omega)
    rw [Int.toNat_natCast] at hs ⊢
    refine ⟨⟨show (0 : Int) ≤ (z.natAbs : Int) by omega, show (z.natAbs : Int) < 18446744073709551616 by omega, pow20 (by omega)⟩, ?_, ?_⟩
    · show ((1 + (mkB (Lib.decDigits z.natAbs)).size : Nat) : Int) ≤ 9223372036854775807
      omega
    · have e : Lib.itoa z = 45 :: Lib.decDigits z.natAbs := by unfold Lib.itoa; rw [if_pos h]
      rw [e, show ({ data := #[(45 : UInt8)] } : ByteArray) = mkB [45] from rfl, mkB_app]
      rfl
  · have h : ¬ z < 0 := of_decide_eq_false h
    rw [IntWalk.u64_in z (by omega)]
    refine ⟨⟨show (0 : Int) ≤ z by omega, show z < 18446744073709551616 by omega, pow20 (by omega)⟩, ?_⟩
    have e : Lib.itoa z = Lib.decDigits z.toNat := by unfold Lib.itoa; rw [if_neg h]
    rw [e]
noncomputable def con_num : Con Tryd.prog := ⟨18, [], _, cf_rnum, val_con (E := LB) (L := fun _ => none) mixed Tryd.func18 no_loops [(false, .int .i64)] (fun x => -9223372036854775808 ≤ (x.1 : Int) ∧ (x.1 : Int) ≤ 9223372036854775807) (fun x => .one (.v (.string (mkB (Lib.itoa x.1))))) fun x hx => by
  rw [tr_num_eq]
  obtain ⟨z, u⟩ := x
  revert z
  intro (z : Int) (hx : -9223372036854775808 ≤ z ∧ z ≤ 9223372036854775807)
  exact num_wp z hx.1 hx.2⟩
noncomputable def LC : Env Tryd.prog := LB.add [con_num]
end Go.Proofs.YtjijakfcahhioabDoor
/-
LexInts: its tree.
-/
set_option linter.unusedSimpArgs false
set_option linter.unusedVariables false
namespace Go.Proofs.YtjijakfcahhioabDoor
open Go.RowKit Ax
noncomputable def tr_lexints (x : Els [(false, .int .i32)]) : T Av :=
 .ite (!true)
  (.ret (.one (.v (.bool (false)))))
  (.need ((1000000000 : Int) ≠ (0 : Int)) (.need ((-9223372036854775808 : El (Cd.int .i64)) ≤ Int.tmod (IntKind.wrap .i64 (x.1)) (1000000000 : Int) ∧ Int.tmod (IntKind.wrap .i64 (x.1)) (1000000000 : Int) ≤ (9223372036854775807 : El (Cd.int .i64))) (.need (ByteArray.size (mkB (Go.Lib.itoa (Int.tmod (IntKind.wrap .i64 (x.1)) (1000000000 : Int)))) ≤ (281474976710656 : Nat)) (.need ((↑(ByteArray.size { data := #[(48 : UInt8)] } + ByteArray.size (mkB (Go.Lib.itoa (Int.tmod (IntKind.wrap .i64 (x.1)) (1000000000 : Int))))) : Int) ≤ IntKind.max .i64) (.lt ({ data := #[(48 : UInt8)] } ++ mkB (Go.Lib.itoa (Int.tmod (IntKind.wrap .i64 (x.1)) (1000000000 : Int)))) (fun v0 =>
       .need (ByteArray.size v0 ≤ (281474976710656 : Nat)) (.need ((↑(ByteArray.size (mkB (Go.Lib.itoa (Int.tmod (IntKind.wrap .i64 (x.1)) (1000000000 : Int)))) + ByteArray.size { data := #[(48 : UInt8), (48 : UInt8), (48 : UInt8), (48 : UInt8), (48 : UInt8), (48 : UInt8), (48 : UInt8), (48 : UInt8), (48 : UInt8)] }) : Int) ≤ IntKind.max .i64) (.lt (mkB (Go.Lib.itoa (Int.tmod (IntKind.wrap .i64 (x.1)) (1000000000 : Int))) ++ { data := #[(48 : UInt8), (48 : UInt8), (48 : UInt8), (48 : UInt8), (48 : UInt8), (48 : UInt8), (48 : UInt8), (48 : UInt8), (48 : UInt8)] }) (fun v1 =>
          .need (ByteArray.size v1 ≤ (281474976710656 : Nat)) (.need ((↑(ByteArray.size (mkB (Go.Lib.itoa (Int.tmod (IntKind.wrap .i64 (x.1)) (1000000000 : Int)))) + ByteArray.size { data := #[(120 : UInt8)] }) : Int) ≤ IntKind.max .i64) (.lt (mkB (Go.Lib.itoa (Int.tmod (IntKind.wrap .i64 (x.1)) (1000000000 : Int))) ++ { data := #[(120 : UInt8)] }) (fun v2 =>
             .need (ByteArray.size v2 ≤ (281474976710656 : Nat)) (.need (ByteArray.size { data := #[(45 : UInt8), (48 : UInt8)] } ≤ (281474976710656 : Nat)) (.ite (lintB (mkB (Go.Lib.itoa (Int.tmod (IntKind.wrap .i64 (x.1)) (1000000000 : Int)))))
                (.ite ((if lintB (mkB (Go.Lib.itoa (Int.tmod (IntKind.wrap .i64 (x.1)) (1000000000 : Int)))) = true then atoiV (mkB (Go.Lib.itoa (Int.tmod (IntKind.wrap .i64 (x.1)) (1000000000 : Int)))) else (0 : Int)) == Int.tmod (IntKind.wrap .i64 (x.1)) (1000000000 : Int))
                 (.ite (!lintB v0)
                  (.ite (!lintB v1)
                   (.ite (!lintB v2)
                    (.ret (.one (.v (.bool (!lintB { data := #[(45 : UInt8), (48 : UInt8)] })))))
                    (.ret (.one (.v (.bool (false))))))
                   (.ret (.one (.v (.bool (false))))))
                  (.ret (.one (.v (.bool (false))))))
                 (.ret (.one (.v (.bool (false))))))
                (.ret (.one (.v (.bool (false)))))))))))))))))))
theorem tr_lexints_eq (x : Els [(false, .int .i32)]) : fnP LC (fun _ => none) Tryd.f8 (encs [(false, .int .i32)] x) = tr_lexints x := by kernel_rfl
end Go.Proofs.YtjijakfcahhioabDoor
/-
LexInts: its run answers true.
-/
set_option linter.unusedSimpArgs false
set_option linter.unusedVariables false
namespace Go.Proofs.YtjijakfcahhioabDoor
open Go.RowKit Ax
theorem nd_le : ∀ (k u : Nat), u < 10 ^ (k + 1) → Lib.nDigits u ≤ k + 1
  | 0, u, h => by rw [Lib.nDigits_small (by simpa using h)]; exact Nat.le_refl _
  | k + 1, u, h => by
    by_cases h10 : u < 10
    · rw [Lib.nDigits_small h10]; omega
    · rw [Nat.pow_succ] at h
      have := nd_le k (u / 10) (by omega)
      rw [Lib.nDigits_big h10]; omega
theorem unm_itoa (v : Int) : unm (Lib.itoa v) = Lib.decDigits v.natAbs := by
  unfold Lib.itoa
  split
  · rfl
  · obtain ⟨c, r, e, h1, h2, h3⟩ := dec_head v.toNat
    have hc : c ≠ 45 := fun e => by subst e; exact absurd h1 (by decide)
    rw [show v.natAbs = v.toNat by omega, e, unm, if_neg hc]
theorem itoa_ne (v : Int) : Lib.itoa v ≠ [] := by
  intro e
  have h := unm_itoa v
  rw [e] at h
  obtain ⟨c, r, e2, _⟩ := dec_head v.natAbs
  rw [e2] at h
  cases h
theorem dec_pos (n : Nat) : 1 ≤ (Lib.decDigits n).length := by
  obtain ⟨c, r, e, _⟩ := dec_head n
  rw [e]; simp
theorem unm_app {l : List UInt8} (r : List UInt8) (h : l ≠ []) : unm (l ++ r) = unm l ++ r := by
  cases l with
  | nil => exact absurd rfl h
  | cons c t =>
    rw [List.cons_append, unm, unm]
    split <;> rfl
/-- a number of nine digits -/
theorem num9 {v : Int} (h : v.natAbs < 1000000000) : lintB (mkB (Lib.itoa v)) = true ∧ atoiV (mkB (Lib.itoa v)) = v := by
  have h9 : (unm (Lib.itoa v)).length ≤ 9 := by
    rw [unm_itoa, Lib.decDigits_length]
    exact nd_le 8 _ (by omega)
  obtain ⟨g1, g2⟩ := itoa_num h9
  have hb : lintB (mkB (Lib.itoa v)) = true := (lint_num _).1.trans g1
  exact ⟨hb, ((lint_num _).2 hb).trans g2⟩
theorem itoa_size {v : Int} (h : v.natAbs < 1000000000) : (mkB (Lib.itoa v)).size ≤ 10 := by
  show (Lib.itoa v).length ≤ 10
  have h9 : (Lib.decDigits v.natAbs).length ≤ 9 := by
    rw [Lib.decDigits_length]
    exact nd_le 8 _ (by omega)
  unfold Lib.itoa
  split
  · rw [List.length_cons]; omega
  · rw [show v.toNat = v.natAbs by omega]; omega
theorem num_zero (v : Int) : lintB (mkB (48 :: Lib.itoa v)) = false := by
  refine (lint_num _).1.trans ?_
  rw [data_mkB]
  obtain ⟨c, r, e⟩ : ∃ c r, Lib.itoa v = c :: r := by
    cases h : Lib.itoa v with
    | nil => exact absurd h (itoa_ne v)
    | cons c r => exact ⟨c, r, rfl⟩
  unfold numB
  rw [e]
  have hu : unm (48 :: c :: r) = 48 :: c :: r := rfl
  rw [hu]
  simp
theorem num_long (v : Int) (z : List UInt8) (hz : 9 ≤ z.length) : lintB (mkB (Lib.itoa v ++ z)) = false := by
  refine (lint_num _).1.trans ?_
  rw [data_mkB]
  unfold numB
  rw [unm_app _ (itoa_ne v), unm_itoa]
  have := dec_pos v.natAbs
  rw [decide_eq_false (show ¬ (Lib.decDigits v.natAbs ++ z).length ≤ 9 by rw [List.length_append]; omega), Bool.and_false]
  rfl
theorem num_x (v : Int) : lintB (mkB (Lib.itoa v ++ [120])) = false := by
  refine (lint_num _).1.trans ?_
  rw [data_mkB]
  unfold numB
  rw [unm_app _ (itoa_ne v), dgAll_app, show dgAll [120] = false from rfl, Bool.and_false, Bool.and_false]
theorem num_m0 : lintB ⟨#[45, 48]⟩ = false := numB_of _ _ (by kernel_rfl)
theorem lexints_wp (n : Int) (h0 : -2147483648 ≤ n) (h1 : n ≤ 2147483647) : (tr_lexints (n, ())).wp fun av => av = .one (.v (.bool true)) := by
  unfold tr_lexints
  simp only [T.wp]
  rw [IntWalk.i64_in n (by omega)]
  generalize hk : Int.tmod n 1000000000 = k
  have hka : k.natAbs < 1000000000 := by
    rw [← hk, Int.natAbs_tmod]
    exact Nat.mod_lt _ (by decide)
  obtain ⟨n1, n2⟩ := num9 hka
  have hs := itoa_size hka
  have e0 : ({ data := #[(48 : UInt8)] } : ByteArray) ++ mkB (Lib.itoa k) = mkB (48 :: Lib.itoa k) := by
    rw [show ({ data := #[(48 : UInt8)] } : ByteArray) = mkB [48] from rfl, mkB_app]; rfl
  have e1 : mkB (Lib.itoa k) ++ ({ data := #[(48 : UInt8), (48 : UInt8), (48 : UInt8), (48 : UInt8), (48 : UInt8), (48 : UInt8), (48 : UInt8), (48 : UInt8), (48 : UInt8)] } : ByteArray) = mkB (Lib.itoa k ++ [48, 48, 48, 48, 48, 48, 48, 48, 48]) := by
    rw [← mkB_app]; rfl
  have e2 : mkB (Lib.itoa k) ++ ({ data := #[(120 : UInt8)] } : ByteArray) = mkB (Lib.itoa k ++ [120]) := by
    rw [← mkB_app]; rfl
  rw [e0, e1, e2, n1, n2, num_zero, num_long _ _ (by decide), num_x, num_m0]
  have hl : (Lib.itoa k).length ≤ 10 := hs
  have z0 : (mkB (48 :: Lib.itoa k)).size ≤ 281474976710656 := by show (48 :: Lib.itoa k).length ≤ _; rw [List.length_cons]; omega
  have z1 : (mkB (Lib.itoa k ++ [48, 48, 48, 48, 48, 48, 48, 48, 48])).size ≤ 281474976710656 := by show (Lib.itoa k ++ _).length ≤ _; rw [List.length_append]; simp only [List.length_cons, List.length_nil]; omega
  have z2 : (mkB (Lib.itoa k ++ [120])).size ≤ 281474976710656 := by show (Lib.itoa k ++ _).length ≤ _; rw [List.length_append]; simp only [List.length_cons, List.length_nil]; omega
  refine ⟨fun h => Bool.noConfusion h, fun _ => ⟨by decide, ⟨show (-9223372036854775808 : Int) ≤ k by omega, show k ≤ 9223372036854775807 by omega⟩, by omega, ?_, z0, ?_, z1, ?_, z2, by decide, fun _ => ⟨fun _ => ⟨fun _ => ⟨fun _ => ⟨fun _ => rfl, fun h => Bool.noConfusion h⟩, fun h => Bool.noConfusion h⟩, fun h => Bool.noConfusion h⟩, fun h => ?_⟩, fun h => Bool.noConfusion h⟩⟩
  · show ((1 + (mkB (Lib.itoa k)).size : Nat) : Int) ≤ 9223372036854775807
    omega
  · show (((mkB (Lib.itoa k)).size + 9 : Nat) : Int) ≤ 9223372036854775807
    omega
  · show (((mkB (Lib.itoa k)).size + 1 : Nat) : Int) ≤ 9223372036854775807
    omega
  · simp at h
end Go.Proofs.YtjijakfcahhioabDoor
/-
LexEmpty: what its loop carries.
-/
set_option linter.unusedSimpArgs false
set_option linter.unusedVariables false
namespace Go.Proofs.YtjijakfcahhioabDoor
open Go.RowKit Ax
def noS : Value := .string ⟨#[]⟩
noncomputable def zeroS4 : Zero Tryd.prog := ⟨53, [.v noS, .v noS, .v noS, .v noS], [noS, noS, noS, noS], by kernel_rfl, fun w R σ => .v rfl (.v rfl (.v rfl (.v rfl .nil)))⟩
noncomputable def zeroS3 : Zero Tryd.prog := ⟨48, [.v noS, .v noS, .v noS], [noS, noS, noS], by kernel_rfl, fun w R σ => .v rfl (.v rfl (.v rfl .nil))⟩
noncomputable def LE : Env Tryd.prog := ⟨LA.con, zeroS4 :: zeroS3 :: LA.zero, LA.cod, LA.sure, LA.base, LA.frz⟩
abbrev spEm : LSpec := ⟨66, [(0, false, .int .u8), (1, false, .int .u8), (5, false, .str), (6, false, .int .i64)], [], [], fun e => match e with | .exit _ => [0, 5] | _ => []⟩
end Go.Proofs.YtjijakfcahhioabDoor
/-
LexEmpty: its loop's tree.
-/
set_option linter.unusedSimpArgs false
set_option linter.unusedVariables false
namespace Go.Proofs.YtjijakfcahhioabDoor
open Go.RowKit Ax
noncomputable def tr_lemL (x : LSpec.X spEm × LSpec.Y spEm) : T (Rd spEm) :=
 .need ((30 : Int) ≠ (0 : Int)) (.ite (decide (x.1.2.2.2.1 < IntKind.wrap .i64 (Int.tmod x.1.1 (30 : Int))))
   (.need ((4 : Int) ≠ (0 : Int)) (.need ((0 : Int) ≤ Int.tmod (IntKind.wrap .i64 (IntKind.wrap .i64 x.1.2.1 + x.1.2.2.2.1)) (4 : Int) ∧ Int.tmod (IntKind.wrap .i64 (IntKind.wrap .i64 x.1.2.1 + x.1.2.2.2.1)) (4 : Int) < (↑(4 : Nat) : Int)) (.ite (Int.tmod (IntKind.wrap .i64 (IntKind.wrap .i64 x.1.2.1 + x.1.2.2.2.1)) (4 : Int) == (↑(0 : Nat) : Int))
      (.need ((↑(ByteArray.size x.1.2.2.1 + ByteArray.size { data := #[(10 : UInt8)] }) : Int) ≤ IntKind.max .i64) (.lt (x.1.2.2.1 ++ { data := #[(10 : UInt8)] }) (fun v0 =>
        .ret (.again (x.1.1, (x.1.2.1, (v0, (IntKind.wrap .i64 (x.1.2.2.2.1 + (1 : Int)), ())))) ()))))
      (.ite (Int.tmod (IntKind.wrap .i64 (IntKind.wrap .i64 x.1.2.1 + x.1.2.2.2.1)) (4 : Int) == (↑((0 : Nat) + (1 : Nat)) : Int))
       (.need ((↑(ByteArray.size x.1.2.2.1 + ByteArray.size { data := #[(32 : UInt8), (32 : UInt8), (10 : UInt8)] }) : Int) ≤ IntKind.max .i64) (.lt (x.1.2.2.1 ++ { data := #[(32 : UInt8), (32 : UInt8), (10 : UInt8)] }) (fun v0 =>
         .ret (.again (x.1.1, (x.1.2.1, (v0, (IntKind.wrap .i64 (x.1.2.2.2.1 + (1 : Int)), ())))) ()))))
       (.ite (Int.tmod (IntKind.wrap .i64 (IntKind.wrap .i64 x.1.2.1 + x.1.2.2.2.1)) (4 : Int) == (↑((0 : Nat) + (1 : Nat) + (1 : Nat)) : Int))
        (.need ((↑(ByteArray.size x.1.2.2.1 + ByteArray.size { data := #[(35 : UInt8), (32 : UInt8), (119 : UInt8), (111 : UInt8), (114 : UInt8), (100 : UInt8), (115 : UInt8), (10 : UInt8)] }) : Int) ≤ IntKind.max .i64) (.lt (x.1.2.2.1 ++ { data := #[(35 : UInt8), (32 : UInt8), (119 : UInt8), (111 : UInt8), (114 : UInt8), (100 : UInt8), (115 : UInt8), (10 : UInt8)] }) (fun v0 =>
          .ret (.again (x.1.1, (x.1.2.1, (v0, (IntKind.wrap .i64 (x.1.2.2.2.1 + (1 : Int)), ())))) ()))))
        (.need ((↑(ByteArray.size x.1.2.2.1 + ByteArray.size { data := #[(9 : UInt8), (35 : UInt8), (13 : UInt8), (10 : UInt8)] }) : Int) ≤ IntKind.max .i64) (.lt (x.1.2.2.1 ++ { data := #[(9 : UInt8), (35 : UInt8), (13 : UInt8), (10 : UInt8)] }) (fun v0 =>
          .ret (.again (x.1.1, (x.1.2.1, (v0, (IntKind.wrap .i64 (x.1.2.2.2.1 + (1 : Int)), ())))) ())))))))))
   (.ret (.out (Go.Exit.exit (0 : Nat)) [(.one (.v (.int .u8 x.1.1))), (.one (.v (.string x.1.2.2.1)))] ())))
theorem tr_lemL_eq (x : LSpec.X spEm × LSpec.Y spEm) : LSpec.round spEm LE (fun _ => none) (bodyOf Tryd.f9 0) x.1 x.2 = tr_lemL x := by kernel_rfl
end Go.Proofs.YtjijakfcahhioabDoor
/-
LexEmpty: its loop.
-/
set_option linter.unusedSimpArgs false
set_option linter.unusedVariables false
namespace Go.Proofs.YtjijakfcahhioabDoor
open Go.RowKit Ax
def emp (k : Nat) : List UInt8 := if k % 4 = 0 then [10] else if k % 4 = 1 then [32, 32, 10] else if k % 4 = 2 then [35, 32, 119, 111, 114, 100, 115, 10] else [9, 35, 13, 10]
def emText (k : Nat) : Nat → List UInt8
  | 0 => []
  | n + 1 => emp k ++ emText (k + 1) n
theorem emp_length (k : Nat) : (emp k).length ≤ 8 := by
  unfold emp
  split
  · decide
  · split
    · decide
    · split <;> decide
theorem emText_length : ∀ (n k : Nat), (emText k n).length ≤ 8 * n
  | 0, k => Nat.le_refl 0
  | n + 1, k => by
    have := emp_length k
    have := emText_length n (k + 1)
    rw [emText, List.length_append]; omega
def outEm (x : LSpec.X spEm) (y : LSpec.Y spEm) : T (Exit × List Av × LSpec.Y spEm) :=
  .need (0 ≤ (x.1 : Int) ∧ (x.1 : Int) ≤ 255 ∧ 0 ≤ (x.2.1 : Int) ∧ (x.2.1 : Int) ≤ 255 ∧ 0 ≤ (x.2.2.2.1 : Int) ∧ (x.2.2.2.1 : Int) ≤ (Int.toNat x.1 % 30 : Nat) ∧ (ByteArray.size x.2.2.1 : Int) ≤ 8 * (x.2.2.2.1 : Int))
    (.ret (.exit 0, [.one (.v (.int .u8 x.1)), .one (.v (.string (mkB (Array.toList (ByteArray.data x.2.2.1) ++ emText (Int.toNat x.2.1 + Int.toNat x.2.2.2.1) (Int.toNat x.1 % 30 - Int.toNat x.2.2.2.1)))))], ()))
theorem em_step (n w i : Nat) (s : ByteArray) (p : ByteArray) (hp : p.data.toList = emp (w + i)) (h1 : n ≤ 255) (h2 : w ≤ 255) (h3 : i < n % 30) (h4 : s.size ≤ 8 * i) (Q : Exit × List Av × LSpec.Y spEm → Prop) (h : (outEm ((n : Int), (w : Int), s, (i : Int), ()) ()).wp Q) :
    (T.need (((s.size + p.size : Nat) : Int) ≤ IntKind.max .i64) (.lt (s ++ p) fun v => .ret (.again ((n : Int), (w : Int), v, IntKind.wrap .i64 ((i : Int) + 1), ()) ()) : T (Rd spEm))).wp fun r => match r with
      | .again x' y' => ((Int.toNat x'.1 % 30 : Nat) - Int.toNat x'.2.2.2.1) < n % 30 - i ∧ (outEm x' y').wp Q
      | .out e avs y' => Q (e, avs, y') := by
  have hps : p.size ≤ 8 := by rw [Lib.size_eq, hp]; exact emp_length _
  unfold outEm at h ⊢
  simp only [T.wp] at h ⊢
  dsimp only [El, vts, spEm] at h ⊢
  rw [IntWalk.i64_in ((i : Int) + 1) (by omega)]
  simp only [Int.toNat_natCast] at h ⊢
  have e1 : ((i : Int) + 1).toNat = i + 1 := by omega
  rw [e1]
  have hsz : (s ++ p).size = s.size + p.size := ByteArray.size_append
  have e2 : (s ++ p).data.toList = s.data.toList ++ emp (w + i) := by rw [ByteArray.data_append, Array.toList_append, hp]
  have e3 : n % 30 - i = (n % 30 - (i + 1)) + 1 := by omega
  have e4 : s.data.toList ++ emText (w + i) (n % 30 - i) = (s ++ p).data.toList ++ emText (w + (i + 1)) (n % 30 - (i + 1)) := by
    rw [e2, e3, emText, List.append_assoc]; rfl
  rw [e4] at h
  refine ⟨?_, by omega, ⟨by omega, by omega, by omega, by omega, by omega, by omega, by rw [hsz]; omega⟩, h.2⟩
  show _ ≤ (9223372036854775807 : Int)
  omega
theorem em_core (n w i : Int) (s : ByteArray) (Q : Exit × List Av × LSpec.Y spEm → Prop) (h : (outEm (n, w, s, i, ()) ()).wp Q) : (tr_lemL ((n, w, s, i, ()), ())).wp fun r => match r with
      | .again x' y' => ((Int.toNat x'.1 % 30 : Nat) - Int.toNat x'.2.2.2.1) < Int.toNat n % 30 - Int.toNat i ∧ (outEm x' y').wp Q
      | .out e avs y' => Q (e, avs, y') := by
  have h' := h
  unfold outEm at h
  simp only [T.wp] at h
  dsimp only [El, vts, spEm] at h
  obtain ⟨⟨a1, a2, a3, a4, a5, a6, a7⟩, hq⟩ := h
  obtain ⟨n, rfl⟩ : ∃ k : Nat, n = k := ⟨n.toNat, by omega⟩
  obtain ⟨w, rfl⟩ : ∃ k : Nat, w = k := ⟨w.toNat, by omega⟩
  obtain ⟨i, rfl⟩ : ∃ k : Nat, i = k := ⟨i.toNat, by omega⟩
  simp only [Int.toNat_natCast] at a6 hq ⊢
  unfold tr_lemL
  simp only [T.wp]
  dsimp only [El, vts, spEm]
  have t1 : Int.tmod (n : Int) 30 = ((n % 30 : Nat) : Int) := by rw [Int.tmod_eq_emod_of_nonneg (by omega)]; omega
  rw [t1, IntWalk.i64_in ((n % 30 : Nat) : Int) (by omega), IntWalk.i64_in (w : Int) (by omega), IntWalk.i64_in ((w : Int) + i) (by omega)]
  have t2 : Int.tmod ((w : Int) + i) 4 = (((w + i) % 4 : Nat) : Int) := by rw [Int.tmod_eq_emod_of_nonneg (by omega)]; omega
  rw [t2]
  refine ⟨by decide, fun hlt => ?_, fun hge => ?_⟩
  · have hlt : (i : Int) < ((n % 30 : Nat) : Int) := of_decide_eq_true hlt
    have stp := fun p hp => em_step n w i s p hp (by omega) (by omega) (by omega) (by omega) Q h'
    refine ⟨by decide, ⟨by omega, by omega⟩, fun e0 => ?_, fun n0 => ⟨fun e1 => ?_, fun n1 => ⟨fun e2 => ?_, fun n2 => ?_⟩⟩⟩
    · have e0 : (((w + i) % 4 : Nat) : Int) = ((0 : Nat) : Int) := by simpa only [beq_iff_eq] using e0
      exact stp ⟨#[10]⟩ (by unfold emp; rw [if_pos (by omega)])
    · have n0 : ¬ (((w + i) % 4 : Nat) : Int) = ((0 : Nat) : Int) := by simpa only [beq_eq_false_iff_ne, ne_eq] using n0
      have e1 : (((w + i) % 4 : Nat) : Int) = ((0 + 1 : Nat) : Int) := by simpa only [beq_iff_eq] using e1
      exact stp ⟨#[32, 32, 10]⟩ (by unfold emp; rw [if_neg (by omega), if_pos (by omega)])
    · have n0 : ¬ (((w + i) % 4 : Nat) : Int) = ((0 : Nat) : Int) := by simpa only [beq_eq_false_iff_ne, ne_eq] using n0
      have n1 : ¬ (((w + i) % 4 : Nat) : Int) = ((0 + 1 : Nat) : Int) := by simpa only [beq_eq_false_iff_ne, ne_eq] using n1
      have e2 : (((w + i) % 4 : Nat) : Int) = ((0 + 1 + 1 : Nat) : Int) := by simpa only [beq_iff_eq] using e2
      exact stp ⟨#[35, 32, 119, 111, 114, 100, 115, 10]⟩ (by unfold emp; rw [if_neg (by omega), if_neg (by omega), if_pos (by omega)])
    · have n0 : ¬ (((w + i) % 4 : Nat) : Int) = ((0 : Nat) : Int) := by simpa only [beq_eq_false_iff_ne, ne_eq] using n0
      have n1 : ¬ (((w + i) % 4 : Nat) : Int) = ((0 + 1 : Nat) : Int) := by simpa only [beq_eq_false_iff_ne, ne_eq] using n1
      have n2 : ¬ (((w + i) % 4 : Nat) : Int) = ((0 + 1 + 1 : Nat) : Int) := by simpa only [beq_eq_false_iff_ne, ne_eq] using n2
      exact stp ⟨#[9, 35, 13, 10]⟩ (by unfold emp; rw [if_neg (by omega), if_neg (by omega), if_neg (by omega)])
  · have hge : ¬ (i : Int) < ((n % 30 : Nat) : Int) := of_decide_eq_false hge
    rw [show n % 30 - i = 0 by omega, emText, List.append_nil, mkB_data] at hq
    exact hq
theorem emL_ok : LoopOk Tryd.prog 0 (bodyOf Tryd.f9 0) (spEm.run outEm) :=
  loop_ok (E := LE) (L := fun _ => none) mixed 0 (loops_none _ _ _) spEm (Nat.zero_le _) outEm (fun x _ => (Int.toNat x.1 % 30 : Nat) - Int.toNat x.2.2.2.1) (by
    rintro ⟨n, w, s, i, ⟨⟩⟩ ⟨⟩ Q h
    rw [tr_lemL_eq ((n, w, s, i, ()), ())]
    exact em_core n w i s Q h)
noncomputable def lpEm : Loops := oneL 5 (spEm.run outEm)
end Go.Proofs.YtjijakfcahhioabDoor
/-
LexEmpty: its tree.
-/
set_option linter.unusedSimpArgs false
set_option linter.unusedVariables false
namespace Go.Proofs.YtjijakfcahhioabDoor
open Go.RowKit Ax
noncomputable def tr_lexempty (x : Els [(false, .int .u8), (false, .int .u8)]) : T Av :=
 .ite (!true)
  (.ret (.one (.v (.bool (false)))))
  (.need ((0 : El (Cd.int .u8)) ≤ x.1 ∧ x.1 ≤ (255 : El (Cd.int .u8)) ∧ (0 : El (Cd.int .u8)) ≤ x.2.1 ∧ x.2.1 ≤ (255 : El (Cd.int .u8)) ∧ (0 : El (Cd.int .i64)) ≤ (0 : Int) ∧ (0 : Int) ≤ (↑(Int.toNat (x.1) % (30 : Nat)) : El (Cd.int .i64)) ∧ (↑(ByteArray.size { data := #[] }) : Int) ≤ (8 : Int) * (0 : Int)) (.need ((↑(ByteArray.size (mkB (Array.toList (ByteArray.data { data := #[] }) ++ emText (Int.toNat x.2.1 + Int.toNat (0 : Int)) (Int.toNat (x.1) % (30 : Nat) - Int.toNat (0 : Int)))) + ByteArray.size { data := #[(120 : UInt8), (32 : UInt8), (121 : UInt8)] }) : Int) ≤ IntKind.max .i64) (.lt (mkB (Array.toList (ByteArray.data { data := #[] }) ++ emText (Int.toNat x.2.1 + Int.toNat (0 : Int)) (Int.toNat (x.1) % (30 : Nat) - Int.toNat (0 : Int))) ++ { data := #[(120 : UInt8), (32 : UInt8), (121 : UInt8)] }) (fun v0 =>
     .need (LinesFit v0) (.need (LinesFit (mkB (Array.toList (ByteArray.data { data := #[] }) ++ emText (Int.toNat x.2.1 + Int.toNat (0 : Int)) (Int.toNat (x.1) % (30 : Nat) - Int.toNat (0 : Int))))) (.ite ((↑(List.length (linesOf (mkB (Array.toList (ByteArray.data { data := #[] }) ++ emText (Int.toNat x.2.1 + Int.toNat (0 : Int)) (Int.toNat (x.1) % (30 : Nat) - Int.toNat (0 : Int)))))) : Int) == (0 : Int))
        (.ite ((↑(List.length (linesOf v0)) : Int) == (1 : Int))
         (.get (linesOf v0) ((0 : Int)) (fun v1 =>
          .need ((30 : Int) ≠ (0 : Int)) (.ite (v1.1 == IntKind.wrap .i64 (IntKind.wrap .i64 (Int.tmod (x.1) (30 : Int)) + (1 : Int)))
            (.get (linesOf v0) ((0 : Int)) (fun v2 =>
             .ite ((↑(List.length v2.2) : Int) == (2 : Int))
              (.get (linesOf v0) ((0 : Int)) (fun v3 =>
               .get v3.2 ((0 : Int)) (fun v4 =>
                .ret (.one (.v (.bool (ByteArray.toList v4 == ByteArray.toList { data := #[(120 : UInt8)] })))))))
              (.ret (.one (.v (.bool (false)))))))
            (.ret (.one (.v (.bool (false))))))))
         (.ret (.one (.v (.bool (false))))))
        (.ret (.one (.v (.bool (false)))))))))))
theorem tr_lexempty_eq (x : Els [(false, .int .u8), (false, .int .u8)]) : fnP LE lpEm Tryd.f9 (encs [(false, .int .u8), (false, .int .u8)] x) = tr_lexempty x := by kernel_rfl
end Go.Proofs.YtjijakfcahhioabDoor
/-
LexEmpty: its run answers true.
-/
set_option linter.unusedSimpArgs false
set_option linter.unusedVariables false
namespace Go.Proofs.YtjijakfcahhioabDoor
open Go.RowKit Ax
theorem lf_line : ∀ (body cur r : List UInt8) (n : Int), (∀ c ∈ body, c ≠ 10) → lf cur (body ++ 10 :: r) n = one1 (cur ++ body) n ++ lf [] r (n + 1)
  | [], cur, r, n, _ => by rw [List.nil_append, lf, if_pos rfl, List.append_nil]
  | c :: b, cur, r, n, h => by
    rw [List.cons_append, lf, if_neg (h c (by simp)), lf_line b (cur ++ [c]) r n (fun d hd => h d (by simp [hd]))]
    simp
theorem emp_line (k : Nat) : ∃ b, emp k = b ++ [10] ∧ (∀ c ∈ b, c ≠ 10) ∧ wordsB b = [] := by
  unfold emp
  split
  · exact ⟨[], rfl, by simp, by kernel_rfl⟩
  · split
    · exact ⟨[32, 32], rfl, by decide, by kernel_rfl⟩
    · split
      · exact ⟨[35, 32, 119, 111, 114, 100, 115], rfl, by decide, by kernel_rfl⟩
      · exact ⟨[9, 35, 13], rfl, by decide, by kernel_rfl⟩
theorem lf_emp (k : Nat) (r : List UInt8) (n : Int) : lf [] (emp k ++ r) n = lf [] r (n + 1) := by
  obtain ⟨b, e, h1, h2⟩ := emp_line k
  rw [e, List.append_assoc, List.singleton_append, lf_line b [] r n h1, List.nil_append, one1, h2]
  rfl
theorem lf_emText : ∀ (m k : Nat) (r : List UInt8) (n : Int), lf [] (emText k m ++ r) n = lf [] r (n + m)
  | 0, k, r, n => by rw [emText, List.nil_append, Int.natCast_zero, Int.add_zero]
  | m + 1, k, r, n => by
    rw [emText, List.append_assoc, lf_emp, lf_emText m (k + 1) r (n + 1)]
    congr 1
    omega
theorem lf_xy (n : Int) : lf [] [120, 32, 121] n = [(n + 1, [mkB [120], mkB [121]])] := by
  show one1 [120, 32, 121] n = _
  unfold one1
  rw [show wordsB [120, 32, 121] = [mkB [120], mkB [121]] by kernel_rfl]
  rfl
theorem lf_none (n : Int) : lf [] [] n = [] := by
  show one1 [] n = _
  unfold one1
  rw [show wordsB [] = [] by kernel_rfl]
  rfl
theorem lexempty_wp (n w : Int) (hn : 0 ≤ n ∧ n ≤ 255) (hw : 0 ≤ w ∧ w ≤ 255) : (tr_lexempty (n, w, ())).wp fun av => av = .one (.v (.bool true)) := by
  obtain ⟨n, rfl⟩ : ∃ k : Nat, n = k := ⟨n.toNat, by omega⟩
  obtain ⟨w, rfl⟩ : ∃ k : Nat, w = k := ⟨w.toNat, by omega⟩
  unfold tr_lexempty
  simp only [T.wp]
  dsimp only [El]
  simp only [Int.toNat_natCast]
  rw [show Array.toList (ByteArray.data { data := #[] }) ++ emText (w + Int.toNat (0 : Int)) (n % 30 - Int.toNat (0 : Int)) = emText w (n % 30) from rfl]
  rw [show ({ data := #[(120 : UInt8), (32 : UInt8), (121 : UInt8)] } : ByteArray) = mkB [120, 32, 121] from rfl, mkB_app]
  have hl := emText_length (n % 30) w
  have L1 : linesOf (mkB (emText w (n % 30) ++ [120, 32, 121])) = [(((n % 30 : Nat) : Int) + 1, [mkB [120], mkB [121]])] := by
    rw [linesOf_lf, data_mkB, lf_emText, lf_xy, Int.zero_add]
  have L2 : linesOf (mkB (emText w (n % 30))) = [] := by
    have := lf_emText (n % 30) w [] 0
    rw [List.append_nil] at this
    rw [linesOf_lf, data_mkB, this, lf_none]
  rw [L1, L2]
  have s1 : (mkB (emText w (n % 30))).size ≤ 240 := by
    show (emText w (n % 30)).length ≤ 240
    omega
  have s2 : (mkB (emText w (n % 30) ++ [120, 32, 121])).size ≤ 243 := by
    show (emText w (n % 30) ++ [120, 32, 121]).length ≤ 243
    rw [List.length_append]; simp only [List.length_cons, List.length_nil]; omega
  have t1 : Int.tmod (n : Int) 30 = ((n % 30 : Nat) : Int) := by rw [Int.tmod_eq_emod_of_nonneg (by omega)]; omega
  rw [t1, IntWalk.i64_in ((n % 30 : Nat) : Int) (by omega), IntWalk.i64_in (((n % 30 : Nat) : Int) + 1) (by omega)]
  refine ⟨fun h => Bool.noConfusion h, fun _ => ⟨⟨by omega, hn.2, by omega, hw.2, by omega, by omega, by decide⟩, ?_, fit_of _ (by omega), fit_of _ (by omega), fun _ => ⟨fun _ => ⟨_, Int.le_refl 0, rfl, by decide, fun _ => ⟨_, Int.le_refl 0, rfl, fun _ => ⟨_, Int.le_refl 0, rfl, _, Int.le_refl 0, rfl, ?_⟩, fun h => ?_⟩, fun h => ?_⟩, fun h => ?_⟩, fun h => ?_⟩⟩
  · show (((mkB (emText w (n % 30))).size + 3 : Nat) : Int) ≤ 9223372036854775807
    omega
  · rw [show (ByteArray.toList (mkB [120]) == ByteArray.toList ⟨#[120]⟩) = true by rw [bytes_beq]; exact decide_eq_true rfl]
  · simp at h
  · simp at h
  · simp at h
  · simp at h
end Go.Proofs.YtjijakfcahhioabDoor
/-
LexWords: what its loops carry.
-/
set_option linter.unusedSimpArgs false
set_option linter.unusedVariables false
namespace Go.Proofs.YtjijakfcahhioabDoor
open Go.RowKit Ax
abbrev cSS : Cd := .sl (.sl .str)
abbrev spWJ : RSpec := ⟨125, [(0, false, cSS), (2, false, .bool), (7, false, .str), (8, false, .str), (10, false, .int .i64), (11, false, .int .i64), (12, false, .str), (13, false, .int .i64)], [], [], fun e => match e with | .ret => [6] | .exit _ => [0, 2, 7, 8, 10, 11, 12] | _ => [], 9, 50, cL, false, fun _ => 9⟩
abbrev spWK : RSpec := ⟨125, [(0, false, cSS), (2, false, .bool), (7, false, .str), (8, false, .str), (10, false, .int .i64), (11, false, .int .i64)], [], [], fun e => match e with | .ret => [6] | .exit _ => [0, 2, 7, 8, 10] | _ => [], 9, 50, cL, false, fun _ => 9⟩
abbrev spWO : RSpec := ⟨125, [(0, false, cSS), (2, false, .bool), (7, false, .str), (8, false, .str), (10, false, .int .i64)], [], [], fun e => match e with | .ret => [6] | .exit _ => [8] | _ => [], 9, 50, cL, false, fun _ => 9⟩
end Go.Proofs.YtjijakfcahhioabDoor
/-
LexWords: the innermost loop.
-/
set_option linter.unusedSimpArgs false
set_option linter.unusedVariables false
namespace Go.Proofs.YtjijakfcahhioabDoor
open Go.RowKit Ax
abbrev SS := List (List ByteArray)
def jBad (g : GL) : T (RRd spWJ) := .need (gnd (gl g) g) (.ret (.out Exit.ret [.one (.v (.bool true))] () g))
def jAgain (l : SS) (m : Bool) (b s : ByteArray) (i k : Int) (w : ByteArray) (j : Int) (g : GL) : T (RRd spWJ) := .need (gnd (gl g) g) (.ret (.again (l, m, b, s, i, k, w, IntKind.wrap .i64 (j + (1 : Int)), ()) () g))
def jTest (w : ByteArray) (j : Int) (g : GL) (z : Int) (K : T (RRd spWJ)) : T (RRd spWJ) := .get (Array.toList (ByteArray.data w)) j fun c => .ite ((UInt8.toNat c : Int) == z) (jBad g) K
def jAvs (l : SS) (m : Bool) (b s : ByteArray) (i k : Int) (w : ByteArray) : List Av := [.one (.ds (.sl .str) l), .one (.v (.bool m)), .one (.v (.string b)), .one (.v (.string s)), .one (.v (.int .i64 i)), .one (.v (.int .i64 k)), .one (.v (.string w))]
def jRound (l : SS) (m : Bool) (b s : ByteArray) (i k : Int) (w : ByteArray) (j : Int) (g : GL) : T (RRd spWJ) := .ite (decide (j < (ByteArray.size w : Int)))
  (jTest w j g 32 (jTest w j g 35 (jTest w j g 9 (jTest w j g 10 (jTest w j g 13 (jAgain l m b s i k w j g))))))
  (.need (gnd (gl g) g) (.ret (.out (Exit.exit 4) (jAvs l m b s i k w) () g)))
theorem tr_wjL_eq (l : SS) (m : Bool) (b s : ByteArray) (i k : Int) (w : ByteArray) (j : Int) (xs : List (Int × List ByteArray)) (cap : Nat) : RSpec.round spWJ LE (fun _ => none) (innerOf (innerOf (bodyOf Tryd.f7 0) 0) 0) (l, m, b, s, i, k, w, j, ()) () (some (xs, cap)) = jRound l m b s i k w j (some (xs, cap)) := by kernel_rfl
theorem tr_wjL0_eq (l : SS) (m : Bool) (b s : ByteArray) (i k : Int) (w : ByteArray) (j : Int) : RSpec.round spWJ LE (fun _ => none) (innerOf (innerOf (bodyOf Tryd.f7 0) 0) 0) (l, m, b, s, i, k, w, j, ()) () none = jRound l m b s i k w j none := by kernel_rfl
/-- a byte of a word -/
def okB (c : UInt8) : Bool := !(c.toNat == 32 || c.toNat == 35 || c.toNat == 9 || c.toNat == 10 || c.toNat == 13)
def outWJ (x : RSpec.X spWJ) (y : RSpec.Y spWJ) (g : GL) : T (Exit × List Av × RSpec.Y spWJ × GL) :=
  .need (0 ≤ (x.2.2.2.2.2.2.2.1 : Int) ∧ ByteArray.size x.2.2.2.2.2.2.1 ≤ 9223372036854775807)
    (.ite ((List.drop (Int.toNat x.2.2.2.2.2.2.2.1) (Array.toList (ByteArray.data x.2.2.2.2.2.2.1))).all okB) (.ret (.exit 4, jAvs x.1 x.2.1 x.2.2.1 x.2.2.2.1 x.2.2.2.2.1 x.2.2.2.2.2.1 x.2.2.2.2.2.2.1, (), g)) (.ret (.ret, [.one (.v (.bool true))], (), g)))
theorem okB_eq (c : UInt8) : okB c = decide (¬ (c.toNat = 32 ∨ c.toNat = 35 ∨ c.toNat = 9 ∨ c.toNat = 10 ∨ c.toNat = 13)) := by
  unfold okB
  rw [Bool.eq_iff_iff]
  simp
  omega
theorem wj_core (l : SS) (m : Bool) (b s : ByteArray) (i k : Int) (w : ByteArray) (j : Int) (g : GL) (Q : Exit × List Av × RSpec.Y spWJ × GL → Prop) (h : (outWJ (l, m, b, s, i, k, w, j, ()) () g).wp Q) : (jRound l m b s i k w j g).wp fun r => match r with
      | .again x' y' g' => (ByteArray.size x'.2.2.2.2.2.2.1 - Int.toNat x'.2.2.2.2.2.2.2.1) < w.size - j.toNat ∧ (outWJ x' y' g').wp Q
      | .out e avs y' g' => Q (e, avs, y', g') := by
  have hsz : w.data.toList.length = w.size := (Lib.size_eq w).symm
  unfold outWJ at h
  simp only [T.wp] at h
  dsimp only [El, vts, spWJ] at h
  obtain ⟨⟨j0, hs⟩, hy, hz⟩ := h
  unfold jRound jTest jBad jAgain outWJ
  simp only [T.wp]
  dsimp only [El, vts, spWJ]
  refine ⟨fun hlt => ?_, fun hge => ⟨gnd_gl g, ?_⟩⟩
  · have hlt := of_decide_eq_true hlt
    obtain ⟨c, hc⟩ := elem_at (l := w.data.toList) j0 (by omega)
    rw [drop_at j0 hc, List.all_cons] at hy hz
    have bad : (c.toNat = 32 ∨ c.toNat = 35 ∨ c.toNat = 9 ∨ c.toNat = 10 ∨ c.toNat = 13) → gnd (gl g) g ∧ Q (Exit.ret, [Av.one (.v (.bool true))], (), g) := fun hb => ⟨gnd_gl g, hz (by rw [okB_eq, decide_eq_false (by omega)]; rfl)⟩
    have nn : ∀ z : Nat, ((c.toNat : Int) == (z : Int)) = true → c.toNat = z := fun z h => by
      have : (c.toNat : Int) = z := by simpa only [beq_iff_eq] using h
      omega
    have nz : ∀ z : Nat, ((c.toNat : Int) == (z : Int)) = false → c.toNat ≠ z := fun z h e => by
      have : ¬ (c.toNat : Int) = z := by simpa only [beq_eq_false_iff_ne, ne_eq] using h
      omega
    refine ⟨c, j0, hc, fun h => bad (.inl (nn 32 h)), fun a1 => ⟨c, j0, hc, fun h => bad (.inr (.inl (nn 35 h))), fun a2 => ⟨c, j0, hc, fun h => bad (.inr (.inr (.inl (nn 9 h)))), fun a3 => ⟨c, j0, hc, fun h => bad (.inr (.inr (.inr (.inl (nn 10 h))))), fun a4 => ⟨c, j0, hc, fun h => bad (.inr (.inr (.inr (.inr (nn 13 h))))), fun a5 => ?_⟩⟩⟩⟩⟩
    have h1 := nz 32 a1
    have h2 := nz 35 a2
    have h3 := nz 9 a3
    have h4 := nz 10 a4
    have h5 := nz 13 a5
    rw [okB_eq, decide_eq_true (by omega), Bool.true_and] at hy hz
    rw [IntWalk.i64_in (j + 1) (by omega)]
    exact ⟨gnd_gl g, by omega, ⟨by omega, hs⟩, hy, hz⟩
  · have hge := of_decide_eq_false hge
    rw [drop_end (by omega)] at hy
    exact hy rfl
theorem wjL_ok (n : Nat) (hn : n ≤ 0) : LoopOk Tryd.prog n (innerOf (innerOf (bodyOf Tryd.f7 0) 0) 0) (spWJ.run outWJ) :=
  loopR_ok (E := LE) (L := fun _ => none) mixed n (loops_none _ _ _) spWJ (by exact hn) outWJ (fun x _ _ => ByteArray.size x.2.2.2.2.2.2.1 - Int.toNat x.2.2.2.2.2.2.2.1) (by
    rintro ⟨l, m, b, s, i, k, w, j, ⟨⟩⟩ ⟨⟩ g Q h
    match g, h with
    | some (xs, cap), h =>
      rw [tr_wjL_eq l m b s i k w j xs cap]
      exact wj_core l m b s i k w j (some (xs, cap)) Q h
    | none, h =>
      rw [tr_wjL0_eq l m b s i k w j]
      exact wj_core l m b s i k w j none Q h)
noncomputable def lpWJ : Loops := manyL [(18, spWJ.run outWJ)]
end Go.Proofs.YtjijakfcahhioabDoor
/-
LexWords: the loop over a line's words.
-/
set_option linter.unusedSimpArgs false
set_option linter.unusedVariables false
namespace Go.Proofs.YtjijakfcahhioabDoor
open Go.RowKit Ax
def kNeed (g : GL) (K : T (RRd spWK)) : T (RRd spWK) := .need (gnd (gl g) g) K
def kBad (g : GL) : T (RRd spWK) := kNeed g (.ret (.out Exit.ret [.one (.v (.bool true))] () g))
def kAvs (l : SS) (m : Bool) (b s : ByteArray) (i : Int) : List Av := [.one (.ds (.sl .str) l), .one (.v (.bool m)), .one (.v (.string b)), .one (.v (.string s)), .one (.v (.int .i64 i))]
def kRound (l : SS) (m : Bool) (b s : ByteArray) (i k : Int) (g : GL) : T (RRd spWK) := .get l i fun v0 => .ite (decide (k < (List.length v0 : Int)))
  (.get l i fun v1 => .get v1 k fun w => kNeed g (.need ((0 : Int) ≤ 0 ∧ ByteArray.size w ≤ 9223372036854775807) (.ite (List.all (List.drop (Int.toNat (0 : Int)) (Array.toList (ByteArray.data w))) okB)
    (.ite ((ByteArray.size w : Int) == 0) (kBad g) (.ite (decide ((ByteArray.size w : Int) > 12)) (kBad g)
      (.need (((ByteArray.size s + ByteArray.size b : Nat) : Int) ≤ IntKind.max .i64) (.lt (s ++ b) fun v3 => .need (((ByteArray.size v3 + ByteArray.size w : Nat) : Int) ≤ IntKind.max .i64) (.lt (v3 ++ w) fun v4 => kNeed g (.ret (.again (l, m, b, v4, i, IntKind.wrap .i64 (k + (1 : Int)), ()) () g)))))))
    (kBad g))))
  (kNeed g (.ret (.out (Exit.exit 2) (kAvs l m b s i) () g)))
theorem tr_wkL_eq (l : SS) (m : Bool) (b s : ByteArray) (i k : Int) (xs : List (Int × List ByteArray)) (cap : Nat) : RSpec.round spWK LE lpWJ (innerOf (bodyOf Tryd.f7 0) 0) (l, m, b, s, i, k, ()) () (some (xs, cap)) = kRound l m b s i k (some (xs, cap)) := by kernel_rfl
theorem tr_wkL0_eq (l : SS) (m : Bool) (b s : ByteArray) (i k : Int) : RSpec.round spWK LE lpWJ (innerOf (bodyOf Tryd.f7 0) 0) (l, m, b, s, i, k, ()) () none = kRound l m b s i k none := by kernel_rfl
def lineAt (l : SS) (i : Int) : List ByteArray := (l[i.toNat]?).getD []
theorem lineAt_eq {l : SS} {i : Int} {ws : List ByteArray} (h : l[i.toNat]? = some ws) : lineAt l i = ws := by unfold lineAt; rw [h]; rfl
def goodW (w : ByteArray) : Bool := w.data.toList.all okB && (decide (1 ≤ w.size) && decide (w.size ≤ 12))
def sApp (s b : ByteArray) (ws : List ByteArray) : ByteArray := mkB (s.data.toList ++ ws.flatMap fun w => b.data.toList ++ w.data.toList)
def outWK (x : RSpec.X spWK) (y : RSpec.Y spWK) (g : GL) : T (Exit × List Av × RSpec.Y spWK × GL) :=
  .need (0 ≤ (x.2.2.2.2.1 : Int) ∧ (x.2.2.2.2.1 : Int) < (List.length x.1 : Int) ∧ 0 ≤ (x.2.2.2.2.2.1 : Int) ∧ (lineAt x.1 x.2.2.2.2.1).length ≤ 6 ∧ (x.2.2.2.2.2.1 : Int) ≤ ((lineAt x.1 x.2.2.2.2.1).length : Int) ∧ (∀ w ∈ lineAt x.1 x.2.2.2.2.1, w.size ≤ 9223372036854775807) ∧ (ByteArray.size x.2.2.2.1 : Int) + 20 * ((lineAt x.1 x.2.2.2.2.1).length - (x.2.2.2.2.2.1 : Int)) ≤ 100000 ∧ ByteArray.size x.2.2.1 ≤ 3)
    (.ite (((lineAt x.1 x.2.2.2.2.1).drop (Int.toNat x.2.2.2.2.2.1)).all goodW) (.ret (.exit 2, kAvs x.1 x.2.1 x.2.2.1 (sApp x.2.2.2.1 x.2.2.1 ((lineAt x.1 x.2.2.2.2.1).drop (Int.toNat x.2.2.2.2.2.1))) x.2.2.2.2.1, (), g)) (.ret (.ret, [.one (.v (.bool true))], (), g)))
theorem sApp_cons (s b w : ByteArray) (ws : List ByteArray) : sApp s b (w :: ws) = sApp (s ++ b ++ w) b ws := by
  unfold sApp
  rw [List.flatMap_cons, ByteArray.data_append, ByteArray.data_append, Array.toList_append, Array.toList_append]
  simp only [List.append_assoc]
theorem sApp_nil (s b : ByteArray) : sApp s b [] = s := by
  unfold sApp
  rw [List.flatMap_nil, List.append_nil, mkB_data]
theorem wk_core (l : SS) (m : Bool) (b s : ByteArray) (i k : Int) (g : GL) (Q : Exit × List Av × RSpec.Y spWK × GL → Prop) (h : (outWK (l, m, b, s, i, k, ()) () g).wp Q) : (kRound l m b s i k g).wp fun r => match r with
      | .again x' y' g' => ((lineAt x'.1 x'.2.2.2.2.1).length - Int.toNat x'.2.2.2.2.2.1) < (lineAt l i).length - k.toNat ∧ (outWK x' y' g').wp Q
      | .out e avs y' g' => Q (e, avs, y', g') := by
  unfold outWK at h
  simp only [T.wp] at h
  dsimp only [El, vts, spWK] at h
  obtain ⟨⟨i0, i1, k0, h6, k1, hw, hs, hb⟩, hy, hz⟩ := h
  obtain ⟨ws, hws⟩ := elem_at (l := l) i0 i1
  have ew := lineAt_eq hws
  rw [ew] at h6 k1 hw hs hy hz
  unfold kRound kBad kNeed outWK
  simp only [T.wp]
  dsimp only [El, vts, spWK]
  rw [ew]
  refine ⟨ws, i0, hws, fun hlt => ?_, fun hge => ⟨gnd_gl g, ?_⟩⟩
  · have hlt : k < (ws.length : Int) := of_decide_eq_true hlt
    obtain ⟨w, hk⟩ := elem_at (l := ws) k0 hlt
    have hwm := hw w (List.mem_of_getElem? hk)
    rw [drop_at k0 hk, List.all_cons] at hy hz
    have bad : goodW w = false → gnd (gl g) g ∧ Q (Exit.ret, [Av.one (.v (.bool true))], (), g) := fun hb => ⟨gnd_gl g, hz (by rw [hb]; rfl)⟩
    refine ⟨ws, i0, hws, w, k0, hk, gnd_gl g, ⟨Int.le_refl 0, hwm⟩, fun hok => ⟨fun he => bad ?_, fun hne => ⟨fun hgt => bad ?_, fun hle => ?_⟩⟩, fun hno => bad ?_⟩
    · have he : w.size = 0 := by
        have : (w.size : Int) = 0 := by simpa only [beq_iff_eq] using he
        omega
      unfold goodW
      rw [he]; simp
    · have hgt : (w.size : Int) > 12 := of_decide_eq_true hgt
      unfold goodW
      rw [decide_eq_false (show ¬ w.size ≤ 12 by omega)]; simp
    · have hle : ¬ (w.size : Int) > 12 := of_decide_eq_false hle
      have hne : ¬ (w.size : Int) = 0 := by simpa only [beq_eq_false_iff_ne, ne_eq] using hne
      have hok : w.data.toList.all okB = true := hok
      have hg : goodW w = true := by
        unfold goodW
        rw [hok, decide_eq_true (show 1 ≤ w.size by omega), decide_eq_true (show w.size ≤ 12 by omega)]; rfl
      rw [hg, Bool.true_and, sApp_cons] at hy
      rw [hg, Bool.true_and] at hz
      rw [IntWalk.i64_in (k + 1) (by omega)]
      have z1 : (s ++ b).size = s.size + b.size := ByteArray.size_append
      have z2 : (s ++ b ++ w).size = s.size + b.size + w.size := by rw [ByteArray.size_append, z1]
      refine ⟨?_, ?_, gnd_gl g, by omega, ⟨i0, i1, by omega, h6, by omega, hw, by rw [z2]; omega, hb⟩, hy, hz⟩
      · show ((s.size + b.size : Nat) : Int) ≤ 9223372036854775807
        omega
      · show (((s ++ b).size + w.size : Nat) : Int) ≤ 9223372036854775807
        omega
    · have hno : w.data.toList.all okB = false := hno
      unfold goodW
      rw [hno]; rfl
  · have hge : ¬ k < (ws.length : Int) := of_decide_eq_false hge
    rw [drop_end (by omega), sApp_nil] at hy
    exact hy rfl
theorem wkL_ok (n : Nat) (hn : n ≤ 0) : LoopOk Tryd.prog n (innerOf (bodyOf Tryd.f7 0) 0) (spWK.run outWK) :=
  loopR_ok (E := LE) (L := lpWJ) mixed n (inner_one (by kernel_rfl) (wjL_ok n hn)) spWK (by exact hn) outWK (fun x _ _ => (lineAt x.1 x.2.2.2.2.1).length - Int.toNat x.2.2.2.2.2.1) (by
    rintro ⟨l, m, b, s, i, k, ⟨⟩⟩ ⟨⟩ g Q h
    match g, h with
    | some (xs, cap), h =>
      rw [tr_wkL_eq l m b s i k xs cap]
      exact wk_core l m b s i k (some (xs, cap)) Q h
    | none, h =>
      rw [tr_wkL0_eq l m b s i k]
      exact wk_core l m b s i k none Q h)
noncomputable def lpWK : Loops := manyL [(14, spWK.run outWK)]
end Go.Proofs.YtjijakfcahhioabDoor
/-
LexWords: the loop over lines.
-/
set_option linter.unusedSimpArgs false
set_option linter.unusedVariables false
namespace Go.Proofs.YtjijakfcahhioabDoor
open Go.RowKit Ax
def oNeed (n : Nat) (g : GL) (K : T (RRd spWO)) : T (RRd spWO) := .need (gnd n g) K
def oBad (g : GL) : T (RRd spWO) := oNeed (gl g) g (.ret (.out Exit.ret [.one (.v (.bool true))] () g))
def oAdd (a b : ByteArray) (K : ByteArray → T (RRd spWO)) : T (RRd spWO) := .need (((ByteArray.size a + ByteArray.size b : Nat) : Int) ≤ IntKind.max .i64) (.lt (a ++ b) K)
def oTail (l : SS) (m : Bool) (b : ByteArray) (i : Int) (t : ByteArray) (n : Nat) (g : GL) : T (RRd spWO) := .ite m
  (oAdd t b fun v => oAdd v ⟨#[35, 32, 97, 32, 98]⟩ fun v => oAdd v ⟨#[10]⟩ fun v => oNeed n g (.ret (.again (l, m, b, v, IntKind.wrap .i64 (i + (1 : Int)), ()) () g)))
  (oAdd t ⟨#[10]⟩ fun v => oNeed n g (.ret (.again (l, m, b, v, IntKind.wrap .i64 (i + (1 : Int)), ()) () g)))
def oRound (l : SS) (m : Bool) (b s : ByteArray) (i : Int) (g : GL) : T (RRd spWO) := .ite (decide (i < (List.length l : Int)))
  (.get l i fun v0 => .ite (decide ((List.length v0 : Int) > 6)) (oBad g)
    (oNeed (gl g) g (.need ((0 : Int) ≤ i ∧ i < (List.length l : Int) ∧ (0 : Int) ≤ 0 ∧ (lineAt l i).length ≤ 6 ∧ (0 : Int) ≤ ((lineAt l i).length : Int) ∧ (∀ w ∈ lineAt l i, ByteArray.size w ≤ 9223372036854775807) ∧ (ByteArray.size s : Int) + 20 * (((lineAt l i).length : Int) - 0) ≤ 100000 ∧ ByteArray.size b ≤ 3)
      (.ite (List.all (List.drop (Int.toNat (0 : Int)) (lineAt l i)) goodW)
        (.get l i fun v1 => .ite (decide ((List.length v1 : Int) > 0))
          (.get l i fun v2 => appG 31 g (IntKind.wrap .i64 (i + (1 : Int)), v2) (oTail l m b i (sApp s b (List.drop (Int.toNat (0 : Int)) (lineAt l i)))))
          (oTail l m b i (sApp s b (List.drop (Int.toNat (0 : Int)) (lineAt l i))) (gl g) g))
        (oBad g)))))
  (oNeed (gl g) g (.ret (.out (Exit.exit 0) [.one (.v (.string s))] () g)))
theorem tr_woL_eq (l : SS) (m : Bool) (b s : ByteArray) (i : Int) (xs : List (Int × List ByteArray)) (cap : Nat) : RSpec.round spWO LE lpWK (bodyOf Tryd.f7 0) (l, m, b, s, i, ()) () (some (xs, cap)) = oRound l m b s i (some (xs, cap)) := by kernel_rfl
theorem tr_woL0_eq (l : SS) (m : Bool) (b s : ByteArray) (i : Int) : RSpec.round spWO LE lpWK (bodyOf Tryd.f7 0) (l, m, b, s, i, ()) () none = oRound l m b s i none := by kernel_rfl
def goodL (ws : List ByteArray) : Bool := decide (ws.length ≤ 6) && ws.all goodW
def lineBytes (b : List UInt8) (m : Bool) (ws : List ByteArray) : List UInt8 := (ws.flatMap fun w => b ++ w.data.toList) ++ ((if m = true then b ++ [35, 32, 97, 32, 98] else []) ++ [10])
def textB (b : List UInt8) (m : Bool) (l : SS) : List UInt8 := l.flatMap (lineBytes b m)
def wTill : SS → Int → LL
  | [], _ => []
  | ws :: r, i => if goodL ws = true then (if ws.length > 0 then [(i + 1, ws)] else []) ++ wTill r (i + 1) else []
def outWO (x : RSpec.X spWO) (y : RSpec.Y spWO) (g : GL) : T (Exit × List Av × RSpec.Y spWO × GL) :=
  .need (0 ≤ (x.2.2.2.2.1 : Int) ∧ List.length x.1 ≤ 10 ∧ (∀ ws ∈ (x.1 : SS), ws.length ≤ 9223372036854775807 ∧ ∀ w ∈ ws, w.size ≤ 9223372036854775807) ∧ (ByteArray.size x.2.2.2.1 : Int) ≤ 200 * (x.2.2.2.2.1 : Int) ∧ (List.length (gx g) : Int) ≤ (x.2.2.2.2.1 : Int) ∧ ByteArray.size x.2.2.1 ≤ 3)
    (.ite ((List.drop (Int.toNat x.2.2.2.2.1) (x.1 : SS)).all goodL) (finG (Exit.exit 0) [.one (.v (.string (mkB (Array.toList (ByteArray.data x.2.2.2.1) ++ textB (Array.toList (ByteArray.data x.2.2.1)) x.2.1 (List.drop (Int.toNat x.2.2.2.2.1) (x.1 : SS))))))] () g (wTill (List.drop (Int.toNat x.2.2.2.2.1) (x.1 : SS)) x.2.2.2.2.1))
      (finG Exit.ret [.one (.v (.bool true))] () g (wTill (List.drop (Int.toNat x.2.2.2.2.1) (x.1 : SS)) x.2.2.2.2.1)))
theorem flat_size (b : ByteArray) : ∀ ws : List ByteArray, ws.all goodW = true → (ws.flatMap fun w => b.data.toList ++ w.data.toList).length ≤ ws.length * (b.size + 12)
  | [], _ => by simp
  | w :: r, h => by
    rw [List.all_cons, Bool.and_eq_true] at h
    have ih := flat_size b r h.2
    have hw := h.1
    unfold goodW at hw
    simp only [Bool.and_eq_true, decide_eq_true_eq] at hw
    have := hw.2.2
    rw [Lib.size_eq] at this
    have hb := Lib.size_eq b
    rw [List.flatMap_cons, List.length_append, List.length_append, List.length_cons, Nat.add_mul, Nat.one_mul]
    omega
theorem data_app (a b : ByteArray) : (a ++ b).data.toList = a.data.toList ++ b.data.toList := by rw [ByteArray.data_append, Array.toList_append]
theorem oTail_ok (l : SS) (m : Bool) (b s : ByteArray) (i : Int) (ws : List ByteArray) (n : Nat) (g : GL) (Q : Exit × List Av × RSpec.Y spWO × GL → Prop) (i0 : 0 ≤ i) (i1 : i < (l.length : Int)) (hl : l.length ≤ 10) (hm : ∀ ws ∈ l, ws.length ≤ 9223372036854775807 ∧ ∀ w ∈ ws, w.size ≤ 9223372036854775807) (hs : (s.size : Int) ≤ 200 * i) (hb : b.size ≤ 3)
    (hw : ws.all goodW = true) (h6 : ws.length ≤ 6) (hn : gnd n g) (hg : ((gx g).length : Int) ≤ i + 1)
    (hy : (l.drop (i + 1).toNat).all goodL = true → (finG (Exit.exit 0) [.one (.v (.string (mkB (s.data.toList ++ (lineBytes b.data.toList m ws ++ textB b.data.toList m (l.drop (i + 1).toNat))))))] () g (wTill (l.drop (i + 1).toNat) (i + 1))).wp Q)
    (hz : (l.drop (i + 1).toNat).all goodL = false → (finG Exit.ret [.one (.v (.bool true))] () g (wTill (l.drop (i + 1).toNat) (i + 1))).wp Q) :
    (oTail l m b i (sApp s b ws) n g).wp fun r => match r with
      | .again x' y' g' => (List.length x'.1 - Int.toNat x'.2.2.2.2.1) < l.length - i.toNat ∧ (outWO x' y' g').wp Q
      | .out e avs y' g' => Q (e, avs, y', g') := by
  have hf := flat_size b ws hw
  have hss : (sApp s b ws).size ≤ s.size + 90 := by
    show (s.data.toList ++ _).length ≤ _
    rw [List.length_append, ← Lib.size_eq]
    have : ws.length * (b.size + 12) ≤ 6 * 15 := Nat.mul_le_mul h6 (by omega)
    omega
  have hsd : (sApp s b ws).data.toList = s.data.toList ++ ws.flatMap fun w => b.data.toList ++ w.data.toList := rfl
  have fin : ∀ v : ByteArray, v.data.toList = s.data.toList ++ lineBytes b.data.toList m ws → v.size ≤ s.size + 99 → (oNeed n g (.ret (.again (l, m, b, v, IntKind.wrap .i64 (i + (1 : Int)), ()) () g))).wp fun r => match r with
      | .again x' y' g' => (List.length x'.1 - Int.toNat x'.2.2.2.2.1) < l.length - i.toNat ∧ (outWO x' y' g').wp Q
      | .out e avs y' g' => Q (e, avs, y', g') := fun v hv hvs => by
    unfold oNeed outWO
    simp only [T.wp]
    dsimp only [El, vts, spWO]
    rw [IntWalk.i64_in (i + 1) (by omega), hv, List.append_assoc]
    exact ⟨hn, by omega, ⟨by omega, hl, hm, by omega, hg, hb⟩, hy, hz⟩
  unfold oTail oAdd
  simp only [T.wp]
  refine ⟨fun h => ?_, fun h => ?_⟩
  · subst h
    have z1 : (sApp s b ws ++ b).size = (sApp s b ws).size + b.size := ByteArray.size_append
    have z2 : (sApp s b ws ++ b ++ (⟨#[35, 32, 97, 32, 98]⟩ : ByteArray)).size = (sApp s b ws).size + b.size + 5 := by rw [ByteArray.size_append, z1]; rfl
    have z3 : (sApp s b ws ++ b ++ (⟨#[35, 32, 97, 32, 98]⟩ : ByteArray) ++ (⟨#[10]⟩ : ByteArray)).size = (sApp s b ws).size + b.size + 5 + 1 := by rw [ByteArray.size_append, z2]; rfl
    refine ⟨?_, ?_, ?_, fin _ ?_ (by rw [z3]; omega)⟩
    · show (((sApp s b ws).size + b.size : Nat) : Int) ≤ 9223372036854775807
      omega
    · show (((sApp s b ws ++ b).size + 5 : Nat) : Int) ≤ 9223372036854775807
      omega
    · show (((sApp s b ws ++ b ++ (⟨#[35, 32, 97, 32, 98]⟩ : ByteArray)).size + 1 : Nat) : Int) ≤ 9223372036854775807
      omega
    · rw [data_app, data_app, data_app, hsd]
      unfold lineBytes
      rw [if_pos rfl]
      simp only [List.append_assoc]
  · subst h
    have z1 : (sApp s b ws ++ (⟨#[10]⟩ : ByteArray)).size = (sApp s b ws).size + 1 := by rw [ByteArray.size_append]; rfl
    refine ⟨?_, fin _ ?_ (by rw [z1]; omega)⟩
    · show (((sApp s b ws).size + 1 : Nat) : Int) ≤ 9223372036854775807
      omega
    · rw [data_app, hsd]
      unfold lineBytes
      rw [if_neg Bool.false_ne_true]
      simp only [List.append_assoc, List.nil_append]
theorem wo_core (l : SS) (m : Bool) (b s : ByteArray) (i : Int) (g : GL) (Q : Exit × List Av × RSpec.Y spWO × GL → Prop) (h : (outWO (l, m, b, s, i, ()) () g).wp Q) : (oRound l m b s i g).wp fun r => match r with
      | .again x' y' g' => (List.length x'.1 - Int.toNat x'.2.2.2.2.1) < l.length - i.toNat ∧ (outWO x' y' g').wp Q
      | .out e avs y' g' => Q (e, avs, y', g') := by
  unfold outWO at h
  simp only [T.wp] at h
  dsimp only [El, vts, spWO] at h
  obtain ⟨⟨i0, hl, hm, hs, hg, hb⟩, hy, hz⟩ := h
  unfold oRound oBad
  simp only [T.wp]
  refine ⟨fun hlt => ?_, fun hge => ?_⟩
  · have i1 : i < (l.length : Int) := of_decide_eq_true hlt
    obtain ⟨ws, hws⟩ := elem_at (l := l) i0 i1
    have ew := lineAt_eq hws
    obtain ⟨hm1, hm2⟩ := hm ws (List.mem_of_getElem? hws)
    rw [drop_at i0 hws, List.all_cons] at hy hz
    have bad : goodL ws = false → (oNeed (gl g) g (.ret (.out Exit.ret [.one (.v (.bool true))] () g))).wp fun r => match r with
        | .again x' y' g' => (List.length x'.1 - Int.toNat x'.2.2.2.2.1) < l.length - i.toNat ∧ (outWO x' y' g').wp Q
        | .out e avs y' g' => Q (e, avs, y', g') := fun hb => by
      have := hz (by rw [hb]; rfl)
      rw [wTill, if_neg (by rw [hb]; exact Bool.false_ne_true)] at this
      exact ⟨gnd_gl g, finG_nil this⟩
    rw [ew]
    refine ⟨ws, i0, hws, fun hgt => bad ?_, fun hle => ⟨gnd_gl g, ⟨i0, i1, Int.le_refl 0, ?_, by omega, hm2, ?_, hb⟩, fun hall => ?_, fun hno => bad ?_⟩⟩
    · have hgt : (ws.length : Int) > 6 := of_decide_eq_true hgt
      unfold goodL
      rw [decide_eq_false (show ¬ ws.length ≤ 6 by omega)]; rfl
    · have hle : ¬ (ws.length : Int) > 6 := of_decide_eq_false hle
      omega
    · have hle : ¬ (ws.length : Int) > 6 := of_decide_eq_false hle
      omega
    · have hle : ¬ (ws.length : Int) > 6 := of_decide_eq_false hle
      have hall : ws.all goodW = true := hall
      have hgood : goodL ws = true := by
        unfold goodL
        rw [hall, decide_eq_true (show ws.length ≤ 6 by omega)]; rfl
      rw [hgood, Bool.true_and, wTill, if_pos hgood] at hy hz
      refine ⟨ws, i0, hws, fun hpos => ?_, fun hpos => ?_⟩
      · have hpos : (ws.length : Int) > 0 := of_decide_eq_true hpos
        rw [if_pos (by omega), List.singleton_append] at hy hz
        rw [← gl_eq] at hg
        refine ⟨ws, i0, hws, ?_⟩
        rw [IntWalk.i64_in (i + 1) (by omega)]
        refine appG_wp (by omega) (by simp only [Go.maxLen]; omega) fun k => oTail_ok l m b s i ws _ _ Q i0 i1 hl hm hs hb hall (by omega) (gnd_app g _ k) ?_ (fun h => ?_) (fun h => finG_cons (hz h) k)
        · show (((gx g ++ [_]).length : Nat) : Int) ≤ _
          rw [List.length_append, ← gl_eq]
          simp only [List.length_cons, List.length_nil]
          omega
        · have := finG_cons (hy h) k
          exact this
      · have hpos : ¬ (ws.length : Int) > 0 := of_decide_eq_false hpos
        rw [if_neg (by omega), List.nil_append] at hy hz
        exact oTail_ok l m b s i ws _ _ Q i0 i1 hl hm hs hb hall (by omega) (gnd_gl g) (by omega) hy hz
    · have hno : ws.all goodW = false := hno
      unfold goodL
      rw [hno, Bool.and_false]
  · have hge : ¬ i < (l.length : Int) := of_decide_eq_false hge
    rw [drop_end (by omega)] at hy
    have := hy rfl
    rw [textB, List.flatMap_nil, List.append_nil, mkB_data, wTill] at this
    exact ⟨gnd_gl g, finG_nil this⟩
theorem woL_ok : LoopOk Tryd.prog 0 (bodyOf Tryd.f7 0) (spWO.run outWO) :=
  loopR_ok (E := LE) (L := lpWK) mixed 0 (inner_one (by kernel_rfl) (wkL_ok 0 (Nat.le_refl 0))) spWO (Nat.zero_le _) outWO (fun x _ _ => List.length x.1 - Int.toNat x.2.2.2.2.1) (by
    rintro ⟨l, m, b, s, i, ⟨⟩⟩ ⟨⟩ g Q h
    match g, h with
    | some (xs, cap), h =>
      rw [tr_woL_eq l m b s i xs cap]
      exact wo_core l m b s i (some (xs, cap)) Q h
    | none, h =>
      rw [tr_woL0_eq l m b s i]
      exact wo_core l m b s i none Q h)
noncomputable def lpWO : Loops := oneL 9 (spWO.run outWO)
noncomputable def LEf : Env Tryd.prog := LE.fz [(30, [9])]
end Go.Proofs.YtjijakfcahhioabDoor
/-
LexWords: its tree (its like parts told once).
-/
set_option linter.unusedSimpArgs false
set_option linter.unusedVariables false
namespace Go.Proofs.YtjijakfcahhioabDoor
open Go.RowKit Ax
def txtW (b : ByteArray) (m : Bool) (l : SS) : ByteArray := mkB (Array.toList (ByteArray.data ⟨#[]⟩) ++ textB (Array.toList (ByteArray.data b)) m (List.drop (Int.toNat (0 : Int)) l))
def subW (b : ByteArray) (m : Bool) (l : SS) : T Av := .need True (.need ((0 : Int) ≤ 0 ∧ List.length l ≤ 10 ∧ (∀ ws ∈ l, List.length ws ≤ 9223372036854775807 ∧ ∀ w ∈ ws, ByteArray.size w ≤ 9223372036854775807) ∧ (ByteArray.size ⟨#[]⟩ : Int) ≤ 200 * 0 ∧ (List.length (gx (Option.none : GL)) : Int) ≤ 0 ∧ ByteArray.size b ≤ 3)
  (.ite (List.all (List.drop (Int.toNat (0 : Int)) l) goodL)
    (.ite (List.isEmpty (wTill (List.drop (Int.toNat (0 : Int)) l) 0))
      (.need (LinesFit (txtW b m l)) (.need (SameFit (linesOf (txtW b m l))) (.ret (.one (.v (.bool (decide (linesOf (txtW b m l) = []))))))))
      (.up 0 fun _ => .need (List.length (wTill (List.drop (Int.toNat (0 : Int)) l) 0) ≤ List.length (wTill (List.drop (Int.toNat (0 : Int)) l) 0)) (.need (LinesFit (txtW b m l)) (.need (SameFit (linesOf (txtW b m l))) (.ret (.one (.v (.bool (decide (linesOf (txtW b m l) = List.take (List.length (wTill (List.drop (Int.toNat (0 : Int)) l) 0)) (wTill (List.drop (Int.toNat (0 : Int)) l) 0)))))))))))
    (.ite (List.isEmpty (wTill (List.drop (Int.toNat (0 : Int)) l) 0)) (.ret (.one (.v (.bool true)))) (.up 0 fun _ => .ret (.one (.v (.bool true)))))))
def tr_lexwords (l : SS) (z : Int) (m : Bool) : T Av := .ite (!true) (.ret (.one (.v (.bool false)))) (.ite (decide ((List.length l : Int) > 10)) (.ret (.one (.v (.bool true))))
  (.need ((3 : Int) ≠ 0) (.need ((0 : Int) ≤ Int.tmod z 3 ∧ Int.tmod z 3 < ((3 : Nat) : Int)) (.ite (Int.tmod z 3 == ((0 : Nat) : Int)) (subW ⟨#[32]⟩ m l) (.ite (Int.tmod z 3 == ((0 + 1 : Nat) : Int)) (subW ⟨#[9, 32]⟩ m l) (subW ⟨#[32, 32, 13]⟩ m l))))))
theorem tr_lexwords_eq (l : SS) (z : Int) (m : Bool) : fnP LEf lpWO Tryd.f7 (encs [(false, cSS), (false, .int .u8), (false, .bool)] (l, z, m, ())) = tr_lexwords l z m := by kernel_rfl
end Go.Proofs.YtjijakfcahhioabDoor
/-
LexTells: its run answers true.
-/
set_option linter.unusedSimpArgs false
set_option linter.unusedVariables false
namespace Go.Proofs.YtjijakfcahhioabDoor
open Go.RowKit Ax
theorem fgo_length : ∀ (l cur : List UInt8), (fgo cur l).length ≤ cur.length + l.length
  | [], cur => by
    rw [fgo]
    split
    · exact Nat.zero_le _
    · rename_i h
      have : 0 < cur.length := List.length_pos_iff.2 h
      simp; omega
  | c :: r, cur => by
    rw [fgo]
    split
    · split
      · have := fgo_length r []; simp at this ⊢; omega
      · rename_i h
        have h1 : 0 < cur.length := List.length_pos_iff.2 h
        have := fgo_length r []; simp at this ⊢; omega
    · have := fgo_length r (cur ++ [c]); simp at this ⊢; omega
theorem wordsB_length (l : List UInt8) : (wordsB l).length ≤ l.length := by
  unfold wordsB
  rw [List.length_map]
  have h := fgo_length (l.takeWhile (· != 35)) []
  have := (List.takeWhile_prefix (p := (· != 35)) (l := l)).length_le
  simp at h; omega
theorem lf_fit : ∀ (l cur : List UInt8) (n : Int), (lf cur l n).length ≤ l.length + 1 ∧ ∀ e ∈ lf cur l n, e.2.length ≤ cur.length + l.length
  | [], cur, n => by
    have := wordsB_length cur
    rw [lf, one1]
    split
    · exact ⟨by simp, fun e he => by rw [List.mem_singleton] at he; subst he; simpa using this⟩
    · exact ⟨by simp, fun e he => by cases he⟩
  | c :: r, cur, n => by
    rw [lf]
    split
    · obtain ⟨h1, h2⟩ := lf_fit r [] (n + 1)
      have := wordsB_length cur
      unfold one1
      split
      · refine ⟨by simp; omega, fun e he => ?_⟩
        rw [List.singleton_append] at he
        rcases List.mem_cons.1 he with rfl | he
        · simp only [List.length_cons]; omega
        · have := h2 e he; simp at this ⊢; omega
      · refine ⟨by simp; omega, fun e he => ?_⟩
        have := h2 e (by simpa using he); simp at this ⊢; omega
    · obtain ⟨h1, h2⟩ := lf_fit r (cur ++ [c]) n
      refine ⟨by simp; omega, fun e he => ?_⟩
      have := h2 e he; simp at this ⊢; omega
theorem same_fit (s : ByteArray) (h : s.size ≤ 900000) : SameFit (linesOf s) := by
  obtain ⟨h1, h2⟩ := lf_fit s.data.toList [] 0
  rw [← linesOf_lf] at h1 h2
  rw [← Lib.size_eq] at h1 h2
  exact ⟨by omega, fun e he => by have := h2 e he; simp at this; omega⟩
theorem lextells_wp (s w : ByteArray) : (tr_lextells (s, w, ())).wp fun av => av = .one (.v (.bool true)) := by
  unfold tr_lextells
  simp only [T.wp]
  refine ⟨fun h => Bool.noConfusion h, fun _ => ⟨fun _ => trivial, fun h1 => ⟨fun _ => trivial, fun h2 => ?_⟩⟩⟩
  have h1 : ¬ (s.size : Int) > 600 := of_decide_eq_false h1
  have h2 : ¬ (w.size : Int) > 40 := of_decide_eq_false h2
  refine ⟨show s.size ≤ 900000 by omega, show w.size ≤ 281474976710656 by omega, trivial, fit_of s (by omega), same_fit s (by omega), fun _ => ⟨fun _ => ?_, fun h => ?_⟩, fun h => ?_⟩
  · rw [beq_self_eq_true]
  · rw [beq_self_eq_true] at h; cases h
  · simp at h
end Go.Proofs.YtjijakfcahhioabDoor
/-
LexWords: its run answers true.
-/
set_option linter.unusedSimpArgs false
set_option linter.unusedVariables false
namespace Go.Proofs.YtjijakfcahhioabDoor
open Go.RowKit Ax
theorem okB_ne {c : UInt8} (h : okB c = true) : c ≠ 10 ∧ c ≠ 35 ∧ bl c = false := by
  rw [okB_eq] at h
  have h := of_decide_eq_true h
  refine ⟨fun e => h (by rw [e]; decide), fun e => h (by rw [e]; decide), ?_⟩
  rw [bl_of]
  exact decide_eq_false (by omega)
theorem fgo_lead : ∀ (b r : List UInt8), (∀ c ∈ b, bl c = true) → fgo [] (b ++ r) = fgo [] r
  | [], r, _ => rfl
  | c :: b, r, h => by
    rw [List.cons_append, fgo_blank _ _ _ (h c (by simp)), if_pos rfl, List.nil_append]
    exact fgo_lead b r (fun d hd => h d (by simp [hd]))
theorem fgo_close {w X : List UInt8} (hw : w ≠ []) (hX : X = [] ∨ ∃ c r, X = c :: r ∧ bl c = true) : fgo w X = w :: fgo [] X := by
  rcases hX with rfl | ⟨c, r, rfl, hc⟩
  · rw [fgo_nil, if_neg hw]; rfl
  · rw [fgo_blank _ _ _ hc, fgo_blank _ _ _ hc, if_neg hw, if_pos rfl]; rfl
theorem good_parts {w : ByteArray} (h : goodW w = true) : (∀ c ∈ w.data.toList, okB c = true) ∧ w.data.toList ≠ [] := by
  unfold goodW at h
  simp only [Bool.and_eq_true, decide_eq_true_eq] at h
  refine ⟨fun c hc => List.all_eq_true.1 h.1 c hc, fun e => ?_⟩
  have := h.2.1
  rw [Lib.size_eq, e] at this
  exact absurd this (by decide)
theorem fgo_words (b : List UInt8) (hb : b ≠ []) (hbl : ∀ c ∈ b, bl c = true) (tl : List UInt8) (ht : tl = [] ∨ tl = b) : ∀ ws : List ByteArray, ws.all goodW = true → fgo [] ((ws.flatMap fun w => b ++ w.data.toList) ++ tl) = ws.map (·.data.toList)
  | [], _ => by
    rw [List.flatMap_nil, List.nil_append]
    rcases ht with rfl | rfl
    · rfl
    · have := fgo_lead tl [] hbl
      rw [List.append_nil] at this
      rw [this]; rfl
  | w :: r, h => by
    rw [List.all_cons, Bool.and_eq_true] at h
    obtain ⟨hw, hne⟩ := good_parts h.1
    have ih := fgo_words b hb hbl tl ht r h.2
    rw [List.flatMap_cons, List.append_assoc, List.append_assoc, fgo_lead _ _ hbl, fgo_run _ _ _ (fun c hc => (okB_ne (hw c hc)).2.2), List.nil_append, fgo_close hne, ih]
    · rfl
    · obtain ⟨c0, b', rfl⟩ : ∃ c r, b = c :: r := by
        cases b with
        | nil => exact absurd rfl hb
        | cons c r => exact ⟨c, r, rfl⟩
      cases r with
      | nil =>
        rw [List.flatMap_nil, List.nil_append]
        rcases ht with rfl | rfl
        · exact .inl rfl
        · exact .inr ⟨c0, b', rfl, hbl c0 (by simp)⟩
      | cons w2 r2 => exact .inr ⟨c0, _, rfl, hbl c0 (by simp)⟩
theorem flat_ok (b : List UInt8) (P : UInt8 → Prop) (hb : ∀ c ∈ b, P c) (ho : ∀ c, okB c = true → P c) : ∀ ws : List ByteArray, ws.all goodW = true → ∀ c ∈ (ws.flatMap fun w => b ++ w.data.toList), P c := fun ws h c hc => by
  obtain ⟨w, hw, hc⟩ := List.mem_flatMap.1 hc
  rcases List.mem_append.1 hc with h1 | h1
  · exact hb c h1
  · exact ho c ((good_parts (List.all_eq_true.1 h w hw)).1 c h1)
theorem take_no (l r : List UInt8) (h : ∀ c ∈ l, c ≠ 35) : (l ++ r).takeWhile (· != 35) = l ++ r.takeWhile (· != 35) := by
  induction l with
  | nil => rfl
  | cons c t ih =>
    rw [List.cons_append, take_blank (h c (by simp)), ih (fun d hd => h d (by simp [hd]))]; rfl
theorem blank_ne {c : UInt8} (h : bl c = true) : c ≠ 10 ∧ c ≠ 35 := by
  rw [bl_of] at h
  have h := of_decide_eq_true h
  exact ⟨fun e => by rw [e] at h; exact absurd h (by decide), fun e => by rw [e] at h; exact absurd h (by decide)⟩
theorem lf_text (b : List UInt8) (hb : b ≠ []) (hbl : ∀ c ∈ b, bl c = true) (m : Bool) : ∀ (l : SS) (n : Int), l.all goodL = true → lf [] (textB b m l) n = wTill l n
  | [], n, _ => by
    show lf [] [] n = _
    rw [lf_none, wTill]
  | ws :: r, n, h => by
    rw [List.all_cons, Bool.and_eq_true] at h
    have hg := h.1
    unfold goodL at hg
    rw [Bool.and_eq_true] at hg
    have hw := hg.2
    have ih := lf_text b hb hbl m r (n + 1) h.2
    have e1 : textB b m (ws :: r) = ((ws.flatMap fun w => b ++ w.data.toList) ++ (if m = true then b ++ [35, 32, 97, 32, 98] else [])) ++ 10 :: textB b m r := by
      unfold textB
      rw [List.flatMap_cons, lineBytes]
      simp only [List.append_assoc, List.singleton_append, List.cons_append, List.nil_append]
    have hno : ∀ c ∈ (ws.flatMap fun w => b ++ w.data.toList) ++ (if m = true then b ++ [35, 32, 97, 32, 98] else []), c ≠ 10 := fun c hc => by
      rcases List.mem_append.1 hc with h1 | h1
      · exact flat_ok b (· ≠ 10) (fun c hc => (blank_ne (hbl c hc)).1) (fun c hc => (okB_ne hc).1) ws hw c h1
      · split at h1
        · rcases List.mem_append.1 h1 with h2 | h2
          · exact (blank_ne (hbl c h2)).1
          · intro e; subst e; exact absurd h2 (by decide)
        · cases h1
    have hwords : wordsB ((ws.flatMap fun w => b ++ w.data.toList) ++ (if m = true then b ++ [35, 32, 97, 32, 98] else [])) = ws := by
      unfold wordsB
      rw [take_no _ _ (flat_ok b (· ≠ 35) (fun c hc => (blank_ne (hbl c hc)).2) (fun c hc => (okB_ne hc).2.1) ws hw)]
      have e2 : (if m = true then b ++ [35, 32, 97, 32, 98] else []).takeWhile (· != 35) = if m = true then b else [] := by
        cases m with
        | true =>
          rw [if_pos rfl, if_pos rfl, take_no _ _ (fun c hc => (blank_ne (hbl c hc)).2)]
          simp
        | false => rfl
      rw [e2, fgo_words b hb hbl _ (by cases m with | true => exact .inr rfl | false => exact .inl rfl) ws hw, List.map_map]
      have : (mkB ∘ fun x : ByteArray => x.data.toList) = id := by funext x; exact mkB_data x
      rw [this, List.map_id]
    rw [e1, lf_line _ _ _ _ hno, List.nil_append, ih, wTill, if_pos h.1]
    unfold one1
    rw [hwords]
theorem textB_length (b : ByteArray) (hb : b.size ≤ 3) (m : Bool) : ∀ l : SS, l.all goodL = true → (textB b.data.toList m l).length ≤ 200 * l.length
  | [], _ => by simp [textB]
  | ws :: r, h => by
    rw [List.all_cons, Bool.and_eq_true] at h
    have hg := h.1
    unfold goodL at hg
    rw [Bool.and_eq_true, decide_eq_true_eq] at hg
    have hf := flat_size b ws hg.2
    have ih := textB_length b hb m r h.2
    have : ws.length * (b.size + 12) ≤ 6 * 15 := Nat.mul_le_mul hg.1 (by omega)
    have hbs := Lib.size_eq b
    have e : (lineBytes b.data.toList m ws).length ≤ 199 := by
      unfold lineBytes
      rw [List.length_append, List.length_append]
      have : (if m = true then b.data.toList ++ [35, 32, 97, 32, 98] else []).length ≤ 8 := by
        split
        · rw [List.length_append, ← hbs]; simp only [List.length_cons, List.length_nil]; omega
        · exact Nat.zero_le _
      simp only [List.length_cons, List.length_nil]
      omega
    unfold textB at ih ⊢
    rw [List.flatMap_cons, List.length_append, List.length_cons]
    omega
theorem subW_wp (b : ByteArray) (m : Bool) (l : SS) (hb : b.data.toList ≠ []) (hb3 : b.size ≤ 3) (hbl : ∀ c ∈ b.data.toList, bl c = true) (hl : l.length ≤ 10) (hm : ∀ ws ∈ l, ws.length ≤ 9223372036854775807 ∧ ∀ w ∈ ws, w.size ≤ 9223372036854775807) : (subW b m l).wp fun av => av = .one (.v (.bool true)) := by
  unfold subW
  simp only [T.wp]
  have e0 : List.drop (Int.toNat (0 : Int)) l = l := rfl
  rw [e0]
  refine ⟨trivial, ⟨Int.le_refl 0, hl, hm, by decide, Int.le_refl 0, hb3⟩, fun hg => ?_, fun _ => ⟨fun _ => trivial, fun _ _ _ => trivial⟩⟩
  have ht : txtW b m l = mkB (textB b.data.toList m l) := rfl
  have hL : linesOf (txtW b m l) = wTill l 0 := by
    rw [linesOf_lf, ht, data_mkB, lf_text _ hb hbl m l 0 hg]
  have hlen := textB_length b hb3 m l hg
  have hs : (txtW b m l).size ≤ 2000 := by
    rw [ht]
    show (textB b.data.toList m l).length ≤ 2000
    omega
  have hf := fit_of (txtW b m l) (by omega)
  have hsf := same_fit (txtW b m l) (by omega)
  refine ⟨fun he => ⟨hf, hsf, ?_⟩, fun _ k _ => ⟨Nat.le_refl _, hf, hsf, ?_⟩⟩
  · rw [hL, List.isEmpty_iff.1 he, decide_eq_true rfl]
  · rw [hL, List.take_length, decide_eq_true rfl]
theorem lexwords_wp (l : SS) (z : Int) (m : Bool) (hz : 0 ≤ z ∧ z ≤ 255) (hm : ∀ ws ∈ l, ws.length ≤ 9223372036854775807 ∧ ∀ w ∈ ws, w.size ≤ 9223372036854775807) : (tr_lexwords l z m).wp fun av => av = .one (.v (.bool true)) := by
  obtain ⟨z, rfl⟩ : ∃ k : Nat, z = k := ⟨z.toNat, by omega⟩
  have t1 : Int.tmod (z : Int) 3 = ((z % 3 : Nat) : Int) := by rw [Int.tmod_eq_emod_of_nonneg (by omega)]; omega
  unfold tr_lexwords
  rw [t1]
  simp only [T.wp]
  refine ⟨fun h => Bool.noConfusion h, fun _ => ⟨fun _ => trivial, fun hl => ?_⟩⟩
  have hl : ¬ (l.length : Int) > 10 := of_decide_eq_false hl
  refine ⟨by decide, ⟨by omega, by omega⟩, fun _ => subW_wp _ m l (by decide) (by decide) (by decide) (by omega) hm, fun _ => ⟨fun _ => subW_wp _ m l (by decide) (by decide) (by decide) (by omega) hm, fun _ => subW_wp _ m l (by decide) (by decide) (by decide) (by omega) hm⟩⟩
end Go.Proofs.YtjijakfcahhioabDoor
