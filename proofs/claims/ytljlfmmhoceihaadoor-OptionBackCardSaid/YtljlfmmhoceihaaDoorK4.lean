import Derived.ProofKit
import Derived.OpenShut
import Derived.Deep.Slices
import Derived.Handed
import Derived.LaidLaws
import Derived.Lib.LaidU8
import Derived.Shelf.Vars
import Derived.Lay
import Derived.MakeChecks
import Derived.PinnedBridge
import Derived.SevenTiedAt
import Derived.Test.YtljlfmmhoceihaaDoorRows
import Derived.Lib.ItoaLen
import Derived.Test.YtljlfmmhoceihaaDoorK3
/-
parquetref6.words: its loop.
-/
set_option linter.unusedSimpArgs false
set_option linter.unusedVariables false
namespace Go.Proofs.YtljlfmmhoceihaaDoor
open Go.RowKit Ax
/-- the words that are still to come -/
def wLeft (s : ByteArray) (f i : Int) : List ByteArray := (fgo (if f < 0 then [] else Lib.pieceU s.data.toList f.toNat i.toNat) ((s.data.toList.drop i.toNat).takeWhile (· != 35))).map mkB
def outWords (x : RSpec.X spWords) (y : RSpec.Y spWords) (g : Gr ByteArray) : T (Exit × List Av × RSpec.Y spWords × Gr ByteArray) :=
  .need (0 ≤ x.2.2.1 ∧ x.2.2.1 ≤ (ByteArray.size x.1 : Int) + 1 ∧ -1 ≤ x.2.1 ∧ x.2.1 < x.2.2.1 ∨ x.2.1 = -1 ∧ x.2.2.1 = 0) (.need ((x.2.2.1 = (ByteArray.size x.1 : Int) + 1 → x.2.1 = -1) ∧ ByteArray.size x.1 ≤ 1000000 ∧ (gl g : Int) ≤ x.2.2.1)
    (.ite ((List.drop x.2.2.1.toNat (Array.toList (ByteArray.data x.1))).contains 35) (finG Exit.ret [] y g (wLeft x.1 x.2.1 x.2.2.1)) (finG (Exit.exit 0) [] y g (wLeft x.1 x.2.1 x.2.2.1))))
theorem fgo_blank (cur : List UInt8) (c : UInt8) (r : List UInt8) (h : bl c = true) : fgo cur (c :: r) = (if cur = [] then [] else [cur]) ++ fgo [] r := by
  rw [fgo, if_pos h]
  split <;> simp_all
theorem fgo_other (cur : List UInt8) (c : UInt8) (r : List UInt8) (h : bl c = false) : fgo cur (c :: r) = fgo (cur ++ [c]) r := by
  rw [fgo, if_neg (by rw [h]; exact Bool.false_ne_true)]
theorem fgo_nil (cur : List UInt8) : fgo cur [] = (if cur = [] then [] else [cur]) := rfl
def curOf (s : ByteArray) (f i : Int) : List UInt8 := if f < 0 then [] else Lib.pieceU s.data.toList f.toNat i.toNat
theorem cur_ne (s : ByteArray) {f i : Int} (h0 : 0 ≤ f) (h1 : f < i) (h2 : i ≤ s.size) : curOf s f i ≠ [] := by
  unfold curOf
  rw [if_neg (by omega)]
  exact Lib.pieceU_ne _ _ _ (by omega) (by rw [← Lib.size_eq]; omega)
theorem cur_ext (s : ByteArray) {f i : Int} (h0 : 0 ≤ f) : mkB (curOf s f i) = s.extract f.toNat i.toNat := by
  unfold curOf
  rw [if_neg (by omega), Lib.extract_eq]; rfl
theorem loop_fin (s : ByteArray) (f i : Int) (n : Nat) (g : Gr ByteArray) (Q : Exit × List Av × RSpec.Y spWords × Gr ByteArray → Prop) (hi : 0 ≤ i ∧ i ≤ (s.size : Int)) (hs : s.size ≤ 1000000) (hn : gnd n g) (hg : (gl g : Int) ≤ i + 1)
    (hy : (List.drop (i + 1).toNat s.data.toList).contains 35 = true → (finG Exit.ret [] () g (wLeft s (-1) (i + 1))).wp Q) (hz : (List.drop (i + 1).toNat s.data.toList).contains 35 = false → (finG (Exit.exit 0) [] () g (wLeft s (-1) (i + 1))).wp Q) :
    (wFin s i n g).wp fun r => match r with
      | .again x' y' g' => ((ByteArray.size x'.1 : Int) + 1 - x'.2.2.1).toNat < ((s.size : Int) + 1 - i).toNat ∧ (outWords x' y' g').wp Q
      | .out e avs y' g' => Q (e, avs, y', g') := by
  unfold wFin outWords
  simp only [T.wp]
  dsimp only [El, vts, spWords]
  rw [IntWalk.i64_in (i + 1) (by omega)]
  exact ⟨hn, by omega, by omega, ⟨fun _ => trivial, hs, by omega⟩, hy, hz⟩
theorem take_blank {c : UInt8} {r : List UInt8} (h : c ≠ 35) : (c :: r).takeWhile (· != 35) = c :: r.takeWhile (· != 35) := by
  rw [List.takeWhile_cons, if_pos (by simp [h])]
theorem cont_ne {c : UInt8} {r : List UInt8} (h : c ≠ 35) : (c :: r).contains 35 = r.contains 35 := by
  rw [List.contains_cons, beq_false_of_ne (Ne.symm h), Bool.false_or]
/-- a byte ends a word; or the line ends -/
theorem clo_ok (s : ByteArray) (f i : Int) (g : Gr ByteArray) (Q : Exit × List Av × RSpec.Y spWords × Gr ByteArray → Prop) (h0 : 0 ≤ i ∧ i ≤ (s.size : Int)) (h1 : -1 ≤ f) (h2 : f < i ∨ f = -1) (hs : s.size ≤ 1000000) (hg : (gl g : Int) ≤ i)
    (hc : i = s.size ∨ ∃ c, s.data.toList[i.toNat]? = some c ∧ (bl c = true ∨ c = 35))
    (hy : (List.drop i.toNat s.data.toList).contains 35 = true → (finG Exit.ret [] () g (wLeft s f i)).wp Q) (hz : (List.drop i.toNat s.data.toList).contains 35 = false → (finG (Exit.exit 0) [] () g (wLeft s f i)).wp Q) :
    (wClo s f i (gl g) g).wp fun r => match r with
      | .again x' y' g' => ((ByteArray.size x'.1 : Int) + 1 - x'.2.2.1).toNat < ((s.size : Int) + 1 - i).toNat ∧ (outWords x' y' g').wp Q
      | .out e avs y' g' => Q (e, avs, y', g') := by
  have hsz : s.data.toList.length = s.size := (Lib.size_eq s).symm
  -- behind what is appended
  have tail : ∀ (n : Nat) (g' : Gr ByteArray), gnd n g' → (gl g' : Int) ≤ i + 1 →
      ((List.drop i.toNat s.data.toList).contains 35 = true → (finG Exit.ret [] () g' ((fgo [] (((s.data.toList.drop i.toNat).takeWhile (· != 35)).drop 1)).map mkB)).wp Q) →
      ((List.drop i.toNat s.data.toList).contains 35 = false → (finG (Exit.exit 0) [] () g' ((fgo [] (((s.data.toList.drop i.toNat).takeWhile (· != 35)).drop 1)).map mkB)).wp Q) →
      (wTail s i n g').wp fun r => match r with
      | .again x' y' g' => ((ByteArray.size x'.1 : Int) + 1 - x'.2.2.1).toNat < ((s.size : Int) + 1 - i).toNat ∧ (outWords x' y' g').wp Q
      | .out e avs y' g' => Q (e, avs, y', g') := by
    intro n g' hn hg' hy hz
    unfold wTail
    simp only [T.wp]
    refine ⟨fun hlt => ?_, fun hge => ?_⟩
    · have hlt := of_decide_eq_true hlt
      obtain ⟨c, hc'⟩ := elem_at (l := s.data.toList) h0.1 (by omega)
      have hd := drop_at h0.1 hc'
      rw [hd] at hy hz
      refine ⟨c, h0.1, hc', fun e => ?_, fun e => ?_⟩
      · have e : c = 35 := by
          have : (c.toNat : Int) = 35 := by simpa using e
          exact byte_of (k := 35) (by omega)
        subst e
        have hy := hy (by simp)
        rw [List.takeWhile_cons, if_neg (by simp)] at hy
        exact ⟨hn, finG_nil hy⟩
      · have e : c ≠ 35 := fun h => by
          have : ¬ (c.toNat : Int) = 35 := by simpa using e
          exact this (by rw [h]; rfl)
        rw [take_blank e, cont_ne e, List.drop_one, List.tail_cons] at hy hz
        refine loop_fin s f i n g' Q h0 hs hn hg' ?_ ?_
        · unfold wLeft; rw [if_pos (by omega)]; exact hy
        · unfold wLeft; rw [if_pos (by omega)]; exact hz
    · have hge := of_decide_eq_false hge
      rw [drop_end (by omega)] at hy hz
      refine loop_fin s f i n g' Q h0 hs hn hg' ?_ ?_
      · rw [drop_end (by omega)]; intro h; simp at h
      · unfold wLeft
        rw [drop_end (by omega), if_pos (by omega)]; intro _; exact hz rfl
  have hW : wLeft s f i = (if curOf s f i = [] then [] else [mkB (curOf s f i)]) ++ (fgo [] (((s.data.toList.drop i.toNat).takeWhile (· != 35)).drop 1)).map mkB := by
    unfold wLeft
    rw [show (if f < 0 then [] else Lib.pieceU s.data.toList f.toNat i.toNat) = curOf s f i from rfl]
    rcases hc with hc | ⟨c, hc, hb⟩
    · rw [drop_end (by omega)]
      rw [List.takeWhile_nil, fgo_nil]
      split <;> simp [fgo]
    · rw [drop_at h0.1 hc]
      by_cases h35 : c = 35
      · rw [List.takeWhile_cons, if_neg (by simp [h35]), fgo_nil]
        split <;> simp [fgo]
      · rw [take_blank h35, fgo_blank _ _ _ (by rcases hb with h | h; exact h; exact absurd h h35), List.drop_one, List.tail_cons, List.map_append]
        split <;> simp
  rw [hW] at hy hz
  unfold wClo
  simp only [T.wp]
  refine ⟨fun hf => ?_, fun hf => ?_⟩
  · have hf : 0 ≤ f := of_decide_eq_true hf
    have hne := cur_ne s hf (by omega) h0.2
    rw [if_neg hne, cur_ext s hf] at hy hz
    refine ⟨⟨hf, by omega, h0.2⟩, appG_wp (by omega) (by simp only [Go.maxLen]; omega) fun k => tail _ _ (gnd_app g _ k) ?_ ?_ ?_⟩
    · have : gl (some (gx g ++ [s.extract f.toNat i.toNat], k)) = gl g + 1 := by show List.length _ = _; rw [List.length_append, gl_eq]; rfl
      rw [this]; omega
    · exact fun h => finG_cons (hy h) k
    · exact fun h => finG_cons (hz h) k
  · have hf : ¬ 0 ≤ f := of_decide_eq_false hf
    have hcur : curOf s f i = [] := by unfold curOf; rw [if_pos (by omega)]
    rw [if_pos hcur, List.nil_append] at hy hz
    exact tail _ _ (gnd_gl g) (by omega) hy hz
theorem opn_ok (s : ByteArray) (f i : Int) (g : Gr ByteArray) (c : UInt8) (Q : Exit × List Av × RSpec.Y spWords × Gr ByteArray → Prop) (h0 : 0 ≤ i ∧ i < (s.size : Int)) (h1 : -1 ≤ f) (h2 : f < i ∨ f = -1) (hs : s.size ≤ 1000000) (hg : (gl g : Int) ≤ i)
    (hc : s.data.toList[i.toNat]? = some c) (hb : bl c = false) (h35 : c ≠ 35)
    (hy : (List.drop i.toNat s.data.toList).contains 35 = true → (finG Exit.ret [] () g (wLeft s f i)).wp Q) (hz : (List.drop i.toNat s.data.toList).contains 35 = false → (finG (Exit.exit 0) [] () g (wLeft s f i)).wp Q) :
    (wOpn s f i (gl g) g).wp fun r => match r with
      | .again x' y' g' => ((ByteArray.size x'.1 : Int) + 1 - x'.2.2.1).toNat < ((s.size : Int) + 1 - i).toNat ∧ (outWords x' y' g').wp Q
      | .out e avs y' g' => Q (e, avs, y', g') := by
  have hsz : s.data.toList.length = s.size := (Lib.size_eq s).symm
  have hd := drop_at h0.1 hc
  have e1 : (i + 1).toNat = i.toNat + 1 := by omega
  have key : ∀ f' : Int, 0 ≤ f' → f' ≤ i → (curOf s f i ++ [c] = Lib.pieceU s.data.toList f'.toNat (i + 1).toNat) → wLeft s f i = wLeft s f' (i + 1) := fun f' hf' hle he => by
    unfold wLeft
    rw [show (if f < 0 then [] else Lib.pieceU s.data.toList f.toNat i.toNat) = curOf s f i from rfl, hd, take_blank h35, fgo_other _ _ _ hb, if_neg (by omega), he]
  have htake : (s.data.toList.drop i.toNat).take 1 = [c] := by rw [hd]; rfl
  rw [hd, cont_ne h35] at hy hz
  unfold wOpn outWords
  simp only [T.wp]
  dsimp only [El, vts, spWords]
  rw [IntWalk.i64_in (i + 1) (by omega)]
  refine ⟨fun hf => ?_, fun hf => ?_⟩
  · have hf := of_decide_eq_true hf
    have hk := key i h0.1 (Int.le_refl _) (by
      unfold curOf Lib.pieceU
      rw [if_pos hf, List.nil_append, e1, Nat.add_sub_cancel_left, htake])
    rw [hk] at hy hz
    exact ⟨gnd_gl g, by omega, by omega, ⟨fun h => by omega, hs, by omega⟩, hy, hz⟩
  · have hf := of_decide_eq_false hf
    have hk := key f (by omega) (by omega) (by
      unfold curOf
      rw [if_neg hf, e1, ← Lib.pieceU_grow _ _ _ _ (by omega), htake])
    rw [hk] at hy hz
    exact ⟨gnd_gl g, by omega, by omega, ⟨fun h => by omega, hs, by omega⟩, hy, hz⟩
theorem bl_of {c : UInt8} : bl c = decide (c.toNat = 32 ∨ c.toNat = 9 ∨ c.toNat = 13) := by
  unfold bl blank
  rw [decide_eq_decide]
  simp only [List.mem_cons, List.not_mem_nil, or_false]
  omega
theorem round_ok (s : ByteArray) (f i : Int) (g : Gr ByteArray) (Q : Exit × List Av × RSpec.Y spWords × Gr ByteArray → Prop) (h : (outWords (s, f, i, ()) () g).wp Q) :
    (wRound s f i g).wp fun r => match r with
      | .again x' y' g' => ((ByteArray.size x'.1 : Int) + 1 - x'.2.2.1).toNat < ((s.size : Int) + 1 - i).toNat ∧ (outWords x' y' g').wp Q
      | .out e avs y' g' => Q (e, avs, y', g') := by
  have hsz : s.data.toList.length = s.size := (Lib.size_eq s).symm
  unfold outWords at h
  simp only [T.wp] at h
  dsimp only [El, vts, spWords] at h
  obtain ⟨h1, ⟨h2, h3, h4⟩, hy, hz⟩ := h
  unfold wRound
  simp only [T.wp]
  refine ⟨fun hle => ⟨fun he => ?_, fun hne => ?_⟩, fun hgt => ?_⟩
  · have he : i = s.size := by simpa using he
    exact clo_ok s f i g Q (by omega) (by omega) (by omega) h3 h4 (.inl he) hy hz
  · have hle := of_decide_eq_true hle
    have hne : ¬ i = s.size := by simpa using hne
    obtain ⟨c, hc⟩ := elem_at (l := s.data.toList) (show 0 ≤ i by omega) (by omega)
    have clo : (bl c = true ∨ c = 35) → _ := fun hb => clo_ok s f i g Q (by omega) (by omega) (by omega) h3 h4 (.inr ⟨c, hc, hb⟩) hy hz
    refine ⟨c, by omega, hc, fun e => clo (.inr ?_), fun e35 => ⟨c, by omega, hc, fun e => clo (.inl ?_), fun e32 => ⟨c, by omega, hc, fun e => clo (.inl ?_), fun e9 => ⟨c, by omega, hc, fun e => clo (.inl ?_), fun e13 => ?_⟩⟩⟩⟩
    · have : (c.toNat : Int) = 35 := by simpa using e
      exact byte_of (k := 35) (by omega)
    · have : (c.toNat : Int) = 32 := by simpa using e
      rw [bl_of]; exact decide_eq_true (by omega)
    · have : (c.toNat : Int) = 9 := by simpa using e
      rw [bl_of]; exact decide_eq_true (by omega)
    · have : (c.toNat : Int) = 13 := by simpa using e
      rw [bl_of]; exact decide_eq_true (by omega)
    · have q1 : ¬ (c.toNat : Int) = 35 := by simpa using e35
      have q2 : ¬ (c.toNat : Int) = 32 := by simpa using e32
      have q3 : ¬ (c.toNat : Int) = 9 := by simpa using e9
      have q4 : ¬ (c.toNat : Int) = 13 := by simpa using e13
      exact opn_ok s f i g c Q (by omega) (by omega) (by omega) h3 h4 hc (by rw [bl_of]; exact decide_eq_false (by omega)) (fun h => q1 (by rw [h]; rfl)) hy hz
  · have hgt := of_decide_eq_false hgt
    have hf := h2 (by omega)
    rw [drop_end (by omega)] at hz
    have := hz rfl
    unfold wLeft at this
    rw [drop_end (by omega), if_pos (by omega)] at this
    exact ⟨gnd_gl g, finG_nil this⟩
theorem rwordsL_ok : LoopOk Tryd.prog 0 (bodyOf Tryd.f32 0) (spWords.run outWords) :=
  loopR_ok (E := L6) (L := fun _ => none) mixed 0 (loops_none _ _ _) spWords (Nat.zero_le _) outWords (fun x _ _ => ((ByteArray.size x.1 : Int) + 1 - x.2.2.1).toNat) (by
    rintro ⟨s, f, i, ⟨⟩⟩ ⟨⟩ g Q h
    match g, h with
    | some (xs, cap), h =>
      rw [tr_rwordsL_eq s f i xs cap]
      exact round_ok s f i (some (xs, cap)) Q h
    | none, h =>
      rw [tr_rwordsL0_eq s f i]
      exact round_ok s f i none Q h)
noncomputable def lpWords : Loops := oneL 4 (spWords.run outWords)
end Go.Proofs.YtljlfmmhoceihaaDoor
/-
parquetref6.words: its tree.
-/
set_option linter.unusedSimpArgs false
set_option linter.unusedVariables false
namespace Go.Proofs.YtljlfmmhoceihaaDoor
open Go.RowKit Ax
noncomputable def tr_rwords (x : Els [(false, .str)]) : T Av :=
 .need (True) (.need ((0 : El (Cd.int .i64)) ≤ (0 : Int) ∧ (0 : Int) ≤ (↑(ByteArray.size (x.1)) : Int) + (1 : El (Cd.int .i64)) ∧ (-1 : El (Cd.int .i64)) ≤ (-1 : Int) ∧ (-1 : Int) < (0 : Int) ∨ (-1 : Int) = (-1 : El (Cd.int .i64)) ∧ (0 : Int) = (0 : El (Cd.int .i64))) (.need (((0 : Int) = (↑(ByteArray.size (x.1)) : Int) + (1 : El (Cd.int .i64)) → (-1 : Int) = (-1 : El (Cd.int .i64))) ∧ ByteArray.size (x.1) ≤ (1000000 : Nat) ∧ (↑(gl (Option.none : Gr ByteArray)) : Int) ≤ (0 : Int)) (.ite (List.contains (List.drop (Int.toNat (0 : Int)) (Array.toList (ByteArray.data (x.1)))) (35 : UInt8))
     (.ite (List.isEmpty (wLeft (x.1) (-1 : Int) (0 : Int)))
      (.ret (.one (.v (Go.Value.slice Option.none (0 : Nat) (0 : Nat)))))
      (.up ((0 : Nat)) (fun v0 =>
       .need (List.length (wLeft (x.1) (-1 : Int) (0 : Int)) ≤ List.length (wLeft (x.1) (-1 : Int) (0 : Int))) (.ret (.one (.ds (Cd.str) (List.take (List.length (wLeft (x.1) (-1 : Int) (0 : Int))) (wLeft (x.1) (-1 : Int) (0 : Int)))))))))
     (.ite (List.isEmpty (wLeft (x.1) (-1 : Int) (0 : Int)))
      (.ret (.one (.v (Go.Value.slice Option.none (0 : Nat) (0 : Nat)))))
      (.up ((0 : Nat)) (fun v0 =>
       .need (List.length (wLeft (x.1) (-1 : Int) (0 : Int)) ≤ List.length (wLeft (x.1) (-1 : Int) (0 : Int))) (.ret (.one (.ds (Cd.str) (List.take (List.length (wLeft (x.1) (-1 : Int) (0 : Int))) (wLeft (x.1) (-1 : Int) (0 : Int))))))))))))
theorem tr_rwords_eq (x : Els [(false, .str)]) : fnP L6 lpWords Tryd.f32 (encs [(false, .str)] x) = tr_rwords x := by kernel_rfl
end Go.Proofs.YtljlfmmhoceihaaDoor
/-
parquetref6.words: what it tells; parquetref6.Lines: what its loop carries.
-/
set_option linter.unusedSimpArgs false
set_option linter.unusedVariables false
namespace Go.Proofs.YtljlfmmhoceihaaDoor
open Go.RowKit Ax
theorem wLeft_all (s : ByteArray) : wLeft s (-1) 0 = wordsB s.data.toList := rfl
theorem gl_none : ((gl (none : Gr ByteArray) : Nat) : Int) ≤ 0 := Int.le_refl 0
noncomputable def con_rwords : Con Tryd.prog := ⟨32, [], _, cf_rwords, val_con_w (E := L6) (L := lpWords) mixed Tryd.func32 (one_loop rwordsL_ok (by kernel_rfl)) [(false, .str)] (fun x => ByteArray.size x.1 ≤ 1000000) (fun x => .one (.ds .str (wordsB (Array.toList (ByteArray.data x.1))))) fun x hx => by
  rw [tr_rwords_eq]
  obtain ⟨s, u⟩ := x
  revert s
  intro (s : ByteArray) (hx : s.size ≤ 1000000)
  unfold tr_rwords
  simp only [T.wp, wLeft_all]
  have hin : ∀ w R σ v, AvIs w R σ (.one (.ds .str (List.take (List.length (wordsB s.data.toList)) (wordsB s.data.toList)))) v → AvIs w R σ (.one (.ds .str (wordsB s.data.toList))) v := fun w R σ v hv => by
    rwa [List.take_length] at hv
  have hnil : List.isEmpty (wordsB s.data.toList) = true → ∀ w R σ v, AvIs w R σ (.one (.v (.slice none 0 0))) v → AvIs w R σ (.one (.ds .str (wordsB s.data.toList))) v := fun h w R σ v hv => by
    rw [List.isEmpty_iff.1 h]; exact nil_av1 hv
  refine ⟨trivial, .inr ⟨trivial, trivial⟩, ⟨fun _ => trivial, hx, gl_none⟩, fun _ => ⟨fun h => hnil h, fun _ k _ => ⟨Nat.le_refl _, hin⟩⟩, fun _ => ⟨fun h => hnil h, fun _ k _ => ⟨Nat.le_refl _, hin⟩⟩⟩⟩
noncomputable def L7 : Env Tryd.prog := L6.add [con_rwords]
abbrev spRL : RSpec := ⟨56, [(0, false, .str), (5, false, .int .i64), (6, false, .int .i64), (7, false, .int .i64)], [], [], fun e => match e with | .exit _ => [6] | _ => [], 4, 50, cL, false, fun _ => 4⟩
end Go.Proofs.YtljlfmmhoceihaaDoor
/-
parquetref6.Lines: its loop.
-/
set_option linter.unusedSimpArgs false
set_option linter.unusedVariables false
namespace Go.Proofs.YtljlfmmhoceihaaDoor
open Go.RowKit Ax
abbrev GL := Gr (Int × List ByteArray)
def rAgain (s : ByteArray) (f n i : Int) (m : Nat) (g : GL) : T (RRd spRL) := .need (gnd m g) (.ret (.again (s, f, n, i, ()) () g))
def rBody (s : ByteArray) (f n i : Int) (g : GL) : T (RRd spRL) := .need ((0 : Int) ≤ f ∧ f ≤ i ∧ i ≤ (ByteArray.size s : Int)) (.lt (ByteArray.extract s (Int.toNat f) (Int.toNat i)) fun v =>
  .need (ByteArray.size v ≤ (1000000 : Nat)) (.ite (decide ((List.length (wordsB (Array.toList (ByteArray.data v))) : Int) > (0 : Int)))
    (appG 31 g (IntKind.wrap .i64 (n + (1 : Int)), wordsB (Array.toList (ByteArray.data v))) fun m g => rAgain s (IntKind.wrap .i64 (i + (1 : Int))) (IntKind.wrap .i64 (n + (1 : Int))) (IntKind.wrap .i64 (i + (1 : Int))) m g)
    (rAgain s (IntKind.wrap .i64 (i + (1 : Int))) (IntKind.wrap .i64 (n + (1 : Int))) (IntKind.wrap .i64 (i + (1 : Int))) (gl g) g)))
def rCnt (s : ByteArray) (f n i : Int) (g : GL) : T (RRd spRL) := .ite (i == (ByteArray.size s : Int)) (.ite (f == i) (rAgain s f n (IntKind.wrap .i64 (i + (1 : Int))) (gl g) g) (rBody s f n i g)) (rBody s f n i g)
def rRound (s : ByteArray) (f n i : Int) (g : GL) : T (RRd spRL) := .ite (decide (i ≤ (ByteArray.size s : Int)))
  (.ite (decide (i < (ByteArray.size s : Int))) (.get (Array.toList (ByteArray.data s)) i fun c => .ite ((UInt8.toNat c : Int) != (10 : Int)) (rAgain s f n (IntKind.wrap .i64 (i + (1 : Int))) (gl g) g) (rCnt s f n i g)) (rCnt s f n i g))
  (.need (gnd (gl g) g) (.ret (.out (Exit.exit 0) [.one (.v (.int .i64 n))] () g)))
theorem tr_rlinesL_eq (s : ByteArray) (f n i : Int) (xs : List (Int × List ByteArray)) (cap : Nat) : RSpec.round spRL L7 (fun _ => none) (bodyOf Tryd.f20 0) (s, f, n, i, ()) () (some (xs, cap)) = rRound s f n i (some (xs, cap)) := by kernel_rfl
theorem tr_rlinesL0_eq (s : ByteArray) (f n i : Int) : RSpec.round spRL L7 (fun _ => none) (bodyOf Tryd.f20 0) (s, f, n, i, ()) () none = rRound s f n i none := by kernel_rfl
/-- how many lines are still to be counted -/
def lcnt : List UInt8 → List UInt8 → Nat
  | cur, [] => if cur = [] then 0 else 1
  | cur, c :: r => if c = 10 then 1 + lcnt [] r else lcnt (cur ++ [c]) r
def rcur (s : ByteArray) (f i : Int) : List UInt8 := Lib.pieceU s.data.toList f.toNat i.toNat
def rLeft (s : ByteArray) (f n i : Int) : List (Int × List ByteArray) := if i ≤ (s.size : Int) then lf (rcur s f i) (s.data.toList.drop i.toNat) n else []
def rNum (s : ByteArray) (f n i : Int) : Int := if i ≤ (s.size : Int) then n + lcnt (rcur s f i) (s.data.toList.drop i.toNat) else n
def outRL (x : RSpec.X spRL) (y : RSpec.Y spRL) (g : GL) : T (Exit × List Av × RSpec.Y spRL × GL) :=
  .need (0 ≤ x.2.2.2.1 ∧ x.2.2.2.1 ≤ (ByteArray.size x.1 : Int) + 1 ∧ 0 ≤ x.2.1 ∧ x.2.1 ≤ x.2.2.2.1 ∧ 0 ≤ x.2.2.1 ∧ x.2.2.1 ≤ x.2.2.2.1 ∧ (List.length (gx g) : Int) ≤ x.2.2.2.1 ∧ ByteArray.size x.1 ≤ 900000)
    (finG (Exit.exit 0) [.one (.v (.int .i64 (rNum x.1 x.2.1 x.2.2.1 x.2.2.2.1)))] y g (rLeft x.1 x.2.1 x.2.2.1 x.2.2.2.1))
theorem rl_again (s : ByteArray) (f n i f' n' : Int) (m : Nat) (g : GL) (Q : Exit × List Av × RSpec.Y spRL × GL → Prop) (hi : 0 ≤ i ∧ i ≤ (s.size : Int)) (hs : s.size ≤ 900000) (hf : 0 ≤ f' ∧ f' ≤ i + 1) (hn : 0 ≤ n' ∧ n' ≤ i + 1) (hm : gnd m g) (hg : ((gx g).length : Int) ≤ i + 1)
    (h : (finG (Exit.exit 0) [.one (.v (.int .i64 (rNum s f' n' (i + 1))))] () g (rLeft s f' n' (i + 1))).wp Q) :
    (rAgain s f' n' (i + 1) m g).wp fun r => match r with
      | .again x' y' g' => ((ByteArray.size x'.1 : Int) + 1 - x'.2.2.2.1).toNat < ((s.size : Int) + 1 - i).toNat ∧ (outRL x' y' g').wp Q
      | .out e avs y' g' => Q (e, avs, y', g') := by
  unfold rAgain outRL
  simp only [T.wp]
  dsimp only [El, vts, spRL]
  exact ⟨hm, by omega, ⟨by omega, by omega, hf.1, hf.2, hn.1, hn.2, hg, hs⟩, h⟩
theorem rl_body (s : ByteArray) (f n i : Int) (g : GL) (Q : Exit × List Av × RSpec.Y spRL × GL → Prop) (hi : 0 ≤ i ∧ i ≤ (s.size : Int)) (hs : s.size ≤ 900000) (hf : 0 ≤ f ∧ f ≤ i) (hn : 0 ≤ n ∧ n ≤ i) (hg : ((gx g).length : Int) ≤ i)
    (hc : i = s.size ∧ f < i ∨ s.data.toList[i.toNat]? = some 10)
    (h : (finG (Exit.exit 0) [.one (.v (.int .i64 (rNum s f n i)))] () g (rLeft s f n i)).wp Q) :
    (rBody s f n i g).wp fun r => match r with
      | .again x' y' g' => ((ByteArray.size x'.1 : Int) + 1 - x'.2.2.2.1).toNat < ((s.size : Int) + 1 - i).toNat ∧ (outRL x' y' g').wp Q
      | .out e avs y' g' => Q (e, avs, y', g') := by
  have hsz : s.data.toList.length = s.size := (Lib.size_eq s).symm
  have hcur : (s.extract f.toNat i.toNat).data.toList = rcur s f i := by unfold rcur Lib.pieceU; rw [Lib.extract_data]
  have hL : rLeft s f n i = one1 (rcur s f i) n ++ rLeft s (i + 1) (n + 1) (i + 1) := by
    unfold rLeft
    rw [if_pos hi.2]
    rcases hc with ⟨hc, _⟩ | hc
    · rw [drop_end (by omega), if_neg (by omega), lf, List.append_nil]
    · have hlt := (List.getElem?_eq_some_iff.1 hc).1
      rw [drop_at hi.1 hc, lf, if_pos rfl, if_pos (by omega)]
      congr 2
      unfold rcur Lib.pieceU
      rw [Nat.sub_self, List.take_zero]
  have hN : rNum s f n i = rNum s (i + 1) (n + 1) (i + 1) := by
    unfold rNum
    rw [if_pos hi.2]
    rcases hc with ⟨hc, hfi⟩ | hc
    · rw [drop_end (by omega), if_neg (by omega), lcnt, if_neg]
      · rfl
      · exact Lib.pieceU_ne _ _ _ (by omega) (by omega)
    · have hlt := (List.getElem?_eq_some_iff.1 hc).1
      rw [drop_at hi.1 hc, lcnt, if_pos rfl, if_pos (by omega)]
      have : rcur s (i + 1) (i + 1) = [] := by
        unfold rcur Lib.pieceU
        rw [Nat.sub_self, List.take_zero]
      rw [this]
      omega
  rw [hL, hN] at h
  have hle : (s.extract f.toNat i.toNat).size ≤ 1000000 := by
    rw [Lib.size_eq, hcur]
    unfold rcur Lib.pieceU
    rw [List.length_take, List.length_drop]
    omega
  unfold rBody
  simp only [T.wp]
  rw [hcur, IntWalk.i64_in (i + 1) (by omega), IntWalk.i64_in (n + 1) (by omega)]
  refine ⟨⟨hf.1, hf.2, hi.2⟩, hle, fun hp => ?_, fun hp => ?_⟩
  · have hp : (wordsB (rcur s f i)).length > 0 := Int.ofNat_lt.1 (of_decide_eq_true hp)
    unfold one1 at h
    rw [if_pos hp, List.singleton_append] at h
    rw [← gl_eq] at hg
    refine appG_wp (by omega) (by simp only [Go.maxLen]; omega) fun k => rl_again s f n i _ _ _ _ Q hi hs (by omega) (by omega) (gnd_app g _ k) ?_ (finG_cons h k)
    show (((gx g ++ [_]).length : Nat) : Int) ≤ _
    rw [List.length_append, ← gl_eq]
    simp only [List.length_cons, List.length_nil]
    omega
  · have hp : ¬ (wordsB (rcur s f i)).length > 0 := fun h' => (of_decide_eq_false hp) (Int.ofNat_lt.2 h')
    unfold one1 at h
    rw [if_neg hp, List.nil_append] at h
    exact rl_again s f n i _ _ _ _ Q hi hs (by omega) (by omega) (gnd_gl g) (by omega) h
theorem rl_round (s : ByteArray) (f n i : Int) (g : GL) (Q : Exit × List Av × RSpec.Y spRL × GL → Prop) (h : (outRL (s, f, n, i, ()) () g).wp Q) :
    (rRound s f n i g).wp fun r => match r with
      | .again x' y' g' => ((ByteArray.size x'.1 : Int) + 1 - x'.2.2.2.1).toNat < ((s.size : Int) + 1 - i).toNat ∧ (outRL x' y' g').wp Q
      | .out e avs y' g' => Q (e, avs, y', g') := by
  have hsz : s.data.toList.length = s.size := (Lib.size_eq s).symm
  unfold outRL at h
  simp only [T.wp] at h
  dsimp only [El, vts, spRL] at h
  obtain ⟨⟨h1, h2, h3, h4, h5, h6, h7, h8⟩, h⟩ := h
  unfold rRound
  simp only [T.wp]
  refine ⟨fun hle => ?_, fun hgt => ?_⟩
  · have hle := of_decide_eq_true hle
    have e1 : (i + 1).toNat = i.toNat + 1 := by omega
    refine ⟨fun hlt => ?_, fun hge => ?_⟩
    · have hlt := of_decide_eq_true hlt
      obtain ⟨c, hc⟩ := elem_at (l := s.data.toList) h1 (by omega)
      have hd := drop_at h1 hc
      refine ⟨c, h1, hc, fun hne => ?_, fun heq => ?_⟩
      · have hne : c ≠ 10 := fun e => by rw [e] at hne; exact absurd hne (by decide)
        rw [IntWalk.i64_in (i + 1) (by omega)]
        refine rl_again s f n i f n _ g Q ⟨h1, hle⟩ h8 (by omega) (by omega) (gnd_gl g) (by omega) ?_
        have hcur : rcur s f i ++ [c] = rcur s f (i + 1) := by
          unfold rcur
          rw [e1, ← Lib.pieceU_grow _ _ _ _ (by omega), hd]; rfl
        have e2 : rLeft s f n i = rLeft s f n (i + 1) := by
          unfold rLeft
          rw [if_pos hle, if_pos (by omega), hd, lf, if_neg hne, hcur]
        have e3 : rNum s f n i = rNum s f n (i + 1) := by
          unfold rNum
          rw [if_pos hle, if_pos (by omega), hd, lcnt, if_neg hne, hcur]
        rwa [← e2, ← e3]
      · have heq : c = 10 := by
          have : (c.toNat : Int) = 10 := by simpa using heq
          exact byte_of (k := 10) (by omega)
        subst heq
        unfold rCnt
        simp only [T.wp]
        refine ⟨fun he => ?_, fun _ => rl_body s f n i g Q ⟨h1, hle⟩ h8 ⟨h3, h4⟩ ⟨h5, h6⟩ h7 (.inr hc) h⟩
        have he : i = s.size := by simpa using he
        omega
    · have hge := of_decide_eq_false hge
      have he : i = s.size := by omega
      unfold rCnt
      simp only [T.wp]
      refine ⟨fun _ => ⟨fun hf => ?_, fun hf => ?_⟩, fun hne => absurd he (by simpa using hne)⟩
      · have hf : f = i := by simpa using hf
        rw [IntWalk.i64_in (i + 1) (by omega)]
        refine rl_again s f n i f n _ g Q ⟨h1, hle⟩ h8 (by omega) (by omega) (gnd_gl g) (by omega) ?_
        have hcur : rcur s f i = [] := by
          unfold rcur Lib.pieceU
          rw [hf, Nat.sub_self, List.take_zero]
        have e2 : rLeft s f n i = rLeft s f n (i + 1) := by
          unfold rLeft
          rw [if_pos hle, if_neg (by omega), drop_end (by omega), hcur]; rfl
        have e3 : rNum s f n i = rNum s f n (i + 1) := by
          unfold rNum
          rw [if_pos hle, if_neg (by omega), drop_end (by omega), hcur, lcnt, if_pos rfl]; omega
        rwa [← e2, ← e3]
      · have hf : ¬ f = i := by simpa using hf
        exact rl_body s f n i g Q ⟨h1, hle⟩ h8 ⟨h3, h4⟩ ⟨h5, h6⟩ h7 (.inl ⟨he, by omega⟩) h
  · have hgt := of_decide_eq_false hgt
    unfold rLeft rNum at h
    rw [if_neg hgt, if_neg hgt] at h
    exact ⟨gnd_gl g, finG_nil h⟩
theorem rlinesL_ok : LoopOk Tryd.prog 0 (bodyOf Tryd.f20 0) (spRL.run outRL) :=
  loopR_ok (E := L7) (L := fun _ => none) mixed 0 (loops_none _ _ _) spRL (Nat.zero_le _) outRL (fun x _ _ => ((ByteArray.size x.1 : Int) + 1 - x.2.2.2.1).toNat) (by
    rintro ⟨s, f, n, i, ⟨⟩⟩ ⟨⟩ g Q h
    match g, h with
    | some (xs, cap), h =>
      rw [tr_rlinesL_eq s f n i xs cap]
      exact rl_round s f n i (some (xs, cap)) Q h
    | none, h =>
      rw [tr_rlinesL0_eq s f n i]
      exact rl_round s f n i none Q h)
noncomputable def lpRL : Loops := oneL 4 (spRL.run outRL)
end Go.Proofs.YtljlfmmhoceihaaDoor
/-
parquetref6.Lines: its tree. (By hand: 'gx (Option.none : GL)' wants its type.)
-/
set_option linter.unusedSimpArgs false
set_option linter.unusedVariables false
namespace Go.Proofs.YtljlfmmhoceihaaDoor
open Go.RowKit Ax
noncomputable def tr_rlines (x : Els [(false, .str)]) : T Av :=
 .need (True) (.need ((0 : El (Cd.int .i64)) ≤ (0 : Int) ∧ (0 : Int) ≤ (↑(ByteArray.size (x.1)) : Int) + (1 : El (Cd.int .i64)) ∧ (0 : El (Cd.int .i64)) ≤ (0 : Int) ∧ (0 : Int) ≤ (0 : Int) ∧ (0 : El (Cd.int .i64)) ≤ (0 : Int) ∧ (0 : Int) ≤ (0 : Int) ∧ (↑(List.length (gx (Option.none : GL))) : Int) ≤ (0 : Int) ∧ ByteArray.size (x.1) ≤ (900000 : Nat)) (.ite (List.isEmpty (rLeft (x.1) (0 : Int) (0 : Int) (0 : Int)))
    (.ret (.tup [(.one (.v (Go.Value.slice Option.none (0 : Nat) (0 : Nat)))), (.one (.v (.int .i64 (rNum (x.1) (0 : Int) (0 : Int) (0 : Int)))))]))
    (.up ((0 : Nat)) (fun v0 =>
     .need (List.length (rLeft (x.1) (0 : Int) (0 : Int) (0 : Int)) ≤ List.length (rLeft (x.1) (0 : Int) (0 : Int) (0 : Int))) (.ret (.tup [(.one (.ds (Cd.pair (Cd.int .i64) (Cd.sl Cd.str)) (List.take (List.length (rLeft (x.1) (0 : Int) (0 : Int) (0 : Int))) (rLeft (x.1) (0 : Int) (0 : Int) (0 : Int))))), (.one (.v (.int .i64 (rNum (x.1) (0 : Int) (0 : Int) (0 : Int)))))]))))))
theorem tr_rlines_eq (x : Els [(false, .str)]) : fnP L7 lpRL Tryd.f20 (encs [(false, .str)] x) = tr_rlines x := by kernel_rfl
end Go.Proofs.YtljlfmmhoceihaaDoor
/-
parquetref6.Lines: what it tells; parquetlaw6.same: what its loops carry.
-/
set_option linter.unusedSimpArgs false
set_option linter.unusedVariables false
namespace Go.Proofs.YtljlfmmhoceihaaDoor
open Go.RowKit Ax
theorem rLeft_all (s : ByteArray) : rLeft s 0 0 0 = linesOf s := by
  unfold rLeft
  rw [if_pos (by omega), linesOf_lf]; rfl
def linesNum (s : ByteArray) : Int := lcnt [] s.data.toList
theorem rNum_all (s : ByteArray) : rNum s 0 0 0 = linesNum s := by
  unfold rNum
  rw [if_pos (by omega)]
  show 0 + (lcnt [] s.data.toList : Int) = _
  rw [Int.zero_add]; rfl
theorem gx_none : ((List.length (gx (none : GL)) : Nat) : Int) ≤ 0 := Int.le_refl 0
theorem nil_av2 {w : World} {R : Nat → Prop} {σ : List Nat} {c : Cd} {a : Av} {v : Value} (h : AvIs w R σ (.tup [.one (.v (.slice none 0 0)), a]) v) : AvIs w R σ (.tup [.one (.ds c []), a]) v := by
  cases h with
  | tup us hl hi =>
    refine .tup us hl fun i x u hx hu => ?_
    match i, hx with
    | 0, hx =>
      have hx : Av.one (.ds c []) = x := by simpa using hx
      subst hx
      exact nil_av1 (hi 0 _ u rfl hu)
    | 1, hx => exact hi 1 x u hx hu
noncomputable def con_rlines : Con Tryd.prog := ⟨20, [], _, cf_rlines, val_con_w (E := L7) (L := lpRL) mixed Tryd.func20 (one_loop rlinesL_ok (by kernel_rfl)) [(false, .str)] (fun x => ByteArray.size x.1 ≤ 900000) (fun x => .tup [.one (.ds cL (linesOf x.1)), .one (.v (.int .i64 (linesNum x.1)))]) fun x hx => by
  rw [tr_rlines_eq]
  obtain ⟨s, u⟩ := x
  revert s
  intro (s : ByteArray) (hx : s.size ≤ 900000)
  unfold tr_rlines
  simp only [T.wp, rLeft_all, rNum_all]
  refine ⟨trivial, ⟨Int.le_refl 0, by omega, Int.le_refl 0, by decide, Int.le_refl 0, by decide, gx_none, hx⟩, fun h w R σ v hv => ?_, fun _ k _ => ⟨Nat.le_refl _, fun w R σ v hv => ?_⟩⟩
  · rw [List.isEmpty_iff.1 h]; exact nil_av2 hv
  · rwa [List.take_length] at hv⟩
theorem cf_same (xs : Array Value) (w : World) : (callFunc 23 xs).run Tryd.prog w = .ok (.enter 23 xs) w := by kernel_rfl
theorem cf_known6 (xs : Array Value) (w : World) : (callFunc 19 xs).run Tryd.prog w = .ok (.enter 19 xs) w := by kernel_rfl
noncomputable def L8 : Env Tryd.prog := L7.add [con_rlines]
abbrev spSI : LSpec := ⟨71, [(0, false, .sl cL), (1, false, .sl cL), (5, false, .int .i64), (6, false, .int .i64)], [], [], fun e => match e with | .ret => [4] | .exit _ => [0, 1, 5] | _ => []⟩
abbrev spSO : LSpec := ⟨71, [(0, false, .sl cL), (1, false, .sl cL), (5, false, .int .i64)], [], [], fun e => match e with | .ret => [4] | _ => []⟩
end Go.Proofs.YtljlfmmhoceihaaDoor
/-
parquetlaw6.same: its inner loop's tree.
-/
set_option linter.unusedSimpArgs false
set_option linter.unusedVariables false
namespace Go.Proofs.YtljlfmmhoceihaaDoor
open Go.RowKit Ax
noncomputable def tr_sameI (x : LSpec.X spSI × LSpec.Y spSI) : T (Rd spSI) :=
 .get x.1.1 x.1.2.2.1 (fun v0 =>
  .ite (decide (x.1.2.2.2.1 < (↑(List.length v0.2) : Int)))
   (.get x.1.1 x.1.2.2.1 (fun v1 =>
    .get v1.2 x.1.2.2.2.1 (fun v2 =>
     .get x.1.2.1 x.1.2.2.1 (fun v3 =>
      .get v3.2 x.1.2.2.2.1 (fun v4 =>
       .ite (!ByteArray.toList v2 == ByteArray.toList v4)
        (.ret (.out (Go.Exit.ret) [(.one (.v (.bool (false))))] ()))
        (.ret (.again (x.1.1, (x.1.2.1, (x.1.2.2.1, (IntKind.wrap .i64 (x.1.2.2.2.1 + (1 : Int)), ())))) ())))))))
   (.ret (.out (Go.Exit.exit (2 : Nat)) [(.one (.ds (Cd.pair (Cd.int .i64) (Cd.sl Cd.str)) x.1.1)), (.one (.ds (Cd.pair (Cd.int .i64) (Cd.sl Cd.str)) x.1.2.1)), (.one (.v (.int .i64 x.1.2.2.1)))] ())))
theorem tr_sameI_eq (x : LSpec.X spSI × LSpec.Y spSI) : LSpec.round spSI L8 (fun _ => none) (innerOf (bodyOf Tryd.f23 0) 0) x.1 x.2 = tr_sameI x := by kernel_rfl
end Go.Proofs.YtljlfmmhoceihaaDoor
/-
parquetlaw6.same: its inner loop.
-/
set_option linter.unusedSimpArgs false
set_option linter.unusedVariables false
namespace Go.Proofs.YtljlfmmhoceihaaDoor
open Go.RowKit Ax
abbrev LL := List (Int × List ByteArray)
def wAt (a : LL) (i : Int) : List ByteArray := ((a[i.toNat]?).map (·.2)).getD []
theorem wAt_eq {a : LL} {i : Int} {p : Int × List ByteArray} (h : a[i.toNat]? = some p) : wAt a i = p.2 := by unfold wAt; rw [h]; rfl
def SIn (a b : LL) (i k : Int) : Prop := 0 ≤ i ∧ i < (List.length a : Int) ∧ i < (List.length b : Int) ∧ 0 ≤ k ∧ k ≤ ((wAt a i).length : Int) ∧ (wAt a i).length = (wAt b i).length ∧ (wAt a i).length ≤ 1000000
def outSI (x : LSpec.X spSI) (y : LSpec.Y spSI) : T (Exit × List Av × LSpec.Y spSI) :=
  .need (SIn x.1 x.2.1 x.2.2.1 x.2.2.2.1) (.ite (decide ((wAt x.1 x.2.2.1).drop x.2.2.2.1.toNat = (wAt x.2.1 x.2.2.1).drop x.2.2.2.1.toNat))
    (.ret (.exit 2, [.one (.ds cL x.1), .one (.ds cL x.2.1), .one (.v (.int .i64 x.2.2.1))], ())) (.ret (.ret, [.one (.v (.bool false))], ())))
theorem bytes_beq (a b : ByteArray) : (a.toList == b.toList) = decide (a = b) := by
  rw [Bool.eq_iff_iff, beq_iff_eq, decide_eq_true_iff, Lib.toList_data, Lib.toList_data]
  refine ⟨fun h => ?_, fun h => by rw [h]⟩
  rw [← Lib.mk_data a, ← Lib.mk_data b, h]
theorem sameI_core (a b : LL) (i k : Int) (Q : Exit × List Av × LSpec.Y spSI → Prop) (h : (outSI (a, b, i, k, ()) ()).wp Q) : (tr_sameI ((a, b, i, k, ()), ())).wp fun r => match r with
      | .again x' y' => ((wAt x'.1 x'.2.2.1).length - x'.2.2.2.1.toNat) < ((wAt a i).length - k.toNat) ∧ (outSI x' y').wp Q
      | .out e avs y' => Q (e, avs, y') := by
  unfold tr_sameI
  unfold outSI at h ⊢
  simp only [T.wp] at h ⊢
  dsimp only [El, vts, spSI] at h ⊢
  obtain ⟨hI, hy, hz⟩ := h
  obtain ⟨i0, i1, i2, k0, k1, hl, hm⟩ := hI
  obtain ⟨p, hp⟩ := elem_at (l := a) i0 i1
  obtain ⟨q, hq⟩ := elem_at (l := b) i0 i2
  have ep := wAt_eq hp
  have eq := wAt_eq hq
  refine ⟨p, i0, hp, fun hlt => ?_, fun hge => ?_⟩
  · have hlt : k < (p.2.length : Int) := of_decide_eq_true hlt
    rw [ep, eq] at hl
    rw [ep] at hm
    obtain ⟨u, hu⟩ := elem_at (l := p.2) k0 hlt
    obtain ⟨v, hv⟩ := elem_at (l := q.2) k0 (by omega)
    rw [ep, eq, drop_at k0 hu, drop_at k0 hv] at hy hz
    refine ⟨p, i0, hp, u, k0, hu, q, i0, hq, v, k0, hv, fun hne => ?_, fun heq => ?_⟩
    · have hne : ¬ u = v := by
        have hne : (!(u.toList == v.toList)) = true := hne
        rw [bytes_beq] at hne
        simpa using hne
      exact hz (by rw [decide_eq_false_iff_not]; intro h; exact hne (List.cons.inj h).1)
    · have heq : u = v := by
        have heq : (!(u.toList == v.toList)) = false := heq
        rw [bytes_beq] at heq
        simpa using heq
      subst heq
      rw [IntWalk.i64_in (k + 1) (by omega), ep, eq]
      have e : decide (u :: p.2.drop (k + 1).toNat = u :: q.2.drop (k + 1).toNat) = decide (p.2.drop (k + 1).toNat = q.2.drop (k + 1).toNat) := by
        rw [decide_eq_decide]; simp
      rw [e] at hy hz
      exact ⟨by omega, ⟨i0, i1, i2, by omega, by rw [ep]; omega, by rw [ep, eq]; exact hl, by rw [ep]; exact hm⟩, hy, hz⟩
  · have hge : ¬ k < (p.2.length : Int) := of_decide_eq_false hge
    rw [ep, eq] at hl
    rw [ep, eq, drop_end (by omega), drop_end (by omega)] at hy
    exact hy (decide_eq_true rfl)
theorem sameI_ok (n : Nat) (hn : n ≤ 0) : LoopOk Tryd.prog n (innerOf (bodyOf Tryd.f23 0) 0) (spSI.run outSI) :=
  loop_ok (E := L8) (L := fun _ => none) mixed n (loops_none _ _ _) spSI hn outSI (fun x _ => (wAt x.1 x.2.2.1).length - x.2.2.2.1.toNat) (by
    rintro ⟨a, b, i, k, ⟨⟩⟩ ⟨⟩ Q h
    rw [tr_sameI_eq ((a, b, i, k, ()), ())]
    exact sameI_core a b i k Q h)
noncomputable def lpSI : Loops := manyL [(9, spSI.run outSI)]
end Go.Proofs.YtljlfmmhoceihaaDoor
/-
parquetlaw6.same: its outer loop's tree.
-/
set_option linter.unusedSimpArgs false
set_option linter.unusedVariables false
namespace Go.Proofs.YtljlfmmhoceihaaDoor
open Go.RowKit Ax
noncomputable def tr_sameO (x : LSpec.X spSO × LSpec.Y spSO) : T (Rd spSO) :=
 .ite (decide (x.1.2.2.1 < (↑(List.length x.1.1) : Int)))
  (.get x.1.1 x.1.2.2.1 (fun v0 =>
   .get x.1.2.1 x.1.2.2.1 (fun v1 =>
    .ite (v0.1 != v1.1)
     (.ret (.out (Go.Exit.ret) [(.one (.v (.bool (false))))] ()))
     (.get x.1.1 x.1.2.2.1 (fun v2 =>
      .get x.1.2.1 x.1.2.2.1 (fun v3 =>
       .ite ((↑(List.length v2.2) : Int) != (↑(List.length v3.2) : Int))
        (.ret (.out (Go.Exit.ret) [(.one (.v (.bool (false))))] ()))
        (.need (SIn x.1.1 x.1.2.1 x.1.2.2.1 (0 : Int)) (.ite (decide (List.drop (Int.toNat (0 : Int)) (wAt x.1.1 x.1.2.2.1) = List.drop (Int.toNat (0 : Int)) (wAt x.1.2.1 x.1.2.2.1)))
          (.ret (.again (x.1.1, (x.1.2.1, (IntKind.wrap .i64 (x.1.2.2.1 + (1 : Int)), ()))) ()))
          (.ret (.out (Go.Exit.ret) [(.one (.v (.bool (false))))] ()))))))))))
  (.ret (.out (Go.Exit.exit (0 : Nat)) [] ()))
theorem tr_sameO_eq (x : LSpec.X spSO × LSpec.Y spSO) : LSpec.round spSO L8 lpSI (bodyOf Tryd.f23 0) x.1 x.2 = tr_sameO x := by kernel_rfl
end Go.Proofs.YtljlfmmhoceihaaDoor
/-
parquetlaw6.same: its outer loop.
-/
set_option linter.unusedSimpArgs false
set_option linter.unusedVariables false
namespace Go.Proofs.YtljlfmmhoceihaaDoor
open Go.RowKit Ax
def SameFit (a : LL) : Prop := a.length ≤ 1000000 ∧ ∀ e ∈ a, e.2.length ≤ 1000000
def outSO (x : LSpec.X spSO) (y : LSpec.Y spSO) : T (Exit × List Av × LSpec.Y spSO) :=
  .need (0 ≤ x.2.2.1 ∧ List.length x.1 = List.length x.2.1 ∧ SameFit x.1) (.ite (decide (List.drop x.2.2.1.toNat x.1 = List.drop x.2.2.1.toNat x.2.1)) (.ret (.exit 0, [], ())) (.ret (.ret, [.one (.v (.bool false))], ())))
theorem sameO_core (a b : LL) (i : Int) (Q : Exit × List Av × LSpec.Y spSO → Prop) (h : (outSO (a, b, i, ()) ()).wp Q) : (tr_sameO ((a, b, i, ()), ())).wp fun r => match r with
      | .again x' y' => (List.length x'.1 - x'.2.2.1.toNat) < (a.length - i.toNat) ∧ (outSO x' y').wp Q
      | .out e avs y' => Q (e, avs, y') := by
  unfold tr_sameO
  unfold outSO at h ⊢
  simp only [T.wp] at h ⊢
  dsimp only [El, vts, spSO, cL] at h ⊢
  obtain ⟨⟨i0, hl, hf⟩, hy, hz⟩ := h
  refine ⟨fun hlt => ?_, fun hge => ?_⟩
  · have hlt := of_decide_eq_true hlt
    obtain ⟨p, hp⟩ := elem_at (l := a) i0 hlt
    obtain ⟨q, hq⟩ := elem_at (l := b) i0 (by omega)
    rw [drop_at i0 hp, drop_at i0 hq] at hy hz
    have hpm := hf.2 p (List.mem_of_getElem? hp)
    have no : p ≠ q → Q (.ret, [.one (.v (.bool false))], ()) := fun hne => hz (by rw [decide_eq_false_iff_not]; intro h; exact hne (List.cons.inj h).1)
    refine ⟨p, i0, hp, q, i0, hq, fun h1 => no ?_, fun h1 => ⟨p, i0, hp, q, i0, hq, fun h2 => no ?_, fun h2 => ?_⟩⟩
    · intro e; rw [e] at h1; simp at h1
    · intro e; rw [e] at h2; simp at h2
    · have h1 : p.1 = q.1 := by simpa using h1
      have h2 : p.2.length = q.2.length := by
        have : (p.2.length : Int) = q.2.length := by simpa using h2
        omega
      have ep := wAt_eq hp
      have eq := wAt_eq hq
      rw [ep, eq]
      refine ⟨⟨i0, hlt, by omega, Int.le_refl 0, by omega, by rw [ep, eq]; exact h2, by rw [ep]; exact hpm⟩, fun h3 => ?_, fun h3 => no ?_⟩
      · have h3 : p.2 = q.2 := of_decide_eq_true h3
        have e : p = q := Prod.ext h1 h3
        subst e
        have hlen := hf.1
        rw [IntWalk.i64_in (i + 1) (by omega)]
        have e : decide (p :: a.drop (i + 1).toNat = p :: b.drop (i + 1).toNat) = decide (a.drop (i + 1).toNat = b.drop (i + 1).toNat) := by
          rw [decide_eq_decide]; simp
        rw [e] at hy hz
        exact ⟨by omega, ⟨by omega, hl, hf⟩, hy, hz⟩
      · have h3 : ¬ p.2 = q.2 := of_decide_eq_false h3
        intro e; exact h3 (by rw [e])
  · have hge := of_decide_eq_false hge
    rw [drop_end (by omega), drop_end (by omega)] at hy
    exact hy (decide_eq_true rfl)
theorem sameO_ok : LoopOk Tryd.prog 0 (bodyOf Tryd.f23 0) (spSO.run outSO) :=
  loop_ok (E := L8) (L := lpSI) mixed 0 (inner_one (by kernel_rfl) (sameI_ok 0 (Nat.le_refl 0))) spSO (Nat.zero_le _) outSO (fun x _ => List.length x.1 - x.2.2.1.toNat) (by
    rintro ⟨a, b, i, ⟨⟩⟩ ⟨⟩ Q h
    rw [tr_sameO_eq ((a, b, i, ()), ())]
    exact sameO_core a b i Q h)
noncomputable def lpSO : Loops := oneL 4 (spSO.run outSO)
end Go.Proofs.YtljlfmmhoceihaaDoor
/-
parquetlaw6.same: its tree.
-/
set_option linter.unusedSimpArgs false
set_option linter.unusedVariables false
namespace Go.Proofs.YtljlfmmhoceihaaDoor
open Go.RowKit Ax
noncomputable def tr_same (x : Els [(false, .sl cL), (false, .sl cL)]) : T Av :=
 .ite ((↑(List.length (x.1)) : Int) != (↑(List.length x.2.1) : Int))
  (.ret (.one (.v (.bool (false)))))
  (.need ((0 : El (Cd.int .i64)) ≤ (0 : Int) ∧ List.length (x.1) = List.length x.2.1 ∧ SameFit (x.1)) (.ite (decide (List.drop (Int.toNat (0 : Int)) (x.1) = List.drop (Int.toNat (0 : Int)) x.2.1))
    (.ret (.one (.v (.bool (true)))))
    (.ret (.one (.v (.bool (false)))))))
theorem tr_same_eq (x : Els [(false, .sl cL), (false, .sl cL)]) : fnP L8 lpSO Tryd.f23 (encs [(false, .sl cL), (false, .sl cL)] x) = tr_same x := by kernel_rfl
end Go.Proofs.YtljlfmmhoceihaaDoor
/-
parquetlaw6.same: what it tells.
-/
set_option linter.unusedSimpArgs false
set_option linter.unusedVariables false
namespace Go.Proofs.YtljlfmmhoceihaaDoor
open Go.RowKit Ax
noncomputable def con_same : Con Tryd.prog := ⟨23, [], _, cf_same, val_con (E := L8) (L := lpSO) mixed Tryd.func23 (one_loop sameO_ok (by kernel_rfl)) [(false, .sl cL), (false, .sl cL)] (fun x => SameFit x.1) (fun x => .one (.v (.bool (decide ((x.1 : LL) = x.2.1))))) fun x hx => by
  rw [tr_same_eq]
  obtain ⟨a, b, u⟩ := x
  revert a b
  intro (a : LL) (b : LL) (hx : SameFit a)
  unfold tr_same
  simp only [T.wp]
  dsimp only [El, cL]
  refine ⟨fun h => ?_, fun h => ?_⟩
  · have hne : ¬ a = b := fun e => by rw [e] at h; simp at h
    rw [decide_eq_false hne]
  · have hl : a.length = b.length := by
      have : (a.length : Int) = b.length := by simpa using h
      omega
    refine ⟨⟨Int.le_refl 0, hl, hx⟩, fun h => ?_, fun h => ?_⟩
    · have h : decide (a = b) = true := h
      rw [h]
    · have h : decide (a = b) = false := h
      rw [h]⟩
noncomputable def L9 : Env Tryd.prog := L8.add [con_same]
end Go.Proofs.YtljlfmmhoceihaaDoor
/-
parquetlaw6.known: its tree.
-/
set_option linter.unusedSimpArgs false
set_option linter.unusedVariables false
namespace Go.Proofs.YtljlfmmhoceihaaDoor
open Go.RowKit Ax
noncomputable def tr_known6 (x : Els []) : T Av :=
 .need (LinesFit { data := #[(35 : UInt8), (32 : UInt8), (120 : UInt8), (10 : UInt8), (32 : UInt8), (49 : UInt8), (32 : UInt8), (50 : UInt8), (32 : UInt8), (35 : UInt8), (32 : UInt8), (121 : UInt8), (10 : UInt8), (10 : UInt8), (51 : UInt8)] }) (.need (ByteArray.size { data := #[(45 : UInt8), (49 : UInt8), (50 : UInt8)] } ≤ (281474976710656 : Nat)) (.need (ByteArray.size { data := #[(48 : UInt8), (49 : UInt8), (50 : UInt8)] } ≤ (281474976710656 : Nat)) (.ite ((↑(List.length (linesOf { data := #[(35 : UInt8), (32 : UInt8), (120 : UInt8), (10 : UInt8), (32 : UInt8), (49 : UInt8), (32 : UInt8), (50 : UInt8), (32 : UInt8), (35 : UInt8), (32 : UInt8), (121 : UInt8), (10 : UInt8), (10 : UInt8), (51 : UInt8)] })) : Int) == (2 : Int))
     (.get (linesOf { data := #[(35 : UInt8), (32 : UInt8), (120 : UInt8), (10 : UInt8), (32 : UInt8), (49 : UInt8), (32 : UInt8), (50 : UInt8), (32 : UInt8), (35 : UInt8), (32 : UInt8), (121 : UInt8), (10 : UInt8), (10 : UInt8), (51 : UInt8)] }) ((0 : Int)) (fun v0 =>
      .ite (v0.1 == (2 : Int))
       (.get (linesOf { data := #[(35 : UInt8), (32 : UInt8), (120 : UInt8), (10 : UInt8), (32 : UInt8), (49 : UInt8), (32 : UInt8), (50 : UInt8), (32 : UInt8), (35 : UInt8), (32 : UInt8), (121 : UInt8), (10 : UInt8), (10 : UInt8), (51 : UInt8)] }) ((0 : Int)) (fun v1 =>
        .ite ((↑(List.length v1.2) : Int) == (2 : Int))
         (.get (linesOf { data := #[(35 : UInt8), (32 : UInt8), (120 : UInt8), (10 : UInt8), (32 : UInt8), (49 : UInt8), (32 : UInt8), (50 : UInt8), (32 : UInt8), (35 : UInt8), (32 : UInt8), (121 : UInt8), (10 : UInt8), (10 : UInt8), (51 : UInt8)] }) ((0 : Int)) (fun v2 =>
          .get v2.2 ((1 : Int)) (fun v3 =>
           .ite (ByteArray.toList v3 == ByteArray.toList { data := #[(50 : UInt8)] })
            (.get (linesOf { data := #[(35 : UInt8), (32 : UInt8), (120 : UInt8), (10 : UInt8), (32 : UInt8), (49 : UInt8), (32 : UInt8), (50 : UInt8), (32 : UInt8), (35 : UInt8), (32 : UInt8), (121 : UInt8), (10 : UInt8), (10 : UInt8), (51 : UInt8)] }) ((1 : Int)) (fun v4 =>
             .ite (v4.1 == (4 : Int))
              (.ite (lintB { data := #[(45 : UInt8), (49 : UInt8), (50 : UInt8)] })
               (.ite ((if lintB { data := #[(45 : UInt8), (49 : UInt8), (50 : UInt8)] } = true then atoiV { data := #[(45 : UInt8), (49 : UInt8), (50 : UInt8)] } else (0 : Int)) == (-12 : Int))
                (.ret (.one (.v (.bool (!lintB { data := #[(48 : UInt8), (49 : UInt8), (50 : UInt8)] })))))
                (.ret (.one (.v (.bool (false))))))
               (.ret (.one (.v (.bool (false))))))
              (.ret (.one (.v (.bool (false)))))))
            (.ret (.one (.v (.bool (false))))))))
         (.ret (.one (.v (.bool (false)))))))
       (.ret (.one (.v (.bool (false)))))))
     (.ret (.one (.v (.bool (false))))))))
theorem tr_known6_eq (x : Els []) : fnP L9 (fun _ => none) Tryd.f19 (encs [] x) = tr_known6 x := by kernel_rfl
end Go.Proofs.YtljlfmmhoceihaaDoor
/-
parquetlaw6.known tells true.
-/
set_option linter.unusedSimpArgs false
set_option linter.unusedVariables false
namespace Go.Proofs.YtljlfmmhoceihaaDoor
open Go.RowKit Ax
def kTxt : ByteArray := ⟨#[35, 32, 120, 10, 32, 49, 32, 50, 32, 35, 32, 121, 10, 10, 51]⟩
theorem kTxt_lines : linesOf kTxt = [(2, [⟨#[49]⟩, ⟨#[50]⟩]), (4, [⟨#[51]⟩])] := by
  rw [linesOf_lf]
  kernel_rfl
theorem numB_of (s : ByteArray) (b : Bool) (h : numB s.data.toList = b) : lintB s = b := (lint_num s).1.trans h
theorem k12 : lintB ⟨#[45, 49, 50]⟩ = true := numB_of _ _ (by kernel_rfl)
theorem v12 : atoiV ⟨#[45, 49, 50]⟩ = -12 := ((lint_num _).2 k12).trans (by kernel_rfl)
theorem k012 : lintB ⟨#[48, 49, 50]⟩ = false := numB_of _ _ (by kernel_rfl)
theorem known6_wp : (tr_known6 ()).wp fun av => av = .one (.v (.bool true)) := by
  unfold tr_known6
  rw [show ({ data := #[(35 : UInt8), (32 : UInt8), (120 : UInt8), (10 : UInt8), (32 : UInt8), (49 : UInt8), (32 : UInt8), (50 : UInt8), (32 : UInt8), (35 : UInt8), (32 : UInt8), (121 : UInt8), (10 : UInt8), (10 : UInt8), (51 : UInt8)] } : ByteArray) = kTxt from rfl, kTxt_lines, k12, v12, k012]
  simp only [T.wp]
  refine ⟨fit_of kTxt (by decide), by decide, by decide, fun _ => ⟨_, Int.le_refl 0, rfl, fun _ => ⟨_, Int.le_refl 0, rfl, fun _ => ⟨_, Int.le_refl 0, rfl, _, by decide, rfl, fun _ => ⟨_, by decide, rfl, fun _ => ⟨fun _ => ⟨fun _ => rfl, fun h => ?_⟩, fun h => ?_⟩, fun h => ?_⟩, fun h => ?_⟩, fun h => ?_⟩, fun h => ?_⟩, fun h => ?_⟩
  all_goals first
    | (exfalso; revert h; decide)
    | (exact absurd h (by kernel_rfl))
    | (rw [bytes_beq] at h; exact absurd h (by decide))
noncomputable def con_known6 : Con Tryd.prog := ⟨19, [], _, cf_known6, kb_con' (tot_con (E := L9) mixed Tryd.func19 no_loops [] (fun _ => .one (.v (.bool true))) fun x => by
  rw [tr_known6_eq]
  exact known6_wp)⟩
noncomputable def LA : Env Tryd.prog := L9.add [con_known6]
end Go.Proofs.YtljlfmmhoceihaaDoor
/-
LexTells: its tree.
-/
set_option linter.unusedSimpArgs false
set_option linter.unusedVariables false
namespace Go.Proofs.YtljlfmmhoceihaaDoor
open Go.RowKit Ax
noncomputable def tr_lextells (x : Els [(false, .str), (false, .str)]) : T Av :=
 .ite (!true)
  (.ret (.one (.v (.bool (false)))))
  (.ite (decide ((↑(ByteArray.size (x.1)) : Int) > (600 : Int)))
   (.ret (.one (.v (.bool (true)))))
   (.ite (decide ((↑(ByteArray.size x.2.1) : Int) > (40 : Int)))
    (.ret (.one (.v (.bool (true)))))
    (.need (ByteArray.size (x.1) ≤ (900000 : Nat)) (.need (ByteArray.size x.2.1 ≤ (281474976710656 : Nat)) (.need (True) (.need (LinesFit (x.1)) (.need (SameFit (linesOf (x.1))) (.ite (decide (linesOf (x.1) = linesOf (x.1)))
          (.ite ((if lintB x.2.1 = true then atoiV x.2.1 else (0 : Int)) == if lintB x.2.1 = true then atoiV x.2.1 else (0 : Int))
           (.ret (.one (.v (.bool (lintB x.2.1 == lintB x.2.1)))))
           (.ret (.one (.v (.bool (false))))))
          (.ret (.one (.v (.bool (false)))))))))))))
theorem tr_lextells_eq (x : Els [(false, .str), (false, .str)]) : fnP LA (fun _ => none) Tryd.f6 (encs [(false, .str), (false, .str)] x) = tr_lextells x := by kernel_rfl
end Go.Proofs.YtljlfmmhoceihaaDoor
/-
Arguments out of their readings; a law's row out of its contract.
-/
set_option linter.unusedSimpArgs false
set_option linter.unusedVariables false
namespace Ax
open Go Go.RowKit Go.ChangeShapes Go.WideShapes

/-- the bounds that a reading gives -/
def Fit : (c : Cd) → El c → Prop
  | .int k, z => (Lit.int k z).wf = true
  | .bool, _ => True
  | .str, s => s.size ≤ maxLen
  | .words, _ => True
  | .unit, _ => True
  | .pair a b, x => Fit a x.1 ∧ Fit b x.2
  | .sl c, xs => xs.length ≤ maxLen ∧ ∀ x ∈ xs, Fit c x
  | .ptr c, x => Fit c x

abbrev Rw (w : World) : Nat → Prop := fun b => b < w.heap.size

structure Opens (P : Program) (t : TypeId) (c : Cd) : Prop where
  size : P.cellsOf t = csz c
  ok : ∀ {H : Type} (enc : TypeId × Value → H) (w : World) (fuel : Nat) (cs : List Value) (x : DataW H × List MemPlace),
    DataW.trod enc P w 0 (fun _ => true) true fuel t cs = some x → ∃ y : El c, Fit c y ∧ Is w (Rw w) [] (ck c y) cs

section
variable {P : Program}
theorem opens_int {t : TypeId} {k : IntKind} (hu : P.underlying t = some (.int k)) (hs : P.cellsOf t = 1) : Opens P t (.int k) :=
  ⟨hs, fun enc w fuel cs x h => by
    obtain ⟨n, rfl, rfl, hw⟩ := DataW.trod_int hu h
    exact ⟨n, hw, .v rfl .nil⟩⟩
theorem opens_bool {t : TypeId} (hu : P.underlying t = some .bool) (hs : P.cellsOf t = 1) : Opens P t .bool :=
  ⟨hs, fun enc w fuel cs x h => by
    obtain ⟨b, rfl, rfl⟩ := DataW.trod_bool hu h
    exact ⟨b, trivial, .v rfl .nil⟩⟩
theorem opens_str {t : TypeId} (hu : P.underlying t = some .string) (hs : P.cellsOf t = 1) : Opens P t .str :=
  ⟨hs, fun enc w fuel cs x h => by
    obtain ⟨s, rfl, rfl, hs⟩ := DataW.trod_string hu h
    exact ⟨s, hs, .v rfl .nil⟩⟩

theorem am_of : ∀ (n : Nat) (l : List Value), l.length = n → (∀ v ∈ l, ∃ z : Int, v = .int .u32 z ∧ 0 ≤ z ∧ z < 4294967296) → ∃ x, x < Pq.bp n ∧ l = Pq.am n x
  | 0, l, h, _ => ⟨0, Pq.bp_pos 0, by rw [List.length_eq_zero_iff.1 h]; rfl⟩
  | n + 1, [], h, _ => by simp at h
  | n + 1, v :: r, h, hv => by
    obtain ⟨x, hx, rfl⟩ := am_of n r (by simpa using h) (fun v hv' => hv v (by simp [hv']))
    obtain ⟨z, rfl, h0, h1⟩ := hv v (by simp)
    refine ⟨Pq.lo z.toNat 1 + Pq.bp 1 * x, ?_, ?_⟩
    · have e : Pq.bp (n + 1) = Pq.bp 1 * Pq.bp n := by unfold Pq.bp; rw [← Nat.pow_add]; congr 1; omega
      have hl : Pq.lo z.toNat 1 < Pq.bp 1 := by unfold Pq.lo; exact Nat.mod_lt _ (Pq.bp_pos 1)
      rw [e]
      have : Pq.bp 1 * x + Pq.bp 1 ≤ Pq.bp 1 * Pq.bp n := by rw [← Nat.mul_succ]; exact Nat.mul_le_mul_left _ hx
      omega
    · have := Pq.am_app 1 n z.toNat x
      rw [show n + 1 = 1 + n from by omega, ← this]
      have e1 : Pq.am 1 z.toNat = [Value.int .u32 z] := by
        refine (Pq.am_ext (n := 1) (l := [Value.int .u32 z]) rfl fun i hi => ?_).symm
        obtain rfl : i = 0 := by omega
        have : Pq.wd z.toNat 0 = z.toNat := by
          unfold Pq.wd
          rw [Pq.bp_zero, Nat.div_one]
          exact Nat.mod_eq_of_lt (by omega)
        rw [this]
        simp
        omega
      rw [e1]; rfl
theorem opens_words {t e : TypeId} (hu : P.underlying t = some (.array 32 e)) (he : P.underlying e = some (.int .u32)) (hs : P.cellsOf t = 32) (hc : P.cellsOf e = 1) : Opens P t .words :=
  ⟨hs, fun enc w fuel cs x h => by
    obtain ⟨xs, m, rfl, rfl, hlen, hxl, hx⟩ := DataW.trod_array hu h
    rw [hs] at hlen
    obtain ⟨a, ha, rfl⟩ := am_of 32 cs hlen (fun v hv => by
      obtain ⟨i, hi, rfl⟩ := List.getElem_of_mem hv
      have := hx i (by omega)
      rw [hc, List.getElem?_eq_getElem (by omega : i < xs.length)] at this
      obtain ⟨n, h1, _, h3⟩ := DataW.trod_int he this
      have e1 : (cs.drop (i * 1)).take 1 = [cs[i]] := by
        rw [Nat.mul_one, List.drop_eq_getElem_cons hi]; rfl
      rw [e1] at h1
      have := bounds_u32 h3
      exact ⟨n, by injection h1, this.1, by omega⟩)
    exact ⟨⟨a, ha⟩, trivial, by have := Is.w (w := w) (R := Rw w) (σ := []) (x := ⟨a, ha⟩) .nil; rwa [List.append_nil] at this⟩⟩

def OpensF (P : Program) : List Field → Nat → Cd → Prop
  | [f], o, c => f.offset = o ∧ Opens P f.type c
  | f :: g :: r, o, .pair a b => f.offset = o ∧ Opens P f.type a ∧ OpensF P (g :: r) (o + csz a) b
  | _, _, _ => False
theorem opensF_ok {H : Type} {enc : TypeId × Value → H} {w : World} {n : Nat} {cs : List Value} : ∀ (fs : List Field) (o : Nat) (c : Cd), OpensF P fs o c → cs.length = o + csz c →
    (∀ f ∈ fs, ∃ x, DataW.trod enc P w 0 (fun _ => true) true n f.type ((cs.drop f.offset).take (P.cellsOf f.type)) = some x) → ∃ y : El c, Fit c y ∧ Is w (Rw w) [] (ck c y) (cs.drop o)
  | [], _, _, h, _, _ => h.elim
  | [f], o, c, h, hl, hx => by
    obtain ⟨rfl, h'⟩ : f.offset = o ∧ Opens P f.type c := by unfold OpensF at h; exact h
    obtain ⟨x, hx⟩ := hx f (by simp)
    obtain ⟨y, h1, h2⟩ := h'.ok enc w n _ x hx
    rw [h'.size, List.take_of_length_le (by rw [List.length_drop]; omega)] at h2
    exact ⟨y, h1, h2⟩
  | f :: g :: r, o, .pair a b, h, hl, hx => by
    obtain ⟨rfl, ha, hr⟩ : f.offset = o ∧ Opens P f.type a ∧ OpensF P (g :: r) (o + csz a) b := by unfold OpensF at h; exact h
    obtain ⟨x, hx0⟩ := hx f (by simp)
    obtain ⟨y, h1, h2⟩ := ha.ok enc w n _ x hx0
    obtain ⟨z, h3, h4⟩ := opensF_ok (g :: r) _ b hr (by simp only [csz] at hl; omega) (fun f' hf' => hx f' (by simp only [List.mem_cons] at hf' ⊢; exact .inr hf'))
    refine ⟨(y, z), ⟨h1, h3⟩, ?_⟩
    rw [ha.size] at h2
    have e : cs.drop f.offset = (cs.drop f.offset).take (csz a) ++ cs.drop (f.offset + csz a) := by
      rw [← List.drop_drop]; exact (List.take_append_drop _ _).symm
    rw [e]
    exact h2.app h4
  | f :: g :: r, o, .int _, h, _, _ => by unfold OpensF at h; exact h.elim
  | f :: g :: r, o, .bool, h, _, _ => by unfold OpensF at h; exact h.elim
  | f :: g :: r, o, .str, h, _, _ => by unfold OpensF at h; exact h.elim
  | f :: g :: r, o, .words, h, _, _ => by unfold OpensF at h; exact h.elim
  | f :: g :: r, o, .unit, h, _, _ => by unfold OpensF at h; exact h.elim
  | f :: g :: r, o, .sl _, h, _, _ => by unfold OpensF at h; exact h.elim
  | f :: g :: r, o, .ptr _, h, _, _ => by unfold OpensF at h; exact h.elim
theorem opens_struct {t : TypeId} {c : Cd} {fs : Array Field} (hu : P.underlying t = some (.struct fs)) (hs : P.cellsOf t = csz c) (h : OpensF P fs.toList 0 c) : Opens P t c :=
  ⟨hs, fun enc w fuel cs x hx => by
    obtain ⟨xs, n, rfl, rfl, hlen, hxl, hf⟩ := DataW.trod_struct hu hx
    have := opensF_ok (enc := enc) (w := w) (n := n) (cs := cs) fs.toList 0 c h (by omega) (fun f hm => by
      obtain ⟨i, hi, rfl⟩ := List.getElem_of_mem hm
      have hi' : i < fs.size := by simpa using hi
      have h1 := hf i fs[i] (by simp [hi'])
      rw [List.getElem?_eq_getElem (by omega : i < xs.length)] at h1
      exact ⟨_, by simpa using h1⟩)
    simpa using this⟩

theorem cells_at {w : World} {a : Addr} {n : Nat} {cs : List Value} (h : w.cells? 0 a n = some cs) : cs.length = n ∧ ∀ j v, cs[j]? = some v → w.cell? (a.add j) = some v := by
  unfold World.cells? at h
  rw [if_pos (Nat.zero_le _)] at h
  have hl := mapM_some_length h
  refine ⟨by simpa using hl, fun j v hj => ?_⟩
  have hj' : j < n := by have := (List.getElem?_eq_some_iff.1 hj).1; simp at hl; omega
  rw [← hj]
  exact mapM_some_get h j j (by simp [hj'])
theorem opens_slice {t e : TypeId} {c : Cd} (hu : P.underlying t = some (.slice e)) (hs : P.cellsOf t = 1) (he : Opens P e c) (hc : 0 < csz c) : Opens P t (.sl c) :=
  ⟨hs, fun enc w fuel cs x hx => by
    rcases Deep.open_slice hu hx with ⟨rfl, rfl⟩ | ⟨a, len, cap, m, n, D, Pl, rfl, _, hl, hm, hmm, rfl, hel⟩
    · exact ⟨[], ⟨Nat.zero_le _, by simp⟩, .dn .nil⟩
    · have hlm : len ≤ m := by rw [hmm]; simp; omega
      have hex : ∀ i, i < len → ∃ p : List Value × El c, w.cells? 0 (a.add (i * csz c)) (csz c) = some p.1 ∧ Fit c p.2 ∧ Is w (Rw w) [] (ck c p.2) p.1 := fun i hi => by
        obtain ⟨cs', h1, h2⟩ := hel i (by omega)
        obtain ⟨y, h3, h4⟩ := he.ok enc w n cs' _ h2
        rw [he.size] at h1
        exact ⟨(cs', y), h1, h3, h4⟩
      by_cases h0 : len = 0
      · subst h0
        exact ⟨[], ⟨Nat.zero_le _, by simp⟩, .de a cap .nil⟩
      · obtain ⟨p0, hp0⟩ := hex 0 (by omega)
        have : Inhabited (List Value × El c) := ⟨p0⟩
        obtain ⟨g, hg⟩ := Deep.choose_lt hex
        have hl0 := cells_at (hg 0 (by omega)).1
        obtain ⟨b, o, spot⟩ := a
        have hne : (g 0).1 ≠ [] := by intro e; rw [e] at hl0; simp at hl0; omega
        obtain ⟨v, r, hvr⟩ := List.exists_cons_of_ne_nil hne
        have hcell := hl0.2 0 v (by rw [hvr]; rfl)
        rw [Nat.zero_mul] at hcell
        have hspot : spot = none := by simpa [Addr.add] using World.cell?_spot hcell
        subst hspot
        have hb : b < w.heap.size := by
          simp only [Addr.add, World.cell?] at hcell
          rcases Nat.lt_or_ge b w.heap.size with h | h
          · exact h
          · simp [Array.getElem?_eq_none h] at hcell
        have hxlen : ((List.range len).map fun i => (g i).2).length = len := by simp
        refine ⟨(List.range len).map fun i => (g i).2, ⟨by rw [hxlen]; omega, fun x hx => ?_⟩, ?_⟩
        · obtain ⟨i, hi, rfl⟩ := List.mem_map.1 hx
          exact (hg i (List.mem_range.1 hi)).2.1
        · have key : ∀ (i : Nat) x, ((List.range len).map fun i => (g i).2)[i]? = some x → i < len ∧ x = (g i).2 := fun i x hx => by
            have h := (List.getElem?_eq_some_iff.1 hx).1
            rw [hxlen] at h
            refine ⟨h, ?_⟩
            simp [h] at hx
            exact hx.symm
          have : Is w (Rw w) [] [.ds c ((List.range len).map fun i => (g i).2)] [.slice (some ⟨b, o, none⟩) ((List.range len).map fun i => (g i).2).length cap] :=
            .ds (fun i => (g i).1) (by rw [hxlen]; exact hl) hb (fun i x hx => (cells_at (hg i (key i x hx).1).1).1) (fun i x hx => by
              obtain ⟨h1, rfl⟩ := key i x hx
              exact (hg i h1).2.2) (fun i x hx => by
              obtain ⟨h1, rfl⟩ := key i x hx
              intro j v hj
              have := (cells_at (hg i h1).1).2 j v hj
              rw [Addr.add_mid, Addr.add_mid] at this
              exact this) .nil
          rw [hxlen] at this
          exact this⟩

/-! ### a call's arguments -/
def aggT (P : Program) (t : TypeId) : Option Bool := match P.underlying t with
  | some (.struct _) | some (.array _ _) => some true
  | some .bool | some (.int _) | some .string | some (.slice _) | some (.pointer _) => some false
  | _ => none
def OpensAll (P : Program) : List TypeId → List (Bool × Cd) → Prop
  | [], [] => True
  | t :: ts, c :: cs => Opens P t c.2 ∧ aggT P t = some c.1 ∧ OpensAll P ts cs
  | _, _ => False
def FitA : (ts : List (Bool × Cd)) → Els ts → Prop
  | [], _ => True
  | t :: ts, x => Fit t.2 x.1 ∧ FitA ts x.2

theorem single_cells {w : World} {r : Reach} {base : Nat} {t : TypeId} {v : Value} (ha : aggT P t = some false) (h : Value.okWide P w r base t v) : v.cells.toList = [v] := by
  unfold aggT at ha
  unfold Value.okWide at h
  cases hu : P.underlying t with
  | none => simp [hu] at ha
  | some u =>
    cases u <;> simp [hu] at ha h
    all_goals
      unfold Cell.okWide Cell.ok at h
      cases v <;> simp_all [Value.cells]
theorem agg_cells {w : World} {r : Reach} {base : Nat} {t : TypeId} {v : Value} (ha : aggT P t = some true) (h : Value.okWide P w r base t v) : ∃ us : List Value, v = .agg us.toArray ∧ v.cells.toList = us := by
  unfold aggT at ha
  unfold Value.okWide at h
  cases hu : P.underlying t with
  | none => simp [hu] at ha
  | some u =>
    cases u <;> simp [hu] at ha h
    all_goals
      obtain ⟨cs, rfl, _⟩ := h
      exact ⟨cs.toList, by simp, by simp [Value.cells]⟩
theorem is_one {w : World} {R : Nat → Prop} {σ : List Nat} {l : List Ck} {us : List Value} (h : Is w R σ l us) (h1 : us.length = 1) (hc : ∀ k ∈ l, 0 < k.size) : ∃ k, l = [k] ∧ k.size = 1 := by
  match l, h with
  | [], h => cases h; simp at h1
  | k :: r, h =>
    obtain ⟨ua, ub, rfl, e, i1, i2⟩ := h.head
    have hk := hc k (by simp)
    rw [List.length_append] at h1
    have hub : ub = [] := List.length_eq_zero_iff.1 (by omega)
    subst hub
    match r, i2 with
    | [], _ => exact ⟨k, rfl, by simp at h1; omega⟩
    | k2 :: r2, i2 =>
      obtain ⟨uc, ud, e1, e2, _, _⟩ := i2.head
      have := hc k2 (by simp)
      have : uc = [] := by
        have := congrArg List.length e1
        rw [List.length_append] at this
        exact List.length_eq_zero_iff.1 (by simp at this; omega)
      subst this
      simp at e2
      omega
theorem ck_size : ∀ (c : Cd) (x : El c), ∀ k ∈ ck c x, 0 < k.size
  | .int k, x, k', h => by simp [ck] at h; subst h; simp [Ck.size]
  | .bool, x, k', h => by simp [ck] at h; subst h; simp [Ck.size]
  | .str, x, k', h => by simp [ck] at h; subst h; simp [Ck.size]
  | .words, x, k', h => by simp [ck] at h; subst h; simp [Ck.size]
  | .unit, x, k', h => by simp [ck] at h
  | .pair a b, x, k', h => by
    simp only [ck, List.mem_append] at h
    rcases h with h | h
    · exact ck_size a _ _ h
    · exact ck_size b _ _ h
  | .sl c, x, k', h => by simp [ck] at h; subst h; simp [Ck.size]
  | .ptr c, x, k', h => by simp [ck] at h; subst h; simp [Ck.size]

theorem arg_is {H : Type} {enc : TypeId × Value → H} {w : World} {r : Reach} {base : Nat} {t : TypeId} {b : Bool} {c : Cd} {v : Value} {d : DataW H} {p : List MemPlace} (hO : Opens P t c) (ha : aggT P t = some b)
    (hv : Value.okWide P w r base t v) (h : DataW.Trod enc P w 0 (fun _ => true) true t v d p) : ∃ y : El c, Fit c y ∧ AvIs w (Rw w) [] (encA b c y) v := by
  obtain ⟨fuel, hf⟩ := h
  obtain ⟨y, h1, h2⟩ := hO.ok enc w fuel _ _ hf
  refine ⟨y, h1, ?_⟩
  cases b with
  | true =>
    obtain ⟨us, rfl, e⟩ := agg_cells ha hv
    rw [e] at h2
    exact .agg h2
  | false =>
    have e := single_cells ha hv
    rw [e] at h2
    obtain ⟨k, hk, hs⟩ := is_one h2 rfl (ck_size c y)
    unfold encA
    simp only [hk] at h2 ⊢
    exact .one hs h2
theorem args_are {H : Type} {enc : TypeId × Value → H} {w : World} {r : Reach} {base : Nat} : ∀ (ts : List (Bool × Cd)) (tys : List TypeId) (vs : List Value) (ds : List (DataW H)) (p : List MemPlace), OpensAll P tys ts →
    DataW.TrodAll enc P w 0 (fun _ => true) true tys vs ds p → (∀ (j : Nat) t v, tys[j]? = some t → vs[j]? = some v → Value.okWide P w r base t v) →
    ∃ x : Els ts, FitA ts x ∧ vs.length = (encs ts x).length ∧ (∀ (i : Nat) a v, (encs ts x)[i]? = some a → vs[i]? = some v → AvIs w (Rw w) [] a v)
  | [], [], vs, ds, p, _, h, _ => by
    obtain ⟨rfl, rfl, rfl⟩ := trodAll_nil h
    exact ⟨(), trivial, rfl, fun i a v h1 => by simp [encs] at h1⟩
  | [], _ :: _, _, _, _, hO, _, _ => hO.elim
  | _ :: _, [], _, _, _, hO, _, _ => hO.elim
  | c :: ts, t :: tys, vs, ds, p, hO, h, hv => by
    obtain ⟨v, vs1, d, ds1, a, b, rfl, rfl, rfl, h1, h2⟩ := trodAll_cons h
    obtain ⟨o1, o2, o3⟩ := hO
    obtain ⟨y, f1, i1⟩ := arg_is o1 o2 (hv 0 t v rfl rfl) h1
    obtain ⟨x, f2, hl, i2⟩ := args_are ts tys vs1 ds1 b o3 h2 (fun j t' v' ht hv' => hv (j + 1) t' v' (by simpa using ht) (by simpa using hv'))
    refine ⟨(y, x), ⟨f1, f2⟩, by simp [encs, hl], fun i a' v' ha' hv' => ?_⟩
    rcases i with _ | i
    · cases ha'; cases hv'; exact i1
    · exact i2 i a' v' (by simpa [encs] using ha') (by simpa using hv')

theorem trod_stays {H : Type} {enc : TypeId × Value → H} {W W' : World} (hl : laidOutB P = true) (hb : Below W.heap.size W W') : ∀ (tys : List TypeId) (vs : List Value) (ds : List (DataW H)) (p : List MemPlace), (∀ t ∈ tys, P.readableRec t = true ∧ t < P.types.size) →
    DataW.TrodAll enc P W 0 (fun _ => true) true tys vs ds p → (∀ x ∈ p, x.block < W.heap.size) → DataW.TrodAll enc P W' 0 (fun b => decide (b < W.heap.size)) true tys vs ds p
  | [], vs, ds, p, _, h, _ => by
    obtain ⟨rfl, rfl, rfl⟩ := trodAll_nil h
    exact trodAll_mk0
  | t :: tys, vs, ds, p, ht, h, hp => by
    obtain ⟨v, vs1, d, ds1, a, b, rfl, rfl, rfl, h1, h2⟩ := trodAll_cons h
    exact trodAll_cons_mk (Below.trod hl (ht t (by simp)).1 (ht t (by simp)).2 h1 hb (fun x hx => hp x (by simp [hx])))
      (trod_stays hl hb tys vs1 ds1 b (fun t' h' => ht t' (by simp [h'])) h2 (fun x hx => hp x (by simp [hx])))

/-- what a law's call leaves -/
theorem law_post {E : Env P} {L : Loops} {f : FuncId} {fn : Func} {H : Type} {enc : TypeId × Value → H} {s : ChangeSpec} {tb : TypeId} {W : World} {base : Nat} {args : Array Value} {ds gs : List (DataW H)} {before : List MemPlace}
    (hm : P.follows .mixedOrders = true) (hf : P.funcs[f]? = some fn) (hL : ∀ c, fn.body = some c → LoopsOk P 0 L c) (hlaid : laidOutB P = true) (ts : List (Bool × Cd))
    (hrun : ∀ x : Els ts, FitA ts x → (fnP E L fn (encs ts x)).wp fun av => av = .one (.v (.bool true)))
    (tys : List TypeId) (hty : fn.params.toList = tys) (hO : OpensAll P tys ts) (hread : ∀ t ∈ tys, P.readableRec t = true ∧ t < P.types.size) (hres : fn.resultTypes = #[tb]) (hub : P.underlying tb = some .bool)
    (hvars : s.vars = []) (hspec : ∀ ds : List (DataW H), ds.length = tys.length → s.fn H ds = { results := [.lit (.bool true)], args := ds })
    (hval : ∀ (j : Nat) t v, fn.params[j]? = some t → args[j]? = some v → Value.okWide P W .any base t v) (hW : DataW.Whole enc P fn.params.toList s.vars false W args.toList ds gs before) (hgl : GlobAt W (Ro W [] [])) :
    Calls P f args W fun e W' => ∃ v, e = .returned v ∧ s.post enc P fn false true false false W args v W' := by
  have hW' := hW
  obtain ⟨p, q, hA, hV, rfl, hfz, hnd⟩ := hW
  rw [hvars] at hV
  obtain ⟨rfl, rfl⟩ := trodVars_none hV
  rw [hty] at hA
  obtain ⟨x, hfit, hlen, hargs⟩ := args_are (r := .any) (base := base) ts tys args.toList ds p hO hA (fun j t v ht hv => hval j t v (by rw [← hty] at ht; simpa using ht) (by simpa using hv))
  have hdl : ds.length = tys.length := by
    have : ∀ (tys : List TypeId) (vs : List Value) (ds : List (DataW H)) (p : List MemPlace), DataW.TrodAll enc P W 0 (fun _ => true) true tys vs ds p → ds.length = tys.length := by
      intro tys
      induction tys with
      | nil => intro vs ds p h; obtain ⟨rfl, rfl, rfl⟩ := trodAll_nil h; rfl
      | cons t tys ih =>
        intro vs ds p h
        obtain ⟨v, vs1, d, ds1, a, b, rfl, rfl, rfl, h1, h2⟩ := trodAll_cons h
        simp [ih _ _ _ h2]
    exact this _ _ _ _ hA
  have hmem0 : MemOk W [] [] [] := ⟨rfl, by simp, by simp, hgl, fun i t cs b h1 h2 => by simp at h1⟩
  have hro : ∀ b, Rw W b → Ro W [] [] b := fun b hb => ⟨hb, by simp, by simp⟩
  have hw := fnP_wp (hrun x hfit)
  have hcall := fn_ok (E := E) (L := L) (w := W) (φ := []) (σ := []) hm hf hL (Nat.zero_le _) hmem0 hlen (fun i a v h1 h2 => (hargs i a v h1 h2).ro hro []) hw
  have hargsE : args.toList.toArray = args := by simp
  rw [hargsE] at hcall
  refine hcall.mono fun e W' hr => ?_
  obtain ⟨v, av, m', σ', rfl, ⟨hQ, hno⟩, hext, hkeep, hav, hmem'⟩ := hr
  have hv : v = .bool true := by
    have := nA_is hav
    rw [hQ] at this
    exact val_of this rfl
  subst hv
  have hb := hkeep.below
  have hps : ∀ y ∈ p, y.block < W.heap.size := fun y hy => by simpa using hW'.lt y (by simp [hy])
  have hst := trod_stays (enc := enc) hlaid hb tys args.toList ds p hread hA hps
  refine ⟨_, rfl, ds, [], p ++ [], [], p, [], hW', ?_, ?_, ?_, hb.frame _, fun h => by cases h⟩
  · rw [List.append_nil, hspec ds hdl, hres]
    exact trodAll_mk1 (shut_bool hub true)
  · rw [List.append_nil, hspec ds hdl, hty]
    exact hst
  · rw [List.append_nil, hspec ds hdl, hvars]
    rfl
end
end Ax
/-
A law's row that lists package-level variables: what the library reads of them; the wrap that hands on the world's shape.
-/
set_option linter.unusedSimpArgs false
set_option linter.unusedVariables false
namespace Ax
open Go Go.RowKit Go.ChangeShapes Go.WideShapes
theorem handed_laid {H : Type} {enc : TypeId × Value → H} {a : Assume} {C : Checked} {os : Os} {f : FuncId} {fn : Func} {s : ChangeSpec} {conds : List PathCond} {apart fresh handsOn again : Bool} {laid : List (String × DataW Unit)}
    (own : ownKnob C.prog.godebug = none) (started : os.Started) (noInit : C.prog.inits.idxOf? f = none) (hfn : C.prog.funcs[f]? = some fn)
    (witness : ∃ (w : World) (tape : Tape) (i : Input), w.os = os ∧ (w.forCall tape i).Shaped C.prog ∧ i.vars = [] ∧ Input.okWide C.prog (w.forCall tape i) .any w.heap.size f i ∧
      ((s.pre enc C.prog fn conds apart (w.forCall tape i).memory i.args ∧ laidMetH C.prog laid (w.forCall tape i).memory) ∧ sizedMet enc C.prog fn (OpenSpec.ofChange s) apart (w.forCall tape i).memory i.args) ∧ a.holds C.prog (lone (Frame.enter C.prog f i.args .normal) [] (w.forCall tape i)))
    (contract : ∀ (W : World) (base : Nat) (args : Array Value) (ds gs : List (DataW H)) (before : List MemPlace),
      (∀ (j : Nat) t v, fn.params[j]? = some t → args[j]? = some v → Value.okWide C.prog W .any base t v) →
      DataW.Whole enc C.prog fn.params.toList s.vars apart W args.toList ds gs before → laidMetH C.prog laid W → W.ShapedOpen C.prog →
      Calls C.prog f args W fun e W' => ∃ v, e = .returned v ∧ s.post enc C.prog fn apart fresh handsOn again W args v W') :
    ReturnsInHanded a C os f .any (fun w args => (s.pre enc C.prog fn conds apart w args ∧ laidMetH C.prog laid w) ∧ sizedMet enc C.prog fn (OpenSpec.ofChange s) apart w args) (s.post enc C.prog fn apart fresh handsOn again) := by
  refine returnsInHanded_of_calls own started noInit witness ?_
  intro w tape i _ hsh _ hok hpre hholds
  obtain ⟨_, _, _, fn', hfn', _, _, _, _, hval⟩ := hok
  have e : fn' = fn := Option.some.inj (hfn'.symm.trans hfn)
  subst e
  obtain ⟨⟨⟨ds, gs, before, hw, hc⟩, hx⟩, hz⟩ := hpre
  have hw' := DataW.Whole.of_heap (w' := w.forCall tape i) (by rfl) hw
  refine (contract (w.forCall tape i) w.heap.size i.args ds gs before hval hw' (hx.of_heap (by rfl)) hsh).mono fun e W' ⟨v, he, hp⟩ => ?_
  subst he
  exact ChangeSpec.post_blind hp
theorem cells_of_var {P : Program} {W : World} {n : String} {g : Nat} {cs : Array Value} (h : W.var? P n = some cs) (hg : P.globalNamed n = some g) : ∃ t z, W.heap[g]? = some (.cells cs t z) := by
  unfold World.var? at h
  rw [hg] at h
  simp only [Option.bind_some] at h
  split at h
  · rename_i c t z hh
    cases h
    exact ⟨t, z, hh⟩
  · cases h
theorem reads_iface {P : Program} {W : World} {n nm : String} {d : DataW Unit} {g ti : Nat} {ms : Array (String × TypeId)} (h : Lib.VarReads P W n (.iface nm d)) (hg : P.globalNamed n = some g) (ht : (P.globals[g]?).map (·.type) = some ti) (hi : P.underlying ti = some (.interface ms)) :
    ∃ cs t z, W.heap[g]? = some (.cells cs t z) ∧ ∃ te pe, cs = #[.iface te pe] := by
  obtain ⟨g', t', cs, fuel, p, hg', ht', hv, hd⟩ := h
  obtain rfl := Option.some.inj (hg.symm.trans hg')
  obtain rfl := Option.some.inj (ht.symm.trans ht')
  obtain ⟨t, z, hh⟩ := cells_of_var hv hg
  obtain ⟨_, u, v, e, _⟩ := iface_of_trod hi hd
  refine ⟨cs, t, z, hh, u, v, ?_⟩
  obtain ⟨l⟩ := cs
  have e : l = [.iface u v] := e
  rw [e]
theorem reads_tab {P : Program} {W : World} {n : String} {k : IntKind} {zs : List Int} {g ti te m : Nat} (h : Lib.VarReads P W n (Lib.tabData k zs)) (hg : P.globalNamed n = some g) (ht : (P.globals[g]?).map (·.type) = some ti) (hu : P.underlying ti = some (.array m te)) (he : P.underlying te = some (.int k)) (hce : P.cellsOf te = 1) (hct : P.cellsOf ti = m) :
    ∃ cs t z, W.heap[g]? = some (.cells cs t z) ∧ cs = (zs.map fun z => Value.int k z).toArray := by
  obtain ⟨g', t', cs, fuel, p, hg', ht', hv, hd⟩ := h
  obtain rfl := Option.some.inj (hg.symm.trans hg')
  obtain rfl := Option.some.inj (ht.symm.trans ht')
  obtain ⟨t, z, hh⟩ := cells_of_var hv hg
  refine ⟨cs, t, z, hh, ?_⟩
  rw [← Lib.cells_of_tab hu he hce hct hd]
theorem shaped_int {P : Program} {w : World} {g t : Nat} {zero : Array Value} {k : IntKind} (h : w.ShapedOpen P) (hg : g < P.globals.size) (h0 : ((begin P (fun _ _ => 0) default).world.heap[g]?).bind Obj.row? = some (zero, t)) (hz : zero.size = 1)
    (hb : P.buildable t = true) (hc : P.cellTypes P.depth t = some [t]) (hu : P.underlying t = some (.int k)) : ∃ cs t z, w.heap[g]? = some (.cells cs t z) ∧ ∃ m, cs = #[.int k m] := by
  obtain ⟨m, hm⟩ := Go.Proofs.cell_of_shapedOpen_int h hg h0 hz hb hc hu
  obtain ⟨cs, hh, hs, _⟩ := h.1 g zero t hg h0
  refine ⟨cs, t, _, hh, m, ?_⟩
  rw [hz] at hs
  obtain ⟨l⟩ := cs
  match l, hs with
  | [x], _ =>
    have : w.cell? ⟨g, 0, none⟩ = some x := by simp [World.cell?, hh]
    rw [hm] at this
    cases this
    rfl
end Ax
/-
What the laws of this seat want of the program: the listed variables; how arguments are opened.
-/
set_option linter.unusedSimpArgs false
set_option linter.unusedVariables false
namespace Go.Proofs.YtljlfmmhoceihaaDoor
open Go.ChangeShapes Go.WideShapes Go.ChangeAt Go.RowKit Ax
theorem own : ownKnob Tryd.prog.godebug = none := by kernel_rfl
theorem laidOut : laidOutB Tryd.prog = true := by kernel_rfl
abbrev laidL : List (String × DataW Unit) := Rows.lexTellsRow.laid
theorem glob_laid {W : World} (h : laidMetH Tryd.prog laidL W) (hs : W.ShapedOpen Tryd.prog) : GlobAt W (Ro W [] []) := by
  rw [MakeChecks.laidMetH_plain _ _ _ (by kernel_rfl)] at h
  have hro : ∀ (g : Nat) cs t z, W.heap[g]? = some (.cells cs t z) → Ro W [] [] g := fun g cs t z hh => ⟨(Array.getElem?_eq_some_iff.1 hh).1, by simp, by simp⟩
  intro f hf g hg
  unfold gfacts at hf
  simp only [List.mem_cons, List.not_mem_nil, or_false] at hf
  have fin : (∃ cs t z, W.heap[g]? = some (.cells cs t z) ∧ f.2 cs) → Ro W [] [] g ∧ ∃ cs t z, W.heap[g]? = some (.cells cs t z) ∧ f.2 cs := fun ⟨cs, t, z, h1, h2⟩ => ⟨hro g cs t z h1, cs, t, z, h1, h2⟩
  refine fin ?_
  rcases hf with rfl | rfl | rfl | rfl
  · have e : Tryd.prog.globalNamed "strconv.ErrSyntax" = some 0 := by kernel_rfl
    obtain rfl := Option.some.inj (e.symm.trans hg)
    exact reads_iface (ti := 68) (Lib.laidMet.reads h (n := "strconv.ErrSyntax") (d := Rows.laid_strconv_ErrSyntax) (.tail _ (.tail _ (.tail _ (.tail _ (.tail _ (.head _))))))) e (by kernel_rfl) Tryd.underlying68
  · have e : Tryd.prog.globalNamed "strconv.ErrRange" = some 1 := by kernel_rfl
    obtain rfl := Option.some.inj (e.symm.trans hg)
    exact reads_iface (ti := 68) (Lib.laidMet.reads h (n := "strconv.ErrRange") (d := Rows.laid_strconv_ErrRange) (.tail _ (.tail _ (.tail _ (.tail _ (.head _)))))) e (by kernel_rfl) Tryd.underlying68
  · have e : Tryd.prog.globalNamed "internal/bytealg.MaxLen" = some 2 := by kernel_rfl
    obtain rfl := Option.some.inj (e.symm.trans hg)
    exact shaped_int (P := Tryd.prog) (t := 3) (zero := #[.int .i64 0]) hs (by decide +kernel) (by kernel_rfl) rfl (by kernel_rfl) (by kernel_rfl) (by kernel_rfl)
  · have e : Tryd.prog.globalNamed "internal/strconv.uint64pow10" = some 3 := by kernel_rfl
    obtain rfl := Option.some.inj (e.symm.trans hg)
    exact reads_tab (zs := Lib.pow10Tab) (ti := 113) (te := 65) (m := 20) (Lib.laidMet.reads h (n := "internal/strconv.uint64pow10") (d := Rows.laid_internal_strconv_uint64pow10) (.tail _ (.tail _ (.head _)))) e (by kernel_rfl) (by kernel_rfl) (by kernel_rfl) (by kernel_rfl) (by kernel_rfl)
theorem o_str : Opens Tryd.prog 9 .str := opens_str (by kernel_rfl) (by kernel_rfl)
theorem o_s : Opens Tryd.prog 22 (.sl .str) := opens_slice (e := 9) (by kernel_rfl) (by kernel_rfl) o_str (by decide)
theorem o_ss : Opens Tryd.prog 47 (.sl (.sl .str)) := opens_slice (e := 22) (by kernel_rfl) (by kernel_rfl) o_s (by decide)
theorem o_int : Opens Tryd.prog 3 (.int .i64) := opens_int (by kernel_rfl) (by kernel_rfl)
theorem o_i32 : Opens Tryd.prog 21 (.int .i32) := opens_int (by kernel_rfl) (by kernel_rfl)
theorem o_u8 : Opens Tryd.prog 5 (.int .u8) := opens_int (by kernel_rfl) (by kernel_rfl)
theorem o_bool : Opens Tryd.prog 4 .bool := opens_bool (by kernel_rfl) (by kernel_rfl)
theorem fit_i32 {z : Int} (h : (Lit.int .i32 z).wf = true) : -2147483648 ≤ z ∧ z ≤ 2147483647 := by simpa [Lit.wf, IntKind.min, IntKind.max, IntKind.signed, IntKind.bits] using h
theorem fit_u8 {z : Int} (h : (Lit.int .u8 z).wf = true) : 0 ≤ z ∧ z ≤ 255 := by simpa [Lit.wf, IntKind.min, IntKind.max, IntKind.signed, IntKind.bits] using h
theorem fit_len {n : Nat} (h : n ≤ maxLen) : n ≤ 9223372036854775807 := by simp only [Go.maxLen] at h; omega
theorem laid_wit (os : Os) (args : Array Value) : laidMetH Tryd.prog laidL ((World.laidAll Tryd.prog os laidL).forCall (fun _ _ => 0) ⟨#[], args, []⟩).memory := by
  rw [MakeChecks.laidMetH_plain _ _ _ (by kernel_rfl)]
  exact laidMet_laidAll _ (by kernel_rfl) (by kernel_rfl)
end Go.Proofs.YtljlfmmhoceihaaDoor
/-
parquetref6.digits calls itself: its contract below so many digits.
-/
set_option linter.unusedSimpArgs false
set_option linter.unusedVariables false
namespace Go.Proofs.YtljlfmmhoceihaaDoor
open Go.RowKit Ax
def digRun (k : Nat) : List Av → Mem → T (Av × Mem) := pureRun' [(false, .int .u64)] fun x => .need (0 ≤ (x.1 : Int) ∧ (x.1 : Int) < 18446744073709551616 ∧ (x.1 : Int) < (10 : Int) ^ k) (.ret (.one (.v (.string (mkB (Lib.decDigits (Int.toNat x.1)))))))
def DigOk (k : Nat) : Prop := ConOk Tryd.prog 31 [] (digRun k)
abbrev DigK := { k : Nat // DigOk k }
noncomputable def conD (k : Nat) (h : DigOk k) : Con Tryd.prog := ⟨31, [], digRun k, cf_rdig, h⟩
noncomputable def LD (x : DigK) : Env Tryd.prog := LA.add [conD x.1 x.2]
end Go.Proofs.YtljlfmmhoceihaaDoor
/-
parquetref6.digits: its trees.
-/
set_option linter.unusedSimpArgs false
set_option linter.unusedVariables false
namespace Go.Proofs.YtljlfmmhoceihaaDoor
open Go.RowKit Ax
noncomputable def tr_dig0 (x : Els [(false, .int .u64)]) : T Av :=
 .ite (decide (x.1 < (10 : Int)))
  (.ret (.one (.v (.string (bytesOf [IntKind.wrap .u8 (IntKind.wrap .u64 ((48 : Int) + x.1))])))))
  (.need ((10 : Int) ≠ (0 : Int)) (.need ((10 : Int) ≠ (0 : Int)) (dup (.fail))))
theorem tr_dig0_eq (x : Els [(false, .int .u64)]) : fnP LA (fun _ => none) Tryd.f31 (encs [(false, .int .u64)] x) = tr_dig0 x := by kernel_rfl
noncomputable def tr_dig (x : DigK × Els [(false, .int .u64)]) : T Av :=
 .ite (decide (x.2.1 < (10 : Int)))
  (.ret (.one (.v (.string (bytesOf [IntKind.wrap .u8 (IntKind.wrap .u64 ((48 : Int) + x.2.1))])))))
  (.need ((10 : Int) ≠ (0 : Int)) (.need ((10 : Int) ≠ (0 : Int)) (dup (.need ((0 : El (Cd.int .u64)) ≤ IntKind.wrap .u64 (Int.tdiv x.2.1 (10 : Int)) ∧ IntKind.wrap .u64 (Int.tdiv x.2.1 (10 : Int)) < (18446744073709551616 : El (Cd.int .u64)) ∧ IntKind.wrap .u64 (Int.tdiv x.2.1 (10 : Int)) < (10 : Int) ^ x.1.1) (.need ((↑(ByteArray.size (mkB (Go.Lib.decDigits (Int.toNat (IntKind.wrap .u64 (Int.tdiv x.2.1 (10 : Int)))))) + ByteArray.size (bytesOf [IntKind.wrap .u8 (IntKind.wrap .u64 ((48 : Int) + Int.tmod x.2.1 (10 : Int)))])) : Int) ≤ IntKind.max .i64) (.lt (mkB (Go.Lib.decDigits (Int.toNat (IntKind.wrap .u64 (Int.tdiv x.2.1 (10 : Int))))) ++ bytesOf [IntKind.wrap .u8 (IntKind.wrap .u64 ((48 : Int) + Int.tmod x.2.1 (10 : Int)))]) (fun v0 =>
        .ret (.one (.v (.string (v0)))))))))))
theorem tr_dig_eq (x : DigK × Els [(false, .int .u64)]) : fnP (LD x.1) (fun _ => none) Tryd.f31 (encs [(false, .int .u64)] x.2) = tr_dig x := by kernel_rfl
end Go.Proofs.YtljlfmmhoceihaaDoor
/-
parquetref6.digits: what it tells.
-/
set_option linter.unusedSimpArgs false
set_option linter.unusedVariables false
namespace Go.Proofs.YtljlfmmhoceihaaDoor
open Go.RowKit Ax
theorem bytes_digit {z : Int} (h0 : 0 ≤ z) (h1 : z < 10) : bytesOf [IntKind.wrap .u8 (IntKind.wrap .u64 ((48 : Int) + z))] = mkB [UInt8.ofNat (48 + z.toNat)] := by
  rw [IntWalk.u64_in (48 + z) (by omega), IntWalk.u8_in (48 + z) (by omega)]
  unfold bytesOf mkB
  simp only [List.map_cons, List.map_nil]
  congr 3
  rw [show (48 + z).toNat = 48 + z.toNat by omega]
theorem mkB_app (a b : List UInt8) : mkB a ++ mkB b = mkB (a ++ b) := by
  apply ByteArray.ext
  simp [mkB, ByteArray.data_append]
theorem dec_size {z : Int} (h0 : 0 ≤ z) (h1 : z < 18446744073709551616) : (mkB (Lib.decDigits z.toNat)).size ≤ 20 := by
  show (Lib.decDigits z.toNat).length ≤ 20
  rw [Lib.decDigits_length]
  exact Lib.nDigits_le20 _ (by omega)
theorem dig_one : DigOk 1 := val_con (E := LA) (L := fun _ => none) mixed Tryd.func31 no_loops [(false, .int .u64)] (fun x => 0 ≤ (x.1 : Int) ∧ (x.1 : Int) < 18446744073709551616 ∧ (x.1 : Int) < (10 : Int) ^ 1) (fun x => .one (.v (.string (mkB (Lib.decDigits (Int.toNat x.1)))))) fun x hx => by
  rw [tr_dig0_eq]
  obtain ⟨z, u⟩ := x
  revert z
  intro (z : Int) (hx : 0 ≤ z ∧ z < 18446744073709551616 ∧ z < (10 : Int) ^ 1)
  obtain ⟨h0, h1, h2⟩ := hx
  unfold tr_dig0
  simp only [T.wp]
  refine ⟨fun _ => ?_, fun h => ?_⟩
  · have h2 : z < 10 := by simpa using h2
    rw [bytes_digit h0 h2, dec_small (by omega)]
  · have h : ¬ z < 10 := of_decide_eq_false h
    simp at h2; omega
theorem dig_next (k : Nat) (hk : DigOk k) : DigOk (k + 1) := val_con (E := LD ⟨k, hk⟩) (L := fun _ => none) mixed Tryd.func31 no_loops [(false, .int .u64)] (fun x => 0 ≤ (x.1 : Int) ∧ (x.1 : Int) < 18446744073709551616 ∧ (x.1 : Int) < (10 : Int) ^ (k + 1)) (fun x => .one (.v (.string (mkB (Lib.decDigits (Int.toNat x.1)))))) fun x hx => by
  rw [tr_dig_eq (⟨k, hk⟩, x)]
  obtain ⟨z, u⟩ := x
  revert z
  intro (z : Int) (hx : 0 ≤ z ∧ z < 18446744073709551616 ∧ z < (10 : Int) ^ (k + 1))
  obtain ⟨h0, h1, h2⟩ := hx
  unfold tr_dig
  simp only [T.wp, dup_wp]
  refine ⟨fun h => ?_, fun h => ?_⟩
  · have h : z < 10 := of_decide_eq_true h
    rw [bytes_digit h0 h, dec_small (by omega)]
  · have h : ¬ z < 10 := of_decide_eq_false h
    obtain ⟨n, rfl⟩ : ∃ n : Nat, z = n := ⟨z.toNat, by omega⟩
    have e1 : Int.tdiv (n : Int) 10 = ((n / 10 : Nat) : Int) := by rw [Int.tdiv_eq_ediv_of_nonneg (by omega)]; omega
    have e2 : Int.tmod (n : Int) 10 = ((n % 10 : Nat) : Int) := by rw [Int.tmod_eq_emod_of_nonneg (by omega)]; omega
    rw [e1, e2, IntWalk.u64_in ((n / 10 : Nat) : Int) (by omega)]
    rw [Int.pow_succ] at h2
    have hs := dec_size (z := ((n / 10 : Nat) : Int)) (by omega) (by omega)
    rw [Int.toNat_natCast] at hs
    rw [bytes_digit (by omega) (by omega), Int.toNat_natCast, Int.toNat_natCast, Int.toNat_natCast, mkB_app]
    refine ⟨by decide, by decide, ⟨show (0 : Int) ≤ ((n / 10 : Nat) : Int) by omega, show ((n / 10 : Nat) : Int) < 18446744073709551616 by omega, show ((n / 10 : Nat) : Int) < (10 : Int) ^ k by omega⟩, ?_, ?_⟩
    · show (((mkB (Lib.decDigits (n / 10))).size + 1 : Nat) : Int) ≤ 9223372036854775807
      omega
    · rw [dec_big (n := n) (by omega)]
theorem dig_ok : ∀ k, DigOk (k + 1)
  | 0 => dig_one
  | k + 1 => dig_next (k + 1) (dig_ok k)
noncomputable def con_dig : Con Tryd.prog := conD 20 (dig_ok 19)
noncomputable def LB : Env Tryd.prog := LA.add [con_dig]
end Go.Proofs.YtljlfmmhoceihaaDoor
/-
parquetref6.Num: its tree.
-/
set_option linter.unusedSimpArgs false
set_option linter.unusedVariables false
namespace Go.Proofs.YtljlfmmhoceihaaDoor
open Go.RowKit Ax
noncomputable def tr_num (x : Els [(false, .int .i64)]) : T Av :=
 .ite (decide (x.1 < (0 : Int)))
  (.need ((0 : El (Cd.int .u64)) ≤ IntKind.wrap .u64 (IntKind.wrap .u64 (IntKind.wrap .i64 ((0 : Int) - IntKind.wrap .i64 (x.1 + (1 : Int)))) + (1 : Int)) ∧ IntKind.wrap .u64 (IntKind.wrap .u64 (IntKind.wrap .i64 ((0 : Int) - IntKind.wrap .i64 (x.1 + (1 : Int)))) + (1 : Int)) < (18446744073709551616 : El (Cd.int .u64)) ∧ IntKind.wrap .u64 (IntKind.wrap .u64 (IntKind.wrap .i64 ((0 : Int) - IntKind.wrap .i64 (x.1 + (1 : Int)))) + (1 : Int)) < (10 : Int) ^ (20 : Nat)) (.need ((↑(ByteArray.size { data := #[(45 : UInt8)] } + ByteArray.size (mkB (Go.Lib.decDigits (Int.toNat (IntKind.wrap .u64 (IntKind.wrap .u64 (IntKind.wrap .i64 ((0 : Int) - IntKind.wrap .i64 (x.1 + (1 : Int)))) + (1 : Int))))))) : Int) ≤ IntKind.max .i64) (.lt ({ data := #[(45 : UInt8)] } ++ mkB (Go.Lib.decDigits (Int.toNat (IntKind.wrap .u64 (IntKind.wrap .u64 (IntKind.wrap .i64 ((0 : Int) - IntKind.wrap .i64 (x.1 + (1 : Int)))) + (1 : Int)))))) (fun v0 =>
     .ret (.one (.v (.string (v0))))))))
  (.need ((0 : El (Cd.int .u64)) ≤ IntKind.wrap .u64 (x.1) ∧ IntKind.wrap .u64 (x.1) < (18446744073709551616 : El (Cd.int .u64)) ∧ IntKind.wrap .u64 (x.1) < (10 : Int) ^ (20 : Nat)) (.ret (.one (.v (.string (mkB (Go.Lib.decDigits (Int.toNat (IntKind.wrap .u64 (x.1))))))))))
theorem tr_num_eq (x : Els [(false, .int .i64)]) : fnP LB (fun _ => none) Tryd.f18 (encs [(false, .int .i64)] x) = tr_num x := by kernel_rfl
end Go.Proofs.YtljlfmmhoceihaaDoor
/-
parquetref6.Num: what it tells.
-/
set_option linter.unusedSimpArgs false
set_option linter.unusedVariables false
namespace Go.Proofs.YtljlfmmhoceihaaDoor
open Go.RowKit Ax
theorem neg_chain {z : Int} (h0 : -9223372036854775808 ≤ z) (h1 : z < 0) : IntKind.wrap .u64 (IntKind.wrap .u64 (IntKind.wrap .i64 ((0 : Int) - IntKind.wrap .i64 (z + (1 : Int)))) + (1 : Int)) = (z.natAbs : Int) := by
  rw [IntWalk.i64_in (z + 1) (by omega), IntWalk.i64_in (0 - (z + 1)) (by omega), IntWalk.u64_in (0 - (z + 1)) (by omega), IntWalk.u64_in (0 - (z + 1) + 1) (by omega)]
  omega
theorem pow20 {z : Int} (h : z < 18446744073709551616) : z < (10 : Int) ^ 20 := by
  have : (10 : Int) ^ 20 = 100000000000000000000 := by decide
  omega
theorem num_wp (z : Int) (h0 : -9223372036854775808 ≤ z) (h1 : z ≤ 9223372036854775807) : (tr_num (z, ())).wp fun a => a = .one (.v (.string (mkB (Lib.itoa z)))) := by
  unfold tr_num
  simp only [T.wp]
  refine ⟨fun h => ?_, fun h => ?_⟩
  · have h : z < 0 := of_decide_eq_true h
    rw [neg_chain h0 h]
    have hs := dec_size (z := (z.natAbs : Int)) (by omega) (by omega)
    rw [Int.toNat_natCast] at hs ⊢
    refine ⟨⟨show (0 : Int) ≤ (z.natAbs : Int) by omega, show (z.natAbs : Int) < 18446744073709551616 by omega, pow20 (by omega)⟩, ?_, ?_⟩
    · show ((1 + (mkB (Lib.decDigits z.natAbs)).size : Nat) : Int) ≤ 9223372036854775807
      omega
    · have e : Lib.itoa z = 45 :: Lib.decDigits z.natAbs := by unfold Lib.itoa; rw [if_pos h]
      rw [e, show ({ data := #[(45 : UInt8)] } : ByteArray) = mkB [45] from rfl, mkB_app]
      rfl
  · have h : ¬ z < 0 := of_decide_eq_false h
    rw [IntWalk.u64_in z (by omega)]
    refine ⟨⟨show (0 : Int) ≤ z by omega, show z < 18446744073709551616 by omega, pow20 (by omega)⟩, ?_⟩
    have e : Lib.itoa z = Lib.decDigits z.toNat := by unfold Lib.itoa; rw [if_neg h]
    rw [e]
noncomputable def con_num : Con Tryd.prog := ⟨18, [], _, cf_rnum, val_con (E := LB) (L := fun _ => none) mixed Tryd.func18 no_loops [(false, .int .i64)] (fun x => -9223372036854775808 ≤ (x.1 : Int) ∧ (x.1 : Int) ≤ 9223372036854775807) (fun x => .one (.v (.string (mkB (Lib.itoa x.1))))) fun x hx => by
  rw [tr_num_eq]
  obtain ⟨z, u⟩ := x
  revert z
  intro (z : Int) (hx : -9223372036854775808 ≤ z ∧ z ≤ 9223372036854775807)
  exact num_wp z hx.1 hx.2⟩
noncomputable def LC : Env Tryd.prog := LB.add [con_num]
end Go.Proofs.YtljlfmmhoceihaaDoor
/-
A call that is run in place: on the blocks that its arguments reach.
-/
set_option linter.unusedSimpArgs false
set_option linter.unusedVariables false
namespace Ax
open Go Go.RowKit
def noFz : Nat → Nat → Option Ck := fun _ _ => none
def subMem (I : List Nat) (m : Mem) : Mem := I.map fun i => match m[i]? with
  | some e => (e.1, e.2.map (reC (posOf I) noFz))
  | none => (0, [])
/-- the numbers seen from the caller -/
def backI (I : List Nat) (n p : Nat) : Option Nat := match I[p]? with
  | some i => some i
  | none => some (n + (p - I.length))
def backMem (I : List Nat) (m m1 : Mem) : Mem := ((List.range m.length).map fun i => match posOf I i with
    | some p => (match m1[p]? with
      | some e => (e.1, e.2.map (reC (backI I m.length) noFz))
      | none => (0, []))
    | none => m.getD i (0, [])) ++ (m1.drop I.length).map fun e => (e.1, e.2.map (reC (backI I m.length) noFz))
def inlRun {P : Program} (E : Env P) (L : Loops) (fn : Func) (K : Nat) (pos : List Nat) (args : List Av) (m : Mem) : T (Av × Mem) :=
  fAvs args fun args => fMem m fun m => fNats (wrOf pos args m) fun I => match I.all (fun i => decide (i < m.length)) && nodB I && decide (I.length ≤ K) with
  | true => fAvs (args.map (reA (posOf I) noFz)) fun args' => fMem (subMem I m) fun m' => (fnRun E L fn args' m').bind fun r => fMem r.2 fun m1 => fAv (reA (backI I m.length) noFz r.1) fun av => fMem (backMem I m m1) fun m2 => .ret (av, m2)
  | false => .fail
theorem no_fz {w : World} {R' : Nat → Prop} {σ σ' : List Nat} {f : Nat → Option Nat} (i n : Nat) : FzOk w R' σ σ' f noFz i n := fun b cap c _ _ _ h => by cases h
theorem inl_ok {P : Program} {E : Env P} {L : Loops} {f : FuncId} {fn : Func} (hm : P.follows .mixedOrders = true) (hf : P.funcs[f]? = some fn) (K : Nat) (hL : ∀ c, fn.body = some c → LoopsOk P K L c) (pos : List Nat) : ConOk P f pos (inlRun E L fn K pos) := by
  intro w φ σ m args vs Q hmem hlen hargs hrun
  unfold inlRun at hrun
  simp only [fAvs_eq, fAv_eq, fMem_eq, fNats_eq] at hrun
  generalize hIe : wrOf pos args m = I at hrun ⊢
  split at hrun
  case h_2 => exact hrun.elim
  rename_i hI
  simp only [Bool.and_eq_true, decide_eq_true_eq] at hI
  obtain ⟨⟨hI1, hI2⟩, hI3⟩ := hI
  have hnd := nodB_ok hI2
  have hml : m.length = σ.length := hmem.len
  have hlt : ∀ i ∈ I, i < σ.length := fun i hi => by
    have := of_decide_eq_true (List.all_eq_true.1 hI1 i hi)
    omega
  have get : ∀ i, i < σ.length → ∃ b, σ[i]? = some b ∧ σ.getD i 0 = b := fun i hi => ⟨σ[i], List.getElem?_eq_getElem hi, by simp [hi]⟩
  have inj : ∀ i j b, σ[i]? = some b → σ[j]? = some b → i = j := fun i j b h1 h2 => by
    obtain ⟨l1, e1⟩ := List.getElem?_eq_some_iff.1 h1
    obtain ⟨l2, e2⟩ := List.getElem?_eq_some_iff.1 h2
    exact (List.getElem_inj hmem.nodup).1 (e1.trans e2.symm)
  generalize hs0 : (I.map fun i => σ.getD i 0) = σ0
  have hs0l : σ0.length = I.length := by rw [← hs0, List.length_map]
  have at0 : ∀ (p i : Nat) b, I[p]? = some i → σ[i]? = some b → σ0[p]? = some b := fun p i b h1 h2 => by
    rw [← hs0, List.getElem?_map, h1, Option.map_some]
    obtain ⟨b', h3, h4⟩ := get i (List.getElem?_eq_some_iff.1 h2).1
    rw [h4]
    rw [h2] at h3
    exact h3.symm
  have mem0 : ∀ b, b ∈ σ0 → ∃ i ∈ I, σ[i]? = some b := fun b hb => by
    rw [← hs0] at hb
    obtain ⟨i, hi, rfl⟩ := List.mem_map.1 hb
    obtain ⟨b, h1, h2⟩ := get i (hlt i hi)
    exact ⟨i, hi, by rw [h2]; exact h1⟩
  have sub0 : ∀ b, b ∈ σ0 → b ∈ σ := fun b hb => by
    obtain ⟨i, _, h⟩ := mem0 b hb
    exact List.mem_of_getElem? h
  have nd0 : σ0.Nodup := by
    rw [← hs0]
    unfold List.Nodup
    rw [List.pairwise_map]
    refine hnd.imp_of_mem fun {i j} hi hj hne e => hne ?_
    obtain ⟨b, h1, h2⟩ := get i (hlt i hi)
    obtain ⟨b', h3, h4⟩ := get j (hlt j hj)
    rw [h2, h4] at e
    subst e
    exact inj i j b h1 h3
  have out0 : ∀ i b, σ[i]? = some b → i ∉ I → b ∉ σ0 := fun i b hb hn hm0 => by
    obtain ⟨j, hj, hb'⟩ := mem0 b hm0
    exact hn (inj i j b hb hb' ▸ hj)
  generalize hφe : φ ++ σ.filter (fun b => !decide (b ∈ σ0)) = φ'
  have inφ : ∀ b, b ∈ φ' ↔ b ∈ φ ∨ (b ∈ σ ∧ b ∉ σ0) := fun b => by
    rw [← hφe, List.mem_append, List.mem_filter]
    simp
  have hro : ∀ b, Ro w φ σ b → Ro w φ' σ0 b := fun b hb => ⟨hb.1, fun h => by
    rcases (inφ b).1 h with h1 | h1
    · exact hb.2.1 h1
    · exact hb.2.2 h1.1, fun h => hb.2.2 (sub0 b h)⟩
  have hf0 : ∀ i b j : Nat, σ[i]? = some b → posOf I i = some j → σ0[j]? = some b := fun i b j hb hj => at0 j i b (posOf_get hj) hb
  have hmem0 : MemOk w φ' σ0 (subMem I m) := ⟨by simp [subMem, hs0l], nd0, fun b hb => by
      rcases (inφ b).1 hb with h1 | h1
      · exact hmem.fo b h1
      · exact hmem.lt h1.1, hmem.gl.mono fun z hz => ⟨hro z hz, rfl⟩, fun j t cs b hj hb => by
      unfold subMem at hj
      rw [List.getElem?_map] at hj
      cases hq : I[j]? with
      | none => rw [hq] at hj; simp at hj
      | some i =>
        rw [hq] at hj
        simp only [Option.map_some, Option.some.injEq] at hj
        obtain ⟨b', h1, _⟩ := get i (hlt i (List.mem_of_getElem? hq))
        have hb' := at0 j i b' hq h1
        rw [hb] at hb'
        cases hb'
        cases hmi : m[i]? with
        | none =>
          have := List.getElem?_eq_none_iff.1 hmi
          have := hlt i (List.mem_of_getElem? hq)
          omega
        | some e =>
          obtain ⟨t0, cs0⟩ := e
          rw [hmi] at hj
          cases hj
          obtain ⟨us, h3, h4⟩ := hmem.blk i t0 cs0 b hmi h1
          exact ⟨us, h3, h4.re hro hf0 fun i n cap _ => no_fz i n⟩⟩
  rw [T.wp_bind] at hrun
  refine (fn_ok (E := E) (L := L) hm hf hL (by simp [subMem]; exact hI3) hmem0 (by rw [List.length_map]; exact hlen) (fun i a v ha hv => by
    rw [List.getElem?_map] at ha
    cases hq : args[i]? with
    | none => rw [hq] at ha; simp at ha
    | some a0 =>
      rw [hq] at ha
      simp only [Option.map_some, Option.some.injEq] at ha
      subst ha
      exact (hargs i a0 v hq hv).re hro hf0 fun i n cap _ => no_fz i n) hrun).mono fun e w' hr => ?_
  obtain ⟨v, av, m1, σ1, rfl, hQ, hext, hkeep, hav, hmem1⟩ := hr
  obtain ⟨τ, rfl, hτ⟩ := hext.pre
  have hm1 : m1.length = I.length + τ.length := by
    have := hmem1.len
    rw [List.length_append, hs0l] at this
    exact this
  have hro1 : ∀ b, Ro w' φ' (σ0 ++ τ) b → Ro w' φ (σ ++ τ) b := fun b hb => ⟨hb.1, fun h => hb.2.1 ((inφ b).2 (.inl h)), fun h => by
    rcases List.mem_append.1 h with h1 | h1
    · by_cases h2 : b ∈ σ0
      · exact hb.2.2 (List.mem_append_left _ h2)
      · exact hb.2.1 ((inφ b).2 (.inr ⟨h1, h2⟩))
    · exact hb.2.2 (List.mem_append_right _ h1)⟩
  have hback : ∀ p b i : Nat, (σ0 ++ τ)[p]? = some b → backI I m.length p = some i → (σ ++ τ)[i]? = some b := fun p b i hb hi => by
    unfold backI at hi
    split at hi
    · rename_i j hj
      have hji : j = i := Option.some.inj hi
      subst hji
      have hjl := hlt j (List.mem_of_getElem? hj)
      have hpl := (List.getElem?_eq_some_iff.1 hj).1
      obtain ⟨b', h1, _⟩ := get j hjl
      have := at0 p j b' hj h1
      rw [List.getElem?_append_left (by omega), this] at hb
      cases hb
      rw [List.getElem?_append_left hjl]
      exact h1
    · rename_i hj
      cases hi
      have hpl := List.getElem?_eq_none_iff.1 hj
      rw [List.getElem?_append_right (by omega), hs0l] at hb
      rw [List.getElem?_append_right (by omega), show m.length + (p - I.length) - σ.length = p - I.length by omega]
      exact hb
  have hold : ∀ i b : Nat, σ[i]? = some b → i ∉ I → w'.heap[b]? = w.heap[b]? := fun i b hb hi => hkeep.block b (hmem.lt (List.mem_of_getElem? hb)) (out0 i b hb hi)
  refine ⟨v, _, _, σ ++ τ, rfl, hQ, ⟨⟨τ, rfl, hτ⟩⟩, ⟨hkeep.os, hkeep.tape, hkeep.output, hkeep.size, fun k hk hn => hkeep.block k hk fun h => hn (sub0 k h)⟩, fun i b hb hn => hold i b hb hn, hav.re hro1 hback fun i n cap _ => no_fz i n, ?_⟩
  refine ⟨by simp [backMem, hm1]; omega, ?_, fun b hb => Nat.lt_of_lt_of_le (hmem.fo b hb) hkeep.size, hmem1.gl.mono fun z hz => ⟨hro1 z hz, rfl⟩, fun i t cs b hi hb => ?_⟩
  · rw [List.nodup_append]
    refine ⟨hmem.nodup, (List.nodup_append.1 hmem1.nodup).2.1, fun x hx y hy e => ?_⟩
    have h1 := hmem.lt hx
    have h2 := hτ y hy
    omega
  · unfold backMem at hi
    rcases Nat.lt_or_ge i m.length with hil | hil
    · rw [List.getElem?_append_left (by simpa using hil), List.getElem?_map, List.getElem?_range hil, Option.map_some] at hi
      rw [List.getElem?_append_left (by omega)] at hb
      split at hi
      · rename_i p hp
        have hIp := posOf_get hp
        have hpl := (List.getElem?_eq_some_iff.1 hIp).1
        have hb1 : (σ0 ++ τ)[p]? = some b := by
          rw [List.getElem?_append_left (by omega)]
          exact at0 p i b hIp hb
        cases hm1p : m1[p]? with
        | none =>
          have := List.getElem?_eq_none_iff.1 hm1p
          omega
        | some e =>
          obtain ⟨t0, cs0⟩ := e
          rw [hm1p] at hi
          cases hi
          obtain ⟨us, h3, h4⟩ := hmem1.blk p t0 cs0 b hm1p hb1
          exact ⟨us, h3, h4.re hro1 hback fun i n cap _ => no_fz i n⟩
      · rename_i hp
        have hni := posOf_none hp
        have hmi : m[i]? = some (t, cs) := by
          rw [List.getElem?_eq_getElem hil] at *
          simpa [hil] using hi
        obtain ⟨us, h3, h4⟩ := hmem.blk i t cs b hmi hb
        refine ⟨us, (hold i b hb hni).trans h3, h4.mono (fun z hz => ⟨⟨Nat.lt_of_lt_of_le hz.1 hkeep.size, hz.2.1, fun h => ?_⟩, hkeep.block z hz.1 fun h => hz.2.2 (sub0 z h)⟩) (fun j z hj => by rw [List.getElem?_append_left (List.getElem?_eq_some_iff.1 hj).1]; exact hj)⟩
        rcases List.mem_append.1 h with h1 | h1
        · exact hz.2.2 h1
        · have := hτ z h1
          have := hz.1
          omega
    · rw [List.getElem?_append_right (by simpa using hil), List.getElem?_map, List.getElem?_drop] at hi
      rw [List.length_map, List.length_range] at hi
      rw [List.getElem?_append_right (by omega)] at hb
      cases hm1p : m1[I.length + (i - m.length)]? with
      | none => rw [hm1p] at hi; simp at hi
      | some e =>
        obtain ⟨t0, cs0⟩ := e
        rw [hm1p] at hi
        cases hi
        have hb1 : (σ0 ++ τ)[I.length + (i - m.length)]? = some b := by
          rw [List.getElem?_append_right (by omega), hs0l, show I.length + (i - m.length) - I.length = i - σ.length by omega]
          exact hb
        obtain ⟨us, h3, h4⟩ := hmem1.blk _ t0 cs0 b hm1p hb1
        exact ⟨us, h3, h4.re hro1 hback fun i n cap _ => no_fz i n⟩
end Ax
/-
Loops that build rows: rows in slots, rows in the fields of blocks; as many as one likes.
-/
set_option linter.unusedSimpArgs false
set_option linter.unusedVariables false
namespace Ax
open Go Go.RowKit
/-- what stands in a block: data; the row of a number -/
inductive BSh where
  | d (c : Cd)
  | r (k : Nat)
abbrev EBs : List BSh → Type
  | [] => Unit
  | .d c :: r => El c × EBs r
  | .r _ :: r => EBs r
abbrev EBb : List (TypeId × List BSh) → Type
  | [] => Unit
  | b :: r => EBs b.2 × EBb r
abbrev EGs : List (TypeId × Cd) → Type
  | [] => Unit
  | r :: l => Gr (El r.2) × EGs l
structure HSpec where
  n : Nat
  vs : List (Nat × Bool × Cd)
  ps : List (Nat × Nat × Nat)
  bs : List (TypeId × List BSh)
  rs : List (TypeId × Cd)
  /-- rows that stand in slots: slot, number -/
  sl : List (Nat × Nat)
  ex : Exit → List Nat
  exL : Exit → List (Nat × Nat)
abbrev HSpec.X (sp : HSpec) : Type := Els (vts sp.vs)
abbrev HSpec.Y (sp : HSpec) : Type := EBb sp.bs
abbrev HSpec.G (sp : HSpec) : Type := EGs sp.rs
def rowCks : (rs : List (TypeId × Cd)) → EGs rs → Nat → List Ck
  | [], _, _ => []
  | r :: l, g, k => match g.1 with
    | none => .v (.slice none 0 0) :: rowCks l g.2 k
    | some x => .os k x.1.length x.2 :: rowCks l g.2 (k + 1)
def rowMems : (rs : List (TypeId × Cd)) → EGs rs → Mem
  | [], _ => []
  | r :: l, g => match g.1 with
    | none => rowMems l g.2
    | some x => (r.1, [.row r.2 x.1 x.2]) :: rowMems l g.2
def mkCells : (shs : List BSh) → EBs shs → List Ck → List Ck
  | [], _, _ => []
  | .d c :: r, y, ex => ck c y.1 ++ mkCells r y.2 ex
  | .r k :: r, y, ex => ex.getD k .any :: mkCells r y ex
def mkBlk : (bs : List (TypeId × List BSh)) → EBb bs → List Ck → Mem
  | [], _, _ => []
  | b :: r, y, ex => (b.1, mkCells b.2 y.1 ex) :: mkBlk r y.2 ex
def HSpec.cks (sp : HSpec) (g : sp.G) : List Ck := rowCks sp.rs g sp.bs.length
def rowSl (sl : List (Nat × Nat)) (ex : List Ck) : List (Nat × Av) := sl.map fun p => (p.1, .one (ex.getD p.2 .any))
def HSpec.head (sp : HSpec) (x : sp.X) (y : sp.Y) (g : sp.G) : St := ⟨mkFr sp.n (((sp.vs.map (·.1)).zip (encs (vts sp.vs) x) ++ pList sp.ps) ++ rowSl sp.sl (sp.cks g)), mkBlk sp.bs y (sp.cks g) ++ rowMems sp.rs g⟩
def HSpec.exitSt (sp : HSpec) (e : Exit) (avs : List Av) (y : sp.Y) (g : sp.G) : St := ⟨mkFr sp.n (((sp.ex e).zip avs ++ pList sp.ps) ++ rowSl (sp.exL e) (sp.cks g)), mkBlk sp.bs y (sp.cks g) ++ rowMems sp.rs g⟩
/-! ### a state is read -/
def decBlk : (shs : List BSh) → List Ck → Option (EBs shs × List (Nat × Ck))
  | [], [] => some ((), [])
  | .d c :: r, cs => match parse c cs with
    | some (x, cs') => (match decBlk r cs' with
      | some (y, l) => some ((x, y), l)
      | none => none)
    | none => none
  | .r k :: r, c :: cs => match decBlk r cs with
    | some (y, l) => some (y, (k, c) :: l)
    | none => none
  | _, _ => none
def decBlks : (bs : List (TypeId × List BSh)) → Mem → Option (EBb bs × List (Nat × Ck))
  | [], _ => some ((), [])
  | b :: r, (t, cs) :: m => match decide (t = b.1), decBlk b.2 cs, decBlks r m with
    | true, some (y, l), some (z, l') => some ((y, z), l ++ l')
    | _, _, _ => none
  | _ :: _, [] => none
def slCells (fr : List Av) : List (Nat × Nat) → Option (List (Nat × Ck))
  | [] => some []
  | (t, k) :: r => match fr[t]?, slCells fr r with
    | some (.one c), some l => some ((k, c) :: l)
    | _, _ => none
def cellOf : List (Nat × Ck) → Nat → Ck
  | [], _ => .any
  | (j, c) :: r, k => match decide (j = k) with
    | true => c
    | false => cellOf r k
def rowIxs (l : List (Nat × Ck)) : Nat → Nat → List Nat
  | _, 0 => []
  | k, n + 1 => match cellOf l k with
    | .os j _ _ => j :: rowIxs l (k + 1) n
    | _ => rowIxs l (k + 1) n
def HSpec.canon (sp : HSpec) (sl : List (Nat × Nat)) (live : List Nat) (st : St) : T St := fSt ⟨blankF (live ++ (sp.ps.map (·.1) ++ sl.map (·.1))) st.fr, st.mem⟩ fun st =>
  match slCells st.fr sl, decBlks sp.bs st.mem with
  | some l, some (_, l') => fNats (List.range sp.bs.length ++ rowIxs (l ++ l') 0 sp.rs.length) fun I => match okI sp.bs.length st.mem.length I with
    | true => (gcT I st).bind fun st => fSt st fun st => .ret st
    | false => .fail
  | _, _ => .fail
def decRows : (rs : List (TypeId × Cd)) → Nat → Nat → List (Nat × Ck) → Mem → Option (EGs rs × List Prop)
  | [], _, _, _, _ => some ((), [])
  | r :: rs, k, next, l, m => match cellOf l k with
    | .v (.slice none 0 0) => (match decRows rs (k + 1) next l m with
      | some (g, p) => some ((none, g), p)
      | none => none)
    | .os j n cap => (match decide (j = next), m[j]? with
      | true, some (ty, [.row c xs cap']) => (match decide (ty = r.1), castRow c r.2 xs, decRows rs (k + 1) (next + 1) l m with
        | true, some ys, some (g, p) => some ((some (ys, cap'), g), (n = ys.length ∧ cap' = cap) :: p)
        | _, _, _ => none)
      | _, _ => none)
    | _ => none
def keysOk (rs : Nat) (l : List (Nat × Ck)) : Bool := nodB (l.map (·.1)) && l.all fun p => decide (p.1 < rs)
def HSpec.rest (sp : HSpec) (sl : List (Nat × Nat)) (st : St) : Option (sp.Y × sp.G × List Prop) :=
  match decide (st.fr.length = sp.n) && ptrsOk sp.bs.length st.fr sp.ps, slCells st.fr sl, decBlks sp.bs st.mem with
  | true, some l, some (y, l') => (match keysOk sp.rs.length (l ++ l'), decRows sp.rs 0 sp.bs.length (l ++ l') st.mem with
    | true, some (g, p) => (match decide (st.mem.length = sp.bs.length + (rowMems sp.rs g).length) with
      | true => some (y, g, p)
      | false => none)
    | _, _ => none)
  | _, _, _ => none
def HSpec.dec (sp : HSpec) (st : St) : Option (sp.X × sp.Y × sp.G × List Prop) :=
  match getsA st.fr (sp.vs.map (·.1)), sp.rest sp.sl st with
  | some l, some (y, g, p) => (match decs (vts sp.vs) l with
    | some x => some (x, y, g, p)
    | none => none)
  | _, _ => none
def HSpec.decE (sp : HSpec) (e : Exit) (st : St) : Option (List Av × sp.Y × sp.G × List Prop) :=
  match getsA st.fr (sp.ex e), sp.rest (sp.exL e) st with
  | some l, some (y, g, p) => (match l.all noA with
    | true => some (l.map nA, y, g, p)
    | false => none)
  | _, _ => none

theorem cellOf_mem : ∀ {l : List (Nat × Ck)}, nodB (l.map (·.1)) = true → ∀ {k c}, (k, c) ∈ l → cellOf l k = c
  | [], _, k, c, h => by cases h
  | (j, d) :: r, hn, k, c, h => by
    rw [List.map_cons] at hn
    unfold nodB at hn
    rw [Bool.and_eq_true, Bool.not_eq_true', List.any_eq_false] at hn
    unfold cellOf
    rcases List.mem_cons.1 h with e | h
    · cases e; simp
    · have : j ≠ k := fun e => by
        have := hn.1 k (List.mem_map.2 ⟨(k, c), h, rfl⟩)
        simp [e] at this
      simp only [this, decide_false]
      exact cellOf_mem hn.2 h
/-- a row's cell, its block -/
theorem decRows_ok : ∀ (rs : List (TypeId × Cd)) (k next : Nat) (l : List (Nat × Ck)) (m : Mem) (g : EGs rs) (ps : List Prop), decRows rs k next l m = some (g, ps) → (∀ p ∈ ps, p) →
    (∀ j, j < rs.length → ∀ w R σ us, Is w R σ [cellOf l (k + j)] us → Is w R σ [(rowCks rs g next).getD j .any] us) ∧
    (∀ (i : Nat) t cs, (rowMems rs g)[i]? = some (t, cs) → ∃ cs', m[next + i]? = some (t, cs') ∧ ∀ w R σ us, Is w R σ cs' us → Is w R [] cs us)
  | [], k, next, l, m, g, ps, _, _ => ⟨fun j h => absurd h (by simp), fun i t cs h => by simp [rowMems] at h⟩
  | r :: rs, k, next, l, m, g, ps, h, hp => by
    unfold decRows at h
    split at h
    · rename_i hc
      split at h
      · rename_i g' p' hd
        cases h
        obtain ⟨h1, h2⟩ := decRows_ok rs (k + 1) next l m g' ps hd hp
        refine ⟨fun j hj w R σ us hi => ?_, h2⟩
        rcases j with _ | j
        · rw [Nat.add_zero, hc] at hi; exact hi
        · have := h1 j (by simpa using hj) w R σ us (by rw [show k + 1 + j = k + (j + 1) by omega]; exact hi)
          exact this
      · cases h
    · rename_i j n cap hc
      split at h
      · rename_i ty c xs cap' hj hm
        have hj := of_decide_eq_true hj
        subst hj
        split at h
        · rename_i ys g' p' hty hcast hd
          have hty := of_decide_eq_true hty
          subst hty
          cases h
          obtain ⟨hn, hcap⟩ := hp _ (List.mem_cons_self ..)
          subst hn
          subst hcap
          obtain ⟨h1, h2⟩ := decRows_ok rs (k + 1) (j + 1) l m g' p' hd (fun p hpm => hp p (List.mem_cons_of_mem _ hpm))
          refine ⟨fun j' hj' w R σ us hi => ?_, fun i t cs hi => ?_⟩
          · rcases j' with _ | j'
            · rw [Nat.add_zero, hc] at hi; exact hi
            · have := h1 j' (by simpa using hj') w R σ us (by rw [show k + 1 + j' = k + (j' + 1) by omega]; exact hi)
              exact this
          · rcases i with _ | i
            · simp only [rowMems, List.getElem?_cons_zero, Option.some.injEq, Prod.mk.injEq] at hi
              obtain ⟨rfl, rfl⟩ := hi
              exact ⟨_, hm, fun w R σ us his => row_none (castRow_is hcast his) []⟩
            · have := h2 i t cs (by simpa [rowMems] using hi)
              rw [show j + 1 + i = j + (i + 1) by omega] at this
              exact this
        · cases h
      · cases h
    · cases h
theorem decBlk_ok {w : World} {R : Nat → Prop} {σ : List Nat} {ex : List Ck} : ∀ (shs : List BSh) (cs : List Ck) (y : EBs shs) (l : List (Nat × Ck)) (us : List Value), decBlk shs cs = some (y, l) →
    (∀ k c, (k, c) ∈ l → ∀ us, Is w R σ [c] us → Is w R σ [ex.getD k .any] us) → Is w R σ cs us → Is w R σ (mkCells shs y ex) us
  | [], [], y, l, us, _, _, h => h
  | [], _ :: _, y, l, us, h, _, _ => by simp [decBlk] at h
  | .d c :: r, cs, y, l, us, h, hl, hi => by
    unfold decBlk at h
    split at h
    · rename_i x cs' hp
      split at h
      · rename_i y' l' hd
        cases h
        obtain ⟨ua, ub, rfl, i1, i2⟩ := parse_ok c cs x cs' us hp hi
        exact (i1.none σ).app (decBlk_ok r cs' y' l ub hd hl i2)
      · cases h
    · cases h
  | .r k :: r, [], y, l, us, h, _, _ => by simp [decBlk] at h
  | .r k :: r, c :: cs, y, l, us, h, hl, hi => by
    unfold decBlk at h
    split at h
    · rename_i y' l' hd
      cases h
      obtain ⟨ua, ub, rfl, _, i1, i2⟩ := hi.head
      have := hl k c (List.mem_cons_self ..) ua i1
      exact this.app (decBlk_ok r cs y l' ub hd (fun k c hm => hl k c (List.mem_cons_of_mem _ hm)) i2)
    · cases h
theorem decBlks_ok : ∀ (bs : List (TypeId × List BSh)) (m : Mem) (y : EBb bs) (l : List (Nat × Ck)) (ex : List Ck), decBlks bs m = some (y, l) → bs.length ≤ m.length ∧ (mkBlk bs y ex).length = bs.length ∧
    ∀ (i : Nat) t cs, (mkBlk bs y ex)[i]? = some (t, cs) → ∃ cs', m[i]? = some (t, cs') ∧ ∀ w R σ us, (∀ k c, (k, c) ∈ l → ∀ us, Is w R σ [c] us → Is w R σ [ex.getD k .any] us) → Is w R σ cs' us → Is w R σ cs us
  | [], m, y, l, ex, _ => ⟨Nat.zero_le _, rfl, by simp [mkBlk]⟩
  | b :: r, [], y, l, ex, h => by simp [decBlks] at h
  | b :: r, (t, cs) :: m, y, l, ex, h => by
    unfold decBlks at h
    split at h
    · rename_i y' l1 z l2 ht hd hz
      cases h
      have ht := of_decide_eq_true ht
      obtain ⟨g1, g2, g3⟩ := decBlks_ok r m z l2 ex hz
      refine ⟨by simp; omega, by simp [mkBlk, g2], fun i t' cs' hi => ?_⟩
      rcases i with _ | i
      · simp only [mkBlk, List.getElem?_cons_zero, Option.some.injEq, Prod.mk.injEq] at hi
        obtain ⟨rfl, rfl⟩ := hi
        exact ⟨cs, by simp [ht], fun w R σ us hl his => decBlk_ok b.2 cs y' l1 us hd (fun k c hm => hl k c (List.mem_append_left _ hm)) his⟩
      · obtain ⟨cs'', h1, h2⟩ := g3 i t' cs' (by simpa [mkBlk] using hi)
        exact ⟨cs'', by simpa using h1, fun w R σ us hl his => h2 w R σ us (fun k c hm => hl k c (List.mem_append_right _ hm)) his⟩
    · cases h
theorem slCells_ok {fr : List Av} : ∀ (sl : List (Nat × Nat)) (l : List (Nat × Ck)), slCells fr sl = some l → ∀ p ∈ sl, ∃ c, fr[p.1]? = some (.one c) ∧ (p.2, c) ∈ l
  | [], l, _, p, hp => by cases hp
  | (t, k) :: r, l, h, p, hp => by
    unfold slCells at h
    split at h
    · rename_i c l' hf hr
      cases h
      rcases List.mem_cons.1 hp with rfl | hp
      · exact ⟨c, hf, List.mem_cons_self ..⟩
      · obtain ⟨c', h1, h2⟩ := slCells_ok r l' hr p hp
        exact ⟨c', h1, List.mem_cons_of_mem _ h2⟩
    · cases h
section
variable {P : Program} {E : Env P} {L : Loops} {w0 w : World} {φ σ0 σ : List Nat} {st : St} {a : Act}
theorem canon_ok (sp : HSpec) {sl : List (Nat × Nat)} {live : List Nat} {Q : St → Prop} (hφ : ∀ b ∈ φ, b < w0.heap.size) (h0 : σ0.length ≤ sp.bs.length) (hS : Sat w0 φ σ0 σ st a w) (h : (sp.canon sl live st).wp Q) : ∃ st' σ', Q st' ∧ Sat w0 φ σ0 σ' st' a w := by
  unfold HSpec.canon at h
  rw [fSt_eq] at h
  have hB := blank_ok (live ++ (sp.ps.map (·.1) ++ sl.map (·.1))) hS
  split at h
  · rw [fNats_eq] at h
    split at h
    · rename_i hI
      rw [T.wp_bind] at h
      exact gc_ok (Q := Q) hφ h0 hI hB (T.wp_mono (fun st' h' => by rw [fSt_eq] at h'; exact h') h)
    · exact h.elim
  · exact h.elim
theorem rest_view (sp : HSpec) {sl : List (Nat × Nat)} {y : sp.Y} {g : sp.G} {ps : List Prop} (hS : Sat w0 φ σ0 σ st a w) (h : sp.rest sl st = some (y, g, ps)) (hp : ∀ p ∈ ps, p) (dl : List (Nat × Av)) (hdl : ∀ q ∈ dl, AvIs w (Ro w φ σ) [] q.2 (a.tmps.getD q.1 undef)) :
    Sat w0 φ σ0 σ ⟨mkFr sp.n ((dl ++ pList sp.ps) ++ rowSl sl (sp.cks g)), mkBlk sp.bs y (sp.cks g) ++ rowMems sp.rs g⟩ a w := by
  unfold HSpec.rest at h
  split at h
  case h_2 => cases h
  rename_i l y' l' hc hsl hbl
  split at h
  case h_2 => cases h
  rename_i g' p' hk hrw
  split at h
  case h_2 => cases h
  rename_i hlen
  cases h
  simp only [Bool.and_eq_true, decide_eq_true_eq] at hc hlen
  unfold keysOk at hk
  rw [Bool.and_eq_true] at hk
  obtain ⟨r1, r2⟩ := decRows_ok sp.rs 0 sp.bs.length (l ++ l') st.mem g ps hrw hp
  obtain ⟨b1, b2, b3⟩ := decBlks_ok sp.bs st.mem y l' (sp.cks g) hbl
  have cell : ∀ k c, (k, c) ∈ l ++ l' → ∀ (w : World) (R : Nat → Prop) (σ : List Nat) us, Is w R σ [c] us → Is w R σ [(sp.cks g).getD k .any] us := fun k c hm w R σ us hi => by
    have hkl := of_decide_eq_true (List.all_eq_true.1 hk.2 (k, c) hm)
    have hce := cellOf_mem hk.1 hm
    have := r1 k hkl w R σ us
    rw [Nat.zero_add, hce] at this
    exact this hi
  refine ⟨⟨(fr_len _ _).trans (hc.1.symm.trans hS.fr.len), fun t av ht => ?_⟩, ⟨by rw [List.length_append, b2, ← hS.mem.len, hlen], hS.mem.nodup, hS.mem.fo, hS.mem.gl, fun i t cs b hi hb => ?_⟩, hS.ext, hS.keep, hS.df⟩
  · rcases fr_at ht with rfl | ⟨q, hq, rfl, rfl⟩
    · exact .any
    · rcases List.mem_append.1 hq with hq | hq
      · rcases List.mem_append.1 hq with hq | hq
        · exact (hdl q hq).ro (fun b hb => hb) _
        · unfold pList at hq
          obtain ⟨r, hr, rfl⟩ := List.mem_map.1 hq
          obtain ⟨hf, hlt⟩ := ptrs_ok sp.ps hc.2 r hr
          exact hS.fr.at_ _ _ hf
      · unfold rowSl at hq
        obtain ⟨p, hpm, rfl⟩ := List.mem_map.1 hq
        obtain ⟨c, h1, h2⟩ := slCells_ok sl l hsl p hpm
        have := hS.fr.at_ _ _ h1
        cases this with
        | one g1 g2 =>
          have g3 := cell p.2 c (List.mem_append_left _ h2) _ _ _ _ g2
          refine .one ?_ g3
          have := is_len _ g3
          simpa [ckLen] using this.symm
  · rcases Nat.lt_or_ge i sp.bs.length with hlt | hge
    · rw [List.getElem?_append_left (by omega)] at hi
      obtain ⟨cs', h1, h2⟩ := b3 i t cs hi
      obtain ⟨us, h3, h4⟩ := hS.mem.blk i t cs' b h1 hb
      exact ⟨us, h3, h2 _ _ _ _ (fun k c hm us => cell k c (List.mem_append_right _ hm) _ _ _ us) h4⟩
    · rw [List.getElem?_append_right (by omega), b2] at hi
      obtain ⟨cs', h1, h2⟩ := r2 _ t cs hi
      rw [show sp.bs.length + (i - sp.bs.length) = i by omega] at h1
      obtain ⟨us, h3, h4⟩ := hS.mem.blk i t cs' b h1 hb
      exact ⟨us, h3, (h2 _ _ _ _ h4).none σ⟩
theorem headH_ok (sp : HSpec) {x : sp.X} {y : sp.Y} {g : sp.G} {ps : List Prop} (hS : Sat w0 φ σ0 σ st a w) (h : sp.dec st = some (x, y, g, ps)) (hp : ∀ p ∈ ps, p) : Sat w0 φ σ0 σ (sp.head x y g) a w := by
  unfold HSpec.dec at h
  split at h
  · rename_i l y' g' ps' hl hr
    split at h
    · rename_i x' hd
      cases h
      obtain ⟨k1, k2⟩ := gets_ok _ _ _ hl
      obtain ⟨d1, d2⟩ := decs_ok (w := w) (R := Ro w φ σ) (σ := σ) (vts sp.vs) l x ((sp.vs.map (·.1)).map fun s => a.tmps.getD s undef) hd (by simp at k1 ⊢; omega) (fun i b v hb hv => by
        rw [List.getElem?_map] at hv
        cases hq : (sp.vs.map (·.1))[i]? with
        | none => rw [hq] at hv; simp at hv
        | some s =>
          rw [hq] at hv
          simp only [Option.map_some, Option.some.injEq] at hv
          subst hv
          exact hS.fr.at_ s b (k2 i s b hq hb))
      refine rest_view sp hS hr hp _ fun q hq => ?_
      obtain ⟨i, hi, e⟩ := List.getElem_of_mem hq
      have hz : ((sp.vs.map (·.1)).zip (encs (vts sp.vs) x))[i]? = some q := by rw [List.getElem?_eq_getElem hi, e]
      rw [List.getElem?_zip_eq_some] at hz
      have hv : ((sp.vs.map (·.1)).map fun s => a.tmps.getD s undef)[i]? = some (a.tmps.getD q.1 undef) := by rw [List.getElem?_map, hz.1]; rfl
      exact d2 i _ _ hz.2 hv
    · cases h
  · cases h
theorem exitH_ok (sp : HSpec) {e : Exit} {avs : List Av} {y : sp.Y} {g : sp.G} {ps : List Prop} (hS : Sat w0 φ σ0 σ st a w) (h : sp.decE e st = some (avs, y, g, ps)) (hp : ∀ p ∈ ps, p) : Sat w0 φ σ0 σ (sp.exitSt e avs y g) a w := by
  unfold HSpec.decE at h
  split at h
  · rename_i l y' g' ps' hl hr
    split at h
    · rename_i hno
      cases h
      obtain ⟨k1, k2⟩ := gets_ok _ _ _ hl
      refine rest_view sp hS hr hp _ fun q hq => ?_
      obtain ⟨i, hi, e1⟩ := List.getElem_of_mem hq
      have hz : ((sp.ex e).zip (l.map nA))[i]? = some q := by rw [List.getElem?_eq_getElem hi, e1]
      rw [List.getElem?_zip_eq_some] at hz
      have hz2 := hz.2
      rw [List.getElem?_map] at hz2
      cases hq : l[i]? with
      | none => rw [hq] at hz2; simp at hz2
      | some b =>
        rw [hq] at hz2
        simp only [Option.map_some, Option.some.injEq] at hz2
        rw [← hz2]
        have hb := hS.fr.at_ _ _ (k2 i _ b hz.1 hq)
        have hn := List.all_eq_true.1 hno b (List.mem_of_getElem? hq)
        exact nA_is (av_no hb hn)
    · cases h
  · cases h

inductive HRd (sp : HSpec) : Type
  | again (x : sp.X) (y : sp.Y) (g : sp.G)
  | out (e : Exit) (avs : List Av) (y : sp.Y) (g : sp.G)
def HSpec.round {P : Program} (sp : HSpec) (E : Env P) (L : Loops) (body : Code) (x : sp.X) (y : sp.Y) (g : sp.G) : T (HRd sp) :=
  (code (E.at_ sp.bs.length) L body (sp.head x y g)).bind fun r => match r.1 with
    | .normal => (sp.canon sp.sl (sp.vs.map (·.1)) r.2).bind fun st => (match sp.dec st with
      | some (x', y', g', p) => needAll p (.ret (.again x' y' g'))
      | none => .fail)
    | e => (sp.canon (sp.exL e) (sp.ex e) r.2).bind fun st => (match sp.decE e st with
      | some (avs, y', g', p) => needAll p (.ret (.out e avs y' g'))
      | none => .fail)
def HSpec.run (sp : HSpec) (out : sp.X → sp.Y → sp.G → T (Exit × List Av × sp.Y × sp.G)) (st : St) : T (Exit × St) :=
  (sp.canon sp.sl (sp.vs.map (·.1)) st).bind fun st => match sp.dec st with
  | some (x, y, g, p) => needAll p ((out x y g).bind fun r => .ret (r.1, sp.exitSt r.1 r.2.1 r.2.2.1 r.2.2.2))
  | none => .fail

/-- THE LAW of a loop that builds rows. -/
theorem loopH_ok (hm : P.follows .mixedOrders = true) (k : Nat) {body : Code} (hL : LoopsOk P k L body) (sp : HSpec) (hk : k ≤ sp.bs.length) (out : sp.X → sp.Y → sp.G → T (Exit × List Av × sp.Y × sp.G)) (μ : sp.X → sp.Y → sp.G → Nat)
    (hb : ∀ x y g Q, (out x y g).wp Q → (sp.round E L body x y g).wp fun r => match r with
      | .again x' y' g' => μ x' y' g' < μ x y g ∧ (out x' y' g').wp Q
      | .out e avs y' g' => Q (e, avs, y', g')) : LoopOk P k body (sp.run out) := by
  intro w0 φ σ0 σ st a w Q hσ hφ hS hrun
  unfold HSpec.run at hrun
  rw [T.wp_bind] at hrun
  obtain ⟨st1, σ1, hrun, hS1⟩ := canon_ok sp hφ (by omega) hS hrun
  split at hrun
  · rename_i x y g p hd
    obtain ⟨hp, hrun⟩ := needAll_wp hrun
    rw [T.wp_bind] at hrun
    have h0 := headH_ok sp hS1 hd hp
    refine wp_loop_ghost (fun n a w => ∃ x y g σ, n = μ x y g ∧ Sat w0 φ σ0 σ (sp.head x y g) a w ∧ (out x y g).wp fun r => (T.ret (r.1, sp.exitSt r.1 r.2.1 r.2.2.1 r.2.2.2)).wp Q) _ ⟨x, y, g, _, rfl, h0, hrun⟩ fun n a w hI => ?_
    obtain ⟨x, y, g, σ, rfl, hS, hout⟩ := hI
    have h1 := hb x y g _ hout
    unfold HSpec.round at h1
    rw [T.wp_bind] at h1
    refine wp_mono (code_ok (E := E.at_ sp.bs.length) hm hσ (by show σ0.length ≤ sp.bs.length; omega) hφ body _ σ a w _ hL hS h1) fun e a' w' hr => ?_
    obtain ⟨hq, st', σ', h2, h3⟩ := hr
    have out : ∀ e, ((sp.canon (sp.exL e) (sp.ex e) st').bind fun st => (match sp.decE e st with
      | some (avs, y', g', p) => needAll p (T.ret (HRd.out e avs y' g'))
      | none => .fail)).wp (fun r => match r with
        | .again x' y' g' => μ x' y' g' < μ x y g ∧ (out x' y' g').wp fun r => (T.ret (r.1, sp.exitSt r.1 r.2.1 r.2.2.1 r.2.2.2)).wp Q
        | .out e avs y' g' => (T.ret (e, sp.exitSt e avs y' g')).wp Q) → ∃ st σ, Q (e, st) ∧ Sat w0 φ σ0 σ st a' w' := fun e h2 => by
      rw [T.wp_bind] at h2
      obtain ⟨st2, σ2, h2, h4⟩ := canon_ok sp hφ (by omega) h3 h2
      split at h2
      · rename_i avs y' g' p' hd'
        obtain ⟨hp', h2⟩ := needAll_wp h2
        exact ⟨_, _, h2, exitH_ok sp h4 hd' hp'⟩
      · exact h2.elim
    cases e with
    | normal =>
      simp only [Exit.then]
      simp only at h2
      rw [T.wp_bind] at h2
      obtain ⟨st2, σ2, h2, h4⟩ := canon_ok sp hφ (by omega) h3 h2
      split at h2
      · rename_i x' y' g' p' hd'
        obtain ⟨hp', h2⟩ := needAll_wp h2
        exact ⟨_, h2.1, x', y', g', _, rfl, headH_ok sp h4 hd' hp', h2.2⟩
      · exact h2.elim
    | panic _ => cases hq
    | outgrown => cases hq
    | exit id =>
      simp only [Exit.then]
      obtain ⟨st2, σ2, h4, h5⟩ := out _ h2
      exact ⟨rfl, _, _, h4, h5⟩
    | ret =>
      simp only [Exit.then]
      obtain ⟨st2, σ2, h4, h5⟩ := out _ h2
      exact ⟨rfl, _, _, h4, h5⟩
    | goto l =>
      simp only [Exit.then]
      obtain ⟨st2, σ2, h4, h5⟩ := out _ h2
      exact ⟨rfl, _, _, h4, h5⟩
  · exact hrun.elim
end
end Ax
/-
option: types, small functions.
-/
set_option linter.unusedSimpArgs false
set_option linter.unusedVariables false
namespace Go.Proofs.YtljlfmmhoceihaaDoor
open Go.RowKit Ax
theorem cf_oside (xs : Array Value) (w : World) : (callFunc 27 xs).run Tryd.prog w = .ok (.enter 27 xs) w := by kernel_rfl
theorem cf_obetw (xs : Array Value) (w : World) : (callFunc 28 xs).run Tryd.prog w = .ok (.enter 28 xs) w := by kernel_rfl
theorem cf_ois (xs : Array Value) (w : World) : (callFunc 14 xs).run Tryd.prog w = .ok (.enter 14 xs) w := by kernel_rfl
theorem cf_osize (xs : Array Value) (w : World) : (callFunc 40 xs).run Tryd.prog w = .ok (.enter 40 xs) w := by kernel_rfl
theorem cf_oword (xs : Array Value) (w : World) : (callFunc 25 xs).run Tryd.prog w = .ok (.enter 25 xs) w := by kernel_rfl
theorem cf_oparse (xs : Array Value) (w : World) : (callFunc 11 xs).run Tryd.prog w = .ok (.enter 11 xs) w := by kernel_rfl
theorem cf_oprint (xs : Array Value) (w : World) : (callFunc 16 xs).run Tryd.prog w = .ok (.enter 16 xs) w := by kernel_rfl
theorem cf_pside (xs : Array Value) (w : World) : (callFunc 29 xs).run Tryd.prog w = .ok (.enter 29 xs) w := by kernel_rfl
theorem cf_pis (xs : Array Value) (w : World) : (callFunc 15 xs).run Tryd.prog w = .ok (.enter 15 xs) w := by kernel_rfl
theorem cf_pthree (xs : Array Value) (w : World) : (callFunc 26 xs).run Tryd.prog w = .ok (.enter 26 xs) w := by kernel_rfl
theorem cf_pparse (xs : Array Value) (w : World) : (callFunc 12 xs).run Tryd.prog w = .ok (.enter 12 xs) w := by kernel_rfl
theorem cf_pprint (xs : Array Value) (w : World) : (callFunc 17 xs).run Tryd.prog w = .ok (.enter 17 xs) w := by kernel_rfl
theorem cf_psame (xs : Array Value) (w : World) : (callFunc 13 xs).run Tryd.prog w = .ok (.enter 13 xs) w := by kernel_rfl
abbrev cSz : Cd := .pair (.int .i64) (.pair (.int .i64) (.int .i64))
abbrev cOp : Cd := .pair (.int .i64) (.pair (.int .i64) (.sl cSz))
noncomputable def codI : Cod Tryd.prog := ⟨3, .int .i64, by kernel_rfl, ⟨.int .i64 0, fun w => by kernel_rfl⟩⟩
noncomputable def zeroI : Zero Tryd.prog := ⟨3, ck (.int .i64) (0 : Int), [.int .i64 0], by kernel_rfl, fun w R σ => .v rfl .nil⟩
noncomputable def codZ : Cod Tryd.prog := ⟨56, cSz, by kernel_rfl, ⟨.agg #[.int .i64 0, .int .i64 0, .int .i64 0], fun w => by kernel_rfl⟩⟩
noncomputable def zeroZ : Zero Tryd.prog := ⟨56, ck cSz ((0 : Int), (0 : Int), (0 : Int)), [.int .i64 0, .int .i64 0, .int .i64 0], by kernel_rfl, fun w R σ => .v rfl (.v rfl (.v rfl .nil))⟩
noncomputable def zeroO : Zero Tryd.prog := ⟨25, [.v (.int .i64 0), .v (.int .i64 0), .v (.slice none 0 0)], [.int .i64 0, .int .i64 0, .slice none 0 0], by kernel_rfl, fun w R σ => .v rfl (.v rfl (.v rfl .nil))⟩
noncomputable def zeroA3 : Zero Tryd.prog := ⟨59, [.v (.int .i64 0), .v (.int .i64 0), .v (.int .i64 0)], [.int .i64 0, .int .i64 0, .int .i64 0], by kernel_rfl, fun w R σ => .v rfl (.v rfl (.v rfl .nil))⟩
noncomputable def O1 : Env Tryd.prog := ⟨LC.con, zeroI :: zeroZ :: zeroO :: zeroA3 :: LC.zero, codI :: codZ :: LC.cod, LC.sure, LC.base, LC.frz⟩
end Go.Proofs.YtljlfmmhoceihaaDoor
/-
option.isSide, parquetref6.side: their trees.
-/
set_option linter.unusedSimpArgs false
set_option linter.unusedVariables false
namespace Go.Proofs.YtljlfmmhoceihaaDoor
open Go.RowKit Ax
noncomputable def tr_oside (x : Els [(false, .int .i64)]) : T Av :=
 .ite (decide (x.1 ≥ (1 : Int)))
  (.ite (decide (x.1 ≤ (64 : Int)))
   (.ret (.one (.v (.bool (IntKind.wrap .i64 (↑(BitVec.toNat (BitVec.ofInt (IntKind.bits .i64) (x.1) &&& BitVec.ofInt (IntKind.bits .i64) (IntKind.wrap .i64 (x.1 - (1 : Int))))) : Int) == (0 : Int))))))
   (.ret (.one (.v (.bool (false))))))
  (.ret (.one (.v (.bool (false)))))
theorem tr_oside_eq (x : Els [(false, .int .i64)]) : fnP O1 (fun _ => none) Tryd.f27 (encs [(false, .int .i64)] x) = tr_oside x := by kernel_rfl
noncomputable def tr_pside (x : Els [(false, .int .i64)]) : T Av :=
 .ite (x.1 == (1 : Int))
  (.ret (.one (.v (.bool (true)))))
  (.ite (x.1 == (2 : Int))
   (.ret (.one (.v (.bool (true)))))
   (.ite (x.1 == (4 : Int))
    (.ret (.one (.v (.bool (true)))))
    (.ite (x.1 == (8 : Int))
     (.ret (.one (.v (.bool (true)))))
     (.ite (x.1 == (16 : Int))
      (.ret (.one (.v (.bool (true)))))
      (.ite (x.1 == (32 : Int))
       (.ret (.one (.v (.bool (true)))))
       (.ret (.one (.v (.bool (x.1 == (64 : Int)))))))))))
theorem tr_pside_eq (x : Els [(false, .int .i64)]) : fnP O1 (fun _ => none) Tryd.f29 (encs [(false, .int .i64)] x) = tr_pside x := by kernel_rfl
end Go.Proofs.YtljlfmmhoceihaaDoor
/-
option.isSide, parquetref6.side: what they tell; option.between: what its loop carries.
-/
set_option linter.unusedSimpArgs false
set_option linter.unusedVariables false
namespace Go.Proofs.YtljlfmmhoceihaaDoor
open Go.RowKit Ax
def sideB (z : Int) : Bool := decide (z = 1 ∨ z = 2 ∨ z = 4 ∨ z = 8 ∨ z = 16 ∨ z = 32 ∨ z = 64)
theorem side_fin : ∀ n : Fin 65, 1 ≤ n.val → (IntKind.wrap .i64 (BitVec.toNat (BitVec.ofInt (IntKind.bits .i64) (n.val : Int) &&& BitVec.ofInt (IntKind.bits .i64) (IntKind.wrap .i64 ((n.val : Int) - 1))) : Int) == 0) = sideB n.val := by decide +kernel
noncomputable def con_oside : Con Tryd.prog := ⟨27, [], _, cf_oside, tot_con (E := O1) (L := fun _ => none) mixed Tryd.func27 no_loops [(false, .int .i64)] (fun x => .one (.v (.bool (sideB x.1)))) fun x => by
  rw [tr_oside_eq]
  obtain ⟨z, u⟩ := x
  revert z
  intro (z : Int)
  unfold tr_oside
  simp only [T.wp]
  refine ⟨fun h1 => ⟨fun h2 => ?_, fun h2 => ?_⟩, fun h1 => ?_⟩
  · have h1 : z ≥ 1 := of_decide_eq_true h1
    have h2 : z ≤ 64 := of_decide_eq_true h2
    obtain ⟨n, rfl⟩ : ∃ n : Nat, z = n := ⟨z.toNat, by omega⟩
    rw [side_fin ⟨n, by omega⟩ (by show 1 ≤ n; omega)]
  · have h2 : ¬ z ≤ 64 := of_decide_eq_false h2
    unfold sideB
    rw [decide_eq_false (by omega)]
  · have h1 : ¬ z ≥ 1 := of_decide_eq_false h1
    unfold sideB
    rw [decide_eq_false (by omega)]⟩
noncomputable def con_pside : Con Tryd.prog := ⟨29, [], _, cf_pside, tot_con (E := O1) (L := fun _ => none) mixed Tryd.func29 no_loops [(false, .int .i64)] (fun x => .one (.v (.bool (sideB x.1)))) fun x => by
  rw [tr_pside_eq]
  obtain ⟨z, u⟩ := x
  revert z
  intro (z : Int)
  unfold tr_pside
  simp only [T.wp]
  have yes : ∀ k : Int, (k = 1 ∨ k = 2 ∨ k = 4 ∨ k = 8 ∨ k = 16 ∨ k = 32 ∨ k = 64) → (z == k) = true → Av.one (.v (.bool true)) = .one (.v (.bool (sideB z))) := fun k hk h => by
    have : z = k := by simpa using h
    unfold sideB
    rw [decide_eq_true (by omega)]
  have no : ∀ k : Int, (z == k) = false → z ≠ k := fun k h => by simpa using h
  refine ⟨yes 1 (by decide), fun h1 => ⟨yes 2 (by decide), fun h2 => ⟨yes 4 (by decide), fun h3 => ⟨yes 8 (by decide), fun h4 => ⟨yes 16 (by decide), fun h5 => ⟨yes 32 (by decide), fun h6 => ?_⟩⟩⟩⟩⟩⟩
  have e : (z == 64) = sideB z := by
    have := no _ h1
    have := no _ h2
    have := no _ h3
    have := no _ h4
    have := no _ h5
    have := no _ h6
    unfold sideB
    rw [Bool.eq_iff_iff, beq_iff_eq, decide_eq_true_iff]
    omega
  rw [e]⟩
noncomputable def O2 : Env Tryd.prog := O1.add [con_oside, con_pside]
abbrev spBt : LSpec := ⟨24, [(0, false, .int .i64), (1, false, .int .i64), (9, false, .sl (.int .i64)), (10, false, .int .i64), (11, false, .int .i64)], [], [], fun e => match e with | .ret => [6] | _ => []⟩
end Go.Proofs.YtljlfmmhoceihaaDoor
/-
option.between: its loop's tree.
-/
set_option linter.unusedSimpArgs false
set_option linter.unusedVariables false
namespace Go.Proofs.YtljlfmmhoceihaaDoor
open Go.RowKit Ax
noncomputable def tr_betwL (x : LSpec.X spBt × LSpec.Y spBt) : T (Rd spBt) :=
 .ite (decide (x.1.2.2.2.2.1 < x.1.2.2.2.1))
  (.get x.1.2.2.1 x.1.2.2.2.2.1 (fun v0 =>
   .ite (decide (v0 < x.1.1))
    (.ret (.out (Go.Exit.ret) [(.one (.v (.bool (false))))] ()))
    (.ite (decide (v0 > x.1.2.1))
     (.ret (.out (Go.Exit.ret) [(.one (.v (.bool (false))))] ()))
     (.ret (.again (x.1.1, (x.1.2.1, (x.1.2.2.1, (x.1.2.2.2.1, (IntKind.wrap .i64 (x.1.2.2.2.2.1 + (1 : Int)), ()))))) ())))))
  (.ret (.out (Go.Exit.exit (0 : Nat)) [] ()))
theorem tr_betwL_eq (x : LSpec.X spBt × LSpec.Y spBt) : LSpec.round spBt O2 (fun _ => none) (bodyOf Tryd.f28 0) x.1 x.2 = tr_betwL x := by kernel_rfl
end Go.Proofs.YtljlfmmhoceihaaDoor
/-
option.between: what it tells.
-/
set_option linter.unusedSimpArgs false
set_option linter.unusedVariables false
namespace Go.Proofs.YtljlfmmhoceihaaDoor
open Go.RowKit Ax
def btB (lo hi : Int) (l : List Int) : Bool := l.all fun z => decide (lo ≤ z ∧ z ≤ hi)
def outBt (x : LSpec.X spBt) (y : LSpec.Y spBt) : T (Exit × List Av × LSpec.Y spBt) :=
  .need (0 ≤ (x.2.2.2.2.1 : Int) ∧ (x.2.2.2.1 : Int) = (List.length x.2.2.1 : Int) ∧ List.length x.2.2.1 ≤ 1000) (.ite (btB x.1 x.2.1 (List.drop (Int.toNat x.2.2.2.2.1) x.2.2.1)) (.ret (.exit 0, [], ())) (.ret (.ret, [.one (.v (.bool false))], ())))
theorem betw_core (lo hi : Int) (l : List Int) (n i : Int) (Q : Exit × List Av × LSpec.Y spBt → Prop) (h : (outBt (lo, hi, l, n, i, ()) ()).wp Q) : (tr_betwL ((lo, hi, l, n, i, ()), ())).wp fun r => match r with
      | .again x' y' => (List.length x'.2.2.1 - Int.toNat x'.2.2.2.2.1) < l.length - i.toNat ∧ (outBt x' y').wp Q
      | .out e avs y' => Q (e, avs, y') := by
  unfold tr_betwL
  unfold outBt btB at h ⊢
  simp only [T.wp] at h ⊢
  dsimp only [El, vts, spBt] at h ⊢
  obtain ⟨⟨i0, hn, hl⟩, hy, hz⟩ := h
  refine ⟨fun hlt => ?_, fun hge => ?_⟩
  · have hlt := of_decide_eq_true hlt
    obtain ⟨u, hu⟩ := elem_at (l := l) i0 (by omega)
    rw [drop_at i0 hu, List.all_cons] at hy hz
    refine ⟨u, i0, hu, fun h1 => hz ?_, fun h1 => ⟨fun h2 => hz ?_, fun h2 => ?_⟩⟩
    · have h1 : u < lo := of_decide_eq_true h1
      rw [decide_eq_false (by omega)]; rfl
    · have h2 : u > hi := of_decide_eq_true h2
      rw [decide_eq_false (by omega)]; rfl
    · have h1 : ¬ u < lo := of_decide_eq_false h1
      have h2 : ¬ u > hi := of_decide_eq_false h2
      rw [decide_eq_true (show lo ≤ u ∧ u ≤ hi by omega), Bool.true_and] at hy hz
      rw [IntWalk.i64_in (i + 1) (by omega)]
      exact ⟨by omega, ⟨by omega, hn, hl⟩, hy, hz⟩
  · have hge := of_decide_eq_false hge
    rw [drop_end (by omega)] at hy
    exact hy rfl
theorem betwL_ok : LoopOk Tryd.prog 0 (bodyOf Tryd.f28 0) (spBt.run outBt) :=
  loop_ok (E := O2) (L := fun _ => none) mixed 0 (loops_none _ _ _) spBt (Nat.zero_le _) outBt (fun x _ => List.length x.2.2.1 - Int.toNat x.2.2.2.2.1) (by
    rintro ⟨lo, hi, l, n, i, ⟨⟩⟩ ⟨⟩ Q h
    rw [tr_betwL_eq ((lo, hi, l, n, i, ()), ())]
    exact betw_core lo hi l n i Q h)
noncomputable def lpBt : Loops := oneL 2 (spBt.run outBt)
end Go.Proofs.YtljlfmmhoceihaaDoor
/-
option.between: its tree.
-/
set_option linter.unusedSimpArgs false
set_option linter.unusedVariables false
namespace Go.Proofs.YtljlfmmhoceihaaDoor
open Go.RowKit Ax
noncomputable def tr_betw (x : Els [(false, .int .i64), (false, .int .i64), (false, .sl (.int .i64))]) : T Av :=
 .need ((0 : El (Cd.int .i64)) ≤ (0 : Int) ∧ (↑(List.length x.2.2.1) : Int) = (↑(List.length x.2.2.1) : Int) ∧ List.length x.2.2.1 ≤ (1000 : Nat)) (.ite (btB (x.1) x.2.1 (List.drop (Int.toNat (0 : Int)) x.2.2.1))
   (.ret (.one (.v (.bool (true)))))
   (.ret (.one (.v (.bool (false))))))
theorem tr_betw_eq (x : Els [(false, .int .i64), (false, .int .i64), (false, .sl (.int .i64))]) : fnP O2 lpBt Tryd.f28 (encs [(false, .int .i64), (false, .int .i64), (false, .sl (.int .i64))] x) = tr_betw x := by kernel_rfl
end Go.Proofs.YtljlfmmhoceihaaDoor
/-
option.between: its contract; option.Is, parquetref6.IsOptions, SameOptions, option.Print: what their loops carry.
-/
set_option linter.unusedSimpArgs false
set_option linter.unusedVariables false
namespace Go.Proofs.YtljlfmmhoceihaaDoor
open Go.RowKit Ax
noncomputable def con_obetw : Con Tryd.prog := ⟨28, [], _, cf_obetw, val_con (E := O2) (L := lpBt) mixed Tryd.func28 (one_loop betwL_ok (by kernel_rfl)) [(false, .int .i64), (false, .int .i64), (false, .sl (.int .i64))] (fun x => List.length x.2.2.1 ≤ 1000) (fun x => .one (.v (.bool (btB x.1 x.2.1 x.2.2.1)))) fun x hx => by
  rw [tr_betw_eq]
  obtain ⟨lo, hi, l, u⟩ := x
  revert lo hi l
  intro (lo : Int) (hi : Int) (l : List Int) (hx : l.length ≤ 1000)
  unfold tr_betw
  simp only [T.wp]
  refine ⟨⟨Int.le_refl 0, trivial, hx⟩, fun h => ?_, fun h => ?_⟩
  · have h : btB lo hi l = true := h
    rw [h]
  · have h : btB lo hi l = false := h
    rw [h]⟩
noncomputable def O3 : Env Tryd.prog := O2.add [con_obetw]
abbrev spIs : LSpec := ⟨43, [(23, false, .sl cSz), (24, false, .int .i64), (25, false, .int .i64)], [], [], fun e => match e with | .ret => [2] | _ => []⟩
abbrev spPi : LSpec := ⟨61, [(3, false, .int .i64)], [(1, 0, 0)], [(25, cOp)], fun e => match e with | .ret => [2] | _ => []⟩
abbrev spSo : LSpec := ⟨45, [(5, false, .int .i64)], [(2, 0, 0), (3, 1, 0)], [(25, cOp), (25, cOp)], fun e => match e with | .ret => [4] | _ => []⟩
end Go.Proofs.YtljlfmmhoceihaaDoor
/-
option.Is, parquetref6.IsOptions, SameOptions: their loops' trees.
-/
set_option linter.unusedSimpArgs false
set_option linter.unusedVariables false
namespace Go.Proofs.YtljlfmmhoceihaaDoor
open Go.RowKit Ax
noncomputable def tr_oisL (x : LSpec.X spIs × LSpec.Y spIs) : T (Rd spIs) :=
 .ite (decide (x.1.2.2.1 < x.1.2.1))
  (.get x.1.1 x.1.2.2.1 (fun v0 =>
   .ite (!sideB v0.2.2)
    (.ret (.out (Go.Exit.ret) [(.one (.v (.bool (false))))] ()))
    (.need (List.length [v0.1, v0.2.1] ≤ (1000 : Nat)) (.ite (!btB (0 : Int) (64 : Int) [v0.1, v0.2.1])
      (.ret (.out (Go.Exit.ret) [(.one (.v (.bool (false))))] ()))
      (.ret (.again (x.1.1, (x.1.2.1, (IntKind.wrap .i64 (x.1.2.2.1 + (1 : Int)), ()))) ()))))))
  (.ret (.out (Go.Exit.exit (0 : Nat)) [] ()))
theorem tr_oisL_eq (x : LSpec.X spIs × LSpec.Y spIs) : LSpec.round spIs O3 (fun _ => none) (bodyOf Tryd.f14 0) x.1 x.2 = tr_oisL x := by kernel_rfl
noncomputable def tr_pisL (x : LSpec.X spPi × LSpec.Y spPi) : T (Rd spPi) :=
 .ite (decide (x.1.1 < (↑(List.length x.2.1.2.2) : Int)))
  (.get x.2.1.2.2 x.1.1 (fun v0 =>
   .ite (!sideB v0.2.2)
    (.ret (.out (Go.Exit.ret) [(.one (.v (.bool (false))))] (x.2.1, ())))
    (.ite (decide (v0.1 < (0 : Int)))
     (.ret (.out (Go.Exit.ret) [(.one (.v (.bool (false))))] (x.2.1, ())))
     (.ite (decide (v0.2.1 < (0 : Int)))
      (.ret (.out (Go.Exit.ret) [(.one (.v (.bool (false))))] (x.2.1, ())))
      (.ite (decide (v0.1 > (64 : Int)))
       (.ret (.out (Go.Exit.ret) [(.one (.v (.bool (false))))] (x.2.1, ())))
       (.ite (decide (v0.2.1 > (64 : Int)))
        (.ret (.out (Go.Exit.ret) [(.one (.v (.bool (false))))] (x.2.1, ())))
        (.ret (.again (IntKind.wrap .i64 (x.1.1 + (1 : Int)), ()) (x.2.1, ())))))))))
  (.ret (.out (Go.Exit.exit (0 : Nat)) [] (x.2.1, ())))
theorem tr_pisL_eq (x : LSpec.X spPi × LSpec.Y spPi) : LSpec.round spPi O3 (fun _ => none) (bodyOf Tryd.f15 0) x.1 x.2 = tr_pisL x := by kernel_rfl
noncomputable def tr_psameL (x : LSpec.X spSo × LSpec.Y spSo) : T (Rd spSo) :=
 .ite (decide (x.1.1 < (↑(List.length x.2.1.2.2) : Int)))
  (.get x.2.1.2.2 x.1.1 (fun v0 =>
   .get x.2.2.1.2.2 x.1.1 (fun v1 =>
    .ite (!(v0.1 == v1.1 && (v0.2.1 == v1.2.1 && (v0.2.2 == v1.2.2 && true))))
     (.ret (.out (Go.Exit.ret) [(.one (.v (.bool (false))))] (x.2.1, (x.2.2.1, ()))))
     (.ret (.again (IntKind.wrap .i64 (x.1.1 + (1 : Int)), ()) (x.2.1, (x.2.2.1, ())))))))
  (.ret (.out (Go.Exit.exit (0 : Nat)) [] (x.2.1, (x.2.2.1, ()))))
theorem tr_psameL_eq (x : LSpec.X spSo × LSpec.Y spSo) : LSpec.round spSo O3 (fun _ => none) (bodyOf Tryd.f13 0) x.1 x.2 = tr_psameL x := by kernel_rfl
end Go.Proofs.YtljlfmmhoceihaaDoor
/-
option.Is, parquetref6.IsOptions, SameOptions: their loops.
-/
set_option linter.unusedSimpArgs false
set_option linter.unusedVariables false
namespace Go.Proofs.YtljlfmmhoceihaaDoor
open Go.RowKit Ax
abbrev Sz := Int × Int × Int
abbrev Op := Int × Int × List Sz
def szB (s : Sz) : Bool := sideB s.2.2 && (decide (0 ≤ s.1 ∧ s.1 ≤ 64) && decide (0 ≤ s.2.1 ∧ s.2.1 ≤ 64))
def optB (o : Op) : Bool := sideB o.1 && (decide (1 ≤ o.2.1 ∧ o.2.1 ≤ 4096) && (decide (o.2.2.length ≤ 4) && o.2.2.all szB))
theorem bt_two (a b : Int) : btB 0 64 [a, b] = (decide (0 ≤ a ∧ a ≤ 64) && decide (0 ≤ b ∧ b ≤ 64)) := by
  unfold btB
  rw [List.all_cons, List.all_cons, List.all_nil, Bool.and_true]
def outIs (x : LSpec.X spIs) (y : LSpec.Y spIs) : T (Exit × List Av × LSpec.Y spIs) :=
  .need (0 ≤ (x.2.2.1 : Int) ∧ (x.2.1 : Int) = (List.length x.1 : Int) ∧ List.length x.1 ≤ 1000) (.ite (List.all (List.drop (Int.toNat x.2.2.1) x.1) szB) (.ret (.exit 0, [], ())) (.ret (.ret, [.one (.v (.bool false))], ())))
theorem not_b {b : Bool} (h : (!b) = true) : b = false := by cases b; rfl; cases h
theorem not_b' {b : Bool} (h : (!b) = false) : b = true := by cases b; cases h; rfl
theorem ois_core (l : List Sz) (n i : Int) (Q : Exit × List Av × LSpec.Y spIs → Prop) (h : (outIs (l, n, i, ()) ()).wp Q) : (tr_oisL ((l, n, i, ()), ())).wp fun r => match r with
      | .again x' y' => (List.length x'.1 - Int.toNat x'.2.2.1) < l.length - i.toNat ∧ (outIs x' y').wp Q
      | .out e avs y' => Q (e, avs, y') := by
  unfold tr_oisL
  unfold outIs at h ⊢
  simp only [T.wp] at h ⊢
  dsimp only [El, vts, spIs, cSz] at h ⊢
  obtain ⟨⟨i0, hn, hl⟩, hy, hz⟩ := h
  refine ⟨fun hlt => ?_, fun hge => ?_⟩
  · have hlt := of_decide_eq_true hlt
    obtain ⟨u, hu⟩ := elem_at (l := l) i0 (by omega)
    rw [drop_at i0 hu, List.all_cons] at hy hz
    refine ⟨u, i0, hu, fun h1 => hz ?_, fun h1 => ⟨show (2 : Nat) ≤ 1000 by decide, fun h2 => hz ?_, fun h2 => ?_⟩⟩
    · unfold szB; rw [not_b h1]; rfl
    · have h2 := not_b h2
      rw [bt_two] at h2
      unfold szB; rw [h2, Bool.and_false]; rfl
    · have h2 := not_b' h2
      rw [bt_two] at h2
      have e : szB u = true := by unfold szB; rw [not_b' h1, h2]; rfl
      rw [e, Bool.true_and] at hy hz
      rw [IntWalk.i64_in (i + 1) (by omega)]
      exact ⟨by omega, ⟨by omega, hn, hl⟩, hy, hz⟩
  · have hge := of_decide_eq_false hge
    rw [drop_end (by omega)] at hy
    exact hy rfl
theorem oisL_ok : LoopOk Tryd.prog 0 (bodyOf Tryd.f14 0) (spIs.run outIs) :=
  loop_ok (E := O3) (L := fun _ => none) mixed 0 (loops_none _ _ _) spIs (Nat.zero_le _) outIs (fun x _ => List.length x.1 - Int.toNat x.2.2.1) (by
    rintro ⟨l, n, i, ⟨⟩⟩ ⟨⟩ Q h
    rw [tr_oisL_eq ((l, n, i, ()), ())]
    exact ois_core l n i Q h)
noncomputable def lpIs : Loops := oneL 4 (spIs.run outIs)
def outPi (x : LSpec.X spPi) (y : LSpec.Y spPi) : T (Exit × List Av × LSpec.Y spPi) :=
  .need (0 ≤ (x.1 : Int) ∧ List.length y.1.2.2 ≤ 1000) (.ite (List.all (List.drop (Int.toNat x.1) y.1.2.2) szB) (.ret (.exit 0, [], y)) (.ret (.ret, [.one (.v (.bool false))], y)))
theorem pis_core (i a b : Int) (l : List Sz) (Q : Exit × List Av × LSpec.Y spPi → Prop) (h : (outPi (i, ()) ((a, b, l), ())).wp Q) : (tr_pisL ((i, ()), ((a, b, l), ()))).wp fun r => match r with
      | .again x' y' => (List.length y'.1.2.2 - Int.toNat x'.1) < l.length - i.toNat ∧ (outPi x' y').wp Q
      | .out e avs y' => Q (e, avs, y') := by
  unfold tr_pisL
  unfold outPi at h ⊢
  simp only [T.wp] at h ⊢
  dsimp only [El, vts, spPi, cSz, cOp] at h ⊢
  obtain ⟨⟨i0, hl⟩, hy, hz⟩ := h
  refine ⟨fun hlt => ?_, fun hge => ?_⟩
  · have hlt := of_decide_eq_true hlt
    obtain ⟨u, hu⟩ := elem_at (l := l) i0 hlt
    obtain ⟨ux, uy, uh⟩ := u
    rw [drop_at i0 hu, List.all_cons] at hy hz
    have bad : ¬ (0 ≤ ux ∧ ux ≤ 64 ∧ 0 ≤ uy ∧ uy ≤ 64) → szB (ux, uy, uh) = false := fun hb => by
      unfold szB
      simp only []
      by_cases h1 : 0 ≤ ux ∧ ux ≤ 64
      · rw [decide_eq_false (show ¬ (0 ≤ uy ∧ uy ≤ 64) by omega), Bool.and_false, Bool.and_false]
      · rw [decide_eq_false h1, Bool.false_and, Bool.and_false]
    have no : szB (ux, uy, uh) = false → Q (.ret, [.one (.v (.bool false))], ((a, b, l), ())) := fun hb => hz (by rw [hb]; rfl)
    refine ⟨_, i0, hu, fun h1 => no ?_, fun h1 => ⟨fun h2 => no (bad ?_), fun h2 => ⟨fun h3 => no (bad ?_), fun h3 => ⟨fun h4 => no (bad ?_), fun h4 => ⟨fun h5 => no (bad ?_), fun h5 => ?_⟩⟩⟩⟩⟩
    · unfold szB; rw [not_b h1]; rfl
    · have h2 : ux < 0 := of_decide_eq_true h2
      omega
    · have h3 : uy < 0 := of_decide_eq_true h3
      omega
    · have h4 : ux > 64 := of_decide_eq_true h4
      omega
    · have h5 : uy > 64 := of_decide_eq_true h5
      omega
    · have h2 : ¬ ux < 0 := of_decide_eq_false h2
      have h3 : ¬ uy < 0 := of_decide_eq_false h3
      have h4 : ¬ ux > 64 := of_decide_eq_false h4
      have h5 : ¬ uy > 64 := of_decide_eq_false h5
      have e : szB (ux, uy, uh) = true := by
        unfold szB
        rw [not_b' h1, decide_eq_true (show 0 ≤ ux ∧ ux ≤ 64 by omega), decide_eq_true (show 0 ≤ uy ∧ uy ≤ 64 by omega)]; rfl
      rw [e, Bool.true_and] at hy hz
      rw [IntWalk.i64_in (i + 1) (by omega)]
      exact ⟨by omega, ⟨by omega, hl⟩, hy, hz⟩
  · have hge := of_decide_eq_false hge
    rw [drop_end (by omega)] at hy
    exact hy rfl
theorem pisL_ok : LoopOk Tryd.prog 0 (bodyOf Tryd.f15 0) (spPi.run outPi) :=
  loop_ok (E := O3) (L := fun _ => none) mixed 0 (loops_none _ _ _) spPi (Nat.zero_le _) outPi (fun x y => List.length y.1.2.2 - Int.toNat x.1) (by
    rintro ⟨i, ⟨⟩⟩ ⟨⟨a, b, l⟩, ⟨⟩⟩ Q h
    rw [tr_pisL_eq ((i, ()), ((a, b, l), ()))]
    exact pis_core i a b l Q h)
noncomputable def lpPi : Loops := oneL 4 (spPi.run outPi)
def outSo (x : LSpec.X spSo) (y : LSpec.Y spSo) : T (Exit × List Av × LSpec.Y spSo) :=
  .need (0 ≤ (x.1 : Int) ∧ List.length y.1.2.2 = List.length y.2.1.2.2 ∧ List.length y.1.2.2 ≤ 1000) (.ite (decide ((List.drop (Int.toNat x.1) y.1.2.2 : List Sz) = List.drop (Int.toNat x.1) y.2.1.2.2)) (.ret (.exit 0, [], y)) (.ret (.ret, [.one (.v (.bool false))], y)))
theorem sz_eq (u v : Sz) : (u.1 == v.1 && (u.2.1 == v.2.1 && (u.2.2 == v.2.2 && true))) = decide (u = v) := by
  obtain ⟨a, b, c⟩ := u
  obtain ⟨d, e, f⟩ := v
  rw [Bool.eq_iff_iff]
  simp [Prod.mk.injEq]
theorem psame_core (i a b c d : Int) (l k : List Sz) (Q : Exit × List Av × LSpec.Y spSo → Prop) (h : (outSo (i, ()) ((a, b, l), ((c, d, k), ()))).wp Q) : (tr_psameL ((i, ()), ((a, b, l), ((c, d, k), ())))).wp fun r => match r with
      | .again x' y' => (List.length y'.1.2.2 - Int.toNat x'.1) < l.length - i.toNat ∧ (outSo x' y').wp Q
      | .out e avs y' => Q (e, avs, y') := by
  unfold tr_psameL
  unfold outSo at h ⊢
  simp only [T.wp] at h ⊢
  dsimp only [El, vts, spSo, cSz, cOp] at h ⊢
  obtain ⟨⟨i0, hlk, hl⟩, hy, hz⟩ := h
  refine ⟨fun hlt => ?_, fun hge => ?_⟩
  · have hlt := of_decide_eq_true hlt
    obtain ⟨u, hu⟩ := elem_at (l := l) i0 hlt
    obtain ⟨v, hv⟩ := elem_at (l := k) i0 (by omega)
    rw [drop_at i0 hu, drop_at i0 hv] at hy hz
    refine ⟨u, i0, hu, v, i0, hv, fun h1 => hz ?_, fun h1 => ?_⟩
    · have h1 := not_b h1
      rw [sz_eq] at h1
      have h1 := of_decide_eq_false h1
      rw [decide_eq_false_iff_not]; intro e; exact h1 (List.cons.inj e).1
    · have h1 := not_b' h1
      rw [sz_eq] at h1
      have h1 := of_decide_eq_true h1
      subst h1
      have e : decide (u :: l.drop (i + 1).toNat = u :: k.drop (i + 1).toNat) = decide (l.drop (i + 1).toNat = k.drop (i + 1).toNat) := by
        rw [decide_eq_decide]; simp
      rw [e] at hy hz
      rw [IntWalk.i64_in (i + 1) (by omega)]
      exact ⟨by omega, ⟨by omega, hlk, hl⟩, hy, hz⟩
  · have hge := of_decide_eq_false hge
    rw [drop_end (by omega), drop_end (by omega)] at hy
    exact hy (decide_eq_true rfl)
theorem psameL_ok : LoopOk Tryd.prog 0 (bodyOf Tryd.f13 0) (spSo.run outSo) :=
  loop_ok (E := O3) (L := fun _ => none) mixed 0 (loops_none _ _ _) spSo (Nat.zero_le _) outSo (fun x y => List.length y.1.2.2 - Int.toNat x.1) (by
    rintro ⟨i, ⟨⟩⟩ ⟨⟨a, b, l⟩, ⟨⟨c, d, k⟩, ⟨⟩⟩⟩ Q h
    rw [tr_psameL_eq ((i, ()), ((a, b, l), ((c, d, k), ())))]
    exact psame_core i a b c d l k Q h)
noncomputable def lpSo : Loops := oneL 4 (spSo.run outSo)
end Go.Proofs.YtljlfmmhoceihaaDoor
/-
option.Is, parquetref6.IsOptions, SameOptions, option.size: their trees.
-/
set_option linter.unusedSimpArgs false
set_option linter.unusedVariables false
namespace Go.Proofs.YtljlfmmhoceihaaDoor
open Go.RowKit Ax
noncomputable def tr_ois (x : Els [(true, cOp)]) : T Av :=
 .ite (!sideB x.1.1)
  (.ret (.one (.v (.bool (false)))))
  (.need (List.length [x.1.2.1] ≤ (1000 : Nat)) (.ite (!btB (1 : Int) (4096 : Int) [x.1.2.1])
    (.ret (.one (.v (.bool (false)))))
    (.ite (decide ((↑(List.length x.1.2.2) : Int) > (4 : Int)))
     (.ret (.one (.v (.bool (false)))))
     (.need ((0 : El (Cd.int .i64)) ≤ (0 : Int) ∧ (↑(List.length x.1.2.2) : Int) = (↑(List.length x.1.2.2) : Int) ∧ List.length x.1.2.2 ≤ (1000 : Nat)) (.ite (List.all (List.drop (Int.toNat (0 : Int)) x.1.2.2) szB)
       (.ret (.one (.v (.bool (true)))))
       (.ret (.one (.v (.bool (false))))))))))
theorem tr_ois_eq (x : Els [(true, cOp)]) : fnP O3 lpIs Tryd.f14 (encs [(true, cOp)] x) = tr_ois x := by kernel_rfl
noncomputable def tr_pis (x : Els [(true, cOp)]) : T Av :=
 .ite (!sideB x.1.1)
  (.ret (.one (.v (.bool (false)))))
  (.ite (decide (x.1.2.1 < (1 : Int)))
   (.ret (.one (.v (.bool (false)))))
   (.ite (decide (x.1.2.1 > (4096 : Int)))
    (.ret (.one (.v (.bool (false)))))
    (.ite (decide ((↑(List.length x.1.2.2) : Int) > (4 : Int)))
     (.ret (.one (.v (.bool (false)))))
     (.need ((0 : El (Cd.int .i64)) ≤ (0 : Int) ∧ List.length x.1.2.2 ≤ (1000 : Nat)) (.ite (List.all (List.drop (Int.toNat (0 : Int)) x.1.2.2) szB)
       (.ret (.one (.v (.bool (true)))))
       (.ret (.one (.v (.bool (false))))))))))
theorem tr_pis_eq (x : Els [(true, cOp)]) : fnP O3 lpPi Tryd.f15 (encs [(true, cOp)] x) = tr_pis x := by kernel_rfl
noncomputable def tr_psame (x : Els [(true, cOp), (true, cOp)]) : T Av :=
 .ite (x.1.1 != x.2.1.1)
  (.ret (.one (.v (.bool (false)))))
  (.ite (x.1.2.1 != x.2.1.2.1)
   (.ret (.one (.v (.bool (false)))))
   (.ite ((↑(List.length x.1.2.2) : Int) != (↑(List.length x.2.1.2.2) : Int))
    (.ret (.one (.v (.bool (false)))))
    (.need ((0 : El (Cd.int .i64)) ≤ (0 : Int) ∧ List.length x.1.2.2 = List.length x.2.1.2.2 ∧ List.length x.1.2.2 ≤ (1000 : Nat)) (.ite (decide (List.drop (Int.toNat (0 : Int)) x.1.2.2 = List.drop (Int.toNat (0 : Int)) x.2.1.2.2))
      (.ret (.one (.v (.bool (true)))))
      (.ret (.one (.v (.bool (false)))))))))
theorem tr_psame_eq (x : Els [(true, cOp), (true, cOp)]) : fnP O3 lpSo Tryd.f13 (encs [(true, cOp), (true, cOp)] x) = tr_psame x := by kernel_rfl
noncomputable def tr_osize (x : Els [(false, .str)]) : T Av :=
 .need ((1 : Nat) ≤ ByteArray.size { data := #[(44 : UInt8)] } ∧ ByteArray.size (x.1) < (4294967281 : Nat)) (.ite ((↑(List.length (splitL (x.1) { data := #[(44 : UInt8)] })) : Int) != (3 : Int))
   (.ret (.tup [(.agg [.v (.int .i64 ((0 : Int))), .v (.int .i64 ((0 : Int))), .v (.int .i64 ((0 : Int)))]), (.one (.v (.bool (false))))]))
   (.get (splitL (x.1) { data := #[(44 : UInt8)] }) ((0 : Int)) (fun v0 =>
    .need (ByteArray.size v0 ≤ (281474976710656 : Nat)) (.get (splitL (x.1) { data := #[(44 : UInt8)] }) ((1 : Int)) (fun v1 =>
      .need (ByteArray.size v1 ≤ (281474976710656 : Nat)) (.get (splitL (x.1) { data := #[(44 : UInt8)] }) ((2 : Int)) (fun v2 =>
        .need (ByteArray.size v2 ≤ (281474976710656 : Nat)) (.ite (lintB v0)
          (.ite (lintB v1)
           (.ret (.tup [(.agg [.v (.int .i64 (if lintB v0 = true then atoiV v0 else (0 : Int))), .v (.int .i64 (if lintB v1 = true then atoiV v1 else (0 : Int))), .v (.int .i64 (if lintB v2 = true then atoiV v2 else (0 : Int)))]), (.one (.v (.bool (lintB v2))))]))
           (.ret (.tup [(.agg [.v (.int .i64 (if lintB v0 = true then atoiV v0 else (0 : Int))), .v (.int .i64 (if lintB v1 = true then atoiV v1 else (0 : Int))), .v (.int .i64 (if lintB v2 = true then atoiV v2 else (0 : Int)))]), (.one (.v (.bool (false))))])))
          (.ret (.tup [(.agg [.v (.int .i64 (if lintB v0 = true then atoiV v0 else (0 : Int))), .v (.int .i64 (if lintB v1 = true then atoiV v1 else (0 : Int))), .v (.int .i64 (if lintB v2 = true then atoiV v2 else (0 : Int)))]), (.one (.v (.bool (false))))]))))))))))
theorem tr_osize_eq (x : Els [(false, .str)]) : fnP O3 (fun _ => none) Tryd.f40 (encs [(false, .str)] x) = tr_osize x := by kernel_rfl
end Go.Proofs.YtljlfmmhoceihaaDoor
/-
option.Is, parquetref6.IsOptions, SameOptions, option.size: what they tell.
-/
set_option linter.unusedSimpArgs false
set_option linter.unusedVariables false
namespace Go.Proofs.YtljlfmmhoceihaaDoor
open Go.RowKit Ax
theorem bt_one (a b c : Int) : btB a b [c] = decide (a ≤ c ∧ c ≤ b) := by
  unfold btB
  rw [List.all_cons, List.all_nil, Bool.and_true]
theorem ne_int {a b : Int} (h : (a != b) = true) : a ≠ b := by simpa using h
theorem eq_int {a b : Int} (h : (a != b) = false) : a = b := by simpa using h
noncomputable def con_ois : Con Tryd.prog := ⟨14, [], _, cf_ois, tot_con (E := O3) (L := lpIs) mixed Tryd.func14 (one_loop oisL_ok (by kernel_rfl)) [(true, cOp)] (fun x => .one (.v (.bool (optB x.1)))) fun x => by
  rw [tr_ois_eq]
  obtain ⟨o, u⟩ := x
  revert o
  intro (o : Op)
  obtain ⟨h, c, l⟩ := o
  unfold tr_ois
  simp only [T.wp]
  dsimp only [El, cOp, cSz]
  refine ⟨fun h1 => ?_, fun h1 => ⟨show (1 : Nat) ≤ 1000 by decide, fun h2 => ?_, fun h2 => ⟨fun h3 => ?_, fun h3 => ⟨⟨Int.le_refl 0, trivial, ?_⟩, fun h4 => ?_, fun h4 => ?_⟩⟩⟩⟩
  · unfold optB; rw [not_b h1]; rfl
  · have h2 := not_b h2
    rw [bt_one] at h2
    unfold optB; rw [h2, Bool.false_and, Bool.and_false]
  · have h3 : (l.length : Int) > 4 := of_decide_eq_true h3
    unfold optB; rw [decide_eq_false (show ¬ l.length ≤ 4 by omega)]; simp
  · have h3 : ¬ (l.length : Int) > 4 := of_decide_eq_false h3
    omega
  · have h2 := not_b' h2
    rw [bt_one] at h2
    have h3 : ¬ (l.length : Int) > 4 := of_decide_eq_false h3
    have h4 : l.all szB = true := h4
    unfold optB; rw [not_b' h1, h2, decide_eq_true (show l.length ≤ 4 by omega), h4]; rfl
  · have h4 : l.all szB = false := h4
    unfold optB; rw [h4, Bool.and_false, Bool.and_false, Bool.and_false]⟩
noncomputable def con_pis : Con Tryd.prog := ⟨15, [], _, cf_pis, tot_con (E := O3) (L := lpPi) mixed Tryd.func15 (one_loop pisL_ok (by kernel_rfl)) [(true, cOp)] (fun x => .one (.v (.bool (optB x.1)))) fun x => by
  rw [tr_pis_eq]
  obtain ⟨o, u⟩ := x
  revert o
  intro (o : Op)
  obtain ⟨h, c, l⟩ := o
  unfold tr_pis
  simp only [T.wp]
  dsimp only [El, cOp, cSz]
  refine ⟨fun h1 => ?_, fun h1 => ⟨fun h2 => ?_, fun h2 => ⟨fun h5 => ?_, fun h5 => ⟨fun h3 => ?_, fun h3 => ⟨⟨Int.le_refl 0, ?_⟩, fun h4 => ?_, fun h4 => ?_⟩⟩⟩⟩⟩
  · unfold optB; rw [not_b h1]; rfl
  · have h2 : c < 1 := of_decide_eq_true h2
    unfold optB; rw [decide_eq_false (show ¬ (1 ≤ c ∧ c ≤ 4096) by omega), Bool.false_and, Bool.and_false]
  · have h5 : c > 4096 := of_decide_eq_true h5
    unfold optB; rw [decide_eq_false (show ¬ (1 ≤ c ∧ c ≤ 4096) by omega), Bool.false_and, Bool.and_false]
  · have h3 : (l.length : Int) > 4 := of_decide_eq_true h3
    unfold optB; rw [decide_eq_false (show ¬ l.length ≤ 4 by omega)]; simp
  · have h3 : ¬ (l.length : Int) > 4 := of_decide_eq_false h3
    omega
  · have h2 : ¬ c < 1 := of_decide_eq_false h2
    have h5 : ¬ c > 4096 := of_decide_eq_false h5
    have h3 : ¬ (l.length : Int) > 4 := of_decide_eq_false h3
    have h4 : l.all szB = true := h4
    unfold optB; rw [not_b' h1, decide_eq_true (show 1 ≤ c ∧ c ≤ 4096 by omega), decide_eq_true (show l.length ≤ 4 by omega), h4]; rfl
  · have h4 : l.all szB = false := h4
    unfold optB; rw [h4, Bool.and_false, Bool.and_false, Bool.and_false]⟩
noncomputable def con_psame : Con Tryd.prog := ⟨13, [], _, cf_psame, val_con (E := O3) (L := lpSo) mixed Tryd.func13 (one_loop psameL_ok (by kernel_rfl)) [(true, cOp), (true, cOp)] (fun x => List.length x.1.2.2 ≤ 1000) (fun x => .one (.v (.bool (decide ((x.1 : Op) = x.2.1))))) fun x hx => by
  rw [tr_psame_eq]
  obtain ⟨o, q, u⟩ := x
  revert o q
  intro (o : Op) (q : Op) (hx : o.2.2.length ≤ 1000)
  obtain ⟨h, c, l⟩ := o
  obtain ⟨h', c', l'⟩ := q
  unfold tr_psame
  simp only [T.wp]
  dsimp only [El, cOp, cSz]
  have no : ¬ ((h, c, l) : Op) = (h', c', l') → Av.one (.v (.bool false)) = .one (.v (.bool (decide (((h, c, l) : Op) = (h', c', l'))))) := fun hn => by rw [decide_eq_false hn]
  refine ⟨fun h1 => no fun e => ne_int h1 (by cases e; rfl), fun h1 => ⟨fun h2 => no fun e => ne_int h2 (by cases e; rfl), fun h2 => ⟨fun h3 => no fun e => ne_int h3 (by cases e; rfl), fun h3 => ⟨⟨Int.le_refl 0, ?_, hx⟩, fun h4 => ?_, fun h4 => no fun e => ?_⟩⟩⟩⟩
  · have := eq_int h3; omega
  · have h4 : l = l' := of_decide_eq_true h4
    have e1 := eq_int h1
    have e2 := eq_int h2
    subst h4; subst e1; subst e2
    rw [decide_eq_true rfl]
  · have h4 : ¬ l = l' := of_decide_eq_false h4
    exact h4 (by cases e; rfl)⟩
def cm : ByteArray := ⟨#[44]⟩
def iv (s : ByteArray) : Int := if lintB s = true then atoiV s else 0
def tri3 (l : List ByteArray) : Sz := match l with
  | [a, b, c] => (iv a, iv b, iv c)
  | _ => (0, 0, 0)
def tri3B (l : List ByteArray) : Bool := match l with
  | [a, b, c] => lintB a && (lintB b && lintB c)
  | _ => false
def sizeV (s : ByteArray) : Sz := tri3 (splitL s cm)
def sizeB (s : ByteArray) : Bool := tri3B (splitL s cm)
theorem piece_le (s sep : ByteArray) (h1 : 1 ≤ sep.size) : ∀ (k : Nat) (s x : ByteArray), x ∈ Lib.splitB sep 0 k s → x.size ≤ s.size
  | 0, s, x, h => by rw [Lib.splitB_zero, List.mem_singleton] at h; subst h; exact Nat.le_refl _
  | k + 1, s, x, h => by
    rcases Lib.indexB_cases s sep with hi | ⟨i, hi, hle⟩
    · rw [Lib.splitB_miss _ _ _ _ hi, List.mem_singleton] at h; subst h; exact Nat.le_refl _
    · rw [Lib.splitB_hit _ _ _ _ i hi] at h
      rcases List.mem_cons.1 h with rfl | h
      · rw [ByteArray.size_extract]; omega
      · have := piece_le s sep h1 k _ x h
        rw [ByteArray.size_extract] at this
        omega
theorem splitL_le {s x : ByteArray} (h : x ∈ splitL s cm) : x.size ≤ s.size := piece_le s cm (by decide) _ s x h
noncomputable def con_osize : Con Tryd.prog := ⟨40, [], _, cf_osize, val_con (E := O3) (L := fun _ => none) mixed Tryd.func40 no_loops [(false, .str)] (fun x => ByteArray.size x.1 ≤ 900000) (fun x => .tup [.agg (ck cSz (sizeV x.1)), .one (.v (.bool (sizeB x.1)))]) fun x hx => by
  rw [tr_osize_eq]
  obtain ⟨s, u⟩ := x
  revert s
  intro (s : ByteArray) (hx : s.size ≤ 900000)
  have hle : ∀ x ∈ splitL s cm, x.size ≤ s.size := fun x h => splitL_le h
  unfold tr_osize
  rw [show ({ data := #[(44 : UInt8)] } : ByteArray) = cm from rfl]
  simp only [T.wp]
  unfold sizeV sizeB
  generalize hp : splitL s cm = l at hle ⊢
  refine ⟨⟨by decide, by omega⟩, fun h => ?_, fun h => ?_⟩
  · have h : (l.length : Int) ≠ 3 := ne_int h
    have e1 : tri3 l = (0, 0, 0) := by
      unfold tri3
      split
      · exact absurd rfl h
      · rfl
    have e2 : tri3B l = false := by
      unfold tri3B
      split
      · exact absurd rfl h
      · rfl
    rw [e1, e2]; rfl
  · have h : (l.length : Int) = 3 := eq_int h
    match l, h with
    | [a, b, c], _ =>
      have ha := hle a (by simp)
      have hb := hle b (by simp)
      have hc := hle c (by simp)
      have e1 : tri3 [a, b, c] = (iv a, iv b, iv c) := rfl
      have e2 : tri3B [a, b, c] = (lintB a && (lintB b && lintB c)) := rfl
      rw [e1, e2]
      refine ⟨a, by decide, rfl, by omega, b, by decide, rfl, by omega, c, by decide, rfl, by omega, fun h1 => ⟨fun h2 => ?_, fun h2 => ?_⟩, fun h1 => ?_⟩
      · show Av.tup [.agg [.v (.int .i64 (iv a)), .v (.int .i64 (iv b)), .v (.int .i64 (iv c))], _] = _
        rw [h1, h2]; rfl
      · show Av.tup [.agg [.v (.int .i64 (iv a)), .v (.int .i64 (iv b)), .v (.int .i64 (iv c))], _] = _
        rw [h2, Bool.false_and, Bool.and_false]; rfl
      · show Av.tup [.agg [.v (.int .i64 (iv a)), .v (.int .i64 (iv b)), .v (.int .i64 (iv c))], _] = _
        rw [h1, Bool.false_and]; rfl⟩
noncomputable def O4 : Env Tryd.prog := O3.add [con_ois, con_pis, con_psame, con_osize]
/-- option.word is run in place -/
noncomputable def con_oword : Con Tryd.prog := ⟨25, [0], _, cf_oword, inl_ok (E := O4) (L := fun _ => none) mixed Tryd.func25 2 (fun c _ => loops_none _ _ c) [0]⟩
noncomputable def O5 : Env Tryd.prog := O4.add [con_oword]
abbrev shO : List BSh := [.d (.int .i64), .d (.int .i64), .d (.sl cSz)]
abbrev shR : List BSh := [.d (.int .i64), .d (.int .i64), .r 0]
abbrev spOp : HSpec := ⟨24, [(8, false, .sl .str), (9, false, .int .i64), (10, false, .int .i64)], [(2, 0, 0), (4, 1, 0)], [(25, shO), (25, shR)], [(56, cSz)], [], fun e => match e with | .ret => [3] | _ => [], fun _ => []⟩
abbrev spPp : HSpec := ⟨93, [(0, false, .sl .str), (5, false, .int .i64)], [(2, 0, 0), (4, 1, 0)], [(25, shO), (25, shR)], [(56, cSz)], [], fun e => match e with | .ret => [3] | _ => [], fun _ => []⟩
abbrev spTh : LSpec := ⟨51, [(0, false, .str), (5, false, .int .i64), (6, false, .int .i64), (7, false, .int .i64)], [(2, 0, 0), (4, 1, 0)], [(59, cSz), (59, cSz)], fun e => match e with | .ret => [3] | .exit _ => [5] | _ => []⟩
end Go.Proofs.YtljlfmmhoceihaaDoor
/-
parquetref6.three: its loop.
-/
set_option linter.unusedSimpArgs false
set_option linter.unusedVariables false
namespace Go.Proofs.YtljlfmmhoceihaaDoor
open Go.RowKit Ax
abbrev hY := LSpec.Y spTh
def hAgain (s : ByteArray) (k f i : Int) (y : hY) : T (Rd spTh) := .ret (.again (s, k, f, IntKind.wrap .i64 (i + (1 : Int)), ()) y)
def hSet (s : ByteArray) (k i : Int) (v : Int) (y : hY) : T (Rd spTh) := .need ((0 : Int) ≤ k ∧ k < ((3 : Nat) : Int)) (.ite (k == ((0 : Nat) : Int))
  (hAgain s (IntKind.wrap .i64 (k + (1 : Int))) (IntKind.wrap .i64 (i + (1 : Int))) i (y.1, (v, y.2.1.2), ()))
  (.ite (k == ((0 + 1 : Nat) : Int)) (hAgain s (IntKind.wrap .i64 (k + (1 : Int))) (IntKind.wrap .i64 (i + (1 : Int))) i (y.1, (y.2.1.1, v, y.2.1.2.2), ()))
    (hAgain s (IntKind.wrap .i64 (k + (1 : Int))) (IntKind.wrap .i64 (i + (1 : Int))) i (y.1, (y.2.1.1, y.2.1.2.1, v), ()))))
def hOut (y : hY) : T (Rd spTh) := .ret (.out Exit.ret [.one (.v (.bool false))] (y.2.1, y.2.1, ()))
def hPiece (s : ByteArray) (k f i : Int) (y : hY) : T (Rd spTh) := .need ((0 : Int) ≤ f ∧ f ≤ i ∧ i ≤ (ByteArray.size s : Int)) (.lt (ByteArray.extract s (Int.toNat f) (Int.toNat i)) fun v => .need True (.ite (!lintB v) (hOut y) (.ite (decide (k > (2 : Int))) (hOut y) (hSet s k i (if lintB v = true then atoiV v else 0) y))))
def hRound (s : ByteArray) (k f i : Int) (y : hY) : T (Rd spTh) := .ite (decide (i ≤ (ByteArray.size s : Int)))
  (.ite (decide (i < (ByteArray.size s : Int))) (.get (Array.toList (ByteArray.data s)) i fun c => .ite ((UInt8.toNat c : Int) != (44 : Int)) (hAgain s k f i y) (hPiece s k f i y)) (hPiece s k f i y))
  (.ret (.out (Exit.exit 0) [.one (.v (.int .i64 k))] y))
theorem tr_thL_eq (s : ByteArray) (k f i : Int) (a b : Sz) : LSpec.round spTh O4 (fun _ => none) (bodyOf Tryd.f26 0) (s, k, f, i, ()) (a, b, ()) = hRound s k f i (a, b, ()) := by kernel_rfl
/-- the pieces one by one -/
def setZ (o : Sz) (k v : Int) : Sz := if k = 0 then (v, o.2) else if k = 1 then (o.1, v, o.2.2) else (o.1, o.2.1, v)
/-- what three's loop comes to: the numbers; how many; whether it was left -/
def thr (p : List UInt8 → ByteArray) : List UInt8 → List UInt8 → Int → Sz → Sz × Int × Bool
  | cur, [], k, o => if lintB (p cur) = true ∧ k ≤ 2 then (setZ o k (iv (p cur)), k + 1, true) else (o, k, false)
  | cur, c :: r, k, o => if c = 44 then (if lintB (p cur) = true ∧ k ≤ 2 then thr p [] r (k + 1) (setZ o k (iv (p cur))) else (o, k, false)) else thr p (cur ++ [c]) r k o
def thA (s : ByteArray) (k f i : Int) (o : Sz) : Sz × Int × Bool := if i ≤ (s.size : Int) then thr mkB (rcur s f i) (s.data.toList.drop i.toNat) k o else (o, k, true)
def outTh (x : LSpec.X spTh) (y : hY) : T (Exit × List Av × hY) :=
  .need (0 ≤ (x.2.2.2.1 : Int) ∧ (x.2.2.2.1 : Int) ≤ (ByteArray.size x.1 : Int) + 1 ∧ 0 ≤ (x.2.2.1 : Int) ∧ (x.2.2.1 : Int) ≤ (x.2.2.2.1 : Int) ∧ 0 ≤ (x.2.1 : Int) ∧ (x.2.1 : Int) ≤ 3 ∧ ByteArray.size x.1 ≤ 900000)
    (.ite (thA x.1 x.2.1 x.2.2.1 x.2.2.2.1 y.2.1).2.2 (.ret (.exit 0, [.one (.v (.int .i64 (thA x.1 x.2.1 x.2.2.1 x.2.2.2.1 y.2.1).2.1))], (y.1, (thA x.1 x.2.1 x.2.2.1 x.2.2.2.1 y.2.1).1, ())))
      (.ret (.ret, [.one (.v (.bool false))], ((thA x.1 x.2.1 x.2.2.1 x.2.2.2.1 y.2.1).1, (thA x.1 x.2.1 x.2.2.1 x.2.2.2.1 y.2.1).1, ()))))
theorem th_again (s : ByteArray) (k' f' i k f : Int) (y y' : hY) (Q : Exit × List Av × hY → Prop) (hi : 0 ≤ i ∧ i ≤ (s.size : Int)) (hs : s.size ≤ 900000) (hf : 0 ≤ f' ∧ f' ≤ i + 1) (hk : 0 ≤ k' ∧ k' ≤ 3)
    (h1 : y'.1 = y.1) (e : thA s k' f' (i + 1) y'.2.1 = thA s k f i y.2.1) (h : (outTh (s, k, f, i, ()) y).wp Q) :
    (hAgain s k' f' i y').wp fun r => match r with
      | .again x' y' => ((ByteArray.size x'.1 : Int) + 1 - x'.2.2.2.1).toNat < ((s.size : Int) + 1 - i).toNat ∧ (outTh x' y').wp Q
      | .out e avs y' => Q (e, avs, y') := by
  unfold outTh at h
  simp only [T.wp] at h
  dsimp only [El, vts, spTh] at h
  unfold hAgain outTh
  simp only [T.wp]
  dsimp only [El, vts, spTh]
  rw [IntWalk.i64_in (i + 1) (by omega), e, h1]
  exact ⟨by omega, ⟨by omega, by omega, hf.1, hf.2, hk.1, hk.2, hs⟩, h.2⟩
theorem th_piece (s : ByteArray) (k f i : Int) (y : hY) (Q : Exit × List Av × hY → Prop) (hi : 0 ≤ i ∧ i ≤ (s.size : Int)) (hs : s.size ≤ 900000) (hf : 0 ≤ f ∧ f ≤ i) (hk : 0 ≤ k ∧ k ≤ 3)
    (e : thA s k f i y.2.1 = if lintB (s.extract f.toNat i.toNat) = true ∧ k ≤ 2 then thA s (k + 1) (i + 1) (i + 1) (setZ y.2.1 k (iv (s.extract f.toNat i.toNat))) else (y.2.1, k, false)) (h : (outTh (s, k, f, i, ()) y).wp Q) :
    (hPiece s k f i y).wp fun r => match r with
      | .again x' y' => ((ByteArray.size x'.1 : Int) + 1 - x'.2.2.2.1).toNat < ((s.size : Int) + 1 - i).toNat ∧ (outTh x' y').wp Q
      | .out e avs y' => Q (e, avs, y') := by
  have bad : ¬ (lintB (s.extract f.toNat i.toNat) = true ∧ k ≤ 2) → (hOut y).wp fun r => match r with
      | .again x' y' => ((ByteArray.size x'.1 : Int) + 1 - x'.2.2.2.1).toNat < ((s.size : Int) + 1 - i).toNat ∧ (outTh x' y').wp Q
      | .out e avs y' => Q (e, avs, y') := fun hb => by
    rw [if_neg hb] at e
    unfold outTh at h
    simp only [T.wp] at h
    dsimp only [El, vts, spTh] at h
    rw [e] at h
    exact h.2.2 rfl
  unfold hPiece
  simp only [T.wp]
  refine ⟨⟨hf.1, hf.2, hi.2⟩, trivial, fun h1 => bad fun hb => ?_, fun h1 => ⟨fun h2 => bad fun hb => ?_, fun h2 => ?_⟩⟩
  · have := not_b h1
    rw [hb.1] at this; cases this
  · have h2 : k > 2 := of_decide_eq_true h2
    omega
  · have h2 : ¬ k > 2 := of_decide_eq_false h2
    have h1 := not_b' h1
    rw [if_pos ⟨h1, by omega⟩] at e
    unfold hSet
    simp only [T.wp]
    rw [IntWalk.i64_in (i + 1) (by omega), IntWalk.i64_in (k + 1) (by omega)]
    have hv : (if lintB (s.extract f.toNat i.toNat) = true then atoiV (s.extract f.toNat i.toNat) else 0) = iv (s.extract f.toNat i.toNat) := rfl
    rw [hv]
    refine ⟨⟨hk.1, by omega⟩, fun k0 => ?_, fun k0 => ⟨fun k1 => ?_, fun k1 => ?_⟩⟩
    · have k0 : k = 0 := by simpa using k0
      exact th_again s _ _ i k f y _ Q hi hs (by omega) (by omega) rfl (by rw [e]; unfold setZ; rw [if_pos k0]) h
    · have k0 : ¬ k = 0 := by simpa using k0
      have k1 : k = 1 := by simpa using k1
      exact th_again s _ _ i k f y _ Q hi hs (by omega) (by omega) rfl (by rw [e]; unfold setZ; rw [if_neg k0, if_pos k1]) h
    · have k0 : ¬ k = 0 := by simpa using k0
      have k1 : ¬ k = 1 := by simpa using k1
      exact th_again s _ _ i k f y _ Q hi hs (by omega) (by omega) rfl (by rw [e]; unfold setZ; rw [if_neg k0, if_neg k1]) h
theorem th_core (s : ByteArray) (k f i : Int) (y : hY) (Q : Exit × List Av × hY → Prop) (h : (outTh (s, k, f, i, ()) y).wp Q) :
    (hRound s k f i y).wp fun r => match r with
      | .again x' y' => ((ByteArray.size x'.1 : Int) + 1 - x'.2.2.2.1).toNat < ((s.size : Int) + 1 - i).toNat ∧ (outTh x' y').wp Q
      | .out e avs y' => Q (e, avs, y') := by
  have h' := h
  have hsz : s.data.toList.length = s.size := (Lib.size_eq s).symm
  unfold outTh at h
  simp only [T.wp] at h
  dsimp only [El, vts, spTh] at h
  obtain ⟨⟨h1, h2, h3, h4, h5, h6, h7⟩, hy, hz⟩ := h
  have hcur : i ≤ (s.size : Int) → mkB (rcur s f i) = s.extract f.toNat i.toNat := fun hle => by
    unfold rcur Lib.pieceU; rw [Lib.extract_eq]; rfl
  unfold hRound
  simp only [T.wp]
  refine ⟨fun hle => ?_, fun hgt => ?_⟩
  · have hle := of_decide_eq_true hle
    have e1 : (i + 1).toNat = i.toNat + 1 := by omega
    refine ⟨fun hlt => ?_, fun hge => ?_⟩
    · have hlt := of_decide_eq_true hlt
      obtain ⟨c, hc⟩ := elem_at (l := s.data.toList) h1 (by omega)
      have hd := drop_at h1 hc
      refine ⟨c, h1, hc, fun hne => ?_, fun heq => ?_⟩
      · have hne : c ≠ 44 := fun e => by rw [e] at hne; exact absurd hne (by decide)
        refine th_again s k f i k f y y Q ⟨h1, hle⟩ h7 (by omega) ⟨h5, h6⟩ rfl ?_ h'
        have hcc : rcur s f i ++ [c] = rcur s f (i + 1) := by
          unfold rcur
          rw [e1, ← Lib.pieceU_grow _ _ _ _ (by omega), hd]; rfl
        unfold thA
        rw [if_pos hle, if_pos (show i + 1 ≤ (s.size : Int) by omega), hd, thr, if_neg hne, hcc]
      · have heq : c = 44 := by
          have : (c.toNat : Int) = 44 := by simpa using heq
          exact byte_of (k := 44) (by omega)
        subst heq
        refine th_piece s k f i y Q ⟨h1, hle⟩ h7 ⟨h3, h4⟩ ⟨h5, h6⟩ ?_ h'
        have hnil : rcur s (i + 1) (i + 1) = [] := by
          unfold rcur Lib.pieceU
          rw [Nat.sub_self, List.take_zero]
        unfold thA
        rw [if_pos hle, if_pos (show i + 1 ≤ (s.size : Int) by omega), hd, thr, if_pos rfl, hcur hle, hnil]
    · have hge := of_decide_eq_false hge
      refine th_piece s k f i y Q ⟨h1, hle⟩ h7 ⟨h3, h4⟩ ⟨h5, h6⟩ ?_ h'
      unfold thA
      rw [if_pos hle, if_neg (show ¬ i + 1 ≤ (s.size : Int) by omega), drop_end (by omega), thr, hcur hle]
  · have hgt := of_decide_eq_false hgt
    have e : thA s k f i y.2.1 = (y.2.1, k, true) := by unfold thA; rw [if_neg hgt]
    rw [e] at hy
    have := hy rfl
    obtain ⟨a, b, ⟨⟩⟩ := y
    exact this
theorem thL_ok : LoopOk Tryd.prog 0 (bodyOf Tryd.f26 0) (spTh.run outTh) :=
  loop_ok (E := O4) (L := fun _ => none) mixed 0 (loops_none _ _ _) spTh (Nat.zero_le _) outTh (fun x _ => ((ByteArray.size x.1 : Int) + 1 - x.2.2.2.1).toNat) (by
    rintro ⟨s, k, f, i, ⟨⟩⟩ ⟨a, b, ⟨⟩⟩ Q h
    rw [tr_thL_eq s k f i a b]
    exact th_core s k f i (a, b, ()) Q h)
noncomputable def lpTh : Loops := oneL 4 (spTh.run outTh)
end Go.Proofs.YtljlfmmhoceihaaDoor
/-
parquetref6.three: its tree.
-/
set_option linter.unusedSimpArgs false
set_option linter.unusedVariables false
namespace Go.Proofs.YtljlfmmhoceihaaDoor
open Go.RowKit Ax
noncomputable def tr_pthree (x : Els [(false, .str)]) : T Av :=
 .need ((0 : El (Cd.int .i64)) ≤ (0 : Int) ∧ (0 : Int) ≤ (↑(ByteArray.size (x.1)) : Int) + (1 : El (Cd.int .i64)) ∧ (0 : El (Cd.int .i64)) ≤ (0 : Int) ∧ (0 : Int) ≤ (0 : Int) ∧ (0 : El (Cd.int .i64)) ≤ (0 : Int) ∧ (0 : Int) ≤ (3 : El (Cd.int .i64)) ∧ ByteArray.size (x.1) ≤ (900000 : Nat)) (.ite (thA (x.1) (0 : Int) (0 : Int) (0 : Int) ((0 : Int), (0 : Int), (0 : Int))).2.2
   (.ret (.tup [(.agg [.v (.int .i64 (thA (x.1) (0 : Int) (0 : Int) (0 : Int) ((0 : Int), (0 : Int), (0 : Int))).1.1), .v (.int .i64 (thA (x.1) (0 : Int) (0 : Int) (0 : Int) ((0 : Int), (0 : Int), (0 : Int))).1.2.1), .v (.int .i64 (thA (x.1) (0 : Int) (0 : Int) (0 : Int) ((0 : Int), (0 : Int), (0 : Int))).1.2.2)]), (.one (.v (.bool ((thA (x.1) (0 : Int) (0 : Int) (0 : Int) ((0 : Int), (0 : Int), (0 : Int))).2.1 == (3 : Int)))))]))
   (.ret (.tup [(.agg [.v (.int .i64 (thA (x.1) (0 : Int) (0 : Int) (0 : Int) ((0 : Int), (0 : Int), (0 : Int))).1.1), .v (.int .i64 (thA (x.1) (0 : Int) (0 : Int) (0 : Int) ((0 : Int), (0 : Int), (0 : Int))).1.2.1), .v (.int .i64 (thA (x.1) (0 : Int) (0 : Int) (0 : Int) ((0 : Int), (0 : Int), (0 : Int))).1.2.2)]), (.one (.v (.bool (false))))])))
theorem tr_pthree_eq (x : Els [(false, .str)]) : fnP O4 lpTh Tryd.f26 (encs [(false, .str)] x) = tr_pthree x := by kernel_rfl
end Go.Proofs.YtljlfmmhoceihaaDoor
/-
parquetref6.three: what it tells.
-/
set_option linter.unusedSimpArgs false
set_option linter.unusedVariables false
namespace Go.Proofs.YtljlfmmhoceihaaDoor
open Go.RowKit Ax
def thV (s : ByteArray) : Sz := (thA s 0 0 0 (0, 0, 0)).1
def thB (s : ByteArray) : Bool := (thA s 0 0 0 (0, 0, 0)).2.2 && ((thA s 0 0 0 (0, 0, 0)).2.1 == 3)
noncomputable def con_pthree : Con Tryd.prog := ⟨26, [], _, cf_pthree, val_con (E := O4) (L := lpTh) mixed Tryd.func26 (one_loop thL_ok (by kernel_rfl)) [(false, .str)] (fun x => ByteArray.size x.1 ≤ 900000) (fun x => .tup [.agg (ck cSz (thV x.1)), .one (.v (.bool (thB x.1)))]) fun x hx => by
  rw [tr_pthree_eq]
  obtain ⟨s, u⟩ := x
  revert s
  intro (s : ByteArray) (hx : s.size ≤ 900000)
  unfold tr_pthree
  simp only [T.wp]
  dsimp only [El]
  refine ⟨⟨by decide, by omega, by decide, by decide, by decide, by decide, hx⟩, fun h => ?_, fun h => ?_⟩
  · unfold thB thV; rw [h, Bool.true_and]; rfl
  · unfold thB thV; rw [h, Bool.false_and]; rfl⟩
noncomputable def O6 : Env Tryd.prog := O5.add [con_pthree]
/-! ### the library's reading of a size against the document's -/
def spc : List UInt8 → List (List UInt8)
  | [] => [[]]
  | c :: r => if c = 44 then [] :: spc r else match spc r with
    | h :: t => (c :: h) :: t
    | [] => [[c]]
theorem splitK_spc : ∀ s : List UInt8, Lib.splitK [44] 0 (Lib.count s [44]) s = spc s
  | [] => rfl
  | c :: r => by
    have ih := splitK_spc r
    by_cases hc : c = 44
    · subst hc
      rw [Lib.count_cons_eq, Nat.add_comm, Lib.splitK, index_cons_eq, spc, if_pos rfl, ← ih]
      rfl
    · rw [Lib.count_cons_ne c 44 r hc, spc, if_neg hc, ← ih]
      rcases index_cases r [44] with h | ⟨i, h⟩
      · rw [Lib.count_miss h]; rfl
      · have hcount := Lib.count_hit (s := r) (sub := [44]) (i := i) (by simp) h
        rw [hcount, Nat.add_comm, Lib.splitK, Lib.splitK, index_cons_ne hc, h]
        have e1 : ((i : Int) == -1) = false := by rw [beq_eq_false_iff_ne]; omega
        have e2 : ((i : Int) + 1 == -1) = false := by rw [beq_eq_false_iff_ne]; omega
        have e3 : ((i : Int) + 1).toNat = i + 1 := by omega
        simp only [e1, e2, e3, Bool.false_eq_true, if_false, Int.toNat_natCast, Nat.add_zero, List.take_succ_cons, List.length_cons, List.length_nil, List.drop_succ_cons]
theorem splitL_spc (s : ByteArray) : (splitL s cm).map (·.data.toList) = spc s.data.toList := by
  unfold splitL
  rw [Lib.splitB_data]
  exact splitK_spc _
theorem spc_ne (l : List UInt8) : ∃ h t, spc l = h :: t := by
  cases l with
  | nil => exact ⟨_, _, rfl⟩
  | cons c r =>
    unfold spc
    split
    · exact ⟨_, _, rfl⟩
    · split <;> exact ⟨_, _, rfl⟩
def thrL : List ByteArray → Int → Sz → Sz × Int × Bool
  | [], k, o => (o, k, true)
  | p :: r, k, o => if lintB p = true ∧ k ≤ 2 then thrL r (k + 1) (setZ o k (iv p)) else (o, k, false)
theorem thr_spc : ∀ (l cur : List UInt8) (k : Int) (o : Sz), thr mkB cur l k o = match spc l with | h :: t => thrL ((cur ++ h) :: t |>.map mkB) k o | [] => (o, k, true)
  | [], cur, k, o => by
    rw [thr, spc]
    simp only [List.append_nil, List.map_cons, List.map_nil]
    rw [thrL, thrL]
  | c :: r, cur, k, o => by
    rw [thr, spc]
    by_cases hc : c = 44
    · rw [if_pos hc, if_pos hc]
      simp only [List.append_nil, List.map_cons]
      rw [thrL, thr_spc r [] (k + 1)]
      obtain ⟨h, t, e⟩ := spc_ne r
      rw [e]
      simp only [List.nil_append, List.map_cons]
    · rw [if_neg hc, if_neg hc, thr_spc r (cur ++ [c]) k o]
      obtain ⟨h, t, e⟩ := spc_ne r
      rw [e]
      simp only [List.append_assoc, List.singleton_append]
theorem thA_split (s : ByteArray) : thA s 0 0 0 (0, 0, 0) = thrL (splitL s cm) 0 (0, 0, 0) := by
  unfold thA
  rw [if_pos (by omega)]
  have e : splitL s cm = (spc s.data.toList).map mkB := by
    rw [← splitL_spc, List.map_map]
    have : (mkB ∘ fun x : ByteArray => x.data.toList) = id := by funext x; exact mkB_data x
    rw [this, List.map_id]
  have h := thr_spc s.data.toList [] 0 (0, 0, 0)
  obtain ⟨a, t, ea⟩ := spc_ne s.data.toList
  rw [ea] at h
  rw [e, ea]
  exact h
theorem thr_three (l : List ByteArray) : ((thrL l 0 (0, 0, 0)).2.2 && ((thrL l 0 (0, 0, 0)).2.1 == 3)) = tri3B l ∧ (tri3B l = true → (thrL l 0 (0, 0, 0)).1 = tri3 l) := by
  match l with
  | [] => exact ⟨rfl, fun h => by cases h⟩
  | [a] =>
    have e : tri3B [a] = false := rfl
    rw [e]
    refine ⟨?_, fun h => by cases h⟩
    simp only [thrL]
    split <;> simp
  | [a, b] =>
    have e : tri3B [a, b] = false := rfl
    rw [e]
    refine ⟨?_, fun h => by cases h⟩
    simp only [thrL]
    split
    · split <;> simp
    · simp
  | [a, b, c] =>
    have e : tri3B [a, b, c] = (lintB a && (lintB b && lintB c)) := rfl
    have e2 : tri3 [a, b, c] = (iv a, iv b, iv c) := rfl
    rw [e, e2]
    simp only [thrL]
    cases ha : lintB a with
    | false => simp
    | true =>
      cases hb : lintB b with
      | false => simp
      | true =>
        cases hc : lintB c with
        | false => simp
        | true => simp [setZ]
  | a :: b :: c :: d :: r =>
    have e : tri3B (a :: b :: c :: d :: r) = false := rfl
    rw [e]
    refine ⟨?_, fun h => by cases h⟩
    simp only [thrL]
    split
    · split
      · split
        · simp
        · simp
      · simp
    · simp
theorem th_size (s : ByteArray) : thB s = sizeB s ∧ (sizeB s = true → thV s = sizeV s) := by
  unfold thB thV sizeB sizeV
  rw [thA_split]
  exact thr_three _
end Go.Proofs.YtljlfmmhoceihaaDoor
/-
option.Parse: its loop.
-/
set_option linter.unusedSimpArgs false
set_option linter.unusedVariables false
namespace Go.Proofs.YtljlfmmhoceihaaDoor
open Go.RowKit Ax
abbrev GZ := Gr Sz
abbrev YP := HSpec.Y spOp
abbrev z0 : EBs shO := ((0 : Int), (0 : Int), ([] : List Sz), ())
def ndG {β : Type} (n : Nat) (g : GZ) (K : T β) : T β := match g with
  | none => K
  | some r => .need (n = r.1.length ∧ r.2 = r.2) K
theorem ndG_wp {β : Type} {n : Nat} {g : GZ} {K : T β} {R : β → Prop} (h : gnd n g) (hk : K.wp R) : (ndG n g K).wp R := by
  cases g with
  | none => exact hk
  | some r => exact ⟨h, hk⟩
def oNd (n : Nat) (g : GZ) (r : HRd spOp) : T (HRd spOp) := ndG n g (.ret r)
def oBd (h c : Int) (n : Nat) (g : GZ) : T (HRd spOp) := oNd n g (.out Exit.ret [.one (.v (.bool false))] (z0, (h, c, ()), ()) (g, ()))
def oGo (l : List ByteArray) (n i : Int) (b0 : EBs shO) (h c : Int) (m : Nat) (g : GZ) : T (HRd spOp) := oNd m g (.again (l, n, IntKind.wrap .i64 (i + (1 : Int)), ()) (b0, (h, c, ()), ()) (g, ()))
def oIf (b : Bool) (l : List ByteArray) (n i : Int) (b0 : EBs shO) (h c : Int) (m : Nat) (g : GZ) : T (HRd spOp) := .ite (!b) (oBd h c m g) (oGo l n i b0 h c m g)
def opRound (l : List ByteArray) (n i : Int) (b0 : EBs shO) (h c : Int) (g : GZ) : T (HRd spOp) := .ite (decide (i < n))
  (.get l i fun w => .ite (ByteArray.toList w == ByteArray.toList ⟨#[]⟩) (oIf false l n i b0 h c (gl g) g)
    (.need ((0 : Int) ≤ (1 : Int) ∧ (1 : Int) ≤ (ByteArray.size w : Int) ∧ (ByteArray.size w : Int) ≤ (ByteArray.size w : Int)) (.lt (ByteArray.extract w (Int.toNat (1 : Int)) (Int.toNat (ByteArray.size w : Int))) fun v =>
      .get (Array.toList (ByteArray.data w)) (0 : Int) fun ch => .ite ((UInt8.toNat ch : Int) == (104 : Int)) (.need (ByteArray.size v ≤ 281474976710656) (oIf (lintB v) l n i b0 (iv v) c (gl g) g))
        (.ite ((UInt8.toNat ch : Int) == (99 : Int)) (.need (ByteArray.size v ≤ 281474976710656) (oIf (lintB v) l n i b0 h (iv v) (gl g) g))
          (.ite ((UInt8.toNat ch : Int) == (115 : Int)) (.need (ByteArray.size v ≤ 900000) (dup (appG 23 g (sizeV v) (oIf (sizeB v) l n i b0 h c)))) (oIf false l n i b0 h c (gl g) g))))))
  (oNd (gl g) g (.out (Exit.exit 0) [] (b0, (h, c, ()), ()) (g, ())))
theorem tr_opL_eq (l : List ByteArray) (n i : Int) (b0 : EBs shO) (h c : Int) (xs : List Sz) (cap : Nat) : HSpec.round spOp O5 (fun _ => none) (bodyOf Tryd.f11 0) (l, n, i, ()) (b0, (h, c, ()), ()) (some (xs, cap), ()) = opRound l n i b0 h c (some (xs, cap)) := by kernel_rfl
theorem tr_opL0_eq (l : List ByteArray) (n i : Int) (b0 : EBs shO) (h c : Int) : HSpec.round spOp O5 (fun _ => none) (bodyOf Tryd.f11 0) (l, n, i, ()) (b0, (h, c, ()), ()) (none, ()) = opRound l n i b0 h c none := by kernel_rfl
/-- what a word comes to -/
abbrev StO := Int × Int × List Sz × Bool
def restOf (w : ByteArray) : ByteArray := ByteArray.extract w (Int.toNat (1 : Int)) (Int.toNat (ByteArray.size w : Int))
def stF (w : ByteArray) (h c : Int) : StO := match w.data.toList with
  | [] => (h, c, [], false)
  | ch :: _ => if ch = 104 then (iv (restOf w), c, [], lintB (restOf w)) else if ch = 99 then (h, iv (restOf w), [], lintB (restOf w)) else if ch = 115 then (h, c, [sizeV (restOf w)], sizeB (restOf w)) else (h, c, [], false)
def foldO (st : ByteArray → Int → Int → StO) : List ByteArray → Int → Int → StO
  | [], h, c => (h, c, [], true)
  | w :: r, h, c => if (st w h c).2.2.2 = true then ((foldO st r (st w h c).1 (st w h c).2.1).1, (foldO st r (st w h c).1 (st w h c).2.1).2.1, (st w h c).2.2.1 ++ (foldO st r (st w h c).1 (st w h c).2.1).2.2.1, (foldO st r (st w h c).1 (st w h c).2.1).2.2.2) else st w h c
def finH {A B C : Type} (e : A) (avs : B) (y : C) (g : GZ × Unit) (W : List Sz) : T (A × B × C × (GZ × Unit)) := (finG e avs y g.1 W).bind fun r => .ret (r.1, r.2.1, r.2.2.1, (r.2.2.2, ()))
theorem finH_nil {A B C : Type} {e : A} {avs : B} {y : C} {g : GZ} {Q : A × B × C × (GZ × Unit) → Prop} (h : (finH e avs y (g, ()) []).wp Q) : Q (e, avs, y, (g, ())) := by
  unfold finH at h
  rw [T.wp_bind] at h
  exact finG_nil h
theorem finH_cons {A B C : Type} {e : A} {avs : B} {y : C} {g : GZ} {v : Sz} {W : List Sz} {Q : A × B × C × (GZ × Unit) → Prop} (h : (finH e avs y (g, ()) (v :: W)).wp Q) (k : Nat) : (finH e avs y (some (gx g ++ [v], k), ()) W).wp Q := by
  unfold finH at h ⊢
  rw [T.wp_bind] at h ⊢
  exact finG_cons h k
def outOp (x : HSpec.X spOp) (y : YP) (g : GZ × Unit) : T (Exit × List Av × YP × (GZ × Unit)) :=
  .need (0 ≤ (x.2.2.1 : Int) ∧ (x.2.1 : Int) = (List.length x.1 : Int) ∧ List.length x.1 ≤ 1000 ∧ (∀ w ∈ (x.1 : List ByteArray), w.size ≤ 900000) ∧ (List.length (gx (α := Sz) g.1) : Int) ≤ (x.2.2.1 : Int))
    (.ite (foldO stF (List.drop (Int.toNat x.2.2.1) x.1) y.2.1.1 y.2.1.2.1).2.2.2
      (finH (Exit.exit 0) [] (y.1, ((foldO stF (List.drop (Int.toNat x.2.2.1) x.1) y.2.1.1 y.2.1.2.1).1, (foldO stF (List.drop (Int.toNat x.2.2.1) x.1) y.2.1.1 y.2.1.2.1).2.1, ()), ()) g (foldO stF (List.drop (Int.toNat x.2.2.1) x.1) y.2.1.1 y.2.1.2.1).2.2.1)
      (finH Exit.ret [.one (.v (.bool false))] (z0, ((foldO stF (List.drop (Int.toNat x.2.2.1) x.1) y.2.1.1 y.2.1.2.1).1, (foldO stF (List.drop (Int.toNat x.2.2.1) x.1) y.2.1.1 y.2.1.2.1).2.1, ()), ()) g (foldO stF (List.drop (Int.toNat x.2.2.1) x.1) y.2.1.1 y.2.1.2.1).2.2.1))
theorem rest_le (w : ByteArray) : (restOf w).size ≤ w.size := by
  unfold restOf
  rw [ByteArray.size_extract]
  omega
theorem op_core (l : List ByteArray) (n i : Int) (b0 : EBs shO) (h c : Int) (g : GZ) (Q : Exit × List Av × YP × (GZ × Unit) → Prop) (hq : (outOp (l, n, i, ()) (b0, (h, c, ()), ()) (g, ())).wp Q) : (opRound l n i b0 h c g).wp fun r => match r with
      | .again x' y' g' => (List.length x'.1 - Int.toNat x'.2.2.1) < l.length - i.toNat ∧ (outOp x' y' g').wp Q
      | .out e avs y' g' => Q (e, avs, y', g') := by
  unfold outOp at hq
  simp only [T.wp] at hq
  dsimp only [El, vts, spOp] at hq
  obtain ⟨⟨i0, hn, hl, hw, hg⟩, hy, hz⟩ := hq
  unfold opRound
  simp only [T.wp, dup_wp]
  refine ⟨fun hlt => ?_, fun hge => ?_⟩
  · have hlt := of_decide_eq_true hlt
    obtain ⟨w, hwi⟩ := elem_at (l := l) i0 (by omega)
    have hws := hw w (List.mem_of_getElem? hwi)
    have hrs := rest_le w
    rw [drop_at i0 hwi, foldO] at hy hz
    -- the two ends of a word
    have fin : ∀ (b : Bool) (h' c' : Int) (A : List Sz), stF w h c = (h', c', A, b) → ∀ (m : Nat) (g' : GZ), gnd m g' → ((gx g').length : Int) ≤ i + 1 → (∀ {A' B' C' : Type} (e : A') (avs : B') (y : C') (W : List Sz) (Q : A' × B' × C' × (GZ × Unit) → Prop), (finH e avs y (g, ()) (A ++ W)).wp Q → (finH e avs y (g', ()) W).wp Q) →
        (oIf b l n i b0 h' c' m g').wp fun r => match r with
          | .again x' y' g' => (List.length x'.1 - Int.toNat x'.2.2.1) < l.length - i.toNat ∧ (outOp x' y' g').wp Q
          | .out e avs y' g' => Q (e, avs, y', g') := by
      intro b h' c' A hst m g' hm hgl hfin
      rw [hst] at hy hz
      unfold oIf
      simp only [T.wp]
      refine ⟨fun hb => ?_, fun hb => ?_⟩
      · have hb := not_b hb
        subst hb
        rw [if_neg Bool.false_ne_true] at hz
        have := hz rfl
        refine ndG_wp hm (finH_nil (hfin _ _ _ [] _ ?_))
        rw [List.append_nil]
        exact this
      · have hb := not_b' hb
        subst hb
        rw [if_pos rfl] at hy hz
        unfold oGo oNd outOp
        refine ndG_wp hm ?_
        simp only [T.wp]
        dsimp only [El, vts, spOp]
        rw [IntWalk.i64_in (i + 1) (by omega)]
        exact ⟨by omega, ⟨by omega, hn, hl, hw, hgl⟩, fun hb => hfin _ _ _ _ _ (hy hb), fun hb => hfin _ _ _ _ _ (hz hb)⟩
    have fin0 : ∀ (b : Bool) (h' c' : Int), stF w h c = (h', c', [], b) → (oIf b l n i b0 h' c' (gl g) g).wp fun r => match r with
          | .again x' y' g' => (List.length x'.1 - Int.toNat x'.2.2.1) < l.length - i.toNat ∧ (outOp x' y' g').wp Q
          | .out e avs y' g' => Q (e, avs, y', g') := fun b h' c' hst => fin b h' c' [] hst _ g (gnd_gl g) (by omega) (fun e avs y W Q hh => hh)
    refine ⟨w, i0, hwi, fun he => fin0 _ _ _ ?_, fun hne => ?_⟩
    · have he : w = ⟨#[]⟩ := by
        rw [bytes_beq] at he; exact of_decide_eq_true he
      rw [he]; rfl
    · obtain ⟨ch, r, hc⟩ : ∃ ch r, w.data.toList = ch :: r := by
        cases e : w.data.toList with
        | nil =>
          have : w = ⟨#[]⟩ := by rw [← Lib.mk_data w, e]
          rw [bytes_beq] at hne
          exact absurd this (of_decide_eq_false hne)
        | cons a t => exact ⟨a, t, rfl⟩
      have hpos : 1 ≤ w.size := by rw [Lib.size_eq, hc]; simp
      have hR : ByteArray.extract w (Int.toNat (1 : Int)) (Int.toNat (ByteArray.size w : Int)) = restOf w := rfl
      rw [hR]
      have nn : ∀ z : Nat, ((ch.toNat : Int) == (z : Int)) = true → ch = UInt8.ofNat z := fun z h => by
        have : (ch.toNat : Int) = z := by simpa only [beq_iff_eq] using h
        exact byte_of (by omega)
      have nz : ∀ z : Nat, z < 256 → ((ch.toNat : Int) == (z : Int)) = false → ch ≠ UInt8.ofNat z := fun z hz h e => by
        have : ¬ (ch.toNat : Int) = z := by simpa only [beq_eq_false_iff_ne, ne_eq] using h
        apply this
        rw [e, UInt8.toNat_ofNat']
        omega
      refine ⟨⟨by decide, by omega, Int.le_refl _⟩, ch, Int.le_refl 0, by rw [hc]; rfl, fun h1 => ⟨by omega, fin0 _ _ _ ?_⟩, fun h1 => ⟨fun h2 => ⟨by omega, fin0 _ _ _ ?_⟩, fun h2 => ⟨fun h3 => ⟨by omega, ?_⟩, fun h3 => fin0 _ _ _ ?_⟩⟩⟩
      · unfold stF; rw [hc]; simp only []; rw [if_pos (show ch = 104 from nn 104 h1)]
      · unfold stF; rw [hc]; simp only []; rw [if_neg (show ch ≠ 104 from nz 104 (by decide) h1), if_pos (show ch = 99 from nn 99 h2)]
      · rw [← gl_eq] at hg
        refine appG_wp (by omega) (by simp only [Go.maxLen]; omega) fun k => fin _ _ _ [sizeV (restOf w)] ?_ _ _ (gnd_app g _ k) ?_ (fun e avs y W Q hh => finH_cons hh k)
        · unfold stF; rw [hc]; simp only []; rw [if_neg (show ch ≠ 104 from nz 104 (by decide) h1), if_neg (show ch ≠ 99 from nz 99 (by decide) h2), if_pos (show ch = 115 from nn 115 h3)]
        · show (((gx g ++ [_]).length : Nat) : Int) ≤ _
          rw [List.length_append, ← gl_eq]
          simp only [List.length_cons, List.length_nil]
          omega
      · unfold stF; rw [hc]; simp only []; rw [if_neg (show ch ≠ 104 from nz 104 (by decide) h1), if_neg (show ch ≠ 99 from nz 99 (by decide) h2), if_neg (show ch ≠ 115 from nz 115 (by decide) h3)]
  · have hge := of_decide_eq_false hge
    rw [drop_end (by omega)] at hy
    exact ndG_wp (gnd_gl g) (finH_nil (hy rfl))
theorem opL_ok : LoopOk Tryd.prog 0 (bodyOf Tryd.f11 0) (spOp.run outOp) :=
  loopH_ok (E := O5) (L := fun _ => none) mixed 0 (loops_none _ _ _) spOp (Nat.zero_le _) outOp (fun x _ _ => List.length x.1 - Int.toNat x.2.2.1) (by
    rintro ⟨l, n, i, ⟨⟩⟩ ⟨b0, ⟨h, c, ⟨⟩⟩, ⟨⟩⟩ ⟨g, ⟨⟩⟩ Q hq
    match g, hq with
    | some (xs, cap), hq =>
      rw [tr_opL_eq l n i b0 h c xs cap]
      exact op_core l n i b0 h c (some (xs, cap)) Q hq
    | none, hq =>
      rw [tr_opL0_eq l n i b0 h c]
      exact op_core l n i b0 h c none Q hq)
noncomputable def lpOp : Loops := oneL 3 (spOp.run outOp)
noncomputable def O5f : Env Tryd.prog := O5.fz [(8, [1000000, 2, 4])]
end Go.Proofs.YtljlfmmhoceihaaDoor
/-
parquetref6.ParseOptions: its loop.
-/
set_option linter.unusedSimpArgs false
set_option linter.unusedVariables false
namespace Go.Proofs.YtljlfmmhoceihaaDoor
open Go.RowKit Ax
def qNd (n : Nat) (g : GZ) (r : HRd spPp) : T (HRd spPp) := ndG n g (.ret r)
def qBd (h c : Int) (n : Nat) (g : GZ) : T (HRd spPp) := qNd n g (.out Exit.ret [.one (.v (.bool false))] (z0, (h, c, ()), ()) (g, ()))
def qGo (l : List ByteArray) (i : Int) (b0 : EBs shO) (h c : Int) (m : Nat) (g : GZ) : T (HRd spPp) := qNd m g (.again (l, IntKind.wrap .i64 (i + (1 : Int)), ()) (b0, (h, c, ()), ()) (g, ()))
def qTest (l : List ByteArray) (i : Int) (z : Int) (b : Bool) (Y N : T (HRd spPp)) : T (HRd spPp) := .get l i fun w => .get (Array.toList (ByteArray.data w)) (0 : Int) fun ch => .ite ((UInt8.toNat ch : Int) == z) (.ite b Y N) N
def qBr (l : List ByteArray) (i : Int) (b0 : EBs shO) (h c : Int) (g : GZ) (v2 v4 : ByteArray) : T (HRd spPp) :=
  qTest l i 104 (lintB v2) (qGo l i b0 (iv v2) c (gl g) g) (qTest l i 99 (lintB v2) (qGo l i b0 h (iv v2) (gl g) g) (qTest l i 115 (thB v4)
    (.need ((0 : Int) ≤ (0 : Int) ∧ (0 : Int) < ((3 : Nat) : Int)) (.need ((0 : Int) ≤ (1 : Int) ∧ (1 : Int) < ((3 : Nat) : Int)) (.need ((0 : Int) ≤ (2 : Int) ∧ (2 : Int) < ((3 : Nat) : Int)) (appG 23 g (thV v4) (qGo l i b0 h c))))) (qBd h c (gl g) g)))
def qSl (w : ByteArray) (K : ByteArray → T (HRd spPp)) : T (HRd spPp) := .need ((0 : Int) ≤ (1 : Int) ∧ (1 : Int) ≤ (ByteArray.size w : Int) ∧ (ByteArray.size w : Int) ≤ (ByteArray.size w : Int)) (.lt (ByteArray.extract w (Int.toNat (1 : Int)) (Int.toNat (ByteArray.size w : Int))) K)
def ppRound (l : List ByteArray) (i : Int) (b0 : EBs shO) (h c : Int) (g : GZ) : T (HRd spPp) := .ite (decide (i < (List.length l : Int)))
  (.get l i fun w => .ite (ByteArray.toList w == ByteArray.toList ⟨#[]⟩) (qBd h c (gl g) g)
    (.get l i fun w => qSl w fun v2 => .need True (.get l i fun w => qSl w fun v4 => .need (ByteArray.size v4 ≤ 900000) (qBr l i b0 h c g v2 v4))))
  (qNd (gl g) g (.out (Exit.exit 0) [] (b0, (h, c, ()), ()) (g, ())))
theorem tr_ppL_eq (l : List ByteArray) (i : Int) (b0 : EBs shO) (h c : Int) (xs : List Sz) (cap : Nat) : HSpec.round spPp O6 (fun _ => none) (bodyOf Tryd.f12 0) (l, i, ()) (b0, (h, c, ()), ()) (some (xs, cap), ()) = ppRound l i b0 h c (some (xs, cap)) := by kernel_rfl
theorem tr_ppL0_eq (l : List ByteArray) (i : Int) (b0 : EBs shO) (h c : Int) : HSpec.round spPp O6 (fun _ => none) (bodyOf Tryd.f12 0) (l, i, ()) (b0, (h, c, ()), ()) (none, ()) = ppRound l i b0 h c none := by kernel_rfl
def stG (w : ByteArray) (h c : Int) : StO := match w.data.toList with
  | [] => (h, c, [], false)
  | ch :: _ => if ch = 104 ∧ lintB (restOf w) = true then (iv (restOf w), c, [], true) else if ch = 99 ∧ lintB (restOf w) = true then (h, iv (restOf w), [], true) else if ch = 115 ∧ thB (restOf w) = true then (h, c, [thV (restOf w)], true) else (h, c, [], false)
def outPp (x : HSpec.X spPp) (y : YP) (g : GZ × Unit) : T (Exit × List Av × YP × (GZ × Unit)) :=
  .need (0 ≤ (x.2.1 : Int) ∧ List.length x.1 ≤ 1000 ∧ (∀ w ∈ (x.1 : List ByteArray), w.size ≤ 900000) ∧ (List.length (gx (α := Sz) g.1) : Int) ≤ (x.2.1 : Int))
    (.ite (foldO stG (List.drop (Int.toNat x.2.1) x.1) y.2.1.1 y.2.1.2.1).2.2.2
      (finH (Exit.exit 0) [] (y.1, ((foldO stG (List.drop (Int.toNat x.2.1) x.1) y.2.1.1 y.2.1.2.1).1, (foldO stG (List.drop (Int.toNat x.2.1) x.1) y.2.1.1 y.2.1.2.1).2.1, ()), ()) g (foldO stG (List.drop (Int.toNat x.2.1) x.1) y.2.1.1 y.2.1.2.1).2.2.1)
      (finH Exit.ret [.one (.v (.bool false))] (z0, ((foldO stG (List.drop (Int.toNat x.2.1) x.1) y.2.1.1 y.2.1.2.1).1, (foldO stG (List.drop (Int.toNat x.2.1) x.1) y.2.1.1 y.2.1.2.1).2.1, ()), ()) g (foldO stG (List.drop (Int.toNat x.2.1) x.1) y.2.1.1 y.2.1.2.1).2.2.1))
theorem pp_core (l : List ByteArray) (i : Int) (b0 : EBs shO) (h c : Int) (g : GZ) (Q : Exit × List Av × YP × (GZ × Unit) → Prop) (hq : (outPp (l, i, ()) (b0, (h, c, ()), ()) (g, ())).wp Q) : (ppRound l i b0 h c g).wp fun r => match r with
      | .again x' y' g' => (List.length x'.1 - Int.toNat x'.2.1) < l.length - i.toNat ∧ (outPp x' y' g').wp Q
      | .out e avs y' g' => Q (e, avs, y', g') := by
  unfold outPp at hq
  simp only [T.wp] at hq
  dsimp only [El, vts, spPp] at hq
  obtain ⟨⟨i0, hl, hw, hg⟩, hy, hz⟩ := hq
  unfold ppRound qSl
  simp only [T.wp]
  refine ⟨fun hlt => ?_, fun hge => ?_⟩
  · have hlt := of_decide_eq_true hlt
    obtain ⟨w, hwi⟩ := elem_at (l := l) i0 hlt
    have hws := hw w (List.mem_of_getElem? hwi)
    have hrs := rest_le w
    rw [drop_at i0 hwi, foldO] at hy hz
    have bad : ∀ (h' c' : Int), stG w h c = (h', c', [], false) → (qBd h' c' (gl g) g).wp fun r => match r with
          | .again x' y' g' => (List.length x'.1 - Int.toNat x'.2.1) < l.length - i.toNat ∧ (outPp x' y' g').wp Q
          | .out e avs y' g' => Q (e, avs, y', g') := fun h' c' hst => by
      rw [hst, if_neg Bool.false_ne_true] at hz
      exact ndG_wp (gnd_gl g) (finH_nil (hz rfl))
    have go : ∀ (h' c' : Int) (A : List Sz), stG w h c = (h', c', A, true) → ∀ (m : Nat) (g' : GZ), gnd m g' → ((gx g').length : Int) ≤ i + 1 → (∀ {A' B' C' : Type} (e : A') (avs : B') (y : C') (W : List Sz) (Q : A' × B' × C' × (GZ × Unit) → Prop), (finH e avs y (g, ()) (A ++ W)).wp Q → (finH e avs y (g', ()) W).wp Q) →
        (qGo l i b0 h' c' m g').wp fun r => match r with
          | .again x' y' g' => (List.length x'.1 - Int.toNat x'.2.1) < l.length - i.toNat ∧ (outPp x' y' g').wp Q
          | .out e avs y' g' => Q (e, avs, y', g') := by
      intro h' c' A hst m g' hm hgl hfin
      rw [hst, if_pos rfl] at hy hz
      unfold qGo qNd outPp
      refine ndG_wp hm ?_
      simp only [T.wp]
      dsimp only [El, vts, spPp]
      rw [IntWalk.i64_in (i + 1) (by omega)]
      exact ⟨by omega, ⟨by omega, hl, hw, hgl⟩, fun hb => hfin _ _ _ _ _ (hy hb), fun hb => hfin _ _ _ _ _ (hz hb)⟩
    have go0 : ∀ (h' c' : Int), stG w h c = (h', c', [], true) → (qGo l i b0 h' c' (gl g) g).wp fun r => match r with
          | .again x' y' g' => (List.length x'.1 - Int.toNat x'.2.1) < l.length - i.toNat ∧ (outPp x' y' g').wp Q
          | .out e avs y' g' => Q (e, avs, y', g') := fun h' c' hst => go h' c' [] hst _ g (gnd_gl g) (by omega) (fun e avs y W Q hh => hh)
    refine ⟨w, i0, hwi, fun he => bad _ _ ?_, fun hne => ?_⟩
    · have he : w = ⟨#[]⟩ := by
        rw [bytes_beq] at he; exact of_decide_eq_true he
      rw [he]; rfl
    · obtain ⟨ch, r, hc⟩ : ∃ ch r, w.data.toList = ch :: r := by
        cases e : w.data.toList with
        | nil =>
          have : w = ⟨#[]⟩ := by rw [← Lib.mk_data w, e]
          rw [bytes_beq] at hne
          exact absurd this (of_decide_eq_false hne)
        | cons a t => exact ⟨a, t, rfl⟩
      have hpos : 1 ≤ w.size := by rw [Lib.size_eq, hc]; simp
      have hR : ByteArray.extract w (Int.toNat (1 : Int)) (Int.toNat (ByteArray.size w : Int)) = restOf w := rfl
      have nn : ∀ z : Nat, ((ch.toNat : Int) == (z : Int)) = true → ch = UInt8.ofNat z := fun z h => by
        have : (ch.toNat : Int) = z := by simpa only [beq_iff_eq] using h
        exact byte_of (by omega)
      have nz : ∀ z : Nat, z < 256 → ((ch.toNat : Int) == (z : Int)) = false → ch ≠ UInt8.ofNat z := fun z hz h e => by
        have : ¬ (ch.toNat : Int) = z := by simpa only [beq_eq_false_iff_ne, ne_eq] using h
        apply this
        rw [e, UInt8.toNat_ofNat']
        omega
      have sl : (0 : Int) ≤ (1 : Int) ∧ (1 : Int) ≤ (w.size : Int) ∧ (w.size : Int) ≤ (w.size : Int) := ⟨by decide, by omega, Int.le_refl _⟩
      refine ⟨w, i0, hwi, sl, trivial, w, i0, hwi, sl, by rw [hR]; omega, ?_⟩
      rw [hR]
      -- each test
      have test : ∀ (z : Nat) (b : Bool) (Y N : T (HRd spPp)) (R : HRd spPp → Prop), (((ch.toNat : Int) == (z : Int)) = true → b = true → Y.wp R) → ((((ch.toNat : Int) == (z : Int)) = false ∨ b = false) → N.wp R) → (qTest l i (z : Int) b Y N).wp R := fun z b Y N R h1 h2 => by
        unfold qTest
        simp only [T.wp]
        exact ⟨w, i0, hwi, ch, Int.le_refl 0, by rw [hc]; rfl, fun hz => ⟨fun hb => h1 hz hb, fun hb => h2 (.inr hb)⟩, fun hz => h2 (.inl hz)⟩
      have ng : ∀ (z : Nat) (b : Bool), z < 256 → (((ch.toNat : Int) == (z : Int)) = false ∨ b = false) → ¬ (ch = UInt8.ofNat z ∧ b = true) := fun z b hz h hh => by
        rcases h with h | h
        · exact nz z hz h hh.1
        · rw [h] at hh; exact absurd hh.2 Bool.false_ne_true
      unfold qBr
      refine test 104 _ _ _ _ (fun h1 hb => go0 _ _ ?_) fun n1 => test 99 _ _ _ _ (fun h2 hb => go0 _ _ ?_) fun n2 => test 115 _ _ _ _ (fun h3 hb => ?_) fun n3 => bad _ _ ?_
      · unfold stG; rw [hc]; simp only []; rw [if_pos ⟨show ch = 104 from nn 104 h1, hb⟩]
      · unfold stG; rw [hc]; simp only []; rw [if_neg (show ¬ (ch = 104 ∧ lintB (restOf w) = true) from ng 104 _ (by decide) n1), if_pos ⟨show ch = 99 from nn 99 h2, hb⟩]
      · simp only [T.wp]
        rw [← gl_eq] at hg
        refine ⟨by decide, by decide, by decide, appG_wp (by omega) (by simp only [Go.maxLen]; omega) fun k => go _ _ [thV (restOf w)] ?_ _ _ (gnd_app g _ k) ?_ (fun e avs y W Q hh => finH_cons hh k)⟩
        · unfold stG; rw [hc]; simp only []; rw [if_neg (show ¬ (ch = 104 ∧ lintB (restOf w) = true) from ng 104 _ (by decide) n1), if_neg (show ¬ (ch = 99 ∧ lintB (restOf w) = true) from ng 99 _ (by decide) n2), if_pos ⟨show ch = 115 from nn 115 h3, hb⟩]
        · show (((gx g ++ [_]).length : Nat) : Int) ≤ _
          rw [List.length_append, ← gl_eq]
          simp only [List.length_cons, List.length_nil]
          omega
      · unfold stG; rw [hc]; simp only []; rw [if_neg (show ¬ (ch = 104 ∧ lintB (restOf w) = true) from ng 104 _ (by decide) n1), if_neg (show ¬ (ch = 99 ∧ lintB (restOf w) = true) from ng 99 _ (by decide) n2), if_neg (show ¬ (ch = 115 ∧ thB (restOf w) = true) from ng 115 _ (by decide) n3)]
  · have hge := of_decide_eq_false hge
    rw [drop_end (by omega)] at hy
    exact ndG_wp (gnd_gl g) (finH_nil (hy rfl))
theorem ppL_ok : LoopOk Tryd.prog 0 (bodyOf Tryd.f12 0) (spPp.run outPp) :=
  loopH_ok (E := O6) (L := fun _ => none) mixed 0 (loops_none _ _ _) spPp (Nat.zero_le _) outPp (fun x _ _ => List.length x.1 - Int.toNat x.2.1) (by
    rintro ⟨l, i, ⟨⟩⟩ ⟨b0, ⟨h, c, ⟨⟩⟩, ⟨⟩⟩ ⟨g, ⟨⟩⟩ Q hq
    match g, hq with
    | some (xs, cap), hq =>
      rw [tr_ppL_eq l i b0 h c xs cap]
      exact pp_core l i b0 h c (some (xs, cap)) Q hq
    | none, hq =>
      rw [tr_ppL0_eq l i b0 h c]
      exact pp_core l i b0 h c none Q hq)
noncomputable def lpPp : Loops := oneL 3 (spPp.run outPp)
noncomputable def O6f : Env Tryd.prog := O6.fz [(16, [1000000, 2, 4])]
end Go.Proofs.YtljlfmmhoceihaaDoor
/-
option.Parse, parquetref6.ParseOptions: what they tell.
-/
set_option linter.unusedSimpArgs false
set_option linter.unusedVariables false
namespace Go.Proofs.YtljlfmmhoceihaaDoor
open Go.RowKit Ax
def nilZ : Ck := .v (.slice none 0 0)
def pNo : T Av := .ret (.tup [.agg [.v (.int .i64 0), .v (.int .i64 0), nilZ], .one (.v (.bool false))])
def pZ : T Av := .ret (.tup [.agg [.v (.int .i64 0), .v (.int .i64 0), .ds cSz []], .one (.v (.bool false))])
def pTree (inv : Prop) (F : StO) : T Av := .need inv (.ite F.2.2.2
  (.ite (List.isEmpty F.2.2.1) (.ite (!optB (F.1, F.2.1, [])) pNo (.ret (.tup [.agg [.v (.int .i64 F.1), .v (.int .i64 F.2.1), nilZ], .one (.v (.bool true))])))
    (.up 0 fun _ => .need (List.length F.2.2.1 ≤ List.length F.2.2.1) (.ite (!optB (F.1, F.2.1, List.take (List.length F.2.2.1) F.2.2.1)) pNo (.ret (.tup [.agg [.v (.int .i64 F.1), .v (.int .i64 F.2.1), .ds cSz (List.take (List.length F.2.2.1) F.2.2.1)], .one (.v (.bool true))])))))
  (.ite (List.isEmpty F.2.2.1) pZ (.up 0 fun _ => pZ)))
theorem tr_oparse_eq (l : List ByteArray) : fnP O5f lpOp Tryd.f11 (encs [(false, .sl .str)] (l, ())) = pTree ((0 : Int) ≤ 0 ∧ (List.length l : Int) = (List.length l : Int) ∧ List.length l ≤ 1000 ∧ (∀ w ∈ l, w.size ≤ 900000) ∧ (List.length (gx (none : GZ)) : Int) ≤ 0) (foldO stF (List.drop (Int.toNat (0 : Int)) l) 64 4096) := by kernel_rfl
theorem tr_pparse_eq (l : List ByteArray) : fnP O6f lpPp Tryd.f12 (encs [(false, .sl .str)] (l, ())) = pTree ((0 : Int) ≤ 0 ∧ List.length l ≤ 1000 ∧ (∀ w ∈ l, w.size ≤ 900000) ∧ (List.length (gx (none : GZ)) : Int) ≤ 0) (foldO stG (List.drop (Int.toNat (0 : Int)) l) 64 4096) := by kernel_rfl
def outB (F : StO) : Bool := F.2.2.2 && optB (F.1, F.2.1, F.2.2.1)
def outV (F : StO) : Op := if outB F = true then (F.1, F.2.1, F.2.2.1) else (0, 0, [])
def resO (F : StO) : Av := .tup [.agg (ck cOp (outV F)), .one (.v (.bool (outB F)))]
theorem nil_agg {w : World} {R : Nat → Prop} {σ : List Nat} {a b : Value} {r : Av} {v : Value} (h : AvIs w R σ (.tup [.agg [.v a, .v b, nilZ], r]) v) : AvIs w R σ (.tup [.agg [.v a, .v b, .ds cSz []], r]) v := by
  cases h with
  | tup us hl hi =>
    refine .tup us hl fun i x u hx hu => ?_
    match i, hx with
    | 0, hx =>
      have hx : Av.agg [.v a, .v b, .ds cSz []] = x := by simpa using hx
      subst hx
      have h0 := hi 0 _ u rfl hu
      cases h0 with
      | agg h1 =>
        cases h1 with
        | v e1 h2 =>
          cases h2 with
          | v e2 h3 =>
            cases h3 with
            | v e3 h4 => exact .agg (.v e1 (.v e2 (.dn h4)))
    | 1, hx => exact hi 1 x u hx hu
theorem pTree_wp (inv : Prop) (F : StO) (hinv : inv) : (pTree inv F).wp fun a => ∀ w R σ v, AvIs w R σ a v → AvIs w R σ (resO F) v := by
  obtain ⟨h, c, W, b⟩ := F
  unfold pTree pNo pZ resO outV outB
  simp only [T.wp]
  refine ⟨hinv, fun hb => ⟨fun he => ⟨fun ho w R σ v hv => ?_, fun ho w R σ v hv => ?_⟩, fun he k _ => ⟨Nat.le_refl _, fun ho w R σ v hv => ?_, fun ho w R σ v hv => ?_⟩⟩, fun hb => ⟨fun _ w R σ v hv => ?_, fun _ k _ w R σ v hv => ?_⟩⟩
  · have hW : W = [] := List.isEmpty_iff.1 he
    subst hW
    rw [hb, Bool.true_and, not_b ho, if_neg Bool.false_ne_true]
    exact nil_agg hv
  · have hW : W = [] := List.isEmpty_iff.1 he
    subst hW
    rw [hb, Bool.true_and, not_b' ho, if_pos rfl]
    exact nil_agg hv
  · rw [List.take_length] at ho
    rw [hb, Bool.true_and, not_b ho, if_neg Bool.false_ne_true]
    exact nil_agg hv
  · rw [List.take_length] at ho hv
    rw [hb, Bool.true_and, not_b' ho, if_pos rfl]
    exact hv
  · rw [hb, Bool.false_and, if_neg Bool.false_ne_true]
    exact hv
  · rw [hb, Bool.false_and, if_neg Bool.false_ne_true]
    exact hv
def WordsFit (l : List ByteArray) : Prop := l.length ≤ 1000 ∧ ∀ w ∈ l, w.size ≤ 900000
noncomputable def con_oparse : Con Tryd.prog := ⟨11, [], _, cf_oparse, val_con_w (E := O5f) (L := lpOp) mixed Tryd.func11 (one_loop opL_ok (by kernel_rfl)) [(false, .sl .str)] (fun x => WordsFit x.1) (fun x => resO (foldO stF x.1 64 4096)) fun x hx => by
  obtain ⟨l, ⟨⟩⟩ := x
  rw [tr_oparse_eq l]
  exact pTree_wp _ _ ⟨Int.le_refl 0, rfl, hx.1, hx.2, Int.le_refl 0⟩⟩
noncomputable def con_pparse : Con Tryd.prog := ⟨12, [], _, cf_pparse, val_con_w (E := O6f) (L := lpPp) mixed Tryd.func12 (one_loop ppL_ok (by kernel_rfl)) [(false, .sl .str)] (fun x => WordsFit x.1) (fun x => resO (foldO stG x.1 64 4096)) fun x hx => by
  obtain ⟨l, ⟨⟩⟩ := x
  rw [tr_pparse_eq l]
  exact pTree_wp _ _ ⟨Int.le_refl 0, hx.1, hx.2, Int.le_refl 0⟩⟩
/-! ### the same -/
theorem st_eq (w : ByteArray) (h c : Int) : (stF w h c).2.2.2 = (stG w h c).2.2.2 ∧ ((stF w h c).2.2.2 = true → stF w h c = stG w h c) := by
  obtain ⟨e1, e2⟩ := th_size (restOf w)
  unfold stF stG
  cases w.data.toList with
  | nil => exact ⟨rfl, fun h => by cases h⟩
  | cons ch r =>
    simp only []
    by_cases h1 : ch = 104
    · subst h1
      cases hl : lintB (restOf w) <;> simp
    · by_cases h2 : ch = 99
      · subst h2
        cases hl : lintB (restOf w) <;> simp
      · by_cases h3 : ch = 115
        · subst h3
          rw [e1]
          cases hl : sizeB (restOf w) with
          | false => simp
          | true => simp [e2 hl]
        · simp [h1, h2, h3]
theorem fold_eq : ∀ (l : List ByteArray) (h c : Int), (foldO stF l h c).2.2.2 = (foldO stG l h c).2.2.2 ∧ ((foldO stF l h c).2.2.2 = true → foldO stF l h c = foldO stG l h c)
  | [], h, c => ⟨rfl, fun _ => rfl⟩
  | w :: r, h, c => by
    obtain ⟨e1, e2⟩ := st_eq w h c
    rw [foldO, foldO]
    cases hb : (stF w h c).2.2.2 with
    | false =>
      rw [hb] at e1
      rw [if_neg Bool.false_ne_true, ← e1, if_neg Bool.false_ne_true, hb, ← e1]
      exact ⟨rfl, fun h => by cases h⟩
    | true =>
      have e3 := e2 hb
      rw [if_pos rfl, ← e3, hb, if_pos rfl]
      obtain ⟨i1, i2⟩ := fold_eq r (stF w h c).1 (stF w h c).2.1
      refine ⟨i1, fun hh => ?_⟩
      rw [i2 hh]
theorem res_eq (l : List ByteArray) : resO (foldO stG l 64 4096) = resO (foldO stF l 64 4096) := by
  obtain ⟨i1, i2⟩ := fold_eq l 64 4096
  cases hb : (foldO stF l 64 4096).2.2.2 with
  | false =>
    rw [hb] at i1
    have e1 : outB (foldO stF l 64 4096) = false := by unfold outB; rw [hb]; rfl
    have e2 : outB (foldO stG l 64 4096) = false := by unfold outB; rw [← i1]; rfl
    unfold resO outV
    rw [e1, e2]; rfl
  | true => rw [i2 hb]
end Go.Proofs.YtljlfmmhoceihaaDoor
/-
option.Print, parquetref6.PrintOptions: what their loops carry.
-/
set_option linter.unusedSimpArgs false
set_option linter.unusedVariables false
namespace Go.Proofs.YtljlfmmhoceihaaDoor
open Go.RowKit Ax
noncomputable def O7 : Env Tryd.prog := O6.add [con_oparse, con_pparse]
abbrev spPr : LSpec := ⟨40, [(3, false, .str), (16, false, .sl cSz), (17, false, .int .i64), (18, false, .int .i64)], [], [], fun e => match e with | .exit _ => [3] | _ => []⟩
abbrev spPq : LSpec := ⟨50, [(3, false, .str), (4, false, .int .i64)], [(1, 0, 0)], [(25, cOp)], fun e => match e with | .exit _ => [3] | _ => []⟩
end Go.Proofs.YtljlfmmhoceihaaDoor
/-
option.Print, parquetref6.PrintOptions: their loops' trees.
-/
set_option linter.unusedSimpArgs false
set_option linter.unusedVariables false
namespace Go.Proofs.YtljlfmmhoceihaaDoor
open Go.RowKit Ax
noncomputable def tr_oprL (x : LSpec.X spPr × LSpec.Y spPr) : T (Rd spPr) :=
 .ite (decide (x.1.2.2.2.1 < x.1.2.2.1))
  (.get x.1.2.1 x.1.2.2.2.1 (fun v0 =>
   .need ((-9223372036854775808 : Int) ≤ v0.1 ∧ v0.1 ≤ (9223372036854775807 : Int)) (.need ((↑(ByteArray.size { data := #[(32 : UInt8), (115 : UInt8)] } + ByteArray.size { data := List.toArray (Go.Lib.itoa v0.1) }) : Int) ≤ IntKind.max .i64) (.lt ({ data := #[(32 : UInt8), (115 : UInt8)] } ++ { data := List.toArray (Go.Lib.itoa v0.1) }) (fun v1 =>
      .need ((↑(ByteArray.size v1 + ByteArray.size { data := #[(44 : UInt8)] }) : Int) ≤ IntKind.max .i64) (.lt (v1 ++ { data := #[(44 : UInt8)] }) (fun v2 =>
        .need ((-9223372036854775808 : Int) ≤ v0.2.1 ∧ v0.2.1 ≤ (9223372036854775807 : Int)) (.need ((↑(ByteArray.size v2 + ByteArray.size { data := List.toArray (Go.Lib.itoa v0.2.1) }) : Int) ≤ IntKind.max .i64) (.lt (v2 ++ { data := List.toArray (Go.Lib.itoa v0.2.1) }) (fun v3 =>
           .need ((↑(ByteArray.size v3 + ByteArray.size { data := #[(44 : UInt8)] }) : Int) ≤ IntKind.max .i64) (.lt (v3 ++ { data := #[(44 : UInt8)] }) (fun v4 =>
             .need ((-9223372036854775808 : Int) ≤ v0.2.2 ∧ v0.2.2 ≤ (9223372036854775807 : Int)) (.need ((↑(ByteArray.size v4 + ByteArray.size { data := List.toArray (Go.Lib.itoa v0.2.2) }) : Int) ≤ IntKind.max .i64) (.lt (v4 ++ { data := List.toArray (Go.Lib.itoa v0.2.2) }) (fun v5 =>
                .need ((↑(ByteArray.size x.1.1 + ByteArray.size v5) : Int) ≤ IntKind.max .i64) (.lt (x.1.1 ++ v5) (fun v6 =>
                  .ret (.again (v6, (x.1.2.1, (x.1.2.2.1, (IntKind.wrap .i64 (x.1.2.2.2.1 + (1 : Int)), ())))) ()))))))))))))))))))
  (.ret (.out (Go.Exit.exit (0 : Nat)) [(.one (.v (.string x.1.1)))] ()))
theorem tr_oprL_eq (x : LSpec.X spPr × LSpec.Y spPr) : LSpec.round spPr O7 (fun _ => none) (bodyOf Tryd.f16 0) x.1 x.2 = tr_oprL x := by kernel_rfl
noncomputable def tr_pprL (x : LSpec.X spPq × LSpec.Y spPq) : T (Rd spPq) :=
 .ite (decide (x.1.2.1 < (↑(List.length x.2.1.2.2) : Int)))
  (.need ((↑(ByteArray.size x.1.1 + ByteArray.size { data := #[(32 : UInt8), (115 : UInt8)] }) : Int) ≤ IntKind.max .i64) (.lt (x.1.1 ++ { data := #[(32 : UInt8), (115 : UInt8)] }) (fun v0 =>
    .get x.2.1.2.2 x.1.2.1 (fun v1 =>
     .get x.2.1.2.2 x.1.2.1 (fun v2 =>
      .get x.2.1.2.2 x.1.2.1 (fun v3 =>
       .need ((-9223372036854775808 : El (Cd.int .i64)) ≤ v1.1 ∧ v1.1 ≤ (9223372036854775807 : El (Cd.int .i64))) (.need ((↑(ByteArray.size v0 + ByteArray.size (mkB (Go.Lib.itoa v1.1))) : Int) ≤ IntKind.max .i64) (.lt (v0 ++ mkB (Go.Lib.itoa v1.1)) (fun v4 =>
          .need ((↑(ByteArray.size v4 + ByteArray.size { data := #[(44 : UInt8)] }) : Int) ≤ IntKind.max .i64) (.lt (v4 ++ { data := #[(44 : UInt8)] }) (fun v5 =>
            .need ((-9223372036854775808 : El (Cd.int .i64)) ≤ v2.2.1 ∧ v2.2.1 ≤ (9223372036854775807 : El (Cd.int .i64))) (.need ((↑(ByteArray.size v5 + ByteArray.size (mkB (Go.Lib.itoa v2.2.1))) : Int) ≤ IntKind.max .i64) (.lt (v5 ++ mkB (Go.Lib.itoa v2.2.1)) (fun v6 =>
               .need ((↑(ByteArray.size v6 + ByteArray.size { data := #[(44 : UInt8)] }) : Int) ≤ IntKind.max .i64) (.lt (v6 ++ { data := #[(44 : UInt8)] }) (fun v7 =>
                 .need ((-9223372036854775808 : El (Cd.int .i64)) ≤ v3.2.2 ∧ v3.2.2 ≤ (9223372036854775807 : El (Cd.int .i64))) (.need ((↑(ByteArray.size v7 + ByteArray.size (mkB (Go.Lib.itoa v3.2.2))) : Int) ≤ IntKind.max .i64) (.lt (v7 ++ mkB (Go.Lib.itoa v3.2.2)) (fun v8 =>
                    .ret (.again (v8, (IntKind.wrap .i64 (x.1.2.1 + (1 : Int)), ())) (x.2.1, ())))))))))))))))))))))
  (.ret (.out (Go.Exit.exit (0 : Nat)) [(.one (.v (.string x.1.1)))] (x.2.1, ())))
theorem tr_pprL_eq (x : LSpec.X spPq × LSpec.Y spPq) : LSpec.round spPq O7 (fun _ => none) (bodyOf Tryd.f17 0) x.1 x.2 = tr_pprL x := by kernel_rfl
end Go.Proofs.YtljlfmmhoceihaaDoor
/-
LexInts: its tree.
-/
set_option linter.unusedSimpArgs false
set_option linter.unusedVariables false
namespace Go.Proofs.YtljlfmmhoceihaaDoor
open Go.RowKit Ax
noncomputable def tr_lexints (x : Els [(false, .int .i32)]) : T Av :=
 .ite (!true)
  (.ret (.one (.v (.bool (false)))))
  (.need ((1000000000 : Int) ≠ (0 : Int)) (.need ((-9223372036854775808 : El (Cd.int .i64)) ≤ Int.tmod (IntKind.wrap .i64 (x.1)) (1000000000 : Int) ∧ Int.tmod (IntKind.wrap .i64 (x.1)) (1000000000 : Int) ≤ (9223372036854775807 : El (Cd.int .i64))) (.need (ByteArray.size (mkB (Go.Lib.itoa (Int.tmod (IntKind.wrap .i64 (x.1)) (1000000000 : Int)))) ≤ (281474976710656 : Nat)) (.need ((↑(ByteArray.size { data := #[(48 : UInt8)] } + ByteArray.size (mkB (Go.Lib.itoa (Int.tmod (IntKind.wrap .i64 (x.1)) (1000000000 : Int))))) : Int) ≤ IntKind.max .i64) (.lt ({ data := #[(48 : UInt8)] } ++ mkB (Go.Lib.itoa (Int.tmod (IntKind.wrap .i64 (x.1)) (1000000000 : Int)))) (fun v0 =>
       .need (ByteArray.size v0 ≤ (281474976710656 : Nat)) (.need ((↑(ByteArray.size (mkB (Go.Lib.itoa (Int.tmod (IntKind.wrap .i64 (x.1)) (1000000000 : Int)))) + ByteArray.size { data := #[(48 : UInt8), (48 : UInt8), (48 : UInt8), (48 : UInt8), (48 : UInt8), (48 : UInt8), (48 : UInt8), (48 : UInt8), (48 : UInt8)] }) : Int) ≤ IntKind.max .i64) (.lt (mkB (Go.Lib.itoa (Int.tmod (IntKind.wrap .i64 (x.1)) (1000000000 : Int))) ++ { data := #[(48 : UInt8), (48 : UInt8), (48 : UInt8), (48 : UInt8), (48 : UInt8), (48 : UInt8), (48 : UInt8), (48 : UInt8), (48 : UInt8)] }) (fun v1 =>
          .need (ByteArray.size v1 ≤ (281474976710656 : Nat)) (.need ((↑(ByteArray.size (mkB (Go.Lib.itoa (Int.tmod (IntKind.wrap .i64 (x.1)) (1000000000 : Int)))) + ByteArray.size { data := #[(120 : UInt8)] }) : Int) ≤ IntKind.max .i64) (.lt (mkB (Go.Lib.itoa (Int.tmod (IntKind.wrap .i64 (x.1)) (1000000000 : Int))) ++ { data := #[(120 : UInt8)] }) (fun v2 =>
             .need (ByteArray.size v2 ≤ (281474976710656 : Nat)) (.need (ByteArray.size { data := #[(45 : UInt8), (48 : UInt8)] } ≤ (281474976710656 : Nat)) (.ite (lintB (mkB (Go.Lib.itoa (Int.tmod (IntKind.wrap .i64 (x.1)) (1000000000 : Int)))))
                (.ite ((if lintB (mkB (Go.Lib.itoa (Int.tmod (IntKind.wrap .i64 (x.1)) (1000000000 : Int)))) = true then atoiV (mkB (Go.Lib.itoa (Int.tmod (IntKind.wrap .i64 (x.1)) (1000000000 : Int)))) else (0 : Int)) == Int.tmod (IntKind.wrap .i64 (x.1)) (1000000000 : Int))
                 (.ite (!lintB v0)
                  (.ite (!lintB v1)
                   (.ite (!lintB v2)
                    (.ret (.one (.v (.bool (!lintB { data := #[(45 : UInt8), (48 : UInt8)] })))))
                    (.ret (.one (.v (.bool (false))))))
                   (.ret (.one (.v (.bool (false))))))
                  (.ret (.one (.v (.bool (false))))))
                 (.ret (.one (.v (.bool (false))))))
                (.ret (.one (.v (.bool (false)))))))))))))))))))
theorem tr_lexints_eq (x : Els [(false, .int .i32)]) : fnP LC (fun _ => none) Tryd.f8 (encs [(false, .int .i32)] x) = tr_lexints x := by kernel_rfl
end Go.Proofs.YtljlfmmhoceihaaDoor
/-
LexInts: its run answers true.
-/
set_option linter.unusedSimpArgs false
set_option linter.unusedVariables false
namespace Go.Proofs.YtljlfmmhoceihaaDoor
open Go.RowKit Ax
theorem nd_le : ∀ (k u : Nat), u < 10 ^ (k + 1) → Lib.nDigits u ≤ k + 1
  | 0, u, h => by rw [Lib.nDigits_small (by simpa using h)]; exact Nat.le_refl _
  | k + 1, u, h => by
    by_cases h10 : u < 10
    · rw [Lib.nDigits_small h10]; omega
    · rw [Nat.pow_succ] at h
      have := nd_le k (u / 10) (by omega)
      rw [Lib.nDigits_big h10]; omega
theorem unm_itoa (v : Int) : unm (Lib.itoa v) = Lib.decDigits v.natAbs := by
  unfold Lib.itoa
  split
  · rfl
  · obtain ⟨c, r, e, h1, h2, h3⟩ := dec_head v.toNat
    have hc : c ≠ 45 := fun e => by subst e; exact absurd h1 (by decide)
    rw [show v.natAbs = v.toNat by omega, e, unm, if_neg hc]
theorem itoa_ne (v : Int) : Lib.itoa v ≠ [] := by
  intro e
  have h := unm_itoa v
  rw [e] at h
  obtain ⟨c, r, e2, _⟩ := dec_head v.natAbs
  rw [e2] at h
  cases h
theorem dec_pos (n : Nat) : 1 ≤ (Lib.decDigits n).length := by
  obtain ⟨c, r, e, _⟩ := dec_head n
  rw [e]; simp
theorem unm_app {l : List UInt8} (r : List UInt8) (h : l ≠ []) : unm (l ++ r) = unm l ++ r := by
  cases l with
  | nil => exact absurd rfl h
  | cons c t =>
    rw [List.cons_append, unm, unm]
    split <;> rfl
/-- a number of nine digits -/
theorem num9 {v : Int} (h : v.natAbs < 1000000000) : lintB (mkB (Lib.itoa v)) = true ∧ atoiV (mkB (Lib.itoa v)) = v := by
  have h9 : (unm (Lib.itoa v)).length ≤ 9 := by
    rw [unm_itoa, Lib.decDigits_length]
    exact nd_le 8 _ (by omega)
  obtain ⟨g1, g2⟩ := itoa_num h9
  have hb : lintB (mkB (Lib.itoa v)) = true := (lint_num _).1.trans g1
  exact ⟨hb, ((lint_num _).2 hb).trans g2⟩
theorem itoa_size {v : Int} (h : v.natAbs < 1000000000) : (mkB (Lib.itoa v)).size ≤ 10 := by
  show (Lib.itoa v).length ≤ 10
  have h9 : (Lib.decDigits v.natAbs).length ≤ 9 := by
    rw [Lib.decDigits_length]
    exact nd_le 8 _ (by omega)
  unfold Lib.itoa
  split
  · rw [List.length_cons]; omega
  · rw [show v.toNat = v.natAbs by omega]; omega
theorem num_zero (v : Int) : lintB (mkB (48 :: Lib.itoa v)) = false := by
  refine (lint_num _).1.trans ?_
  rw [data_mkB]
  obtain ⟨c, r, e⟩ : ∃ c r, Lib.itoa v = c :: r := by
    cases h : Lib.itoa v with
    | nil => exact absurd h (itoa_ne v)
    | cons c r => exact ⟨c, r, rfl⟩
  unfold numB
  rw [e]
  have hu : unm (48 :: c :: r) = 48 :: c :: r := rfl
  rw [hu]
  simp
theorem num_long (v : Int) (z : List UInt8) (hz : 9 ≤ z.length) : lintB (mkB (Lib.itoa v ++ z)) = false := by
  refine (lint_num _).1.trans ?_
  rw [data_mkB]
  unfold numB
  rw [unm_app _ (itoa_ne v), unm_itoa]
  have := dec_pos v.natAbs
  rw [decide_eq_false (show ¬ (Lib.decDigits v.natAbs ++ z).length ≤ 9 by rw [List.length_append]; omega), Bool.and_false]
  rfl
theorem num_x (v : Int) : lintB (mkB (Lib.itoa v ++ [120])) = false := by
  refine (lint_num _).1.trans ?_
  rw [data_mkB]
  unfold numB
  rw [unm_app _ (itoa_ne v), dgAll_app, show dgAll [120] = false from rfl, Bool.and_false, Bool.and_false]
theorem num_m0 : lintB ⟨#[45, 48]⟩ = false := numB_of _ _ (by kernel_rfl)
theorem lexints_wp (n : Int) (h0 : -2147483648 ≤ n) (h1 : n ≤ 2147483647) : (tr_lexints (n, ())).wp fun av => av = .one (.v (.bool true)) := by
  unfold tr_lexints
  simp only [T.wp]
  rw [IntWalk.i64_in n (by omega)]
  generalize hk : Int.tmod n 1000000000 = k
  have hka : k.natAbs < 1000000000 := by
    rw [← hk, Int.natAbs_tmod]
    exact Nat.mod_lt _ (by decide)
  obtain ⟨n1, n2⟩ := num9 hka
  have hs := itoa_size hka
  have e0 : ({ data := #[(48 : UInt8)] } : ByteArray) ++ mkB (Lib.itoa k) = mkB (48 :: Lib.itoa k) := by
    rw [show ({ data := #[(48 : UInt8)] } : ByteArray) = mkB [48] from rfl, mkB_app]; rfl
  have e1 : mkB (Lib.itoa k) ++ ({ data := #[(48 : UInt8), (48 : UInt8), (48 : UInt8), (48 : UInt8), (48 : UInt8), (48 : UInt8), (48 : UInt8), (48 : UInt8), (48 : UInt8)] } : ByteArray) = mkB (Lib.itoa k ++ [48, 48, 48, 48, 48, 48, 48, 48, 48]) := by
    rw [← mkB_app]; rfl
  have e2 : mkB (Lib.itoa k) ++ ({ data := #[(120 : UInt8)] } : ByteArray) = mkB (Lib.itoa k ++ [120]) := by
    rw [← mkB_app]; rfl
  rw [e0, e1, e2, n1, n2, num_zero, num_long _ _ (by decide), num_x, num_m0]
  have hl : (Lib.itoa k).length ≤ 10 := hs
  have z0 : (mkB (48 :: Lib.itoa k)).size ≤ 281474976710656 := by show (48 :: Lib.itoa k).length ≤ _; rw [List.length_cons]; omega
  have z1 : (mkB (Lib.itoa k ++ [48, 48, 48, 48, 48, 48, 48, 48, 48])).size ≤ 281474976710656 := by show (Lib.itoa k ++ _).length ≤ _; rw [List.length_append]; simp only [List.length_cons, List.length_nil]; omega
  have z2 : (mkB (Lib.itoa k ++ [120])).size ≤ 281474976710656 := by show (Lib.itoa k ++ _).length ≤ _; rw [List.length_append]; simp only [List.length_cons, List.length_nil]; omega
  refine ⟨fun h => Bool.noConfusion h, fun _ => ⟨by decide, ⟨show (-9223372036854775808 : Int) ≤ k by omega, show k ≤ 9223372036854775807 by omega⟩, by omega, ?_, z0, ?_, z1, ?_, z2, by decide, fun _ => ⟨fun _ => ⟨fun _ => ⟨fun _ => ⟨fun _ => rfl, fun h => Bool.noConfusion h⟩, fun h => Bool.noConfusion h⟩, fun h => Bool.noConfusion h⟩, fun h => ?_⟩, fun h => Bool.noConfusion h⟩⟩
  · show ((1 + (mkB (Lib.itoa k)).size : Nat) : Int) ≤ 9223372036854775807
    omega
  · show (((mkB (Lib.itoa k)).size + 9 : Nat) : Int) ≤ 9223372036854775807
    omega
  · show (((mkB (Lib.itoa k)).size + 1 : Nat) : Int) ≤ 9223372036854775807
    omega
  · simp at h
end Go.Proofs.YtljlfmmhoceihaaDoor
/-
option.Print, parquetref6.PrintOptions: their loops.
-/
set_option linter.unusedSimpArgs false
set_option linter.unusedVariables false
namespace Go.Proofs.YtljlfmmhoceihaaDoor
open Go.RowKit Ax
def In64 (z : Int) : Prop := -9223372036854775808 ≤ z ∧ z ≤ 9223372036854775807
def SzFit (s : Sz) : Prop := In64 s.1 ∧ In64 s.2.1 ∧ In64 s.2.2
def szL (s : Sz) : List UInt8 := [32, 115] ++ Lib.itoa s.1 ++ [44] ++ Lib.itoa s.2.1 ++ [44] ++ Lib.itoa s.2.2
def szsL : List Sz → List UInt8
  | [] => []
  | s :: r => szL s ++ szsL r
theorem itoa_20 {v : Int} (h : In64 v) : (Lib.itoa v).length ≤ 20 := by
  have h9 : (Lib.decDigits v.natAbs).length ≤ 19 := by
    rw [Lib.decDigits_length]
    exact nd_le 18 _ (by unfold In64 at h; omega)
  unfold Lib.itoa
  split
  · rw [List.length_cons]; omega
  · rw [show v.toNat = v.natAbs by omega]; omega
theorem mkB_size (l : List UInt8) : (mkB l).size = l.length := rfl
abbrev FitAt (n i : Int) (l : List Sz) (acc : ByteArray) : Prop := 0 ≤ i ∧ n = (l.length : Int) ∧ l.length ≤ 1000 ∧ (∀ s ∈ l, SzFit s) ∧ (acc.size : Int) + 64 * ((l.length : Int) - i) ≤ 1000000000 ∧ i ≤ (l.length : Int)
def outPr (x : LSpec.X spPr) (y : LSpec.Y spPr) : T (Exit × List Av × LSpec.Y spPr) :=
  .need (FitAt x.2.2.1 x.2.2.2.1 x.2.1 x.1) (.ret (.exit 0, [.one (.v (.string (mkB (x.1.data.toList ++ szsL (List.drop (Int.toNat x.2.2.2.1) x.2.1)))))], ()))
theorem opr_core (acc : ByteArray) (l : List Sz) (n i : Int) (Q : Exit × List Av × LSpec.Y spPr → Prop) (h : (outPr (acc, l, n, i, ()) ()).wp Q) : (tr_oprL ((acc, l, n, i, ()), ())).wp fun r => match r with
      | .again x' y' => (List.length x'.2.1 - Int.toNat x'.2.2.2.1) < l.length - i.toNat ∧ (outPr x' y').wp Q
      | .out e avs y' => Q (e, avs, y') := by
  unfold tr_oprL
  unfold outPr FitAt at h ⊢
  simp only [T.wp] at h ⊢
  dsimp only [El, vts, spPr, cSz] at h ⊢
  obtain ⟨⟨i0, hn, hl, hf, hs, hil⟩, hq⟩ := h
  obtain ⟨a, rfl⟩ : ∃ a, acc = mkB a := ⟨_, (mkB_data acc).symm⟩
  rw [data_mkB] at hq
  refine ⟨fun hlt => ?_, fun hge => ?_⟩
  · have hlt := of_decide_eq_true hlt
    obtain ⟨u, hu⟩ := elem_at (l := l) i0 (by omega)
    obtain ⟨f1, f2, f3⟩ := hf u (List.mem_of_getElem? hu)
    have l1 := itoa_20 f1
    have l2 := itoa_20 f2
    have l3 := itoa_20 f3
    rw [drop_at i0 hu, szsL, ← List.append_assoc] at hq
    have eb : ∀ q : List UInt8, ({ data := q.toArray } : ByteArray) = mkB q := fun _ => rfl
    have e1 : ({ data := #[(32 : UInt8), (115 : UInt8)] } : ByteArray) = mkB [32, 115] := rfl
    have e2 : ({ data := #[(44 : UInt8)] } : ByteArray) = mkB [44] := rfl
    rw [e1, e2]
    simp only [eb, mkB_app, mkB_size, List.length_append, List.length_cons, List.length_nil] at hs ⊢
    have hM : IntKind.max .i64 = 9223372036854775807 := rfl
    rw [hM]
    refine ⟨u, i0, hu, f1, by omega, by omega, f2, by omega, by omega, f3, by omega, by unfold szL at *; omega, ?_⟩
    rw [IntWalk.i64_in (i + 1) (by omega)]
    refine ⟨by omega, ⟨by omega, hn, hl, hf, ?_, by omega⟩, ?_⟩
    · omega
    · exact hq
  · have hge := of_decide_eq_false hge
    rw [drop_end (by omega), szsL, List.append_nil] at hq
    exact hq
theorem oprL_ok : LoopOk Tryd.prog 0 (bodyOf Tryd.f16 0) (spPr.run outPr) :=
  loop_ok (E := O7) (L := fun _ => none) mixed 0 (loops_none _ _ _) spPr (Nat.zero_le _) outPr (fun x _ => List.length x.2.1 - Int.toNat x.2.2.2.1) (by
    rintro ⟨acc, l, n, i, ⟨⟩⟩ ⟨⟩ Q h
    rw [tr_oprL_eq ((acc, l, n, i, ()), ())]
    exact opr_core acc l n i Q h)
noncomputable def lpPr : Loops := oneL 3 (spPr.run outPr)
def outPq (x : LSpec.X spPq) (y : LSpec.Y spPq) : T (Exit × List Av × LSpec.Y spPq) :=
  .need (FitAt (List.length y.1.2.2) x.2.1 y.1.2.2 x.1) (.ret (.exit 0, [.one (.v (.string (mkB (x.1.data.toList ++ szsL (List.drop (Int.toNat x.2.1) y.1.2.2)))))], y))
theorem ppr_core (acc : ByteArray) (i h0 c0 : Int) (l : List Sz) (Q : Exit × List Av × LSpec.Y spPq → Prop) (h : (outPq (acc, i, ()) ((h0, c0, l), ())).wp Q) : (tr_pprL ((acc, i, ()), ((h0, c0, l), ()))).wp fun r => match r with
      | .again x' y' => (List.length y'.1.2.2 - Int.toNat x'.2.1) < l.length - i.toNat ∧ (outPq x' y').wp Q
      | .out e avs y' => Q (e, avs, y') := by
  unfold tr_pprL
  unfold outPq FitAt at h ⊢
  simp only [T.wp] at h ⊢
  dsimp only [El, vts, spPq, cSz, cOp] at h ⊢
  obtain ⟨⟨i0, hn, hl, hf, hs, hil⟩, hq⟩ := h
  obtain ⟨a, rfl⟩ : ∃ a, acc = mkB a := ⟨_, (mkB_data acc).symm⟩
  rw [data_mkB] at hq
  refine ⟨fun hlt => ?_, fun hge => ?_⟩
  · have hlt := of_decide_eq_true hlt
    obtain ⟨u, hu⟩ := elem_at (l := l) i0 (by omega)
    obtain ⟨f1, f2, f3⟩ := hf u (List.mem_of_getElem? hu)
    have l1 := itoa_20 f1
    have l2 := itoa_20 f2
    have l3 := itoa_20 f3
    rw [drop_at i0 hu, szsL, ← List.append_assoc] at hq
    have e1 : ({ data := #[(32 : UInt8), (115 : UInt8)] } : ByteArray) = mkB [32, 115] := rfl
    have e2 : ({ data := #[(44 : UInt8)] } : ByteArray) = mkB [44] := rfl
    have hM : IntKind.max .i64 = 9223372036854775807 := rfl
    rw [e1, e2, hM]
    refine ⟨?_, u, i0, hu, u, i0, hu, u, i0, hu, f1, ?_⟩
    · simp only [mkB_app, mkB_size, List.length_append, List.length_cons, List.length_nil] at hs ⊢
      omega
    · simp only [mkB_app, mkB_size, List.length_append, List.length_cons, List.length_nil] at hs ⊢
      refine ⟨by omega, by omega, f2, by omega, by omega, f3, by omega, ?_⟩
      rw [IntWalk.i64_in (i + 1) (by omega)]
      refine ⟨by omega, ⟨by omega, trivial, hl, hf, ?_, by omega⟩, ?_⟩
      · omega
      · rw [data_mkB]
        unfold szL at hq
        simp only [List.append_assoc] at hq ⊢
        exact hq
  · have hge := of_decide_eq_false hge
    rw [drop_end (by omega), szsL, List.append_nil] at hq
    exact hq
theorem pprL_ok : LoopOk Tryd.prog 0 (bodyOf Tryd.f17 0) (spPq.run outPq) :=
  loop_ok (E := O7) (L := fun _ => none) mixed 0 (loops_none _ _ _) spPq (Nat.zero_le _) outPq (fun x y => List.length y.1.2.2 - Int.toNat x.2.1) (by
    rintro ⟨acc, i, ⟨⟩⟩ ⟨⟨h0, c0, l⟩, ⟨⟩⟩ Q h
    rw [tr_pprL_eq ((acc, i, ()), ((h0, c0, l), ()))]
    exact ppr_core acc i h0 c0 l Q h)
noncomputable def lpPq : Loops := oneL 3 (spPq.run outPq)
end Go.Proofs.YtljlfmmhoceihaaDoor
/-
option.Print, parquetref6.PrintOptions: their trees.
-/
set_option linter.unusedSimpArgs false
set_option linter.unusedVariables false
namespace Go.Proofs.YtljlfmmhoceihaaDoor
open Go.RowKit Ax
noncomputable def tr_oprint (x : Els [(true, cOp)]) : T Av :=
 .need ((-9223372036854775808 : Int) ≤ x.1.1 ∧ x.1.1 ≤ (9223372036854775807 : Int)) (.need ((↑(ByteArray.size { data := #[(104 : UInt8)] } + ByteArray.size { data := List.toArray (Go.Lib.itoa x.1.1) }) : Int) ≤ IntKind.max .i64) (.lt ({ data := #[(104 : UInt8)] } ++ { data := List.toArray (Go.Lib.itoa x.1.1) }) (fun v0 =>
    .need ((↑(ByteArray.size v0 + ByteArray.size { data := #[(32 : UInt8), (99 : UInt8)] }) : Int) ≤ IntKind.max .i64) (.lt (v0 ++ { data := #[(32 : UInt8), (99 : UInt8)] }) (fun v1 =>
      .need ((-9223372036854775808 : Int) ≤ x.1.2.1 ∧ x.1.2.1 ≤ (9223372036854775807 : Int)) (.need ((↑(ByteArray.size v1 + ByteArray.size { data := List.toArray (Go.Lib.itoa x.1.2.1) }) : Int) ≤ IntKind.max .i64) (.lt (v1 ++ { data := List.toArray (Go.Lib.itoa x.1.2.1) }) (fun v2 =>
         .need (FitAt (↑(List.length x.1.2.2) : Int) (0 : Int) x.1.2.2 v2) (.ret (.one (.v (.string (mkB (Array.toList (ByteArray.data v2) ++ szsL (List.drop (Int.toNat (0 : Int)) x.1.2.2)))))))))))))))
theorem tr_oprint_eq (x : Els [(true, cOp)]) : fnP O7 lpPr Tryd.f16 (encs [(true, cOp)] x) = tr_oprint x := by kernel_rfl
noncomputable def tr_pprint (x : Els [(true, cOp)]) : T Av :=
 .need ((-9223372036854775808 : El (Cd.int .i64)) ≤ x.1.1 ∧ x.1.1 ≤ (9223372036854775807 : El (Cd.int .i64))) (.need ((↑(ByteArray.size { data := #[(104 : UInt8)] } + ByteArray.size (mkB (Go.Lib.itoa x.1.1))) : Int) ≤ IntKind.max .i64) (.lt ({ data := #[(104 : UInt8)] } ++ mkB (Go.Lib.itoa x.1.1)) (fun v0 =>
    .need ((↑(ByteArray.size v0 + ByteArray.size { data := #[(32 : UInt8), (99 : UInt8)] }) : Int) ≤ IntKind.max .i64) (.lt (v0 ++ { data := #[(32 : UInt8), (99 : UInt8)] }) (fun v1 =>
      .need ((-9223372036854775808 : El (Cd.int .i64)) ≤ x.1.2.1 ∧ x.1.2.1 ≤ (9223372036854775807 : El (Cd.int .i64))) (.need ((↑(ByteArray.size v1 + ByteArray.size (mkB (Go.Lib.itoa x.1.2.1))) : Int) ≤ IntKind.max .i64) (.lt (v1 ++ mkB (Go.Lib.itoa x.1.2.1)) (fun v2 =>
         .need (FitAt (↑(List.length x.1.2.2) : Int) (0 : Int) x.1.2.2 v2) (.ret (.one (.v (.string (mkB (Array.toList (ByteArray.data v2) ++ szsL (List.drop (Int.toNat (0 : Int)) x.1.2.2)))))))))))))))
theorem tr_pprint_eq (x : Els [(true, cOp)]) : fnP O7 lpPq Tryd.f17 (encs [(true, cOp)] x) = tr_pprint x := by kernel_rfl
end Go.Proofs.YtljlfmmhoceihaaDoor
/-
option.Print, parquetref6.PrintOptions: what they tell.
-/
set_option linter.unusedSimpArgs false
set_option linter.unusedVariables false
namespace Go.Proofs.YtljlfmmhoceihaaDoor
open Go.RowKit Ax
def OFit (o : Op) : Prop := In64 o.1 ∧ In64 o.2.1 ∧ o.2.2.length ≤ 1000 ∧ ∀ s ∈ o.2.2, SzFit s
def prB (o : Op) : ByteArray := mkB ([104] ++ Lib.itoa o.1 ++ [32, 99] ++ Lib.itoa o.2.1 ++ szsL o.2.2)
noncomputable def con_oprint : Con Tryd.prog := ⟨16, [], _, cf_oprint, val_con (E := O7) (L := lpPr) mixed Tryd.func16 (one_loop oprL_ok (by kernel_rfl)) [(true, cOp)] (fun x => OFit x.1) (fun x => .one (.v (.string (prB x.1)))) fun x hx => by
  rw [tr_oprint_eq]
  obtain ⟨o, u⟩ := x
  revert o
  intro (o : Op) (hx : OFit o)
  obtain ⟨h, c, l⟩ := o
  obtain ⟨f1, f2, hl, f3⟩ := hx
  have l1 := itoa_20 f1
  have l2 := itoa_20 f2
  unfold tr_oprint
  simp only [T.wp]
  dsimp only [El, cOp, cSz] at *
  have eb : ∀ q : List UInt8, ({ data := q.toArray } : ByteArray) = mkB q := fun _ => rfl
  have e1 : ({ data := #[(32 : UInt8), (99 : UInt8)] } : ByteArray) = mkB [32, 99] := rfl
  have e2 : ({ data := #[(104 : UInt8)] } : ByteArray) = mkB [104] := rfl
  have hM : IntKind.max .i64 = 9223372036854775807 := rfl
  rw [e1, e2, hM]
  simp only [eb, mkB_app, mkB_size, List.length_append, List.length_cons, List.length_nil]
  refine ⟨f1, by omega, by omega, f2, by omega, ⟨Int.le_refl 0, rfl, hl, f3, ?_, by omega⟩, rfl⟩
  simp only [mkB_size, List.length_append, List.length_cons, List.length_nil]
  omega⟩
noncomputable def con_pprint : Con Tryd.prog := ⟨17, [], _, cf_pprint, val_con (E := O7) (L := lpPq) mixed Tryd.func17 (one_loop pprL_ok (by kernel_rfl)) [(true, cOp)] (fun x => OFit x.1) (fun x => .one (.v (.string (prB x.1)))) fun x hx => by
  rw [tr_pprint_eq]
  obtain ⟨o, u⟩ := x
  revert o
  intro (o : Op) (hx : OFit o)
  obtain ⟨h, c, l⟩ := o
  obtain ⟨f1, f2, hl, f3⟩ := hx
  have l1 := itoa_20 f1
  have l2 := itoa_20 f2
  unfold tr_pprint
  simp only [T.wp]
  dsimp only [El, cOp, cSz] at *
  have e1 : ({ data := #[(32 : UInt8), (99 : UInt8)] } : ByteArray) = mkB [32, 99] := rfl
  have e2 : ({ data := #[(104 : UInt8)] } : ByteArray) = mkB [104] := rfl
  have hM : IntKind.max .i64 = 9223372036854775807 := rfl
  rw [e1, e2, hM]
  simp only [mkB_app, mkB_size, List.length_append, List.length_cons, List.length_nil]
  refine ⟨f1, by omega, by omega, f2, by omega, ⟨Int.le_refl 0, rfl, hl, f3, ?_, by omega⟩, rfl⟩
  simp only [mkB_size, List.length_append, List.length_cons, List.length_nil]
  omega⟩
noncomputable def O8 : Env Tryd.prog := O7.add [con_oprint, con_pprint]
theorem cf_known8 (xs : Array Value) (w : World) : (callFunc 10 xs).run Tryd.prog w = .ok (.enter 10 xs) w := by kernel_rfl
theorem cf_otells (xs : Array Value) (w : World) : (callFunc 3 xs).run Tryd.prog w = .ok (.enter 3 xs) w := by kernel_rfl
theorem cf_oback (xs : Array Value) (w : World) : (callFunc 4 xs).run Tryd.prog w = .ok (.enter 4 xs) w := by kernel_rfl
theorem cf_osides (xs : Array Value) (w : World) : (callFunc 5 xs).run Tryd.prog w = .ok (.enter 5 xs) w := by kernel_rfl
end Go.Proofs.YtljlfmmhoceihaaDoor
/-
parquetlaw8.known: its tree.
-/
set_option linter.unusedSimpArgs false
set_option linter.unusedVariables false
namespace Go.Proofs.YtljlfmmhoceihaaDoor
open Go.RowKit Ax
noncomputable def tr_known8 (x : Els []) : T Av :=
 .need (WordsFit [{ data := #[(104 : UInt8), (52 : UInt8)] }, { data := #[(99 : UInt8), (49 : UInt8), (48 : UInt8), (48 : UInt8)] }, { data := #[(115 : UInt8), (49 : UInt8), (44 : UInt8), (50 : UInt8), (44 : UInt8), (56 : UInt8)] }]) (.need (WordsFit [{ data := #[(104 : UInt8), (51 : UInt8)] }]) (.need (WordsFit []) (.ite (outB (foldO stF [{ data := #[(104 : UInt8), (52 : UInt8)] }, { data := #[(99 : UInt8), (49 : UInt8), (48 : UInt8), (48 : UInt8)] }, { data := #[(115 : UInt8), (49 : UInt8), (44 : UInt8), (50 : UInt8), (44 : UInt8), (56 : UInt8)] }] (64 : Int) (4096 : Int)))
     (.ite ((outV (foldO stF [{ data := #[(104 : UInt8), (52 : UInt8)] }, { data := #[(99 : UInt8), (49 : UInt8), (48 : UInt8), (48 : UInt8)] }, { data := #[(115 : UInt8), (49 : UInt8), (44 : UInt8), (50 : UInt8), (44 : UInt8), (56 : UInt8)] }] (64 : Int) (4096 : Int))).1 == (4 : Int))
      (.ite ((outV (foldO stF [{ data := #[(104 : UInt8), (52 : UInt8)] }, { data := #[(99 : UInt8), (49 : UInt8), (48 : UInt8), (48 : UInt8)] }, { data := #[(115 : UInt8), (49 : UInt8), (44 : UInt8), (50 : UInt8), (44 : UInt8), (56 : UInt8)] }] (64 : Int) (4096 : Int))).2.1 == (100 : Int))
       (.ite ((↑(List.length (outV (foldO stF [{ data := #[(104 : UInt8), (52 : UInt8)] }, { data := #[(99 : UInt8), (49 : UInt8), (48 : UInt8), (48 : UInt8)] }, { data := #[(115 : UInt8), (49 : UInt8), (44 : UInt8), (50 : UInt8), (44 : UInt8), (56 : UInt8)] }] (64 : Int) (4096 : Int))).2.2) : Int) == (1 : Int))
        (.get (outV (foldO stF [{ data := #[(104 : UInt8), (52 : UInt8)] }, { data := #[(99 : UInt8), (49 : UInt8), (48 : UInt8), (48 : UInt8)] }, { data := #[(115 : UInt8), (49 : UInt8), (44 : UInt8), (50 : UInt8), (44 : UInt8), (56 : UInt8)] }] (64 : Int) (4096 : Int))).2.2 ((0 : Int)) (fun v0 =>
         .ite (v0.1 == (1 : Int) && (v0.2.1 == (2 : Int) && (v0.2.2 == (8 : Int) && true)))
          (.ite (!outB (foldO stF [{ data := #[(104 : UInt8), (51 : UInt8)] }] (64 : Int) (4096 : Int)))
           (.ite (outB (foldO stF [] (64 : Int) (4096 : Int)))
            (.ite ((outV (foldO stF [] (64 : Int) (4096 : Int))).1 == (64 : Int))
             (.ite ((outV (foldO stF [] (64 : Int) (4096 : Int))).2.1 == (4096 : Int))
              (.ite (optB (outV (foldO stF [{ data := #[(104 : UInt8), (52 : UInt8)] }, { data := #[(99 : UInt8), (49 : UInt8), (48 : UInt8), (48 : UInt8)] }, { data := #[(115 : UInt8), (49 : UInt8), (44 : UInt8), (50 : UInt8), (44 : UInt8), (56 : UInt8)] }] (64 : Int) (4096 : Int))))
               (.ite (!optB ((0 : Int), (0 : Int), []))
                (.need (OFit (outV (foldO stF [{ data := #[(104 : UInt8), (52 : UInt8)] }, { data := #[(99 : UInt8), (49 : UInt8), (48 : UInt8), (48 : UInt8)] }, { data := #[(115 : UInt8), (49 : UInt8), (44 : UInt8), (50 : UInt8), (44 : UInt8), (56 : UInt8)] }] (64 : Int) (4096 : Int)))) (.ret (.one (.v (.bool (ByteArray.toList (prB (outV (foldO stF [{ data := #[(104 : UInt8), (52 : UInt8)] }, { data := #[(99 : UInt8), (49 : UInt8), (48 : UInt8), (48 : UInt8)] }, { data := #[(115 : UInt8), (49 : UInt8), (44 : UInt8), (50 : UInt8), (44 : UInt8), (56 : UInt8)] }] (64 : Int) (4096 : Int)))) == ByteArray.toList { data := #[(104 : UInt8), (52 : UInt8), (32 : UInt8), (99 : UInt8), (49 : UInt8), (48 : UInt8), (48 : UInt8), (32 : UInt8), (115 : UInt8), (49 : UInt8), (44 : UInt8), (50 : UInt8), (44 : UInt8), (56 : UInt8)] }))))))
                (.ret (.one (.v (.bool (false))))))
               (.ret (.one (.v (.bool (false))))))
              (.ret (.one (.v (.bool (false))))))
             (.ret (.one (.v (.bool (false))))))
            (.ret (.one (.v (.bool (false))))))
           (.ret (.one (.v (.bool (false))))))
          (.ret (.one (.v (.bool (false)))))))
        (.ret (.one (.v (.bool (false))))))
       (.ret (.one (.v (.bool (false))))))
      (.ret (.one (.v (.bool (false))))))
     (.ret (.one (.v (.bool (false))))))))
theorem tr_known8_eq (x : Els []) : fnP O8 (fun _ => none) Tryd.f10 (encs [] x) = tr_known8 x := by kernel_rfl
end Go.Proofs.YtljlfmmhoceihaaDoor
/-
parquetlaw8.known answers true.
-/
set_option linter.unusedSimpArgs false
set_option linter.unusedVariables false
namespace Go.Proofs.YtljlfmmhoceihaaDoor
open Go.RowKit Ax
def wA : List ByteArray := [{ data := #[(104 : UInt8), (52 : UInt8)] }, { data := #[(99 : UInt8), (49 : UInt8), (48 : UInt8), (48 : UInt8)] }, { data := #[(115 : UInt8), (49 : UInt8), (44 : UInt8), (50 : UInt8), (44 : UInt8), (56 : UInt8)] }]
def wB : List ByteArray := [{ data := #[(104 : UInt8), (51 : UInt8)] }]
theorem foldA : foldO stF wA 64 4096 = (4, 100, [(1, 2, 8)], true) := by kernel_rfl
theorem foldB : foldO stF wB 64 4096 = (3, 4096, [], true) := by kernel_rfl
theorem foldN : foldO stF [] 64 4096 = (64, 4096, [], true) := rfl
theorem kB8 : optB (4, 100, [(1, 2, 8)]) = true := by kernel_rfl
theorem kB64 : optB (64, 4096, []) = true := by kernel_rfl
theorem kB3 : optB (3, 4096, []) = false := by kernel_rfl
theorem kB0 : optB (0, 0, []) = false := by kernel_rfl
theorem outA : outB (4, 100, [(1, 2, 8)], true) = true := by kernel_rfl
theorem outAV : outV (4, 100, [(1, 2, 8)], true) = (4, 100, [(1, 2, 8)]) := by kernel_rfl
theorem outBB : outB (3, 4096, [], true) = false := by kernel_rfl
theorem outN : outB (64, 4096, [], true) = true := by kernel_rfl
theorem outNV : outV (64, 4096, [], true) = (64, 4096, []) := by kernel_rfl
theorem prA : prB (4, 100, [(1, 2, 8)]) = ⟨#[104, 52, 32, 99, 49, 48, 48, 32, 115, 49, 44, 50, 44, 56]⟩ := by kernel_rfl
theorem known8_wp : (tr_known8 ()).wp fun av => av = .one (.v (.bool true)) := by
  unfold tr_known8
  rw [show ([{ data := #[(104 : UInt8), (52 : UInt8)] }, { data := #[(99 : UInt8), (49 : UInt8), (48 : UInt8), (48 : UInt8)] }, { data := #[(115 : UInt8), (49 : UInt8), (44 : UInt8), (50 : UInt8), (44 : UInt8), (56 : UInt8)] }] : List ByteArray) = wA from rfl, show ([{ data := #[(104 : UInt8), (51 : UInt8)] }] : List ByteArray) = wB from rfl, foldA, foldB, foldN, outA, outAV, outBB, outN, outNV, kB8, kB0, prA]
  simp only [T.wp]
  refine ⟨⟨by decide, by decide⟩, ⟨by decide, by decide⟩, ⟨by decide, by decide⟩, fun _ => ⟨fun _ => ⟨fun _ => ⟨fun _ => ⟨(1, 2, 8), by decide, rfl, fun _ => ⟨fun _ => ⟨fun _ => ⟨fun _ => ⟨fun _ => ⟨fun _ => ⟨fun _ => ⟨⟨by unfold In64; decide, by unfold In64; decide, by decide, ?_⟩, ?_⟩, fun h => ?_⟩, fun h => ?_⟩, fun h => ?_⟩, fun h => ?_⟩, fun h => ?_⟩, fun h => ?_⟩, fun h => ?_⟩, fun h => ?_⟩, fun h => ?_⟩, fun h => ?_⟩, fun h => ?_⟩
  all_goals first
    | (exfalso; revert h; decide)
    | (exact absurd h (by kernel_rfl))
    | skip
  · intro s hs
    rw [List.mem_singleton] at hs
    subst hs
    unfold SzFit In64
    decide
  · rw [bytes_beq, decide_eq_true rfl]
noncomputable def con_known8 : Con Tryd.prog := ⟨10, [], _, cf_known8, kb_con' (tot_con (E := O8) mixed Tryd.func10 no_loops [] (fun _ => .one (.v (.bool true))) fun x => by
  rw [tr_known8_eq]
  exact known8_wp)⟩
noncomputable def O9 : Env Tryd.prog := O8.add [con_known8]
end Go.Proofs.YtljlfmmhoceihaaDoor
/-
OptionTells: its loop's tree.
-/
set_option linter.unusedSimpArgs false
set_option linter.unusedVariables false
namespace Go.Proofs.YtljlfmmhoceihaaDoor
open Go.RowKit Ax
abbrev spTl : LSpec := ⟨65, [(0, false, .sl .str), (5, false, .int .i64)], [(3, 0, 0)], [(25, cOp)], fun e => match e with | .ret => [4] | .exit _ => [0] | _ => []⟩
end Go.Proofs.YtljlfmmhoceihaaDoor
/-
OptionTells: its loop's tree.
-/
set_option linter.unusedSimpArgs false
set_option linter.unusedVariables false
namespace Go.Proofs.YtljlfmmhoceihaaDoor
open Go.RowKit Ax
noncomputable def tr_tlL (x : LSpec.X spTl × LSpec.Y spTl) : T (Rd spTl) :=
 .ite (decide (x.1.2.1 < (↑(List.length x.1.1) : Int)))
  (.get x.1.1 x.1.2.1 (fun v0 =>
   .ite (decide ((↑(ByteArray.size v0) : Int) > (40 : Int)))
    (.ret (.out (Go.Exit.ret) [(.one (.v (.bool (true))))] (x.2.1, ())))
    (.ret (.again (x.1.1, (IntKind.wrap .i64 (x.1.2.1 + (1 : Int)), ())) (x.2.1, ())))))
  (.ret (.out (Go.Exit.exit (0 : Nat)) [(.one (.ds (Cd.str) x.1.1))] (x.2.1, ())))
theorem tr_tlL_eq (x : LSpec.X spTl × LSpec.Y spTl) : LSpec.round spTl O9 (fun _ => none) (bodyOf Tryd.f3 0) x.1 x.2 = tr_tlL x := by kernel_rfl
end Go.Proofs.YtljlfmmhoceihaaDoor
/-
OptionTells: its loop.
-/
set_option linter.unusedSimpArgs false
set_option linter.unusedVariables false
namespace Go.Proofs.YtljlfmmhoceihaaDoor
open Go.RowKit Ax
def w40 (w : ByteArray) : Bool := decide (w.size ≤ 40)
def outTl (x : LSpec.X spTl) (y : LSpec.Y spTl) : T (Exit × List Av × LSpec.Y spTl) :=
  .need (0 ≤ (x.2.1 : Int) ∧ List.length x.1 ≤ 1000) (.ite (List.all (List.drop (Int.toNat x.2.1) x.1) w40) (.ret (.exit 0, [.one (.ds .str x.1)], y)) (.ret (.ret, [.one (.v (.bool true))], y)))
theorem tl_core (l : List ByteArray) (i : Int) (o : Op) (Q : Exit × List Av × LSpec.Y spTl → Prop) (h : (outTl (l, i, ()) (o, ())).wp Q) : (tr_tlL ((l, i, ()), (o, ()))).wp fun r => match r with
      | .again x' y' => (List.length x'.1 - Int.toNat x'.2.1) < l.length - i.toNat ∧ (outTl x' y').wp Q
      | .out e avs y' => Q (e, avs, y') := by
  unfold tr_tlL
  unfold outTl at h ⊢
  simp only [T.wp] at h ⊢
  dsimp only [El, vts, spTl, cSz, cOp] at h ⊢
  obtain ⟨⟨i0, hl⟩, hy, hz⟩ := h
  refine ⟨fun hlt => ?_, fun hge => ?_⟩
  · have hlt := of_decide_eq_true hlt
    obtain ⟨u, hu⟩ := elem_at (l := l) i0 hlt
    rw [drop_at i0 hu, List.all_cons] at hy hz
    refine ⟨u, i0, hu, fun h1 => hz ?_, fun h1 => ?_⟩
    · have h1 : (u.size : Int) > 40 := of_decide_eq_true h1
      rw [show w40 u = false from decide_eq_false (by omega)]; rfl
    · have h1 : ¬ (u.size : Int) > 40 := of_decide_eq_false h1
      rw [show w40 u = true from decide_eq_true (by omega), Bool.true_and] at hy hz
      rw [IntWalk.i64_in (i + 1) (by omega)]
      exact ⟨by omega, ⟨by omega, hl⟩, hy, hz⟩
  · have hge := of_decide_eq_false hge
    rw [drop_end (by omega)] at hy
    exact hy rfl
theorem tlL_ok : LoopOk Tryd.prog 0 (bodyOf Tryd.f3 0) (spTl.run outTl) :=
  loop_ok (E := O9) (L := fun _ => none) mixed 0 (loops_none _ _ _) spTl (Nat.zero_le _) outTl (fun x _ => List.length x.1 - Int.toNat x.2.1) (by
    rintro ⟨l, i, ⟨⟩⟩ ⟨o, ⟨⟩⟩ Q h
    rw [tr_tlL_eq ((l, i, ()), (o, ()))]
    exact tl_core l i o Q h)
noncomputable def lpTl : Loops := oneL 6 (spTl.run outTl)
end Go.Proofs.YtljlfmmhoceihaaDoor
/-
OptionTells: its tree.
-/
set_option linter.unusedSimpArgs false
set_option linter.unusedVariables false
namespace Go.Proofs.YtljlfmmhoceihaaDoor
open Go.RowKit Ax
noncomputable def tr_otells (x : Els [(false, .sl .str), (true, cOp)]) : T Av :=
 .ite (!true)
  (.ret (.one (.v (.bool (false)))))
  (.ite (decide ((↑(List.length (x.1)) : Int) > (10 : Int)))
   (.ret (.one (.v (.bool (true)))))
   (.ite (decide ((↑(List.length x.2.1.2.2) : Int) > (8 : Int)))
    (.ret (.one (.v (.bool (true)))))
    (.need ((0 : El (Cd.int .i64)) ≤ (0 : Int) ∧ List.length (x.1) ≤ (1000 : Nat)) (.ite (List.all (List.drop (Int.toNat (0 : Int)) (x.1)) w40)
      (.need (WordsFit (x.1)) (.need (WordsFit (x.1)) (.need (List.length (outV (foldO stF (x.1) (64 : Int) (4096 : Int))).2.2 ≤ (1000 : Nat)) (.ite (decide (outV (foldO stF (x.1) (64 : Int) (4096 : Int)) = outV (foldO stG (x.1) (64 : Int) (4096 : Int))))
          (.ite (outB (foldO stF (x.1) (64 : Int) (4096 : Int)) == outB (foldO stG (x.1) (64 : Int) (4096 : Int)))
           (.ite (optB x.2.1 == optB x.2.1)
            (.need (OFit x.2.1) (.need (OFit x.2.1) (.ret (.one (.v (.bool (ByteArray.toList (prB x.2.1) == ByteArray.toList (prB x.2.1))))))))
            (.ret (.one (.v (.bool (false))))))
           (.ret (.one (.v (.bool (false))))))
          (.ret (.one (.v (.bool (false)))))))))
      (.ret (.one (.v (.bool (true)))))))))
theorem tr_otells_eq (x : Els [(false, .sl .str), (true, cOp)]) : fnP O9 lpTl Tryd.f3 (encs [(false, .sl .str), (true, cOp)] x) = tr_otells x := by kernel_rfl
end Go.Proofs.YtljlfmmhoceihaaDoor
/-
OptionTells: its run answers true.
-/
set_option linter.unusedSimpArgs false
set_option linter.unusedVariables false
namespace Go.Proofs.YtljlfmmhoceihaaDoor
open Go.RowKit Ax
theorem out_eq (l : List ByteArray) : outB (foldO stF l 64 4096) = outB (foldO stG l 64 4096) ∧ outV (foldO stF l 64 4096) = outV (foldO stG l 64 4096) := by
  obtain ⟨i1, i2⟩ := fold_eq l 64 4096
  cases hb : (foldO stF l 64 4096).2.2.2 with
  | false =>
    rw [hb] at i1
    have e1 : outB (foldO stF l 64 4096) = false := by unfold outB; rw [hb]; rfl
    have e2 : outB (foldO stG l 64 4096) = false := by unfold outB; rw [← i1]; rfl
    unfold outV
    rw [e1, e2]
    exact ⟨rfl, rfl⟩
  | true => rw [i2 hb]; exact ⟨rfl, rfl⟩
theorem outV_len (F : StO) : (outV F).2.2.length ≤ 4 := by
  unfold outV
  split
  · rename_i h
    unfold outB optB at h
    simp only [Bool.and_eq_true, decide_eq_true_eq] at h
    exact h.2.2.2.1
  · exact Nat.zero_le _
abbrev OIn (o : Op) : Prop := In64 o.1 ∧ In64 o.2.1 ∧ ∀ s ∈ o.2.2, SzFit s
theorem otells_wp (l : List ByteArray) (o : Op) (ho : OIn o) : (tr_otells (l, o, ())).wp fun av => av = .one (.v (.bool true)) := by
  unfold tr_otells
  simp only [T.wp]
  obtain ⟨e1, e2⟩ := out_eq l
  obtain ⟨f1, f2, f3⟩ := ho
  refine ⟨fun h => Bool.noConfusion h, fun _ => ⟨fun _ => trivial, fun h1 => ⟨fun _ => trivial, fun h2 => ?_⟩⟩⟩
  have h1 : ¬ (l.length : Int) > 10 := of_decide_eq_false h1
  have h2 : ¬ (o.2.2.length : Int) > 8 := of_decide_eq_false h2
  refine ⟨⟨Int.le_refl 0, by omega⟩, fun h3 => ?_, fun _ => trivial⟩
  have h3 : l.all w40 = true := h3
  have hw : WordsFit l := ⟨by omega, fun w hw => by
    have := of_decide_eq_true (List.all_eq_true.1 h3 w hw); omega⟩
  have hO : OFit o := ⟨f1, f2, by omega, f3⟩
  have hlen := outV_len (foldO stF l 64 4096)
  refine ⟨hw, hw, Nat.le_trans hlen (by decide), fun _ => ⟨fun _ => ⟨fun _ => ⟨hO, hO, ?_⟩, fun h => ?_⟩, fun h => ?_⟩, fun h => ?_⟩
  · exact congrArg (fun b => Av.one (.v (.bool b))) (by simp)
  · simp at h
  · rw [e1] at h; simp at h
  · exact absurd e2 (of_decide_eq_false h)
end Go.Proofs.YtljlfmmhoceihaaDoor
/-
How options are opened.
-/
set_option linter.unusedSimpArgs false
set_option linter.unusedVariables false
namespace Go.Proofs.YtljlfmmhoceihaaDoor
open Go.ChangeShapes Go.WideShapes Go.ChangeAt Go.RowKit Ax
theorem o_u16 : Opens Tryd.prog 37 (.int .u16) := opens_int (by kernel_rfl) (by kernel_rfl)
theorem o_size : Opens Tryd.prog 56 cSz := opens_struct Tryd.underlying56 (by kernel_rfl) ⟨rfl, o_int, rfl, o_int, rfl, o_int⟩
theorem o_sizes : Opens Tryd.prog 23 (.sl cSz) := opens_slice (e := 56) (by kernel_rfl) (by kernel_rfl) o_size (by decide)
theorem o_opt : Opens Tryd.prog 25 cOp := opens_struct Tryd.underlying25 (by kernel_rfl) ⟨rfl, o_int, rfl, o_int, rfl, o_sizes⟩
theorem fit_i64 {z : Int} (h : (Lit.int .i64 z).wf = true) : In64 z := by
  unfold In64
  simpa [Lit.wf, IntKind.min, IntKind.max, IntKind.signed, IntKind.bits] using h
theorem fit_u16 {z : Int} (h : (Lit.int .u16 z).wf = true) : 0 ≤ z ∧ z ≤ 65535 := by simpa [Lit.wf, IntKind.min, IntKind.max, IntKind.signed, IntKind.bits] using h
theorem fit_opt {o : Op} (h : Fit cOp o) : OIn o := ⟨fit_i64 h.1, fit_i64 h.2.1, fun s hs => ⟨fit_i64 (h.2.2.2 s hs).1, fit_i64 (h.2.2.2 s hs).2.1, fit_i64 (h.2.2.2 s hs).2.2⟩⟩
end Go.Proofs.YtljlfmmhoceihaaDoor
/-
Options' words: what a printed word is read as.
-/
set_option linter.unusedSimpArgs false
set_option linter.unusedVariables false
namespace Go.Proofs.YtljlfmmhoceihaaDoor
open Go.RowKit Ax
theorem dg_no {n : Nat} {c : UInt8} (h : c ∈ Lib.decDigits n) : c ≠ 44 ∧ c ≠ 32 := by
  have h1 : (decide (48 ≤ c.toNat) && decide (c.toNat ≤ 57)) = true := List.all_eq_true.1 (dec_all n) c h
  rw [Bool.and_eq_true, decide_eq_true_eq, decide_eq_true_eq] at h1
  exact ⟨fun e => by subst e; exact absurd h1.1 (by decide), fun e => by subst e; exact absurd h1.1 (by decide)⟩
theorem itoa_no {v : Int} {c : UInt8} (h : c ∈ Lib.itoa v) : c ≠ 44 ∧ c ≠ 32 := by
  unfold Lib.itoa at h
  split at h
  · rcases List.mem_cons.1 h with rfl | h
    · decide
    · exact dg_no h
  · exact dg_no h
theorem spc_app : ∀ (a r : List UInt8), (∀ c ∈ a, c ≠ 44) → spc (a ++ 44 :: r) = a :: spc r
  | [], r, _ => by rw [List.nil_append, spc, if_pos rfl]
  | c :: a, r, h => by
    rw [List.cons_append, spc, if_neg (h c (by simp)), spc_app a r fun x hx => h x (by simp [hx])]
theorem spc_no : ∀ (a : List UInt8), (∀ c ∈ a, c ≠ 44) → spc a = [a]
  | [], _ => rfl
  | c :: a, h => by
    rw [spc, if_neg (h c (by simp)), spc_no a fun x hx => h x (by simp [hx])]
theorem splitL_of (s : ByteArray) : splitL s cm = (spc s.data.toList).map mkB := by
  rw [← splitL_spc, List.map_map]
  have e : (mkB ∘ fun x : ByteArray => x.data.toList) = id := by funext x; exact mkB_data x
  rw [e, List.map_id]
abbrev N9 (v : Int) : Prop := v.natAbs < 1000000000
def s3 (s : Sz) : List UInt8 := Lib.itoa s.1 ++ 44 :: (Lib.itoa s.2.1 ++ 44 :: Lib.itoa s.2.2)
theorem iv_itoa {v : Int} (h : N9 v) : iv (mkB (Lib.itoa v)) = v := by
  unfold iv
  rw [(num9 h).1, if_pos rfl, (num9 h).2]
theorem size_s3 {s : Sz} (h : N9 s.1 ∧ N9 s.2.1 ∧ N9 s.2.2) : sizeB (mkB (s3 s)) = true ∧ sizeV (mkB (s3 s)) = s := by
  have e : splitL (mkB (s3 s)) cm = [mkB (Lib.itoa s.1), mkB (Lib.itoa s.2.1), mkB (Lib.itoa s.2.2)] := by
    rw [splitL_of, data_mkB, s3, spc_app _ _ fun c hc => (itoa_no hc).1, spc_app _ _ fun c hc => (itoa_no hc).1, spc_no _ fun c hc => (itoa_no hc).1]
    rfl
  unfold sizeB sizeV
  rw [e]
  unfold tri3B tri3
  simp only []
  rw [(num9 h.1).1, (num9 h.2.1).1, (num9 h.2.2).1, iv_itoa h.1, iv_itoa h.2.1, iv_itoa h.2.2]
  exact ⟨rfl, rfl⟩
theorem rest_cons (c : UInt8) (l : List UInt8) : restOf (mkB (c :: l)) = mkB l := by
  unfold restOf
  apply ByteArray.ext
  rw [ByteArray.data_extract, mkB_size]
  apply Array.ext'
  rw [Array.toList_extract]
  show List.extract (c :: l) 1 (c :: l).length = l
  simp [List.extract]
theorem stF_h {v : Int} (hv : N9 v) (h c : Int) : stF (mkB (104 :: Lib.itoa v)) h c = (v, c, [], true) := by
  unfold stF
  rw [data_mkB]
  simp only []
  rw [if_pos trivial, rest_cons, iv_itoa hv, (num9 hv).1]
theorem stF_c {v : Int} (hv : N9 v) (h c : Int) : stF (mkB (99 :: Lib.itoa v)) h c = (h, v, [], true) := by
  unfold stF
  rw [data_mkB]
  simp only []
  rw [if_neg (by decide), if_pos trivial, rest_cons, iv_itoa hv, (num9 hv).1]
theorem stF_s {s : Sz} (hs : N9 s.1 ∧ N9 s.2.1 ∧ N9 s.2.2) (h c : Int) : stF (mkB (115 :: s3 s)) h c = (h, c, [s], true) := by
  unfold stF
  rw [data_mkB]
  simp only []
  rw [if_neg (by decide), if_neg (by decide), if_pos trivial, rest_cons, (size_s3 hs).1, (size_s3 hs).2]
theorem fold_ok {w : ByteArray} {h c h' c' : Int} {A : List Sz} (hs : stF w h c = (h', c', A, true)) (r : List ByteArray) : foldO stF (w :: r) h c = ((foldO stF r h' c').1, (foldO stF r h' c').2.1, A ++ (foldO stF r h' c').2.2.1, (foldO stF r h' c').2.2.2) := by
  rw [foldO, hs, if_pos rfl]
end Go.Proofs.YtljlfmmhoceihaaDoor
/-
OptionBack: what its loop carries.
-/
set_option linter.unusedSimpArgs false
set_option linter.unusedVariables false
namespace Go.Proofs.YtljlfmmhoceihaaDoor
open Go.RowKit Ax
abbrev spBk : RSpec := ⟨110, [(1, false, .int .u8), (2, false, .int .u8), (7, false, .str), (9, false, .int .i64), (10, false, .int .i64)], [(3, 0, 0)], [(25, cOp)], fun e => match e with | .exit _ => [1, 2] | _ => [], 8, 9, .str, false, fun _ => 8⟩
end Go.Proofs.YtljlfmmhoceihaaDoor
/-
OptionBack: its loop.
-/
set_option linter.unusedSimpArgs false
set_option linter.unusedVariables false
namespace Go.Proofs.YtljlfmmhoceihaaDoor
open Go.RowKit Ax
abbrev GW := Gr ByteArray
def bNd (n : Nat) (g : GW) (K : T (RRd spBk)) : T (RRd spBk) := .need (gnd n g) K
def bAdd (h c : Int) (s : ByteArray) (f i : Int) (o : Op) (g : GW) : T (RRd spBk) := .need ((0 : Int) ≤ f ∧ f ≤ i ∧ i ≤ (ByteArray.size s : Int)) (.lt (ByteArray.extract s (Int.toNat f) (Int.toNat i)) fun v => appG 15 g v fun m g' => bNd m g' (.ret (.again (h, c, s, IntKind.wrap .i64 (i + (1 : Int)), IntKind.wrap .i64 (i + (1 : Int)), ()) (o, ()) g')))
def bRound (h c : Int) (s : ByteArray) (f i : Int) (o : Op) (g : GW) : T (RRd spBk) := .ite (decide (i ≤ (ByteArray.size s : Int)))
  (.ite (i == (ByteArray.size s : Int)) (bAdd h c s f i o g)
    (.get (Array.toList (ByteArray.data s)) i fun ch => .ite ((UInt8.toNat ch : Int) == (32 : Int)) (bAdd h c s f i o g) (bNd (gl g) g (.ret (.again (h, c, s, f, IntKind.wrap .i64 (i + (1 : Int)), ()) (o, ()) g)))))
  (bNd (gl g) g (.ret (.out (Exit.exit 0) [.one (.v (.int .u8 h)), .one (.v (.int .u8 c))] (o, ()) g)))
theorem tr_bkL_eq (h c : Int) (s : ByteArray) (f i : Int) (o : Op) (xs : List ByteArray) (cap : Nat) : RSpec.round spBk O9 (fun _ => none) (bodyOf Tryd.f4 0) (h, c, s, f, i, ()) (o, ()) (some (xs, cap)) = bRound h c s f i o (some (xs, cap)) := by kernel_rfl
theorem tr_bkL0_eq (h c : Int) (s : ByteArray) (f i : Int) (o : Op) : RSpec.round spBk O9 (fun _ => none) (bodyOf Tryd.f4 0) (h, c, s, f, i, ()) (o, ()) none = bRound h c s f i o none := by kernel_rfl
/-- the words of a text -/
def spb : List UInt8 → List UInt8 → List (List UInt8)
  | cur, [] => [cur]
  | cur, c :: r => if c = 32 then cur :: spb [] r else spb (cur ++ [c]) r
def bLeft (s : ByteArray) (f i : Int) : List ByteArray := if i ≤ (s.size : Int) then (spb (rcur s f i) (s.data.toList.drop i.toNat)).map mkB else []
def outBk (x : RSpec.X spBk) (y : RSpec.Y spBk) (g : GW) : T (Exit × List Av × RSpec.Y spBk × GW) :=
  .need (0 ≤ (x.2.2.2.2.1 : Int) ∧ (x.2.2.2.2.1 : Int) ≤ (ByteArray.size x.2.2.1 : Int) + 1 ∧ 0 ≤ (x.2.2.2.1 : Int) ∧ (x.2.2.2.1 : Int) ≤ (x.2.2.2.2.1 : Int) ∧ ByteArray.size x.2.2.1 ≤ 900000 ∧ (List.length (gx g) : Int) ≤ (x.2.2.2.2.1 : Int))
    (finG (Exit.exit 0) [.one (.v (.int .u8 x.1)), .one (.v (.int .u8 x.2.1))] y g (bLeft x.2.2.1 x.2.2.2.1 x.2.2.2.2.1))
theorem bk_add (h c : Int) (s : ByteArray) (f i : Int) (o : Op) (g : GW) (Q : Exit × List Av × RSpec.Y spBk × GW → Prop) (hi : 0 ≤ i ∧ i ≤ (s.size : Int)) (hs : s.size ≤ 900000) (hf : 0 ≤ f ∧ f ≤ i) (hg : ((gx g).length : Int) ≤ i)
    (e : bLeft s f i = s.extract f.toNat i.toNat :: bLeft s (i + 1) (i + 1)) (hq : (finG (Exit.exit 0) [.one (.v (.int .u8 h)), .one (.v (.int .u8 c))] (o, ()) g (bLeft s f i)).wp Q) :
    (bAdd h c s f i o g).wp fun r => match r with
      | .again x' y' g' => ((ByteArray.size x'.2.2.1 : Int) + 1 - x'.2.2.2.2.1).toNat < ((s.size : Int) + 1 - i).toNat ∧ (outBk x' y' g').wp Q
      | .out e avs y' g' => Q (e, avs, y', g') := by
  unfold bAdd
  rw [← gl_eq] at hg
  refine ⟨⟨hf.1, hf.2, hi.2⟩, ?_⟩
  refine appG_wp (by omega) (by simp only [Go.maxLen]; omega) fun k => ⟨gnd_app g _ k, ?_⟩
  unfold outBk
  simp only [T.wp]
  dsimp only [El, vts, spBk]
  rw [IntWalk.i64_in (i + 1) (by omega)]
  refine ⟨by omega, ⟨by omega, by omega, by omega, by omega, hs, ?_⟩, ?_⟩
  · show (((gx g ++ [_]).length : Nat) : Int) ≤ _
    rw [List.length_append, ← gl_eq]
    simp only [List.length_cons, List.length_nil]
    omega
  · rw [e] at hq
    exact finG_cons hq k
theorem bk_core (h c : Int) (s : ByteArray) (f i : Int) (o : Op) (g : GW) (Q : Exit × List Av × RSpec.Y spBk × GW → Prop) (hq : (outBk (h, c, s, f, i, ()) (o, ()) g).wp Q) :
    (bRound h c s f i o g).wp fun r => match r with
      | .again x' y' g' => ((ByteArray.size x'.2.2.1 : Int) + 1 - x'.2.2.2.2.1).toNat < ((s.size : Int) + 1 - i).toNat ∧ (outBk x' y' g').wp Q
      | .out e avs y' g' => Q (e, avs, y', g') := by
  have hsz : s.data.toList.length = s.size := (Lib.size_eq s).symm
  unfold outBk at hq
  simp only [T.wp] at hq
  dsimp only [El, vts, spBk] at hq
  obtain ⟨⟨h1, h2, h3, h4, h5, h6⟩, hq⟩ := hq
  have hcur : i ≤ (s.size : Int) → mkB (rcur s f i) = s.extract f.toNat i.toNat := fun hle => by
    unfold rcur Lib.pieceU; rw [Lib.extract_eq]; rfl
  have hnil : rcur s (i + 1) (i + 1) = [] := by
    unfold rcur Lib.pieceU
    rw [Nat.sub_self, List.take_zero]
  have e1 : (i + 1).toNat = i.toNat + 1 := by omega
  unfold bRound
  simp only [T.wp]
  refine ⟨fun hle => ?_, fun hgt => ?_⟩
  · have hle := of_decide_eq_true hle
    refine ⟨fun heq => ?_, fun hne => ?_⟩
    · have heq : i = (s.size : Int) := by simpa using heq
      refine bk_add h c s f i o g Q ⟨h1, hle⟩ h5 ⟨h3, h4⟩ h6 ?_ hq
      unfold bLeft
      rw [if_pos hle, if_neg (show ¬ i + 1 ≤ (s.size : Int) by omega), drop_end (by omega), spb, List.map_cons, List.map_nil, hcur hle]
    · have hne : ¬ i = (s.size : Int) := by simpa using hne
      obtain ⟨ch, hc⟩ := elem_at (l := s.data.toList) h1 (by omega)
      have hd := drop_at h1 hc
      refine ⟨ch, h1, hc, fun heq => ?_, fun hne2 => ?_⟩
      · have heq : ch = 32 := by
          have : (ch.toNat : Int) = 32 := by simpa using heq
          exact byte_of (k := 32) (by omega)
        subst heq
        refine bk_add h c s f i o g Q ⟨h1, hle⟩ h5 ⟨h3, h4⟩ h6 ?_ hq
        unfold bLeft
        rw [if_pos hle, if_pos (show i + 1 ≤ (s.size : Int) by omega), hd, spb, if_pos rfl, List.map_cons, hcur hle, hnil]
      · have hne2 : ch ≠ 32 := fun e => by rw [e] at hne2; exact absurd hne2 (by decide)
        unfold bNd outBk
        simp only [T.wp]
        dsimp only [El, vts, spBk]
        rw [IntWalk.i64_in (i + 1) (by omega)]
        refine ⟨gnd_gl g, by omega, ⟨by omega, by omega, h3, by omega, h5, by omega⟩, ?_⟩
        have hcc : rcur s f i ++ [ch] = rcur s f (i + 1) := by
          unfold rcur
          rw [e1, ← Lib.pieceU_grow _ _ _ _ (by omega), hd]; rfl
        have e : bLeft s f (i + 1) = bLeft s f i := by
          unfold bLeft
          rw [if_pos hle, if_pos (show i + 1 ≤ (s.size : Int) by omega), hd, spb, if_neg hne2, hcc]
        rw [e]
        exact hq
  · have hgt := of_decide_eq_false hgt
    have e : bLeft s f i = [] := by unfold bLeft; rw [if_neg hgt]
    rw [e] at hq
    exact ⟨gnd_gl g, finG_nil hq⟩
theorem bkL_ok : LoopOk Tryd.prog 0 (bodyOf Tryd.f4 0) (spBk.run outBk) :=
  loopR_ok (E := O9) (L := fun _ => none) mixed 0 (loops_none _ _ _) spBk (Nat.zero_le _) outBk (fun x _ _ => ((ByteArray.size x.2.2.1 : Int) + 1 - x.2.2.2.2.1).toNat) (by
    rintro ⟨h, c, s, f, i, ⟨⟩⟩ ⟨o, ⟨⟩⟩ g Q hq
    match g, hq with
    | some (xs, cap), hq =>
      rw [tr_bkL_eq h c s f i o xs cap]
      exact bk_core h c s f i o (some (xs, cap)) Q hq
    | none, hq =>
      rw [tr_bkL0_eq h c s f i o]
      exact bk_core h c s f i o none Q hq)
noncomputable def lpBk : Loops := oneL 9 (spBk.run outBk)
noncomputable def O9f : Env Tryd.prog := O9.fz [(14, [8])]
end Go.Proofs.YtljlfmmhoceihaaDoor
/-
Rows of one's own are lent: a function that only looks at them, whose results lie in blocks of its own.
-/
set_option linter.unusedSimpArgs false
set_option linter.unusedVariables false
namespace Ax
open Go Go.RowKit
def pureCd : Cd → Bool
  | .sl _ => false
  | .ptr _ => false
  | .pair a b => pureCd a && pureCd b
  | _ => true
/-- no data of others -/
def ndC : Ck → Bool
  | .ds _ l => l.isEmpty
  | .pr _ => false
  | .row c _ _ => pureCd c
  | _ => true
theorem pure_nd : ∀ (c : Cd) (x : El c), pureCd c = true → (ck c x).all ndC = true
  | .int _, _, _ => rfl
  | .bool, _, _ => rfl
  | .str, _, _ => rfl
  | .words, _, _ => rfl
  | .unit, _, _ => rfl
  | .sl _, _, h => by cases h
  | .ptr _, _, h => by cases h
  | .pair a b, x, h => by
    rw [pureCd, Bool.and_eq_true] at h
    rw [ck, List.all_append, pure_nd a x.1 h.1, pure_nd b x.2 h.2]; rfl
theorem is_nd {w : World} {R R' : Nat → Prop} {σ : List Nat} {l : List Ck} {us : List Value} (h : Is w R σ l us) : l.all ndC = true → Is w R' σ l us := by
  induction h with
  | nil => intro _; exact .nil
  | v h _ ih => intro hn; exact .v h (ih (by simpa [ndC] using hn))
  | kb _ ih => intro hn; exact .kb (ih (by simpa [ndC] using hn))
  | w _ ih => intro hn; exact .w (ih (by simpa [ndC] using hn))
  | p h _ ih => intro hn; exact .p h (ih (by simpa [ndC] using hn))
  | dn _ ih => intro hn; exact .dn (ih (by simpa [ndC] using hn))
  | de a cap _ ih => intro hn; exact .de a cap (ih (by simpa [ndC] using hn))
  | ni t v _ ih => intro hn; exact .ni t v (ih (by simpa [ndC] using hn))
  | @ds σ c xs b o cap r us g h1 h2 h3 h4 h5 _ _ ih =>
    intro hn
    rw [List.all_cons, Bool.and_eq_true] at hn
    have hx : xs = [] := List.isEmpty_iff.1 hn.1
    subst hx
    exact .de _ cap (ih hn.2)
  | pr _ _ _ _ _ _ => intro hn; simp [ndC] at hn
  | pe h1 h2 _ ih => intro hn; exact .pe h1 h2 (ih (by simpa [ndC] using hn))
  | os h1 h2 _ ih => intro hn; exact .os h1 h2 (ih (by simpa [ndC] using hn))
  | row g h1 h2 h3 h4 h5 h6 h7 h8 h9 ih6 ih8 =>
    intro hn
    rw [List.all_cons, Bool.and_eq_true] at hn
    exact .row g h1 h2 h3 h4 h5 (fun i x hx => ih6 i x hx (pure_nd _ x hn.1)) h7 (ih8 hn.2) h9
  | any h _ ih => intro hn; exact .any h (ih (by simpa [ndC] using hn))
def nd1 : Av → Bool
  | .one c => ndC c
  | .agg l => l.all ndC
  | .tup _ => false
  | _ => true
def ndA : Av → Bool
  | .one c => ndC c
  | .agg l => l.all ndC
  | .tup l => l.all nd1
  | _ => true
theorem av_nd1 {w : World} {R R' : Nat → Prop} {σ : List Nat} {a : Av} {v : Value} (h : AvIs w R σ a v) (hn : nd1 a = true) : AvIs w R' σ a v := by
  cases h with
  | one h1 h2 => exact .one h1 (is_nd h2 (by simpa [nd1] using hn))
  | agg h => exact .agg (is_nd h hn)
  | tup => simp [nd1] at hn
  | nope => exact .nope
  | any => exact .any
theorem av_nd {w : World} {R R' : Nat → Prop} {σ : List Nat} {a : Av} {v : Value} (h : AvIs w R σ a v) (hn : ndA a = true) : AvIs w R' σ a v := by
  cases h with
  | one h1 h2 => exact .one h1 (is_nd h2 (by simpa [ndA] using hn))
  | agg h => exact .agg (is_nd h hn)
  | tup us hl hi => exact .tup us hl fun i x u hx hu => av_nd1 (hi i x u hx hu) (List.all_eq_true.1 hn x (List.mem_of_getElem? hx))
  | nope => exact .nope
  | any => exact .any
def ndSt (st : St) : Bool := st.fr.all ndA && st.mem.all fun e => e.2.all ndC
theorem nd_sat {w0 w : World} {φ φ' σ0 σ : List Nat} {st : St} {a : Act} (hS : Sat w0 φ σ0 σ st a w) (hn : ndSt st = true) (hfo : ∀ b ∈ φ', b < w.heap.size) (hgl : GlobAt w (Ro w φ' σ)) : Sat w0 φ' σ0 σ st a w := by
  unfold ndSt at hn
  rw [Bool.and_eq_true] at hn
  exact ⟨⟨hS.fr.len, fun t av ht => av_nd (hS.fr.at_ t av ht) (List.all_eq_true.1 hn.1 av (List.mem_of_getElem? ht))⟩, ⟨hS.mem.len, hS.mem.nodup, hfo, hgl, fun i t cs b h1 h2 => by
    obtain ⟨us, g1, g2⟩ := hS.mem.blk i t cs b h1 h2
    exact ⟨us, g1, is_nd g2 (List.all_eq_true.1 hn.2 (t, cs) (List.mem_of_getElem? h1))⟩⟩, hS.ext, hS.keep, hS.df⟩
/-- what is read of others is forgotten -/
def bkC : Ck → Ck
  | .ds _ _ => .any
  | .pr _ => .any
  | c => c
theorem is_bk {w : World} {R : Nat → Prop} {σ : List Nat} {l : List Ck} {us : List Value} (h : Is w R σ l us) : Is w R σ (l.map bkC) us := by
  induction h with
  | nil => exact .nil
  | v h _ ih => exact .v h ih
  | kb _ ih => exact .kb ih
  | w _ ih => exact .w ih
  | p h _ ih => exact .p h ih
  | dn _ ih => exact .any rfl ih
  | de a cap _ ih => exact .any rfl ih
  | ni t v _ ih => exact .ni t v ih
  | ds g h1 h2 h3 h4 h5 _ _ ih => exact .any rfl ih
  | pr _ _ _ _ _ ih => exact .any rfl ih
  | pe h1 h2 _ ih => exact .pe h1 h2 ih
  | os h1 h2 _ ih => exact .os h1 h2 ih
  | row g h1 h2 h3 h4 h5 h6 h7 h8 h9 ih6 ih8 => exact .row g h1 h2 h3 h4 h5 h6 h7 ih8 h9
  | any h _ ih => exact .any h ih
/-- in the blocks that are not asked for -/
def bkM (ks : List Nat) : Nat → Mem → Mem
  | _, [] => []
  | i, e :: r => (match ks.any fun k => decide (k = i) with
    | true => e
    | false => (e.1, e.2.map bkC)) :: bkM ks (i + 1) r
theorem bkM_len (ks : List Nat) : ∀ (m : Mem) (i : Nat), (bkM ks i m).length = m.length
  | [], _ => rfl
  | e :: r, i => by rw [bkM, List.length_cons, bkM_len ks r (i + 1), List.length_cons]
theorem bkM_get (ks : List Nat) : ∀ (m : Mem) (i k : Nat) (x : TypeId × List Ck), (bkM ks i m)[k]? = some x → ∃ e, m[k]? = some e ∧ (x = e ∨ x = (e.1, e.2.map bkC))
  | [], _, _, x, h => by rw [bkM] at h; cases h
  | e :: r, i, 0, x, h => by
    rw [bkM, List.getElem?_cons_zero, Option.some.injEq] at h
    refine ⟨e, rfl, ?_⟩
    split at h
    · exact .inl h.symm
    · exact .inr h.symm
  | e :: r, i, k + 1, x, h => by
    rw [bkM, List.getElem?_cons_succ] at h
    rw [List.getElem?_cons_succ]
    exact bkM_get ks r (i + 1) k x h
theorem bk_sat {w0 w : World} {φ σ0 σ : List Nat} {st : St} {a : Act} (ks : List Nat) (hS : Sat w0 φ σ0 σ st a w) : Sat w0 φ σ0 σ ⟨st.fr, bkM ks 0 st.mem⟩ a w :=
  ⟨hS.fr, ⟨(bkM_len ks st.mem 0).trans hS.mem.len, hS.mem.nodup, hS.mem.fo, hS.mem.gl, fun i t cs b h1 h2 => by
    obtain ⟨e, g0, g1⟩ := bkM_get ks st.mem 0 i (t, cs) h1
    obtain ⟨us, g2, g3⟩ := hS.mem.blk i e.1 e.2 b g0 h2
    rcases g1 with g1 | g1
    · cases g1; exact ⟨us, g2, g3⟩
    · cases g1; exact ⟨us, g2, is_bk g3⟩⟩, hS.ext, hS.keep, hS.df⟩
def ptrsA : Av → List Nat
  | .one c => ptrsIn [c]
  | .agg l => ptrsIn l
  | _ => []
def resK (fn : Func) (st : St) : List Nat := (blankF (resSlots fn.results.toList) st.fr).flatMap ptrsA
def resB (fn : Func) (st : St) : St := ⟨blankF (resSlots fn.results.toList) st.fr, bkM (resK fn st) 0 st.mem⟩
def fnL {P : Program} (E : Env P) (L : Loops) (fn : Func) (args : List Av) : T (Av × Mem) :=
  match fn.body with
  | some c => (code (E.at_ 0) L c ⟨args ++ List.replicate (fn.ntmps - args.length) .nope, []⟩).bind fun r => match r.1 with
    | .ret | .normal => (match ndSt (resB fn r.2) with
      | true => finRun P 0 fn.results.toList (resB fn r.2)
      | false => .fail)
    | _ => .fail
  | none => .fail
section
variable {P : Program} {E : Env P} {L : Loops} {w : World} {φ φ' : List Nat}
theorem lend_fn {f : FuncId} {fn : Func} (hm : P.follows .mixedOrders = true) (hf : P.funcs[f]? = some fn) (hL : ∀ c, fn.body = some c → LoopsOk P 0 L c) {args : List Av} {vs : List Value} {Q : Av × Mem → Prop}
    (hmem : MemOk w φ [] []) (hmem' : MemOk w φ' [] []) (hlen : vs.length = args.length) (hargs : ∀ (i : Nat) x v, args[i]? = some x → vs[i]? = some v → AvIs w (Ro w φ []) [] x v) (h : (fnL E L fn args).wp Q) :
    Calls P f vs.toArray w fun e w' => ∃ v av m' σ', e = .returned v ∧ Q (av, m') ∧ Ext w [] σ' ∧ Keep w [] w' ∧ AvIs w' (Ro w' φ' σ') σ' av v ∧ MemOk w' φ' σ' m' := by
  unfold fnL at h
  split at h
  · rename_i c hb
    rw [T.wp_bind] at h
    have hS : Sat w φ [] [] ⟨args ++ List.replicate (fn.ntmps - args.length) .nope, []⟩ { tmps := vs.toArray ++ Array.replicate (fn.ntmps - vs.toArray.size) undef, defers := [] } w := by
      refine ⟨⟨by simp [hlen], fun t av ht => ?_⟩, hmem, Ext.refl _ _, Keep.refl _ _, rfl⟩
      simp only [] at ht ⊢
      rcases Nat.lt_or_ge t args.length with hlt | hge
      · rw [List.getElem?_append_left hlt] at ht
        have hv : vs[t]? = some (vs[t]'(by rw [hlen]; exact hlt)) := List.getElem?_eq_getElem _
        have := hargs t av _ ht hv
        have e : (vs.toArray ++ Array.replicate (fn.ntmps - vs.toArray.size) undef).getD t undef = vs[t]'(by rw [hlen]; exact hlt) := by
          simp [Array.getElem?_append, hlen, hlt]
        rw [e]; exact this
      · rw [List.getElem?_append_right hge] at ht
        have : av = .nope := by
          have := List.mem_of_getElem? ht
          exact List.eq_of_mem_replicate this
        subst this
        have e : (vs.toArray ++ Array.replicate (fn.ntmps - vs.toArray.size) undef).getD t undef = undef := by
          simp [Array.getElem?_append, hlen, Nat.not_lt.2 hge, Array.getElem?_replicate]
          split <;> rfl
        rw [e]; exact .nope
    refine calls_of_wp hf hb (wp_mono (code_ok (E := E.at_ 0) hm (Nat.zero_le _) (by show ([] : List Nat).length ≤ 0; exact Nat.le_refl 0) hmem.fo c _ [] _ w _ (hL c hb) hS h) fun e a' w' hr => ?_)
    obtain ⟨h1, st', σ', h2, h3⟩ := hr
    have fin : (match ndSt (resB fn st') with
        | true => finRun P 0 fn.results.toList (resB fn st')
        | false => .fail).wp Q → bodyPost P fn (fun e w' => ∃ v av m' σ', e = .returned v ∧ Q (av, m') ∧ Ext w [] σ' ∧ Keep w [] w' ∧ AvIs w' (Ro w' φ' σ') σ' av v ∧ MemOk w' φ' σ' m') .ret a' w' := by
      intro h4
      split at h4
      · rename_i hnd
        have h3 : Sat w φ' [] σ' (resB fn st') a' w' := nd_sat (bk_sat _ (blank_ok _ h3)) hnd (fun b hb => Nat.lt_of_lt_of_le (hmem'.fo b hb) h3.keep.size) (hmem'.gl.mono (h3.keep.ro h3.ext))
        have last : ∀ (st' : St) (σ' : List Nat), Sat w φ' [] σ' st' a' w' → ((resT P st' fn.results.toList).wp fun l => Q (resAv l, st'.mem)) → bodyPost P fn (fun e w' => ∃ v av m' σ', e = .returned v ∧ Q (av, m') ∧ Ext w [] σ' ∧ Keep w [] w' ∧ AvIs w' (Ro w' φ' σ') σ' av v ∧ MemOk w' φ' σ' m') .ret a' w' := by
          intro st' σ' h3 h4
          obtain ⟨avs, vs', g1, g2, g3, g4⟩ := resT_ok h3 _ _ h4
          refine ⟨h3.df, _, ?_, _, resAv avs, st'.mem, σ', rfl, g1, h3.ext, h3.keep, is_res g2 g3, h3.mem⟩
          rw [results_eq, Array.mapM_eq_mapM_toList]
          simp only [Sem.run_bind, Sem.run_map, Sem.run_pure, g4, Result.andThen_ok]
        unfold finRun at h4
        rw [T.wp_bind] at h4
        obtain ⟨avs, vs', g1, g2, g3, g4⟩ := resT_ok h3 _ _ h4
        split at g1
        · rw [T.wp_bind] at g1
          obtain ⟨st2, σ2, h5, h6⟩ := frzAll_ok hmem'.fo (Nat.le_refl 0) (blank_ok _ h3) g1
          rw [T.wp_bind] at h5
          exact last st2 σ2 h6 h5
        · refine ⟨h3.df, _, ?_, _, resAv avs, (resB fn st').mem, σ', rfl, g1, h3.ext, h3.keep, is_res g2 g3, h3.mem⟩
          rw [results_eq, Array.mapM_eq_mapM_toList]
          simp only [Sem.run_bind, Sem.run_map, Sem.run_pure, g4, Result.andThen_ok]
      · exact h4.elim
    cases e with
    | normal => exact fin h2
    | ret => exact fin h2
    | panic _ => cases h1
    | outgrown => cases h1
    | exit _ => exact h2.elim
    | goto _ => exact h2.elim
  · exact h.elim
end
/-! ### the arguments: a row of one's own is seen as data -/
def lC (m : Mem) : Ck → Ck
  | .os i n cap => match m[i]? with
    | some (_, [.row c xs _]) => .ds c (xs.take n)
    | _ => .os i n cap
  | c => c
def lN (m : Mem) : Ck → Prop
  | .os i n cap => match m[i]? with
    | some (_, [.row c xs _]) => n ≤ xs.length
    | _ => True
  | c => True
def lNl (m : Mem) : List Ck → Prop
  | [] => True
  | c :: r => lN m c ∧ lNl m r
def lNA (m : Mem) : Av → Prop
  | .one c => lN m c
  | .agg l => lNl m l
  | a => True
def lNs (m : Mem) : List Av → Prop
  | [] => True
  | a :: r => lNA m a ∧ lNs m r
theorem lNs_mem {m : Mem} {a : Av} : ∀ {l : List Av}, lNs m l → a ∈ l → lNA m a
  | _ :: _, h, ha => by
    rcases List.mem_cons.1 ha with rfl | ha
    · exact h.1
    · exact lNs_mem h.2 ha
def lA (m : Mem) : Av → Av
  | .one c => .one (lC m c)
  | .agg l => .agg (l.map (lC m))
  | a => a
theorem lC_cases (m : Mem) (i n cap : Nat) (hl : lN m (.os i n cap)) : lC m (.os i n cap) = .os i n cap ∨ ∃ t c xs k, m[i]? = some (t, [.row c xs k]) ∧ n ≤ xs.length ∧ lC m (.os i n cap) = .ds c (xs.take n) := by
  unfold lN at hl
  simp only [] at hl
  show (match m[i]? with
    | some (_, [.row c xs _]) => Ck.ds c (xs.take n)
    | _ => .os i n cap) = _ ∨ _
  split
  · rename_i t c xs k hmi
    right
    rw [hmi] at hl
    refine ⟨t, c, xs, k, hmi, hl, ?_⟩
    show (match m[i]? with
      | some (_, [.row c xs _]) => Ck.ds c (xs.take n)
      | _ => .os i n cap) = _
    rw [hmi]
  · left; rfl
/-- what is not to be read: what the caller may not, but for its own blocks -/
def foL (φ σ : List Nat) : List Nat := φ.filter fun b => decide (b ∉ σ)
theorem foL_ro {w : World} {φ σ : List Nat} {b : Nat} (h : Ro w φ σ b) : Ro w (foL φ σ) [] b := ⟨h.1, fun hb => h.2.1 (List.mem_filter.1 hb).1, by simp⟩
theorem foL_own {w : World} {φ σ : List Nat} {b : Nat} (h : b < w.heap.size) (hs : b ∈ σ) : Ro w (foL φ σ) [] b := ⟨h, fun hb => of_decide_eq_true (List.mem_filter.1 hb).2 hs, by simp⟩
theorem is_lC {w : World} {φ σ : List Nat} {m : Mem} (hmem : MemOk w φ σ m) {l : List Ck} {us : List Value} (h : Is w (Ro w φ σ) σ l us) : lNl m l → Is w (Ro w (foL φ σ) []) σ (l.map (lC m)) us := by
  have hR : ∀ b, Ro w φ σ b → Ro w (foL φ σ) [] b := fun b hb => foL_ro hb
  have hM : ∀ b, Ro w φ σ b → Ro w (foL φ σ) [] b ∧ w.heap[b]? = w.heap[b]? := fun b hb => ⟨hR b hb, rfl⟩
  have hO : ∀ b, b ∈ σ → Ro w (foL φ σ) [] b := fun b hb => foL_own (hmem.lt hb) hb
  have hB := hmem.blk
  clear hmem
  generalize Ro w φ σ = R at h hR hM hB
  generalize Ro w (foL φ σ) [] = R' at hR hM hO ⊢
  induction h with
  | nil => intro _; exact .nil
  | v h _ ih => intro hn; exact .v h (ih hB hO hn.2)
  | kb _ ih => intro hn; exact .kb (ih hB hO hn.2)
  | w _ ih => intro hn; exact .w (ih hB hO hn.2)
  | p h _ ih => intro hn; exact .p h (ih hB hO hn.2)
  | dn _ ih => intro hn; exact .dn (ih hB hO hn.2)
  | de a cap _ ih => intro hn; exact .de a cap (ih hB hO hn.2)
  | ni t v _ ih => intro hn; exact .ni t v (ih hB hO hn.2)
  | ds g h1 h2 h3 h4 h5 _ _ ih => intro hn; exact .ds g h1 (hR _ h2) h3 (fun i x hx => (h4 i x hx).mono hM (fun _ _ h => h)) h5 (ih hB hO hn.2)
  | pr h1 h2 h3 _ _ ih => intro hn; exact .pr (hR _ h1) h2 (h3.mono hM (fun _ _ h => h)) (ih hB hO hn.2)
  | pe h1 h2 _ ih => intro hn; exact .pe h1 h2 (ih hB hO hn.2)
  | @os σ i n cap b r us h1 h2 h3 ih =>
    intro hn0
    have ih := ih hB hO hn0.2
    rw [List.map_cons]
    rcases lC_cases m i n cap hn0.1 with e | ⟨t, c, xs, k, hmi, hn, e⟩
    · rw [e]; exact .os h1 h2 ih
    · rw [e]
      obtain ⟨ua, g1, g2⟩ := hB i t _ b hmi h1
      exact (is_row_ds hR (hO b (List.mem_of_getElem? h1)) g1 g2 hn h2 σ).app ih
  | row g h1 h2 h3 h4 h5 h6 h7 h8 h9 ih6 ih8 => intro hn; exact .row g h1 h2 h3 h4 h5 (fun i x hx => (h6 i x hx).mono hM (fun _ _ h => h)) h7 (ih8 hB hO hn.2) h9
  | any h _ ih => intro hn; exact .any h (ih hB hO hn.2)
theorem lC_size (m : Mem) (c : Ck) (hn : lN m c) (h : c.size = 1) : (lC m c).size = 1 := by
  cases c with
  | os i n cap =>
    rcases lC_cases m i n cap hn with e | ⟨t, c, xs, k, hmi, hn, e⟩
    · rw [e]; exact h
    · rw [e]; rfl
  | _ => exact h
theorem av_lA {w : World} {φ σ : List Nat} {m : Mem} (hmem : MemOk w φ σ m) {a : Av} {v : Value} (hn : lNA m a) (h : AvIs w (Ro w φ σ) σ a v) : AvIs w (Ro w (foL φ σ) []) σ (lA m a) v := by
  cases h with
  | one h1 h2 => exact .one (lC_size m _ hn h1) (is_lC hmem h2 ⟨hn, trivial⟩)
  | agg h => exact .agg (is_lC hmem h hn)
  | tup us hl hi => exact AvIs.mono (fun b hb => ⟨foL_ro hb, rfl⟩) (fun _ _ h => h) (.tup us hl hi)
  | nope => exact .nope
  | any => exact .any
def lendRun (ts : List (Bool × Cd)) (sp : Els ts → T Av) (args : List Av) (m : Mem) : T (Av × Mem) :=
  .need (lNs m args) (match decs ts (args.map (lA m)) with
  | some x => (sp x).bind fun av => .ret (av, m)
  | none => .fail)
/-- the run of a function whose results lie in blocks of its own -/
def fnLP {P : Program} (E : Env P) (L : Loops) (fn : Func) (args : List Av) : T Av :=
  (fnL E L fn args).bind fun r => match noA r.1 with
    | true => .ret (nA r.1)
    | false => .fail
theorem lend_ok {P : Program} {E : Env P} {L : Loops} {f : FuncId} {fn : Func} (hm : P.follows .mixedOrders = true) (hf : P.funcs[f]? = some fn) (hL : ∀ c, fn.body = some c → LoopsOk P 0 L c) (ts : List (Bool × Cd)) (sp : Els ts → T Av)
    (h : ∀ x Q, (sp x).wp Q → (fnLP E L fn (encs ts x)).wp fun a => ∃ b, Q b ∧ ∀ w R σ v, AvIs w R σ a v → AvIs w R σ b v) : ConOk P f [] (lendRun ts sp) := by
  intro w φ σ m args vs Q hmem hlen hargs hrun
  unfold lendRun at hrun
  obtain ⟨hneed, hrun⟩ := hrun
  split at hrun
  · rename_i x hx
    rw [T.wp_bind] at hrun
    have hq := h x _ hrun
    unfold fnLP at hq
    rw [T.wp_bind] at hq
    obtain ⟨hl, ha⟩ := decs_ok ts (args.map (lA m)) x vs hx (by rw [List.length_map]; exact hlen) (fun i a v h1 h2 => by
      rw [List.getElem?_map] at h1
      cases e : args[i]? with
      | none => rw [e] at h1; cases h1
      | some a0 =>
        rw [e] at h1
        cases h1
        exact av_lA hmem (lNs_mem hneed (List.mem_of_getElem? e)) (hargs i a0 v e h2))
    have hfo : ∀ b ∈ φ ++ σ, b < w.heap.size := fun b hb => by
      rcases List.mem_append.1 hb with h1 | h1
      · exact hmem.fo b h1
      · exact hmem.lt h1
    have hro : ∀ b, Ro w φ σ b → Ro w (φ ++ σ) [] b := fun b hb => ⟨hb.1, by simp [hb.2.1, hb.2.2], by simp⟩
    have hmem0 : MemOk w (foL φ σ) [] [] := ⟨rfl, by simp, fun b hb => hmem.fo b (List.mem_filter.1 hb).1, hmem.gl.mono fun z hz => ⟨foL_ro hz, rfl⟩, fun i t cs b h1 h2 => by simp at h1⟩
    have hmem1 : MemOk w (φ ++ σ) [] [] := ⟨rfl, by simp, hfo, hmem.gl.mono fun z hz => ⟨hro z hz, rfl⟩, fun i t cs b h1 h2 => by simp at h1⟩
    refine (lend_fn (E := E) (L := L) hm hf hL hmem0 hmem1 hl ha hq).mono fun e w' hr => ?_
    obtain ⟨v, av, m', σ', rfl, hQ, hext, hkeep, hav, hmem'⟩ := hr
    split at hQ
    · rename_i hno
      obtain ⟨b, hQ, hb⟩ := hQ
      have hk : Keep w σ w' := ⟨hkeep.os, hkeep.tape, hkeep.output, hkeep.size, fun k hk _ => hkeep.block k hk (by simp)⟩
      have hown : ∀ i b : Nat, σ[i]? = some b → w'.heap[b]? = w.heap[b]? := fun i b hi => hkeep.block b (hmem.lt (List.mem_of_getElem? hi)) (by simp)
      refine ⟨v, b, m, σ, rfl, hQ, Ext.refl _ _, hk, fun i b hi _ => hown i b hi, hb _ _ _ _ (nA_is ((av_no hav hno).ro (fun b hb => ⟨hb.1, ?_, ?_⟩) σ)), hmem.stay hk (Ext.refl _ _) rfl hown⟩
      · exact fun hb' => hb.2.1 (by simp [hb'])
      · exact fun hb' => hb.2.1 (by simp [hb'])
    · exact hQ.elim
  · exact hrun.elim
end Ax
/-
option.Is, option.Parse: rows are lent to them.
-/
set_option linter.unusedSimpArgs false
set_option linter.unusedVariables false
namespace Go.Proofs.YtljlfmmhoceihaaDoor
open Go.RowKit Ax
theorem lend_eq {P : Program} {E : Env P} {L : Loops} {f : FuncId} {fn : Func} (hm : P.follows .mixedOrders = true) (hf : P.funcs[f]? = some fn) (hL : ∀ c, fn.body = some c → LoopsOk P 0 L c) (ts : List (Bool × Cd)) (pre : Els ts → Prop) (F : Els ts → Av)
    (h : ∀ x, pre x → (fnLP E L fn (encs ts x)).wp (fun a => ∀ w R σ v, AvIs w R σ a v → AvIs w R σ (F x) v)) : ConOk P f [] (lendRun ts fun x => .need (pre x) (.ret (F x))) :=
  lend_ok hm hf hL ts _ fun x Q hq => T.wp_mono (fun a ha => ⟨_, hq.2, ha⟩) (h x hq.1)
theorem ois_wp (x : Els [(true, cOp)]) : (tr_ois x).wp (· = .one (.v (.bool (optB x.1)))) := by
  obtain ⟨o, u⟩ := x
  revert o
  intro (o : Op)
  obtain ⟨h, c, l⟩ := o
  unfold tr_ois
  simp only [T.wp]
  dsimp only [El, cOp, cSz]
  refine ⟨fun h1 => ?_, fun h1 => ⟨show (1 : Nat) ≤ 1000 by decide, fun h2 => ?_, fun h2 => ⟨fun h3 => ?_, fun h3 => ⟨⟨Int.le_refl 0, trivial, ?_⟩, fun h4 => ?_, fun h4 => ?_⟩⟩⟩⟩
  · unfold optB; rw [not_b h1]; rfl
  · have h2 := not_b h2
    rw [bt_one] at h2
    unfold optB; rw [h2, Bool.false_and, Bool.and_false]
  · have h3 : (l.length : Int) > 4 := of_decide_eq_true h3
    unfold optB; rw [decide_eq_false (show ¬ l.length ≤ 4 by omega)]; simp
  · have h3 : ¬ (l.length : Int) > 4 := of_decide_eq_false h3
    omega
  · have h2 := not_b' h2
    rw [bt_one] at h2
    have h3 : ¬ (l.length : Int) > 4 := of_decide_eq_false h3
    have h4 : l.all szB = true := h4
    unfold optB; rw [not_b' h1, h2, decide_eq_true (show l.length ≤ 4 by omega), h4]; rfl
  · have h4 : l.all szB = false := h4
    unfold optB; rw [h4, Bool.and_false, Bool.and_false, Bool.and_false]
theorem tr_oisL_eq' (x : Els [(true, cOp)]) : fnLP O3 lpIs Tryd.f14 (encs [(true, cOp)] x) = tr_ois x := by kernel_rfl
noncomputable def con_oisL : Con Tryd.prog := ⟨14, [], _, cf_ois, lend_eq (E := O3) (L := lpIs) mixed Tryd.func14 (one_loop oisL_ok (by kernel_rfl)) [(true, cOp)] (fun _ => True) (fun x => .one (.v (.bool (optB x.1)))) fun x _ => by
  rw [tr_oisL_eq']
  exact T.wp_mono (fun a ha w R σ v hv => by rw [← ha]; exact hv) (ois_wp x)⟩
noncomputable def OL : Env Tryd.prog := O5.add [con_oisL]
end Go.Proofs.YtljlfmmhoceihaaDoor
