import Derived.ProofKit
import Derived.OpenShut
import Derived.Deep.Slices
import Derived.Handed
import Derived.LaidLaws
import Derived.Lib.LaidU8
import Derived.Shelf.Vars
import Derived.Lay
import Derived.MakeChecks
import Derived.PinnedBridge
import Derived.SevenTiedAt
import Derived.Test.YtokgbcachcmeaaaGreatDoorRows
import Derived.Test.YtokgbcachcmeaaaGreatDoorK4
/-
The reference: trees of add, sub, cmp, bits, shl, common.
-/
set_option linter.unusedSimpArgs false
set_option linter.unusedVariables false
namespace Go.Proofs.YtokgbcachcmeaaaGreatDoor
open Go.RowKit Ax
noncomputable def tr_psub (x : Els [(false, .sl (.int .u32)), (false, .sl (.int .u32))]) : T Av :=
 .need (True) (.need ((0 : El (Cd.int .i64)) ≤ (0 : Int) ∧ (0 : Int) ≤ (↑(List.length (x.1)) : Int) ∧ List.length (x.1) ≤ (1000000 : Nat) ∧ List.length x.2.1 ≤ (1000000 : Nat) ∧ Words (x.1) ∧ Words x.2.1 ∧ ((0 : Int) = (0 : El (Cd.int .i64)) ∨ (0 : Int) = (1 : El (Cd.int .i64)))) (.need ((0 : Int) = (0 : El (Cd.int .i64))) (.ite (decide (sbW (List.drop (Int.toNat (0 : Int)) (x.1)) (List.drop (Int.toNat (0 : Int)) x.2.1) (0 : Int) = []))
     (.need (lenOk (List.length ([] : List Int))) (.ret (.one (.ds (Cd.int .u32) (trimmed [])))))
     (.up ((0 : Nat)) (fun v0 =>
      .need (List.length (sbW (List.drop (Int.toNat (0 : Int)) (x.1)) (List.drop (Int.toNat (0 : Int)) x.2.1) (0 : Int)) ≤ List.length (sbW (List.drop (Int.toNat (0 : Int)) (x.1)) (List.drop (Int.toNat (0 : Int)) x.2.1) (0 : Int))) (.need (lenOk (List.length (List.take (List.length (sbW (List.drop (Int.toNat (0 : Int)) (x.1)) (List.drop (Int.toNat (0 : Int)) x.2.1) (0 : Int))) (sbW (List.drop (Int.toNat (0 : Int)) (x.1)) (List.drop (Int.toNat (0 : Int)) x.2.1) (0 : Int))))) (.ret (.one (.ds (Cd.int .u32) (trimmed (List.take (List.length (sbW (List.drop (Int.toNat (0 : Int)) (x.1)) (List.drop (Int.toNat (0 : Int)) x.2.1) (0 : Int))) (sbW (List.drop (Int.toNat (0 : Int)) (x.1)) (List.drop (Int.toNat (0 : Int)) x.2.1) (0 : Int)))))))))))))
theorem tr_psub_eq (x : Els [(false, .sl (.int .u32)), (false, .sl (.int .u32))]) : fnP E25s lpSub Tryz.f94 (encs [(false, .sl (.int .u32)), (false, .sl (.int .u32))] x) = tr_psub x := by kernel_rfl
noncomputable def tr_pcmp (x : Els [(false, .sl (.int .u32)), (false, .sl (.int .u32))]) : T Av :=
 .ite ((↑(List.length (x.1)) : Int) != (↑(List.length x.2.1) : Int))
  (.ite (decide ((↑(List.length (x.1)) : Int) < (↑(List.length x.2.1) : Int)))
   (.ret (.one (.v (.int .i64 ((-1 : Int))))))
   (.ret (.one (.v (.int .i64 ((1 : Int)))))))
  (.need ((-1 : El (Cd.int .i64)) ≤ IntKind.wrap .i64 ((↑(List.length (x.1)) : Int) - (1 : Int)) ∧ IntKind.wrap .i64 ((↑(List.length (x.1)) : Int) - (1 : Int)) < (↑(List.length (x.1)) : Int) ∧ IntKind.wrap .i64 ((↑(List.length (x.1)) : Int) - (1 : Int)) < (↑(List.length x.2.1) : Int) ∧ List.length (x.1) ≤ (1000000 : Nat)) (.ite (decide (cmW (x.1) x.2.1 (Int.toNat (IntKind.wrap .i64 ((↑(List.length (x.1)) : Int) - (1 : Int)) + (1 : El (Cd.int .i64)))) = (0 : Int)))
    (.ret (.one (.v (.int .i64 ((0 : Int))))))
    (.ret (.one (.v (.int .i64 (cmW (x.1) x.2.1 (Int.toNat (IntKind.wrap .i64 ((↑(List.length (x.1)) : Int) - (1 : Int)) + (1 : El (Cd.int .i64)))))))))))
theorem tr_pcmp_eq (x : Els [(false, .sl (.int .u32)), (false, .sl (.int .u32))]) : fnP E25 lpCmp Tryz.f93 (encs [(false, .sl (.int .u32)), (false, .sl (.int .u32))] x) = tr_pcmp x := by kernel_rfl
noncomputable def tr_pbits (x : Els [(false, .sl (.int .u32))]) : T Av :=
 .ite ((↑(List.length (x.1)) : Int) == (0 : Int))
  (.ret (.one (.v (.int .i64 ((0 : Int))))))
  (.get (x.1) (IntKind.wrap .i64 ((↑(List.length (x.1)) : Int) - (1 : Int))) (fun v0 =>
   .need ((0 : El (Cd.int .i64)) ≤ IntKind.wrap .i64 ((32 : Int) * IntKind.wrap .i64 ((↑(List.length (x.1)) : Int) - (1 : Int))) ∧ IntKind.wrap .i64 ((32 : Int) * IntKind.wrap .i64 ((↑(List.length (x.1)) : Int) - (1 : Int))) + (↑(Pq.bitn (Int.toNat v0)) : El (Cd.int .i64)) ≤ (1000000000 : El (Cd.int .i64)) ∧ (0 : El (Cd.int .u32)) ≤ v0) (.ret (.one (.v (.int .i64 (IntKind.wrap .i64 ((32 : Int) * IntKind.wrap .i64 ((↑(List.length (x.1)) : Int) - (1 : Int))) + (↑(Pq.bitn (Int.toNat v0)) : Int))))))))
theorem tr_pbits_eq (x : Els [(false, .sl (.int .u32))]) : fnP E25 lpBits Tryz.f69 (encs [(false, .sl (.int .u32))] x) = tr_pbits x := by kernel_rfl
noncomputable def tr_pshl (x : Els [(false, .sl (.int .u32)), (false, .int .i64)]) : T Av :=
 .ite ((↑(List.length (x.1)) : Int) == (0 : Int))
  (.ret (.one (.v (Go.Value.slice Option.none (0 : Nat) (0 : Nat)))))
  (.need ((32 : Int) ≠ (0 : Int)) (.need ((0 : Int) ≤ IntKind.wrap .i64 (IntKind.wrap .i64 ((↑(List.length (x.1)) : Int) + IntKind.wrap .i64 (Int.tdiv x.2.1 (32 : Int))) + (1 : Int)) ∧ IntKind.wrap .i64 (IntKind.wrap .i64 ((↑(List.length (x.1)) : Int) + IntKind.wrap .i64 (Int.tdiv x.2.1 (32 : Int))) + (1 : Int)) = IntKind.wrap .i64 (IntKind.wrap .i64 ((↑(List.length (x.1)) : Int) + IntKind.wrap .i64 (Int.tdiv x.2.1 (32 : Int))) + (1 : Int)) ∧ (nat_lit 3 + (1 : Nat)) * Int.toNat (IntKind.wrap .i64 (IntKind.wrap .i64 ((↑(List.length (x.1)) : Int) + IntKind.wrap .i64 (Int.tdiv x.2.1 (32 : Int))) + (1 : Int))) ≤ (281474976710656 : Nat) ∧ Int.toNat (IntKind.wrap .i64 (IntKind.wrap .i64 ((↑(List.length (x.1)) : Int) + IntKind.wrap .i64 (Int.tdiv x.2.1 (32 : Int))) + (1 : Int))) ≤ Go.maxLen) (.need (Int.toNat (IntKind.wrap .i64 (IntKind.wrap .i64 ((↑(List.length (x.1)) : Int) + IntKind.wrap .i64 (Int.tdiv x.2.1 (32 : Int))) + (1 : Int))) = List.length (List.replicate (Int.toNat (IntKind.wrap .i64 (IntKind.wrap .i64 ((↑(List.length (x.1)) : Int) + IntKind.wrap .i64 (Int.tdiv x.2.1 (32 : Int))) + (1 : Int)))) (0 : Int)) ∧ Int.toNat (IntKind.wrap .i64 (IntKind.wrap .i64 ((↑(List.length (x.1)) : Int) + IntKind.wrap .i64 (Int.tdiv x.2.1 (32 : Int))) + (1 : Int))) = Int.toNat (IntKind.wrap .i64 (IntKind.wrap .i64 ((↑(List.length (x.1)) : Int) + IntKind.wrap .i64 (Int.tdiv x.2.1 (32 : Int))) + (1 : Int)))) (.need ((0 : El (Cd.int .i64)) ≤ (0 : Int) ∧ (0 : Int) ≤ (↑(List.length (x.1)) : Int) ∧ List.length (x.1) ≤ (1000000 : Nat) ∧ (0 : El (Cd.int .i64)) ≤ x.2.1 ∧ x.2.1 ≤ (100000000 : El (Cd.int .i64)) ∧ Words (x.1) ∧ List.replicate (Int.toNat (IntKind.wrap .i64 (IntKind.wrap .i64 ((↑(List.length (x.1)) : Int) + IntKind.wrap .i64 (Int.tdiv x.2.1 (32 : Int))) + (1 : Int)))) (0 : Int) = rw' (List.length (x.1) + Int.toNat x.2.1 / (32 : Nat) + (1 : Nat)) (valL (List.take (Int.toNat (0 : Int)) (x.1)) * (2 : Nat) ^ (Int.toNat x.2.1 % (32 : Nat)) * Pq.bp (Int.toNat x.2.1 / (32 : Nat)))) (.need (List.length (rw' (List.length (x.1) + Int.toNat x.2.1 / (32 : Nat) + (1 : Nat)) (valL (x.1) * (2 : Nat) ^ (Int.toNat x.2.1 % (32 : Nat)) * Pq.bp (Int.toNat x.2.1 / (32 : Nat)))) ≤ List.length (rw' (List.length (x.1) + Int.toNat x.2.1 / (32 : Nat) + (1 : Nat)) (valL (x.1) * (2 : Nat) ^ (Int.toNat x.2.1 % (32 : Nat)) * Pq.bp (Int.toNat x.2.1 / (32 : Nat))))) (.need (lenOk (List.length (List.take (List.length (rw' (List.length (x.1) + Int.toNat x.2.1 / (32 : Nat) + (1 : Nat)) (valL (x.1) * (2 : Nat) ^ (Int.toNat x.2.1 % (32 : Nat)) * Pq.bp (Int.toNat x.2.1 / (32 : Nat))))) (rw' (List.length (x.1) + Int.toNat x.2.1 / (32 : Nat) + (1 : Nat)) (valL (x.1) * (2 : Nat) ^ (Int.toNat x.2.1 % (32 : Nat)) * Pq.bp (Int.toNat x.2.1 / (32 : Nat))))))) (.ret (.one (.ds (Cd.int .u32) (trimmed (List.take (List.length (rw' (List.length (x.1) + Int.toNat x.2.1 / (32 : Nat) + (1 : Nat)) (valL (x.1) * (2 : Nat) ^ (Int.toNat x.2.1 % (32 : Nat)) * Pq.bp (Int.toNat x.2.1 / (32 : Nat))))) (rw' (List.length (x.1) + Int.toNat x.2.1 / (32 : Nat) + (1 : Nat)) (valL (x.1) * (2 : Nat) ^ (Int.toNat x.2.1 % (32 : Nat)) * Pq.bp (Int.toNat x.2.1 / (32 : Nat)))))))))))))))
theorem tr_pshl_eq (x : Els [(false, .sl (.int .u32)), (false, .int .i64)]) : fnP E25h lpShl Tryz.f92 (encs [(false, .sl (.int .u32)), (false, .int .i64)] x) = tr_pshl x := by kernel_rfl
end Go.Proofs.YtokgbcachcmeaaaGreatDoor
/-
The reference: add, sub, cmp, bits, shl, common.
-/
set_option linter.unusedSimpArgs false
set_option linter.unusedVariables false
namespace Go.Proofs.YtokgbcachcmeaaaGreatDoor
open Go.RowKit Ax
noncomputable def con_psub : Con Tryz.prog := ⟨94, [], _, cf_psub, val_con (E := E25s) (L := lpSub) mixed Tryz.func94 (many_loops (by kernel_rfl) (by simp) (fun i p hp => by
    match i, hp with
    | 0, hp => cases hp; exact psubL_ok
    | i + 1, hp => simp at hp)) [(false, .sl (.int .u32)), (false, .sl (.int .u32))] (fun x => (x.1 : List Int) = mg (valL x.1) ∧ (x.2.1 : List Int) = mg (valL x.2.1) ∧ List.length x.1 ≤ 1000000 ∧ valL x.2.1 ≤ valL x.1) (fun x => .one (.ds (.int .u32) (mg (valL x.1 - valL x.2.1)))) fun x hx => by
  rw [tr_psub_eq]
  obtain ⟨a, b, u⟩ := x
  revert a b
  intro (a : List Int) (b : List Int) (hx : a = mg (valL a) ∧ b = mg (valL b) ∧ a.length ≤ 1000000 ∧ valL b ≤ valL a)
  obtain ⟨ma, mb, l1, hle⟩ := hx
  have wa : Words a := by rw [ma]; exact mg_words _
  have wb : Words b := by rw [mb]; exact mg_words _
  have l2 : b.length ≤ a.length := by
    have h := mg_len.1 (Nat.lt_of_le_of_lt hle (val_words wa))
    rw [← mb] at h
    exact h
  unfold tr_psub
  simp only [T.wp]
  dsimp only [El]
  obtain ⟨h1, h2, -⟩ := sbW_spec a b 0 wa wb (.inl rfl) l2
  have e := sbW_val wa wb l2 hle
  simp only [Int.toNat_zero, List.drop_zero, List.take_length]
  refine ⟨trivial, ⟨by omega, by omega, l1, by omega, wa, wb, by simp⟩, trivial, fun hz => ⟨by unfold lenOk; simp, ?_⟩, fun _ k _ => ⟨Nat.le_refl _, by unfold lenOk; omega, ?_⟩⟩
  · have hz := of_decide_eq_true hz
    rw [hz] at e
    rw [← e, val_nil, mg_zero]; rfl
  · rw [trimmed_mg h1, e]⟩
theorem mg_lt_len {a b : Nat} (h : (mg a).length < (mg b).length) : a < b := by
  have h1 : a < Pq.bp (mg a).length := mg_len.2 (Nat.le_refl _)
  have h2 : ¬ b < Pq.bp (mg a).length := fun h' => by have := mg_len.1 h'; omega
  omega
noncomputable def con_pcmp : Con Tryz.prog := ⟨93, [], _, cf_pcmp, val_con (E := E25) (L := lpCmp) mixed Tryz.func93 (one_loop pcmpL_ok (by kernel_rfl)) [(false, .sl (.int .u32)), (false, .sl (.int .u32))] (fun x => (x.1 : List Int) = mg (valL x.1) ∧ (x.2.1 : List Int) = mg (valL x.2.1) ∧ List.length x.1 ≤ 1000000 ∧ List.length x.2.1 ≤ 1000000) (fun x => aI .i64 (Pq.cz (valL x.1) (valL x.2.1))) fun x hx => by
  rw [tr_pcmp_eq]
  obtain ⟨a, b, u⟩ := x
  revert a b
  intro (a : List Int) (b : List Int) (hx : a = mg (valL a) ∧ b = mg (valL b) ∧ a.length ≤ 1000000 ∧ b.length ≤ 1000000)
  obtain ⟨ma, mb, l1, l2⟩ := hx
  have wa : Words a := by rw [ma]; exact mg_words _
  have wb : Words b := by rw [mb]; exact mg_words _
  unfold tr_pcmp
  simp only [T.wp]
  dsimp only [El]
  have e1 : IntKind.i64.wrap ((a.length : Int) - 1) = (a.length : Int) - 1 := IntWalk.i64_in _ (by omega)
  rw [e1, show ((a.length : Int) - 1 + 1).toNat = a.length by omega]
  have hab : a.length < b.length → valL a < valL b := fun h => mg_lt_len (by rw [← ma, ← mb]; exact h)
  have hba : b.length < a.length → valL b < valL a := fun h => mg_lt_len (by rw [← ma, ← mb]; exact h)
  refine ⟨fun hne => ⟨fun hlt => ?_, fun hge => ?_⟩, fun heq => ?_⟩
  · have hlt := of_decide_eq_true hlt
    rw [Pq.cz_lt (by have := hab (by omega); omega)]; rfl
  · have hge := of_decide_eq_false hge
    have hne : (a.length : Int) ≠ b.length := by simpa using hne
    rw [Pq.cz_gt (by have := hba (by omega); omega)]; rfl
  · have heq : a.length = b.length := by have h : (a.length : Int) = b.length := by simpa using heq
                                         omega
    have hs := cmW_spec wa wb a.length (Nat.le_refl _) (by omega)
    rw [List.take_length, show b.take a.length = b by rw [heq, List.take_length]] at hs
    rw [hs]
    refine ⟨⟨by omega, by omega, by omega, l1⟩, fun hz => ?_, fun _ => rfl⟩
    rw [of_decide_eq_true hz]; rfl⟩
noncomputable def con_pbits : Con Tryz.prog := ⟨69, [], _, cf_pbits, val_con (E := E25) (L := lpBits) mixed Tryz.func69 (one_loop pbitsL_ok (by kernel_rfl)) [(false, .sl (.int .u32))] (fun x => (x.1 : List Int) = mg (valL x.1) ∧ List.length x.1 ≤ 1000000) (fun x => aI .i64 (Pq.bitn (valL x.1))) fun x hx => by
  rw [tr_pbits_eq]
  obtain ⟨a, u⟩ := x
  revert a
  intro (a : List Int) (hx : a = mg (valL a) ∧ a.length ≤ 1000000)
  obtain ⟨ma, l1⟩ := hx
  have wa : Words a := by rw [ma]; exact mg_words _
  unfold tr_pbits
  simp only [T.wp]
  dsimp only [El]
  refine ⟨fun h0 => ?_, fun h0 => ?_⟩
  · have h0 : a = [] := List.length_eq_zero_iff.1 (by simpa using h0)
    subst h0; rfl
  · have h0 : a.length ≠ 0 := by simpa using h0
    have e1 : IntKind.i64.wrap ((a.length : Int) - 1) = (a.length : Int) - 1 := IntWalk.i64_in _ (by omega)
    have e2 : IntKind.i64.wrap (32 * ((a.length : Int) - 1)) = 32 * ((a.length : Int) - 1) := IntWalk.i64_in _ (by omega)
    obtain ⟨u, hu⟩ := elem_at (l := a) (i := (a.length : Int) - 1) (by omega) (by omega)
    obtain ⟨u0, u1⟩ := wa u (List.mem_of_getElem? hu)
    have eu : a.getD (a.length - 1) 0 = u := by rw [List.getD_eq_getElem?_getD, show a.length - 1 = ((a.length : Int) - 1).toNat by omega, hu]; rfl
    have et := take_val (a := a) (n := a.length - 1) (by omega)
    rw [show a.length - 1 + 1 = a.length by omega, List.take_length, eu] at et
    have hV := val_words (take_words wa (a.length - 1))
    rw [List.length_take, Nat.min_eq_left (by omega)] at hV
    have hu0 : u.toNat ≠ 0 := fun hz => by
      rw [hz, Nat.mul_zero, Nat.add_zero] at et
      rw [← et] at hV
      have := mg_len.1 hV
      rw [← ma] at this
      omega
    have eb : Pq.bitn (valL a) = 32 * (a.length - 1) + Pq.bitn u.toNat := by
      rw [et, bp_pow]
      rw [bp_pow] at hV
      exact bitn_add hV hu0
    have hb : Pq.bitn u.toNat ≤ 32 := Pq.bitn_le.2 (by show u.toNat < 4294967296; omega)
    rw [e1, e2]
    refine ⟨u, by omega, hu, ⟨by omega, by omega, u0⟩, ?_⟩
    rw [eb, show ((32 * (a.length - 1) + Pq.bitn u.toNat : Nat) : Int) = 32 * ((a.length : Int) - 1) + Pq.bitn u.toNat by omega]; rfl⟩
noncomputable def con_pshl : Con Tryz.prog := ⟨92, [], _, cf_pshl, val_con (E := E25h) (L := lpShl) mixed Tryz.func92 (many_loops (by kernel_rfl) (by simp) (fun i p hp => by
    match i, hp with
    | 0, hp => cases hp; exact pshlL_ok
    | i + 1, hp => simp at hp)) [(false, .sl (.int .u32)), (false, .int .i64)] (fun x => Words x.1 ∧ 0 < List.length x.1 ∧ List.length x.1 ≤ 1000000 ∧ 0 ≤ x.2.1 ∧ x.2.1 ≤ 100000000) (fun x => .one (.ds (.int .u32) (mg (valL x.1 * 2 ^ x.2.1.toNat)))) fun x hx => by
  rw [tr_pshl_eq]
  obtain ⟨a, n, u⟩ := x
  revert a n
  intro (a : List Int) (n : Int) (hx : Words a ∧ 0 < a.length ∧ a.length ≤ 1000000 ∧ 0 ≤ n ∧ n ≤ 100000000)
  obtain ⟨wa, l0, l1, n0, n1⟩ := hx
  unfold tr_pshl
  simp only [T.wp]
  dsimp only [El]
  have e1 : IntKind.i64.wrap (IntKind.i64.wrap ((a.length : Int) + IntKind.i64.wrap (Int.tdiv n 32)) + 1) = ((a.length + n.toNat / 32 + 1 : Nat) : Int) := by
    rw [Int.tdiv_eq_ediv_of_nonneg n0, IntWalk.i64_in (n / 32) (by omega), IntWalk.i64_in ((a.length : Int) + n / 32) (by omega), IntWalk.i64_in _ (by omega)]; omega
  have etk : ∀ Q, List.take (a.length + n.toNat / 32 + 1) (rw' (a.length + n.toNat / 32 + 1) Q) = rw' (a.length + n.toNat / 32 + 1) Q := fun Q => List.take_of_length_le (by rw [rw_len]; exact Nat.le_refl _)
  simp only [e1, Int.toNat_natCast, List.length_replicate, Int.toNat_zero, List.take_zero, rw_len, etk]
  have ev : valL a * 2 ^ (n.toNat % 32) * Pq.bp (n.toNat / 32) = valL a * 2 ^ n.toNat := by
    rw [bp_pow, Nat.mul_assoc, ← Nat.pow_add, show n.toNat % 32 + 32 * (n.toNat / 32) = n.toNat by omega]
  have hb : valL a * 2 ^ n.toNat < Pq.bp (a.length + n.toNat / 32 + 1) := by
    have h1 := val_words wa
    rw [← ev]
    have h2 := (shl_lt (i := a.length) (k := n.toNat / 32) (s := n.toNat % 32) h1 (by omega)).2
    exact h2
  rw [show valL [] = 0 from rfl, Nat.zero_mul, Nat.zero_mul, rw_zero, ev]
  refine ⟨fun h => by simp at h; subst h; simp at l0, fun _ => ⟨by decide, ⟨by omega, trivial, by omega, by unfold Go.maxLen; omega⟩, ⟨trivial, trivial⟩, ⟨by omega, by omega, l1, n0, n1, wa, rfl⟩, Nat.le_refl _, by unfold lenOk; omega, ?_⟩⟩
  rw [trimmed_mg (rw_words _ _), rw_val hb]⟩
end Go.Proofs.YtokgbcachcmeaaaGreatDoor
/-
The reference: neg; the inner loop of mul; the loop of tenth.
-/
set_option linter.unusedSimpArgs false
set_option linter.unusedVariables false
namespace Go.Proofs.YtokgbcachcmeaaaGreatDoor
open Go.RowKit Ax
noncomputable def tr_pneg (x : Els [(true, cW)]) : T Av :=
 .ite x.1.1
  (.ret (.one (.v (.bool (decide ((↑(List.length (mg x.1.2.1)) : Int) > (0 : Int)))))))
  (.ret (.one (.v (.bool (false)))))
theorem tr_pneg_eq (x : Els [(true, cW)]) : fnP E25 (fun _ => none) Tryz.f42 (encs [(true, cW)] x) = tr_pneg x := by kernel_rfl
end Go.Proofs.YtokgbcachcmeaaaGreatDoor
/-
The reference: neg; the loops of mul (within), tenth.
-/
set_option linter.unusedSimpArgs false
set_option linter.unusedVariables false
namespace Go.Proofs.YtokgbcachcmeaaaGreatDoor
open Go.RowKit Ax
noncomputable def con_pneg : Con Tryz.prog := ⟨42, [], _, cf_pneg, tot_con (E := E25) mixed Tryz.func42 no_loops [(true, cW)] (fun x => aB (x.1.1 && decide (x.1.2.1 ≠ 0))) fun x => by
  rw [tr_pneg_eq]
  obtain ⟨⟨b, a⟩, u⟩ := x
  revert b a
  intro (b : Bool) (a : Amt)
  unfold tr_pneg
  simp only [T.wp]
  refine ⟨fun h => ?_, fun h => ?_⟩
  · have h : b = true := h
    subst h
    have : decide (((mg a.1).length : Int) > 0) = decide (a.1 ≠ 0) := by
      rw [decide_eq_decide]
      constructor
      · intro hl h0; rw [h0, mg_zero] at hl; simp at hl
      · intro h0
        rcases Nat.eq_zero_or_pos (mg a.1).length with h' | h'
        · exact absurd (mg_nil.1 (List.length_eq_zero_iff.1 h')) h0
        · omega
    rw [this]; rfl
  · have h : b = false := h
    subst h; rfl⟩
noncomputable def E26 : Env Tryz.prog := E25.add [con_pneg]
end Go.Proofs.YtokgbcachcmeaaaGreatDoor
/-
The reference: mul's outer loop, tenth's run.
-/
set_option linter.unusedSimpArgs false
set_option linter.unusedVariables false
namespace Go.Proofs.YtokgbcachcmeaaaGreatDoor
open Go.RowKit Ax
end Go.Proofs.YtokgbcachcmeaaaGreatDoor
/-
The reference: mul's outer loop, tenth.
-/
set_option linter.unusedSimpArgs false
set_option linter.unusedVariables false
namespace Go.Proofs.YtokgbcachcmeaaaGreatDoor
open Go.RowKit Ax
noncomputable def E27 : Env Tryz.prog := E26.add []
end Go.Proofs.YtokgbcachcmeaaaGreatDoor
/-
The reference: mul's run; text's loop.
-/
set_option linter.unusedSimpArgs false
set_option linter.unusedVariables false
namespace Go.Proofs.YtokgbcachcmeaaaGreatDoor
open Go.RowKit Ax
end Go.Proofs.YtokgbcachcmeaaaGreatDoor
/-
The reference: mul; text's loop.
-/
set_option linter.unusedSimpArgs false
set_option linter.unusedVariables false
namespace Go.Proofs.YtokgbcachcmeaaaGreatDoor
open Go.RowKit Ax
noncomputable def E28 : Env Tryz.prog := E27.add []
end Go.Proofs.YtokgbcachcmeaaaGreatDoor
/-
The reference: text, Mul: their runs.
-/
set_option linter.unusedSimpArgs false
set_option linter.unusedVariables false
namespace Go.Proofs.YtokgbcachcmeaaaGreatDoor
open Go.RowKit Ax
end Go.Proofs.YtokgbcachcmeaaaGreatDoor
/-
The reference: text, Mul.
-/
set_option linter.unusedSimpArgs false
set_option linter.unusedVariables false
namespace Go.Proofs.YtokgbcachcmeaaaGreatDoor
open Go.RowKit Ax
theorem trimmed_self (x : Nat) : trimmed (mg x) = mg x := by rw [trimmed_mg (mg_words x), val_mg]
theorem wOf_zv {n : Bool} {x : Nat} (h : x < Pq.bp 32) : wOf (Pq.zv n x) = (n && decide (x ≠ 0), ⟨x, h⟩) := by
  have ha : (Pq.zv n x).natAbs = x := Pq.zv_abs n x
  unfold wOf
  rw [dif_pos (by rw [ha]; exact h)]
  refine Prod.ext ?_ (Subtype.ext ha)
  cases n with
  | false => simp [Pq.zv]
  | true =>
    simp only [Pq.zv, if_true, Bool.true_and]
    rw [decide_eq_decide]
    omega
noncomputable def E29 : Env Tryz.prog := E28.add []
end Go.Proofs.YtokgbcachcmeaaaGreatDoor
/-
Contracts for calls that are known to succeed, or to fail: no fork.
-/
set_option linter.unusedSimpArgs false
set_option linter.unusedVariables false
namespace Ax
open Go Go.RowKit
theorem must_con {P : Program} {f : FuncId} {ts : List (Bool × Cd)} {pre : Els ts → Prop} {row : Bool} {c : Cd} {b : Els ts → Bool} {F d : Els ts → El c}
    (h : ConOk P f [] (pureRun' ts fun x => .need (pre x) (ansT row c (b x) (F x) (d x)))) : ConOk P f [] (pureRun' ts fun x => .need (pre x ∧ b x = true) (.lt (F x) fun g => .ret (.tup [encA row c g, .one (.kb true)]))) := by
  refine con_weaken h fun args m Q hq => ?_
  unfold pureRun' at hq ⊢
  split at hq
  · rw [T.wp_bind] at hq ⊢
    obtain ⟨⟨hp, hb⟩, hq⟩ := hq
    refine ⟨hp, fun _ => ⟨_, hq, fun _ _ _ _ h => h⟩, fun e => by rw [hb] at e; cases e⟩
  · exact hq.elim
theorem must_con0 {P : Program} {f : FuncId} {ts : List (Bool × Cd)} {row : Bool} {c : Cd} {b : Els ts → Bool} {F d : Els ts → El c}
    (h : ConOk P f [] (pureRun' ts fun x => ansT row c (b x) (F x) (d x))) : ConOk P f [] (pureRun' ts fun x => .need (b x = true) (.lt (F x) fun g => .ret (.tup [encA row c g, .one (.kb true)]))) := by
  refine con_weaken h fun args m Q hq => ?_
  unfold pureRun' at hq ⊢
  split at hq
  · rw [T.wp_bind] at hq ⊢
    obtain ⟨hb, hq⟩ := hq
    refine ⟨fun _ => ⟨_, hq, fun _ _ _ _ h => h⟩, fun e => by rw [hb] at e; cases e⟩
  · exact hq.elim
end Ax
/-
What known needs: its calls are known to succeed.
-/
set_option linter.unusedSimpArgs false
set_option linter.unusedVariables false
namespace Go.Proofs.YtokgbcachcmeaaaGreatDoor
open Go.RowKit Ax
end Go.Proofs.YtokgbcachcmeaaaGreatDoor
/-
known.
-/
set_option linter.unusedSimpArgs false
set_option linter.unusedVariables false
namespace Go.Proofs.YtokgbcachcmeaaaGreatDoor
open Go.RowKit Ax
end Go.Proofs.YtokgbcachcmeaaaGreatDoor
/-
known tells true.
-/
set_option linter.unusedSimpArgs false
set_option linter.unusedVariables false
namespace Go.Proofs.YtokgbcachcmeaaaGreatDoor
open Go.RowKit Ax
end Go.Proofs.YtokgbcachcmeaaaGreatDoor
/-
The reference: Text; RatioTextBack: their runs.
-/
set_option linter.unusedSimpArgs false
set_option linter.unusedVariables false
namespace Go.Proofs.YtokgbcachcmeaaaGreatDoor
open Go.RowKit Ax
end Go.Proofs.YtokgbcachcmeaaaGreatDoor
/-
The reference: Text.
-/
set_option linter.unusedSimpArgs false
set_option linter.unusedVariables false
namespace Go.Proofs.YtokgbcachcmeaaaGreatDoor
open Go.RowKit Ax
noncomputable def E30 : Env Tryz.prog := E29.add []
end Go.Proofs.YtokgbcachcmeaaaGreatDoor
/-
The reference: what is known of amounts.
-/
set_option linter.unusedSimpArgs false
set_option linter.unusedVariables false
namespace Go.Proofs.YtokgbcachcmeaaaGreatDoor
open Go.RowKit Ax
noncomputable def E31 : Env Tryz.prog := E30.add [con_psub, con_pcmp, con_pbits, con_pshl]
noncomputable def E31d : Env Tryz.prog := E31.fz [(13, [7])]
end Go.Proofs.YtokgbcachcmeaaaGreatDoor
/-
The reference: trees of divmod's loop.
-/
set_option linter.unusedSimpArgs false
set_option linter.unusedVariables false
namespace Go.Proofs.YtokgbcachcmeaaaGreatDoor
open Go.RowKit Ax
noncomputable def tr_pdivL (x : RSpec.X spDiv × RSpec.Y spDiv × (List (El (RSpec.c spDiv)) × Nat)) : T (RRd spDiv) :=
 .ite (decide (x.1.2.2.1 ≥ (0 : Int)))
  (.need (Words x.1.1 ∧ (0 : Nat) < List.length x.1.1 ∧ List.length x.1.1 ≤ (1000000 : Nat) ∧ (0 : El (Cd.int .i64)) ≤ x.1.2.2.1 ∧ x.1.2.2.1 ≤ (100000000 : El (Cd.int .i64))) (.need (x.1.2.1 = mg (valL x.1.2.1) ∧ mg (valL x.1.1 * (2 : Nat) ^ Int.toNat x.1.2.2.1) = mg (valL (mg (valL x.1.1 * (2 : Nat) ^ Int.toNat x.1.2.2.1))) ∧ List.length x.1.2.1 ≤ (1000000 : Nat) ∧ List.length (mg (valL x.1.1 * (2 : Nat) ^ Int.toNat x.1.2.2.1)) ≤ (1000000 : Nat)) (.ite (decide (Pq.cz (↑(valL x.1.2.1) : Int) (↑(valL (mg (valL x.1.1 * (2 : Nat) ^ Int.toNat x.1.2.2.1))) : Int) ≥ (0 : Int)))
     (.need (x.1.2.1 = mg (valL x.1.2.1) ∧ mg (valL x.1.1 * (2 : Nat) ^ Int.toNat x.1.2.2.1) = mg (valL (mg (valL x.1.1 * (2 : Nat) ^ Int.toNat x.1.2.2.1))) ∧ List.length x.1.2.1 ≤ (1000000 : Nat) ∧ valL (mg (valL x.1.1 * (2 : Nat) ^ Int.toNat x.1.2.2.1)) ≤ valL x.1.2.1) (.need ((32 : Int) ≠ (0 : Int)) (.need ((32 : Int) ≠ (0 : Int)) (.need ((0 : Int) ≤ IntKind.wrap .i64 (Int.tdiv x.1.2.2.1 (32 : Int)) ∧ IntKind.wrap .i64 (Int.tdiv x.1.2.2.1 (32 : Int)) < (↑(List.length x.2.2.1) : Int)) (.get x.2.2.1 (IntKind.wrap .i64 (Int.tdiv x.1.2.2.1 (32 : Int))) (fun v0 =>
          .need ((32 : Int) ≠ (0 : Int)) (.need ((0 : Int) ≤ IntKind.wrap .u64 (Int.tmod x.1.2.2.1 (32 : Int))) (.need ((0 : Int) ≤ IntKind.wrap .i64 (Int.tdiv x.1.2.2.1 (32 : Int)) ∧ IntKind.wrap .i64 (Int.tdiv x.1.2.2.1 (32 : Int)) < (↑(List.length x.2.2.1) : Int)) (.need (IntKind.wrap .i64 (Int.tdiv x.1.2.2.1 (32 : Int)) < (↑(List.length x.2.2.1) : Int)) (.need (List.length x.2.2.1 = List.length (List.set x.2.2.1 (Int.toNat (IntKind.wrap .i64 (Int.tdiv x.1.2.2.1 (32 : Int)))) (IntKind.wrap .u32 (↑(BitVec.toNat (BitVec.ofInt (IntKind.bits .u32) v0 ||| BitVec.ofInt (IntKind.bits .u32) (IntKind.wrap .u32 ((1 : Int) * (2 : Int) ^ Min.min (Int.toNat (IntKind.wrap .u64 (Int.tmod x.1.2.2.1 (32 : Int)))) (IntKind.bits .u32))))) : Int))) ∧ x.2.2.2 = x.2.2.2) (.ret (.again (x.1.1, (mg (valL x.1.2.1 - valL (mg (valL x.1.1 * (2 : Nat) ^ Int.toNat x.1.2.2.1))), (IntKind.wrap .i64 (x.1.2.2.1 - (1 : Int)), ()))) () (some ((List.set x.2.2.1 (Int.toNat (IntKind.wrap .i64 (Int.tdiv x.1.2.2.1 (32 : Int)))) (IntKind.wrap .u32 (↑(BitVec.toNat (BitVec.ofInt (IntKind.bits .u32) v0 ||| BitVec.ofInt (IntKind.bits .u32) (IntKind.wrap .u32 ((1 : Int) * (2 : Int) ^ Min.min (Int.toNat (IntKind.wrap .u64 (Int.tmod x.1.2.2.1 (32 : Int)))) (IntKind.bits .u32))))) : Int)), x.2.2.2)))))))))))))))
     (.need (List.length x.2.2.1 = List.length x.2.2.1 ∧ x.2.2.2 = x.2.2.2) (.ret (.again (x.1.1, (x.1.2.1, (IntKind.wrap .i64 (x.1.2.2.1 - (1 : Int)), ()))) () (some x.2.2)))))))
  (.need (List.length x.2.2.1 = List.length x.2.2.1 ∧ x.2.2.2 = x.2.2.2) (.ret (.out (Go.Exit.exit (0 : Nat)) [(.one (.ds (Cd.int .u32) x.1.2.1))] () (some x.2.2))))
theorem tr_pdivL_eq (x : RSpec.X spDiv × RSpec.Y spDiv × (List (El (RSpec.c spDiv)) × Nat)) : RSpec.round spDiv E31 (fun _ => none) (bodyOf Tryz.f71 0) x.1 x.2.1 (some x.2.2) = tr_pdivL x := by kernel_rfl
end Go.Proofs.YtokgbcachcmeaaaGreatDoor
/-
The reference: divmod's loop.
-/
set_option linter.unusedSimpArgs false
set_option linter.unusedVariables false
namespace Go.Proofs.YtokgbcachcmeaaaGreatDoor
open Go.RowKit Ax
theorem div_step {Q m L w : Nat} (hd : 2 ^ (m + 1) ∣ Q) (hq : Q < Pq.bp L) (hm : m < 32 * L) (hw : Pq.wd Q (m / 32) = w) :
    ((BitVec.ofInt (IntKind.bits .u32) (w : Int) ||| BitVec.ofInt (IntKind.bits .u32) ((2 ^ (m % 32) : Nat) : Int)).toNat = w + 2 ^ (m % 32)) ∧ w + 2 ^ (m % 32) < 4294967296 ∧ 2 ^ (m % 32) < 4294967296 ∧ (rw' L Q).set (m / 32) ((w + 2 ^ (m % 32) : Nat) : Int) = rw' L (Q + 2 ^ m) := by
  have hs : m % 32 < 32 := Nat.mod_lt _ (by decide)
  have hmm : m = m % 32 + 32 * (m / 32) := (Nat.mod_add_div m 32).symm
  have e2 : 2 ^ m = 2 ^ (m % 32) * Pq.bp (m / 32) := by
    rw [bp_pow, ← Nat.pow_add, ← hmm]
  have hwl : w < 4294967296 := by rw [← hw]; exact Pq.wd_lt _ _
  have hwd : 2 ^ (m % 32 + 1) ∣ w := by
    obtain ⟨t, ht⟩ := hd
    have e3 : Q = (2 ^ (m % 32 + 1) * t) * Pq.bp (m / 32) := by
      rw [ht, Nat.pow_succ, e2, Nat.pow_succ]
      simp only [Nat.mul_assoc, Nat.mul_comm, Nat.mul_left_comm]
    have hp : 4294967296 = 2 ^ (m % 32 + 1) * 2 ^ (31 - m % 32) := by rw [← Nat.pow_add, show m % 32 + 1 + (31 - m % 32) = 32 by omega]
    have : w = 2 ^ (m % 32 + 1) * (t % 2 ^ (31 - m % 32)) := by
      rw [← hw]
      unfold Pq.wd
      rw [e3, Nat.mul_div_cancel _ (Pq.bp_pos _), hp, Nat.mul_mod_mul_left]
    rw [this]
    exact Nat.dvd_mul_right _ _
  have hps := Nat.two_pow_pos (m % 32)
  have es : 2 ^ (m % 32 + 1) = 2 * 2 ^ (m % 32) := by rw [Nat.pow_succ, Nat.mul_comm]
  have hs31 : 2 ^ (m % 32) ≤ 2147483648 := by
    rw [show 2147483648 = 2 ^ 31 from rfl]; exact Nat.pow_le_pow_right (by decide) (by omega)
  have hsum : w + 2 ^ (m % 32) < 4294967296 := by
    obtain ⟨q, hq⟩ := hwd
    have hp : 4294967296 = 2 ^ (m % 32 + 1) * 2 ^ (31 - m % 32) := by rw [← Nat.pow_add, show m % 32 + 1 + (31 - m % 32) = 32 by omega]
    rw [hq, hp] at hwl
    have hql := Nat.lt_of_mul_lt_mul_left hwl
    have : 2 ^ (m % 32 + 1) * q + 2 ^ (m % 32 + 1) ≤ 2 ^ (m % 32 + 1) * 2 ^ (31 - m % 32) := by rw [← Nat.mul_succ]; exact Nat.mul_le_mul_left _ hql
    rw [hq, hp]
    omega
  refine ⟨?_, hsum, by omega, ?_⟩
  · obtain ⟨q, hq⟩ := hwd
    have c1 : (BitVec.ofInt (IntKind.bits .u32) (w : Int)).toNat = w := by
      rw [BitVec.toNat_ofInt]
      show ((w : Int) % 4294967296).toNat = _
      omega
    have c2 : (BitVec.ofInt (IntKind.bits .u32) ((2 ^ (m % 32) : Nat) : Int)).toNat = 2 ^ (m % 32) := by
      rw [BitVec.toNat_ofInt]
      show (((2 ^ (m % 32) : Nat) : Int) % 4294967296).toNat = _
      generalize 2 ^ (m % 32) = z at *
      omega
    rw [BitVec.toNat_or, c1, c2, hq, ← Nat.two_pow_add_eq_or_of_lt (by omega) q]
  · refine rw_set hq (by omega) (by omega) (by omega) ?_
    rw [hw, e2]
    have : ((w + 2 ^ (m % 32) : Nat) : Int) - (w : Int) = ((2 ^ (m % 32) : Nat) : Int) := by omega
    rw [this, Int.natCast_add, Int.natCast_mul (2 ^ (m % 32)), Int.mul_comm]
def outDiv (x : RSpec.X spDiv) (y : RSpec.Y spDiv) (g : RSpec.G spDiv) : T (Exit × List Av × RSpec.Y spDiv × RSpec.G spDiv) :=
  match g with
  | none => .fail
  | some r => .need (-1 ≤ x.2.2.1 ∧ x.2.2.1 < 32 * (List.length r.1 : Int) ∧ x.2.2.1 ≤ 10000000 ∧ Words x.1 ∧ 0 < List.length x.1 ∧ List.length x.1 ≤ 500000 ∧ (x.2.1 : List Int) = mg (valL x.2.1) ∧ List.length x.2.1 ≤ 1000000 ∧ valL x.2.1 < valL x.1 * 2 ^ (x.2.2.1 + 1).toNat ∧ 2 ^ (x.2.2.1 + 1).toNat ∣ valL r.1 ∧ valL r.1 + valL x.2.1 / valL x.1 < Pq.bp (List.length r.1) ∧ Words r.1)
      (.ret (.exit 0, [.one (.ds (.int .u32) (mg (valL x.2.1 % valL x.1)))], y, some (rw' (List.length r.1) (valL r.1 + valL x.2.1 / valL x.1), r.2)))
theorem pdivL_core (b r : List Int) (i : Int) (y : RSpec.Y spDiv) (xs : List Int) (cap : Nat) (Q : Exit × List Av × RSpec.Y spDiv × RSpec.G spDiv → Prop) (h : (outDiv (b, r, i, ()) y (some (xs, cap))).wp Q) : (tr_pdivL ((b, r, i, ()), y, (xs, cap))).wp fun r' => match r' with
      | .again x' y' g' => (x'.2.2.1 + 1).toNat < (i + 1).toNat ∧ (outDiv x' y' g').wp Q
      | .out e avs y' g' => Q (e, avs, y', g') := by
  unfold tr_pdivL
  unfold outDiv at h ⊢
  simp only [T.wp] at h ⊢
  dsimp only [El, vts, spDiv] at h ⊢
  obtain ⟨⟨i0, iL, i1, wb, lb0, lb, mr, lr, hlt, hd, hfit, wx⟩, hq⟩ := h
  obtain ⟨L, hL⟩ : ∃ L, xs.length = L := ⟨_, rfl⟩
  obtain ⟨V, hV⟩ : ∃ V, valL xs = V := ⟨_, rfl⟩
  have hxs : xs = rw' L V := rw_of wx hL hV
  rw [hL] at iL hfit hq
  rw [hV] at hd hfit hq
  have hVL : V < Pq.bp L := Nat.lt_of_le_of_lt (Nat.le_add_right _ _) hfit
  have rv : ∀ {q : Nat}, q < Pq.bp L → valL (rw' L q) = q := fun h => rw_val h
  subst hxs
  have hB : 0 < valL b := Nat.pos_of_ne_zero fun h0 => by rw [h0, Nat.zero_mul] at hlt; omega
  refine ⟨fun hge => ?_, fun hge => ?_⟩
  · have hge := of_decide_eq_true hge
    obtain ⟨m, hm⟩ : ∃ m : Nat, i = m := ⟨i.toNat, by omega⟩
    subst hm
    rw [show ((m : Int) + 1).toNat = m + 1 by omega] at hlt hd
    have e1 : IntKind.i64.wrap ((m : Int) - 1) = (m : Int) - 1 := IntWalk.i64_in _ (by omega)
    have e2 : ((m : Int) - 1 + 1).toNat = m := by omega
    have e3 : IntKind.i64.wrap (Int.tdiv (m : Int) 32) = ((m / 32 : Nat) : Int) := by
      rw [Int.tdiv_eq_ediv_of_nonneg (by omega), IntWalk.i64_in _ (by omega)]; omega
    have e4 : IntKind.u64.wrap (Int.tmod (m : Int) 32) = ((m % 32 : Nat) : Int) := by
      rw [Int.tmod_eq_emod_of_nonneg (by omega), w_u64 (by omega)]; omega
    have e5 : min (m % 32) (IntKind.bits .u32) = m % 32 := by
      show min (m % 32) 32 = m % 32
      omega
    obtain ⟨o1, o2, o3, o4⟩ := div_step hd hVL (by omega) rfl
    have e6 : ∀ z : Nat, z < 4294967296 → IntKind.u32.wrap (z : Int) = z := fun z hz => by rw [w_32]; omega
    have e7 : IntKind.u32.wrap (1 * 2 ^ (m % 32)) = ((2 ^ (m % 32) : Nat) : Int) := by
      rw [Int.one_mul]
      have : (2 : Int) ^ (m % 32) = ((2 ^ (m % 32) : Nat) : Int) := by rw [Int.natCast_pow]; rfl
      rw [this, e6 _ o3]
    have hsl : (mg (valL b * 2 ^ m)).length ≤ 1000000 := by
      have hb := val_words wb
      have h2 := (shl_lt (i := b.length) (k := m / 32) (s := m % 32) hb (by omega)).2
      rw [bp_pow (m / 32), Nat.mul_assoc, ← Nat.pow_add, show m % 32 + 32 * (m / 32) = m by omega] at h2
      have := mg_len.1 h2
      omega
    have hcz : decide (Pq.cz (valL r) (valL b * 2 ^ m : Nat) ≥ 0) = decide (valL b * 2 ^ m ≤ valL r) := by
      rw [decide_eq_decide]
      unfold Pq.cz
      split
      · omega
      · split <;> omega
    simp only [Int.toNat_natCast, val_mg, hcz, e1, e2, e3, e4, e5, e7, rw_len, List.length_set]
    refine ⟨⟨wb, lb0, by omega, by omega, by omega⟩, ⟨mr, trivial, lr, hsl⟩, fun hle => ?_, fun hgt => ?_⟩
    · have hle := of_decide_eq_true hle
      refine ⟨⟨mr, trivial, lr, hle⟩, by decide, by decide, ⟨by omega, by omega⟩, _, by omega, rw_get (by omega), by decide, by omega, ⟨by omega, by omega⟩, by omega, ⟨trivial, trivial⟩, ?_⟩
      rw [o1, e6 _ o2, o4]
      have hdiv : valL r / valL b = 2 ^ m + (valL r - valL b * 2 ^ m) / valL b := by
        conv => lhs; rw [show valL r = (valL r - valL b * 2 ^ m) + valL b * 2 ^ m by omega]
        rw [Nat.add_mul_div_left _ _ hB, Nat.add_comm]
      have hmod : valL r % valL b = (valL r - valL b * 2 ^ m) % valL b := by
        conv => lhs; rw [show valL r = (valL r - valL b * 2 ^ m) + valL b * 2 ^ m by omega]
        rw [Nat.add_mul_mod_self_left]
      have hV2 : V + 2 ^ m < Pq.bp L := by
        rw [hdiv, ← Nat.add_assoc] at hfit
        exact Nat.lt_of_le_of_lt (Nat.le_add_right _ _) hfit
      rw [rv hV2]
      rw [hdiv] at hfit hq
      rw [hmod, ← Nat.add_assoc] at hq
      have hle2 : valL r - valL b * 2 ^ m ≤ valL r := Nat.sub_le _ _
      have hml : (mg (valL r - valL b * 2 ^ m)).length ≤ 1000000 := by
        refine mg_len.1 (Nat.lt_of_le_of_lt hle2 ?_)
        rw [mg_len, ← mr]; exact lr
      rw [Nat.pow_succ, Nat.mul_comm (2 ^ m) 2, Nat.mul_left_comm] at hlt
      refine ⟨by omega, ⟨by omega, by omega, by omega, wb, lb0, lb, trivial, hml, by omega, ?_, by rw [Nat.add_assoc]; exact hfit, rw_words _ _⟩, hq⟩
      refine Nat.dvd_add ?_ (Nat.dvd_refl _)
      exact Nat.dvd_trans ⟨2, by rw [Nat.pow_succ]⟩ hd
    · have hgt := of_decide_eq_false hgt
      rw [rv hVL]
      refine ⟨⟨trivial, trivial⟩, by omega, ⟨by omega, by omega, by omega, wb, lb0, lb, mr, lr, by omega, ?_, hfit, rw_words _ _⟩, hq⟩
      exact Nat.dvd_trans ⟨2, by rw [Nat.pow_succ]⟩ hd
  · have hge := of_decide_eq_false hge
    rw [show (i + 1).toNat = 0 by omega, Nat.pow_zero, Nat.mul_one] at hlt
    rw [Nat.div_eq_of_lt hlt, Nat.mod_eq_of_lt hlt, Nat.add_zero, ← mr] at hq
    exact ⟨⟨trivial, trivial⟩, hq⟩
theorem pdivL_ok : LoopOk Tryz.prog 0 (bodyOf Tryz.f71 0) (spDiv.run outDiv) :=
  loopR_ok (E := E31) (L := fun _ => none) mixed 0 (loops_none _ _ _) spDiv (Nat.zero_le _) outDiv (fun x _ _ => (x.2.2.1 + 1).toNat) (by
    rintro ⟨b, r, i, ⟨⟩⟩ y g Q h
    match g, h with
    | some (xs, cap), h =>
      rw [tr_pdivL_eq ((b, r, i, ()), y, (xs, cap))]
      exact pdivL_core b r i y xs cap Q h
    | none, h => exact h.elim)
noncomputable def lpDiv : Loops := manyL [(7, spDiv.run outDiv)]
end Go.Proofs.YtokgbcachcmeaaaGreatDoor
/-
The reference: divmod's tree, gcd's loop.
-/
set_option linter.unusedSimpArgs false
set_option linter.unusedVariables false
namespace Go.Proofs.YtokgbcachcmeaaaGreatDoor
open Go.RowKit Ax
noncomputable def tr_pdivmod (x : Els [(false, .sl (.int .u32)), (false, .sl (.int .u32))]) : T Av :=
 .need (x.1 = mg (valL (x.1)) ∧ List.length (x.1) ≤ (1000000 : Nat)) (.need (x.2.1 = mg (valL x.2.1) ∧ List.length x.2.1 ≤ (1000000 : Nat)) (.ite (decide (IntKind.wrap .i64 ((↑(Pq.bitn (valL (x.1))) : Int) - (↑(Pq.bitn (valL x.2.1)) : Int)) < (0 : Int)))
    (.ret (.tup [(.one (.v (Go.Value.slice Option.none (0 : Nat) (0 : Nat)))), (.one (.ds (Cd.int .u32) (x.1)))]))
    (.need ((32 : Int) ≠ (0 : Int)) (.need ((0 : Int) ≤ IntKind.wrap .i64 (IntKind.wrap .i64 (Int.tdiv (IntKind.wrap .i64 ((↑(Pq.bitn (valL (x.1))) : Int) - (↑(Pq.bitn (valL x.2.1)) : Int))) (32 : Int)) + (1 : Int)) ∧ IntKind.wrap .i64 (IntKind.wrap .i64 (Int.tdiv (IntKind.wrap .i64 ((↑(Pq.bitn (valL (x.1))) : Int) - (↑(Pq.bitn (valL x.2.1)) : Int))) (32 : Int)) + (1 : Int)) = IntKind.wrap .i64 (IntKind.wrap .i64 (Int.tdiv (IntKind.wrap .i64 ((↑(Pq.bitn (valL (x.1))) : Int) - (↑(Pq.bitn (valL x.2.1)) : Int))) (32 : Int)) + (1 : Int)) ∧ (nat_lit 3 + (1 : Nat)) * Int.toNat (IntKind.wrap .i64 (IntKind.wrap .i64 (Int.tdiv (IntKind.wrap .i64 ((↑(Pq.bitn (valL (x.1))) : Int) - (↑(Pq.bitn (valL x.2.1)) : Int))) (32 : Int)) + (1 : Int))) ≤ (281474976710656 : Nat) ∧ Int.toNat (IntKind.wrap .i64 (IntKind.wrap .i64 (Int.tdiv (IntKind.wrap .i64 ((↑(Pq.bitn (valL (x.1))) : Int) - (↑(Pq.bitn (valL x.2.1)) : Int))) (32 : Int)) + (1 : Int))) ≤ Go.maxLen) (.need (Int.toNat (IntKind.wrap .i64 (IntKind.wrap .i64 (Int.tdiv (IntKind.wrap .i64 ((↑(Pq.bitn (valL (x.1))) : Int) - (↑(Pq.bitn (valL x.2.1)) : Int))) (32 : Int)) + (1 : Int))) = List.length (List.replicate (Int.toNat (IntKind.wrap .i64 (IntKind.wrap .i64 (Int.tdiv (IntKind.wrap .i64 ((↑(Pq.bitn (valL (x.1))) : Int) - (↑(Pq.bitn (valL x.2.1)) : Int))) (32 : Int)) + (1 : Int)))) (0 : Int)) ∧ Int.toNat (IntKind.wrap .i64 (IntKind.wrap .i64 (Int.tdiv (IntKind.wrap .i64 ((↑(Pq.bitn (valL (x.1))) : Int) - (↑(Pq.bitn (valL x.2.1)) : Int))) (32 : Int)) + (1 : Int))) = Int.toNat (IntKind.wrap .i64 (IntKind.wrap .i64 (Int.tdiv (IntKind.wrap .i64 ((↑(Pq.bitn (valL (x.1))) : Int) - (↑(Pq.bitn (valL x.2.1)) : Int))) (32 : Int)) + (1 : Int)))) (.need ((-1 : El (Cd.int .i64)) ≤ IntKind.wrap .i64 ((↑(Pq.bitn (valL (x.1))) : Int) - (↑(Pq.bitn (valL x.2.1)) : Int)) ∧ IntKind.wrap .i64 ((↑(Pq.bitn (valL (x.1))) : Int) - (↑(Pq.bitn (valL x.2.1)) : Int)) < (32 : El (Cd.int .i64)) * (↑(List.length (List.replicate (Int.toNat (IntKind.wrap .i64 (IntKind.wrap .i64 (Int.tdiv (IntKind.wrap .i64 ((↑(Pq.bitn (valL (x.1))) : Int) - (↑(Pq.bitn (valL x.2.1)) : Int))) (32 : Int)) + (1 : Int)))) (0 : Int))) : Int) ∧ IntKind.wrap .i64 ((↑(Pq.bitn (valL (x.1))) : Int) - (↑(Pq.bitn (valL x.2.1)) : Int)) ≤ (10000000 : El (Cd.int .i64)) ∧ Words x.2.1 ∧ (0 : Nat) < List.length x.2.1 ∧ List.length x.2.1 ≤ (500000 : Nat) ∧ x.1 = mg (valL (x.1)) ∧ List.length (x.1) ≤ (1000000 : Nat) ∧ valL (x.1) < valL x.2.1 * (2 : Nat) ^ Int.toNat (IntKind.wrap .i64 ((↑(Pq.bitn (valL (x.1))) : Int) - (↑(Pq.bitn (valL x.2.1)) : Int)) + (1 : El (Cd.int .i64))) ∧ (2 : Nat) ^ Int.toNat (IntKind.wrap .i64 ((↑(Pq.bitn (valL (x.1))) : Int) - (↑(Pq.bitn (valL x.2.1)) : Int)) + (1 : El (Cd.int .i64))) ∣ valL (List.replicate (Int.toNat (IntKind.wrap .i64 (IntKind.wrap .i64 (Int.tdiv (IntKind.wrap .i64 ((↑(Pq.bitn (valL (x.1))) : Int) - (↑(Pq.bitn (valL x.2.1)) : Int))) (32 : Int)) + (1 : Int)))) (0 : Int)) ∧ valL (List.replicate (Int.toNat (IntKind.wrap .i64 (IntKind.wrap .i64 (Int.tdiv (IntKind.wrap .i64 ((↑(Pq.bitn (valL (x.1))) : Int) - (↑(Pq.bitn (valL x.2.1)) : Int))) (32 : Int)) + (1 : Int)))) (0 : Int)) + valL (x.1) / valL x.2.1 < Pq.bp (List.length (List.replicate (Int.toNat (IntKind.wrap .i64 (IntKind.wrap .i64 (Int.tdiv (IntKind.wrap .i64 ((↑(Pq.bitn (valL (x.1))) : Int) - (↑(Pq.bitn (valL x.2.1)) : Int))) (32 : Int)) + (1 : Int)))) (0 : Int))) ∧ Words (List.replicate (Int.toNat (IntKind.wrap .i64 (IntKind.wrap .i64 (Int.tdiv (IntKind.wrap .i64 ((↑(Pq.bitn (valL (x.1))) : Int) - (↑(Pq.bitn (valL x.2.1)) : Int))) (32 : Int)) + (1 : Int)))) (0 : Int))) (.need (List.length (rw' (List.length (List.replicate (Int.toNat (IntKind.wrap .i64 (IntKind.wrap .i64 (Int.tdiv (IntKind.wrap .i64 ((↑(Pq.bitn (valL (x.1))) : Int) - (↑(Pq.bitn (valL x.2.1)) : Int))) (32 : Int)) + (1 : Int)))) (0 : Int))) (valL (List.replicate (Int.toNat (IntKind.wrap .i64 (IntKind.wrap .i64 (Int.tdiv (IntKind.wrap .i64 ((↑(Pq.bitn (valL (x.1))) : Int) - (↑(Pq.bitn (valL x.2.1)) : Int))) (32 : Int)) + (1 : Int)))) (0 : Int)) + valL (x.1) / valL x.2.1)) ≤ List.length (rw' (List.length (List.replicate (Int.toNat (IntKind.wrap .i64 (IntKind.wrap .i64 (Int.tdiv (IntKind.wrap .i64 ((↑(Pq.bitn (valL (x.1))) : Int) - (↑(Pq.bitn (valL x.2.1)) : Int))) (32 : Int)) + (1 : Int)))) (0 : Int))) (valL (List.replicate (Int.toNat (IntKind.wrap .i64 (IntKind.wrap .i64 (Int.tdiv (IntKind.wrap .i64 ((↑(Pq.bitn (valL (x.1))) : Int) - (↑(Pq.bitn (valL x.2.1)) : Int))) (32 : Int)) + (1 : Int)))) (0 : Int)) + valL (x.1) / valL x.2.1))) (.need (lenOk (List.length (List.take (List.length (rw' (List.length (List.replicate (Int.toNat (IntKind.wrap .i64 (IntKind.wrap .i64 (Int.tdiv (IntKind.wrap .i64 ((↑(Pq.bitn (valL (x.1))) : Int) - (↑(Pq.bitn (valL x.2.1)) : Int))) (32 : Int)) + (1 : Int)))) (0 : Int))) (valL (List.replicate (Int.toNat (IntKind.wrap .i64 (IntKind.wrap .i64 (Int.tdiv (IntKind.wrap .i64 ((↑(Pq.bitn (valL (x.1))) : Int) - (↑(Pq.bitn (valL x.2.1)) : Int))) (32 : Int)) + (1 : Int)))) (0 : Int)) + valL (x.1) / valL x.2.1))) (rw' (List.length (List.replicate (Int.toNat (IntKind.wrap .i64 (IntKind.wrap .i64 (Int.tdiv (IntKind.wrap .i64 ((↑(Pq.bitn (valL (x.1))) : Int) - (↑(Pq.bitn (valL x.2.1)) : Int))) (32 : Int)) + (1 : Int)))) (0 : Int))) (valL (List.replicate (Int.toNat (IntKind.wrap .i64 (IntKind.wrap .i64 (Int.tdiv (IntKind.wrap .i64 ((↑(Pq.bitn (valL (x.1))) : Int) - (↑(Pq.bitn (valL x.2.1)) : Int))) (32 : Int)) + (1 : Int)))) (0 : Int)) + valL (x.1) / valL x.2.1))))) (.ret (.tup [(.one (.ds (Cd.int .u32) (trimmed (List.take (List.length (rw' (List.length (List.replicate (Int.toNat (IntKind.wrap .i64 (IntKind.wrap .i64 (Int.tdiv (IntKind.wrap .i64 ((↑(Pq.bitn (valL (x.1))) : Int) - (↑(Pq.bitn (valL x.2.1)) : Int))) (32 : Int)) + (1 : Int)))) (0 : Int))) (valL (List.replicate (Int.toNat (IntKind.wrap .i64 (IntKind.wrap .i64 (Int.tdiv (IntKind.wrap .i64 ((↑(Pq.bitn (valL (x.1))) : Int) - (↑(Pq.bitn (valL x.2.1)) : Int))) (32 : Int)) + (1 : Int)))) (0 : Int)) + valL (x.1) / valL x.2.1))) (rw' (List.length (List.replicate (Int.toNat (IntKind.wrap .i64 (IntKind.wrap .i64 (Int.tdiv (IntKind.wrap .i64 ((↑(Pq.bitn (valL (x.1))) : Int) - (↑(Pq.bitn (valL x.2.1)) : Int))) (32 : Int)) + (1 : Int)))) (0 : Int))) (valL (List.replicate (Int.toNat (IntKind.wrap .i64 (IntKind.wrap .i64 (Int.tdiv (IntKind.wrap .i64 ((↑(Pq.bitn (valL (x.1))) : Int) - (↑(Pq.bitn (valL x.2.1)) : Int))) (32 : Int)) + (1 : Int)))) (0 : Int)) + valL (x.1) / valL x.2.1)))))), (.one (.ds (Cd.int .u32) (mg (valL (x.1) % valL x.2.1))))]))))))))))
theorem tr_pdivmod_eq (x : Els [(false, .sl (.int .u32)), (false, .sl (.int .u32))]) : fnP E31d lpDiv Tryz.f71 (encs [(false, .sl (.int .u32)), (false, .sl (.int .u32))] x) = tr_pdivmod x := by kernel_rfl
end Go.Proofs.YtokgbcachcmeaaaGreatDoor
/-
The reference: divmod.
-/
set_option linter.unusedSimpArgs false
set_option linter.unusedVariables false
namespace Go.Proofs.YtokgbcachcmeaaaGreatDoor
open Go.RowKit Ax
theorem val_con_w {P : Program} {E : Env P} {L : Loops} {f : FuncId} {fn : Func} (hm : P.follows .mixedOrders = true) (hf : P.funcs[f]? = some fn) (hL : ∀ c, fn.body = some c → LoopsOk P 0 L c) (ts : List (Bool × Cd)) (pre : Els ts → Prop) (F : Els ts → Av)
    (h : ∀ x, pre x → (fnP E L fn (encs ts x)).wp (fun a => ∀ w R σ v, AvIs w R σ a v → AvIs w R σ (F x) v)) : ConOk P f [] (pureRun' ts fun x => .need (pre x) (.ret (F x))) := by
  refine con_weaken (con_ok (E := E) (L := L) hm hf hL ts (fun x => fnP E L fn (encs ts x)) (fun x Q h => h)) fun args m Q hq => ?_
  unfold pureRun' at hq ⊢
  split at hq
  · rw [T.wp_bind] at hq ⊢
    exact T.wp_mono (fun a ha => ⟨_, hq.2, ha⟩) (h _ hq.1)
  · exact hq.elim
theorem nil_av2 {w : World} {R : Nat → Prop} {σ : List Nat} {c : Cd} {a : Av} {v : Value} (h : AvIs w R σ (.tup [.one (.v (.slice none 0 0)), a]) v) : AvIs w R σ (.tup [.one (.ds c []), a]) v := by
  cases h with
  | tup us hl hi =>
    refine .tup us hl fun i x u hx hu => ?_
    match i, hx with
    | 0, rfl =>
      have := hi 0 _ u rfl hu
      rw [val_of this rfl]
      exact .one rfl (.dn .nil)
    | i + 1, hx => exact hi (i + 1) x u hx hu
theorem bitn_lt (x : Nat) : x < 2 ^ Pq.bitn x := Pq.bitn_le.1 (Nat.le_refl _)
theorem bitn_ge {x : Nat} (h : x ≠ 0) : 2 ^ (Pq.bitn x - 1) ≤ x := Nat.not_lt.1 fun h' => by
  have := Pq.bitn_le.2 h'
  have h0 : Pq.bitn x ≠ 0 := fun e => h (Pq.bitn_eq0.1 e)
  omega
theorem bitn_mg {x n : Nat} (h : (mg x).length ≤ n) : Pq.bitn x ≤ 32 * n := by
  have := mg_len.2 h
  rw [bp_pow] at this
  exact Pq.bitn_le.2 this
noncomputable def con_pdivmod : Con Tryz.prog := ⟨71, [], _, cf_pdivmod, val_con_w (E := E31d) (L := lpDiv) mixed Tryz.func71 (many_loops (by kernel_rfl) (by simp) (fun i p hp => by
    match i, hp with
    | 0, hp => cases hp; exact pdivL_ok
    | i + 1, hp => simp at hp)) [(false, .sl (.int .u32)), (false, .sl (.int .u32))] (fun x => (x.1 : List Int) = mg (valL x.1) ∧ (x.2.1 : List Int) = mg (valL x.2.1) ∧ List.length x.1 ≤ 100000 ∧ List.length x.2.1 ≤ 100000 ∧ valL x.2.1 ≠ 0) (fun x => .tup [.one (.ds (.int .u32) (mg (valL x.1 / valL x.2.1))), .one (.ds (.int .u32) (mg (valL x.1 % valL x.2.1)))]) fun x hx => by
  rw [tr_pdivmod_eq]
  obtain ⟨a, b, u⟩ := x
  revert a b
  intro (a : List Int) (b : List Int) (hx : a = mg (valL a) ∧ b = mg (valL b) ∧ a.length ≤ 100000 ∧ b.length ≤ 100000 ∧ valL b ≠ 0)
  obtain ⟨ma, mb, la, lb, hb⟩ := hx
  have wb : Words b := by rw [mb]; exact mg_words _
  have la' : (mg (valL a)).length ≤ 100000 := by rw [← ma]; exact la
  have lb' : (mg (valL b)).length ≤ 100000 := by rw [← mb]; exact lb
  have lb0 : 0 < b.length := Nat.pos_of_ne_zero fun h0 => hb (by
    have : b = [] := List.length_eq_zero_iff.1 h0
    rw [this]; rfl)
  have ba := bitn_mg la'
  have bb := bitn_mg lb'
  have a1 := bitn_lt (valL a)
  have b1 := bitn_ge hb
  have bb0 : Pq.bitn (valL b) ≠ 0 := fun e => hb (Pq.bitn_eq0.1 e)
  unfold tr_pdivmod
  simp only [T.wp]
  dsimp only [El]
  rw [IntWalk.i64_in ((Pq.bitn (valL a) : Int) - Pq.bitn (valL b)) (by omega)]
  refine ⟨⟨ma, by omega⟩, ⟨mb, by omega⟩, fun hlt => ?_, fun hge => ?_⟩
  · have hlt := of_decide_eq_true hlt
    have hab : valL a < valL b := by
      refine Nat.lt_of_lt_of_le a1 (Nat.le_trans (Nat.pow_le_pow_right (by decide) ?_) b1)
      omega
    rw [Nat.div_eq_of_lt hab, Nat.mod_eq_of_lt hab, mg_zero, ← ma]
    exact fun w R σ v hv => nil_av2 hv
  · have hge := of_decide_eq_false hge
    obtain ⟨n, hn⟩ : ∃ n : Nat, (Pq.bitn (valL a) : Int) - Pq.bitn (valL b) = n := ⟨Pq.bitn (valL a) - Pq.bitn (valL b), by omega⟩
    simp only [hn]
    have e1 : IntKind.i64.wrap (IntKind.i64.wrap (Int.tdiv (n : Int) 32) + 1) = ((n / 32 + 1 : Nat) : Int) := by
      rw [Int.tdiv_eq_ediv_of_nonneg (by omega), IntWalk.i64_in ((n : Int) / 32) (by omega), IntWalk.i64_in _ (by omega)]; omega
    have etk : ∀ Q, List.take (n / 32 + 1) (rw' (n / 32 + 1) Q) = rw' (n / 32 + 1) Q := fun Q => List.take_of_length_le (by rw [rw_len]; exact Nat.le_refl _)
    have e2 : ((n : Int) + 1).toNat = n + 1 := by omega
    simp only [e1, Int.toNat_natCast, List.length_replicate, rw_len, etk, val_zero, Nat.zero_add, e2]
    have hlt : valL a < valL b * 2 ^ (n + 1) := by
      refine Nat.lt_of_lt_of_le a1 (Nat.le_trans ?_ (Nat.mul_le_mul_right _ b1))
      rw [← Nat.pow_add]
      exact Nat.pow_le_pow_right (by decide) (by omega)
    have hq : valL a / valL b < Pq.bp (n / 32 + 1) := by
      refine Nat.lt_of_lt_of_le ((Nat.div_lt_iff_lt_mul (Nat.pos_of_ne_zero hb)).2 (by rw [Nat.mul_comm]; exact hlt)) ?_
      rw [bp_pow]
      exact Nat.pow_le_pow_right (by decide) (by omega)
    refine ⟨by decide, ⟨by omega, trivial, by omega, by unfold Go.maxLen; omega⟩, ⟨trivial, trivial⟩, ⟨by omega, by omega, by omega, wb, lb0, by omega, ma, by omega, hlt, ⟨0, by simp⟩, hq, words_zero _⟩, Nat.le_refl _, by unfold lenOk; omega, ?_⟩
    rw [trimmed_mg (rw_words _ _), rw_val hq]
    exact fun w R σ v hv => hv⟩
noncomputable def E32 : Env Tryz.prog := E31.add [con_pdivmod]
end Go.Proofs.YtokgbcachcmeaaaGreatDoor
/-
The reference: gcd's loop; tiny's tree.
-/
set_option linter.unusedSimpArgs false
set_option linter.unusedVariables false
namespace Go.Proofs.YtokgbcachcmeaaaGreatDoor
open Go.RowKit Ax
noncomputable def tr_pgcdL (x : LSpec.X spGcd × LSpec.Y spGcd) : T (Rd spGcd) :=
 .ite (decide ((↑(List.length x.1.2.1) : Int) > (0 : Int)))
  (.need (x.1.1 = mg (valL x.1.1) ∧ x.1.2.1 = mg (valL x.1.2.1) ∧ List.length x.1.1 ≤ (100000 : Nat) ∧ List.length x.1.2.1 ≤ (100000 : Nat) ∧ valL x.1.2.1 ≠ (0 : Nat)) (.ret (.again (x.1.2.1, (mg (valL x.1.1 % valL x.1.2.1), ())) ())))
  (.ret (.out (Go.Exit.exit (0 : Nat)) [(.one (.ds (Cd.int .u32) x.1.1))] ()))
theorem tr_pgcdL_eq (x : LSpec.X spGcd × LSpec.Y spGcd) : LSpec.round spGcd E32 (fun _ => none) (bodyOf Tryz.f70 0) x.1 x.2 = tr_pgcdL x := by kernel_rfl
end Go.Proofs.YtokgbcachcmeaaaGreatDoor
/-
The reference: gcd, tiny.
-/
set_option linter.unusedSimpArgs false
set_option linter.unusedVariables false
namespace Go.Proofs.YtokgbcachcmeaaaGreatDoor
open Go.RowKit Ax
def Tells (a b : Av) : Prop := ∀ w R σ v, AvIs w R σ a v → AvIs w R σ b v
def outGcd (x : LSpec.X spGcd) (y : LSpec.Y spGcd) : T (Exit × List Av × LSpec.Y spGcd) :=
  .need ((x.1 : List Int) = mg (valL x.1) ∧ (x.2.1 : List Int) = mg (valL x.2.1) ∧ List.length x.1 ≤ 100000 ∧ List.length x.2.1 ≤ 100000) (.ret (.exit 0, [.one (.ds (.int .u32) (mg (Nat.gcd (valL x.1) (valL x.2.1))))], ()))
theorem pgcdL_core (a b : List Int) (Q : Exit × List Av × LSpec.Y spGcd → Prop) (h : (outGcd (a, b, ()) ()).wp Q) : (tr_pgcdL ((a, b, ()), ())).wp fun r => match r with
      | .again x' y' => valL x'.2.1 < valL b ∧ (outGcd x' y').wp Q
      | .out e avs y' => Q (e, avs, y') := by
  unfold tr_pgcdL
  unfold outGcd at h ⊢
  simp only [T.wp] at h ⊢
  dsimp only [El, vts, spGcd] at h ⊢
  obtain ⟨⟨ma, mb, la, lb⟩, hq⟩ := h
  refine ⟨fun hgt => ?_, fun hle => ?_⟩
  · have hgt := of_decide_eq_true hgt
    have h0 : valL b ≠ 0 := fun h0 => by rw [h0, mg_zero] at mb; rw [mb] at hgt; simp at hgt
    have hlt : valL a % valL b < valL b := Nat.mod_lt _ (Nat.pos_of_ne_zero h0)
    rw [Nat.gcd_comm, Nat.gcd_rec, Nat.gcd_comm] at hq
    rw [val_mg]
    refine ⟨⟨ma, mb, la, lb, h0⟩, hlt, ⟨mb, rfl, lb, ?_⟩, hq⟩
    refine mg_len.1 (Nat.lt_trans hlt ?_)
    rw [mg_len, ← mb]; exact lb
  · have hle := of_decide_eq_false hle
    have h0 : b = [] := List.length_eq_zero_iff.1 (by omega)
    subst h0
    rw [val_nil, Nat.gcd_zero_right, ← ma] at hq
    exact hq
theorem pgcdL_ok : LoopOk Tryz.prog 0 (bodyOf Tryz.f70 0) (spGcd.run outGcd) :=
  loop_ok (E := E32) (L := fun _ => none) mixed 0 (loops_none _ _ _) spGcd (Nat.zero_le _) outGcd (fun x _ => valL x.2.1) (by
    rintro ⟨a, b, ⟨⟩⟩ ⟨⟩ Q h
    rw [tr_pgcdL_eq ((a, b, ()), ())]
    exact pgcdL_core a b Q h)
noncomputable def lpGcd : Loops := oneL 2 (spGcd.run outGcd)
noncomputable def E33 : Env Tryz.prog := E32.add []
end Go.Proofs.YtokgbcachcmeaaaGreatDoor
/-
The reference: trees of gcd, Is, Bits, Cmp, Sign, sum, tinies.
-/
set_option linter.unusedSimpArgs false
set_option linter.unusedVariables false
namespace Go.Proofs.YtokgbcachcmeaaaGreatDoor
open Go.RowKit Ax
theorem cf_pIs (xs : Array Value) (w : World) : (callFunc 39 xs).run Tryz.prog w = .ok (.enter 39 xs) w := by kernel_rfl
theorem cf_pBits (xs : Array Value) (w : World) : (callFunc 40 xs).run Tryz.prog w = .ok (.enter 40 xs) w := by kernel_rfl
theorem cf_prat (xs : Array Value) (w : World) : (callFunc 41 xs).run Tryz.prog w = .ok (.enter 41 xs) w := by kernel_rfl
noncomputable def tr_pgcd (x : Els [(false, .sl (.int .u32)), (false, .sl (.int .u32))]) : T Av :=
 .need (x.1 = mg (valL (x.1)) ∧ x.2.1 = mg (valL x.2.1) ∧ List.length (x.1) ≤ (100000 : Nat) ∧ List.length x.2.1 ≤ (100000 : Nat)) (.ret (.one (.ds (Cd.int .u32) (mg (Nat.gcd (valL (x.1)) (valL x.2.1))))))
theorem tr_pgcd_eq (x : Els [(false, .sl (.int .u32)), (false, .sl (.int .u32))]) : fnP E33 lpGcd Tryz.f70 (encs [(false, .sl (.int .u32)), (false, .sl (.int .u32))] x) = tr_pgcd x := by kernel_rfl
noncomputable def tr_pIs (x : Els [(true, cW)]) : T Av :=
 .ite (!x.1.1)
  (.ret (.one (.v (.bool (true)))))
  (.ret (.one (.v (.bool (decide ((↑(List.length (mg x.1.2.1)) : Int) > (0 : Int)))))))
theorem tr_pIs_eq (x : Els [(true, cW)]) : fnP E33 (fun _ => none) Tryz.f39 (encs [(true, cW)] x) = tr_pIs x := by kernel_rfl
noncomputable def tr_pBits (x : Els [(true, cW)]) : T Av :=
 .need (mg x.1.2.1 = mg (valL (mg x.1.2.1)) ∧ List.length (mg x.1.2.1) ≤ (1000000 : Nat)) (.ret (.one (.v (.int .i64 ((↑(Pq.bitn (valL (mg x.1.2.1))) : Int))))))
theorem tr_pBits_eq (x : Els [(true, cW)]) : fnP E33 (fun _ => none) Tryz.f40 (encs [(true, cW)] x) = tr_pBits x := by kernel_rfl
end Go.Proofs.YtokgbcachcmeaaaGreatDoor
/-
The reference: gcd, Is, Bits, Cmp, Sign, sum, tinies.
-/
set_option linter.unusedSimpArgs false
set_option linter.unusedVariables false
namespace Go.Proofs.YtokgbcachcmeaaaGreatDoor
open Go.RowKit Ax
noncomputable def con_pgcd : Con Tryz.prog := ⟨70, [], _, cf_pgcd, val_con (E := E33) (L := lpGcd) mixed Tryz.func70 (one_loop pgcdL_ok (by kernel_rfl)) [(false, .sl (.int .u32)), (false, .sl (.int .u32))] (fun x => (x.1 : List Int) = mg (valL x.1) ∧ (x.2.1 : List Int) = mg (valL x.2.1) ∧ List.length x.1 ≤ 100000 ∧ List.length x.2.1 ≤ 100000) (fun x => .one (.ds (.int .u32) (mg (Nat.gcd (valL x.1) (valL x.2.1))))) fun x hx => by
  rw [tr_pgcd_eq]
  exact ⟨hx, rfl⟩⟩
theorem mg_pos_iff (x : Nat) : decide (((mg x).length : Int) > 0) = decide (x ≠ 0) := by
  rw [decide_eq_decide]
  constructor
  · intro hl h0; rw [h0, mg_zero] at hl; simp at hl
  · intro h0
    rcases Nat.eq_zero_or_pos (mg x).length with h' | h'
    · exact absurd (mg_nil.1 (List.length_eq_zero_iff.1 h')) h0
    · omega
theorem mg_w (w : W) : (mg w.2.1).length ≤ 32 := mg_len.1 w.2.2
noncomputable def con_pIs : Con Tryz.prog := ⟨39, [], _, cf_pIs, tot_con (E := E33) mixed Tryz.func39 no_loops [(true, cW)] (fun x => aB (isW x.1)) fun x => by
  rw [tr_pIs_eq]
  obtain ⟨⟨s, n⟩, u⟩ := x
  revert s n
  intro (s : Bool) (n : Amt)
  unfold tr_pIs
  simp only [T.wp]
  rw [mg_pos_iff]
  cases s with
  | false => exact ⟨fun _ => rfl, fun h => Bool.noConfusion h⟩
  | true =>
    refine ⟨fun h => Bool.noConfusion h, fun _ => ?_⟩
    have : isW ((true, n) : W) = decide (n.1 ≠ 0) := by
      rw [Bool.eq_iff_iff, isW_iff]
      simp
    rw [this]; rfl⟩
noncomputable def con_pBits : Con Tryz.prog := ⟨40, [], _, cf_pBits, tot_con (E := E33) mixed Tryz.func40 no_loops [(true, cW)] (fun x => aI .i64 (Pq.bitn x.1.2.1)) fun x => by
  rw [tr_pBits_eq]
  obtain ⟨w, u⟩ := x
  revert w
  intro (w : W)
  unfold tr_pBits
  simp only [T.wp]
  have := mg_w w
  refine ⟨⟨by rw [val_mg], by omega⟩, ?_⟩
  rw [val_mg]; rfl⟩
noncomputable def E34 : Env Tryz.prog := E33.add [con_pgcd, con_pIs, con_pBits]
end Go.Proofs.YtokgbcachcmeaaaGreatDoor
/-
The reference: trees of quick, rat, IsRat.
-/
set_option linter.unusedSimpArgs false
set_option linter.unusedVariables false
namespace Go.Proofs.YtokgbcachcmeaaaGreatDoor
open Go.RowKit Ax
noncomputable def tr_prat (x : Els [(false, .bool), (false, .sl (.int .u32)), (false, .sl (.int .u32))]) : T Av :=
 .need (x.2.1 = mg (valL x.2.1) ∧ x.2.2.1 = mg (valL x.2.2.1) ∧ List.length x.2.1 ≤ (100000 : Nat) ∧ List.length x.2.2.1 ≤ (100000 : Nat)) (.need (x.2.1 = mg (valL x.2.1) ∧ mg (Nat.gcd (valL x.2.1) (valL x.2.2.1)) = mg (valL (mg (Nat.gcd (valL x.2.1) (valL x.2.2.1)))) ∧ List.length x.2.1 ≤ (100000 : Nat) ∧ List.length (mg (Nat.gcd (valL x.2.1) (valL x.2.2.1))) ≤ (100000 : Nat) ∧ valL (mg (Nat.gcd (valL x.2.1) (valL x.2.2.1))) ≠ (0 : Nat)) (.need (x.2.2.1 = mg (valL x.2.2.1) ∧ mg (Nat.gcd (valL x.2.1) (valL x.2.2.1)) = mg (valL (mg (Nat.gcd (valL x.2.1) (valL x.2.2.1)))) ∧ List.length x.2.2.1 ≤ (100000 : Nat) ∧ List.length (mg (Nat.gcd (valL x.2.1) (valL x.2.2.1))) ≤ (100000 : Nat) ∧ valL (mg (Nat.gcd (valL x.2.1) (valL x.2.2.1))) ≠ (0 : Nat)) (.need (lenOk (List.length (mg (valL x.2.1 / valL (mg (Nat.gcd (valL x.2.1) (valL x.2.2.1)))))) ∧ Words (mg (valL x.2.1 / valL (mg (Nat.gcd (valL x.2.1) (valL x.2.2.1)))))) (.ite (decide (List.length (trimmed (mg (valL x.2.1 / valL (mg (Nat.gcd (valL x.2.1) (valL x.2.2.1)))))) ≤ (32 : Nat)))
      (.lt (pW (x.1) (trimmed (mg (valL x.2.1 / valL (mg (Nat.gcd (valL x.2.1) (valL x.2.2.1))))))) (fun v0 =>
       .need (lenOk (List.length (mg (valL x.2.2.1 / valL (mg (Nat.gcd (valL x.2.1) (valL x.2.2.1)))))) ∧ Words (mg (valL x.2.2.1 / valL (mg (Nat.gcd (valL x.2.1) (valL x.2.2.1)))))) (.ite (decide (List.length (trimmed (mg (valL x.2.2.1 / valL (mg (Nat.gcd (valL x.2.1) (valL x.2.2.1)))))) ≤ (32 : Nat)))
         (.lt (pW false (trimmed (mg (valL x.2.2.1 / valL (mg (Nat.gcd (valL x.2.1) (valL x.2.2.1))))))) (fun v1 =>
          .ret (.tup [(.agg [.v (.bool v0.1), .w v0.2, .v (.bool v1.1), .w v1.2]), (.one (.v (.bool (true))))])))
         (.ret (.tup [(.agg [.v (.bool v0.1), .w v0.2, .v (.bool w0.1), .w w0.2]), (.one (.v (.bool (false))))])))))
      (.need (lenOk (List.length (mg (valL x.2.2.1 / valL (mg (Nat.gcd (valL x.2.1) (valL x.2.2.1)))))) ∧ Words (mg (valL x.2.2.1 / valL (mg (Nat.gcd (valL x.2.1) (valL x.2.2.1)))))) (.ite (decide (List.length (trimmed (mg (valL x.2.2.1 / valL (mg (Nat.gcd (valL x.2.1) (valL x.2.2.1)))))) ≤ (32 : Nat)))
        (.lt (pW false (trimmed (mg (valL x.2.2.1 / valL (mg (Nat.gcd (valL x.2.1) (valL x.2.2.1))))))) (fun v0 =>
         .ret (.tup [(.agg [.v (.bool w0.1), .w w0.2, .v (.bool v0.1), .w v0.2]), (.one (.v (.bool (false))))])))
        (.ret (.tup [(.agg [.v (.bool w0.1), .w w0.2, .v (.bool w0.1), .w w0.2]), (.one (.v (.bool (false))))]))))))))
theorem tr_prat_eq (x : Els [(false, .bool), (false, .sl (.int .u32)), (false, .sl (.int .u32))]) : fnP E34 (fun _ => none) Tryz.f41 (encs [(false, .bool), (false, .sl (.int .u32)), (false, .sl (.int .u32))] x) = tr_prat x := by kernel_rfl
end Go.Proofs.YtokgbcachcmeaaaGreatDoor
/-
The reference: quick, rat, IsRat.
-/
set_option linter.unusedSimpArgs false
set_option linter.unusedVariables false
namespace Go.Proofs.YtokgbcachcmeaaaGreatDoor
open Go.RowKit Ax
theorem zv_tdiv (n : Bool) (a g : Nat) : (Pq.zv n a).tdiv (g : Int) = Pq.zv n (a / g) := by
  unfold Pq.zv
  cases n with
  | false => simp [Int.ofNat_tdiv]
  | true => simp [Int.neg_tdiv, Int.ofNat_tdiv]
noncomputable def con_prat : Con Tryz.prog := ⟨41, [], _, cf_prat, val_con (E := E34) mixed Tryz.func41 no_loops [(false, .bool), (false, .sl (.int .u32)), (false, .sl (.int .u32))] (fun x => (x.2.1 : List Int) = mg (valL x.2.1) ∧ (x.2.2.1 : List Int) = mg (valL x.2.2.1) ∧ valL x.2.1 < Pq.bp 32 ∧ valL x.2.2.1 < Pq.bp 32 ∧ valL x.2.2.1 ≠ 0) (fun x => .tup [.agg (ck cF (rOf (Rat.divInt (Pq.zv x.1 (valL x.2.1)) (valL x.2.2.1 : Nat)))), aB true]) fun x hx => by
  rw [tr_prat_eq]
  obtain ⟨n, a, d, u⟩ := x
  revert n a d
  intro (n : Bool) (a : List Int) (d : List Int) (hx : a = mg (valL a) ∧ d = mg (valL d) ∧ valL a < Pq.bp 32 ∧ valL d < Pq.bp 32 ∧ valL d ≠ 0)
  obtain ⟨ma, md, la, ld, d0⟩ := hx
  have la' := mg_len.1 la
  have ld' := mg_len.1 ld
  rw [← ma] at la'
  rw [← md] at ld'
  unfold tr_prat
  simp only [T.wp]
  simp only [val_mg, trimmed_self]
  have hg : Nat.gcd (valL a) (valL d) ≠ 0 := fun h => by
    have : 0 < Nat.gcd (valL a) (valL d) := Nat.gcd_pos_of_pos_right _ (by omega)
    omega
  have lg : (mg (Nat.gcd (valL a) (valL d))).length ≤ 32 := mg_len.1 (Nat.lt_of_le_of_lt (Nat.gcd_le_right _ (by omega)) ld)
  have lp : valL a / Nat.gcd (valL a) (valL d) < Pq.bp 32 := Nat.lt_of_le_of_lt (Nat.div_le_self _ _) la
  have lq : valL d / Nat.gcd (valL a) (valL d) < Pq.bp 32 := Nat.lt_of_le_of_lt (Nat.div_le_self _ _) ld
  have lp' := mg_len.1 lp
  have lq' := mg_len.1 lq
  have fin : rOf (Rat.divInt (Pq.zv n (valL a)) (valL d : Nat)) = (wOf (Pq.zv n (valL a / Nat.gcd (valL a) (valL d))), wOf (Pq.zv false (valL d / Nat.gcd (valL a) (valL d)))) := by
    rw [rOf_div (by omega), Pq.zv_abs, Int.natAbs_natCast, zv_tdiv, ← Int.ofNat_tdiv]
    rfl
  refine ⟨⟨ma, md, by omega, by omega⟩, ⟨ma, trivial, by omega, by omega, hg⟩, ⟨md, trivial, by omega, by omega, hg⟩, ⟨by unfold lenOk; omega, mg_words _⟩, fun h1 => ⟨⟨by unfold lenOk; omega, mg_words _⟩, fun h2 => ?_, fun h2 => ?_⟩, fun h1 => ?_⟩
  · rw [pW_mg lp, pW_mg lq, fin, wOf_zv lp, wOf_zv lq]; rfl
  · exact absurd lq' (of_decide_eq_false h2)
  · exact absurd lp' (of_decide_eq_false h1)⟩
noncomputable def E35 : Env Tryz.prog := E34.add [con_prat]
end Go.Proofs.YtokgbcachcmeaaaGreatDoor
/-
Rows of one's own are lent: a function that only looks at them, whose results lie in blocks of its own.
-/
set_option linter.unusedSimpArgs false
set_option linter.unusedVariables false
namespace Ax
open Go Go.RowKit
section
variable {P : Program} {E : Env P} {L : Loops} {w : World} {φ φ' : List Nat}
end
/-! ### the arguments: a row of one's own is seen as data -/
end Ax
/-
The run in normal forms: the same, but each step's state is reckoned once.
-/
set_option linter.unusedSimpArgs false
set_option linter.unusedVariables false
namespace Ax
open Go Go.RowKit
end Ax
/-
Drawn regions: calls that only tell a value are reckoned at once, whatever order they come in.
-/
set_option linter.unusedSimpArgs false
set_option linter.unusedVariables false
namespace Ax
open Go Go.RowKit
def lin : T Av → Option (Prop × Av)
  | .ret a => some (True, a)
  | .need p t => match lin t with
    | some (q, a) => some (p ∧ q, a)
    | none => none
  | .lt x k => lin (k x)
  | _ => none
theorem lin_wp {Q : Av → Prop} : ∀ (t : T Av) {p : Prop} {a : Av}, lin t = some (p, a) → p → Q a → t.wp Q
  | .ret b, p, a, h, _, hQ => by cases h; exact hQ
  | .need q t, p, a, h, hp, hQ => by
    unfold lin at h
    split at h
    · rename_i q' a' e
      cases h
      exact ⟨hp.1, lin_wp t e hp.2 hQ⟩
    · cases h
  | .lt x k, p, a, h, hp, hQ => lin_wp (k x) h hp hQ
  | .ite _ _ _, _, _, h, _, _ => by cases h
  | .and _ _, _, _, h, _, _ => by cases h
  | .get _ _ _, _, _, h, _, _ => by cases h
  | .up _ _, _, _, h, _, _ => by cases h
  | .fail, _, _, h, _, _ => by cases h
structure PCon {P : Program} (con : List (Con P)) : Type 1 where
  f : FuncId
  ts : List (Bool × Cd)
  sp : Els ts → T Av
  at_ : ∃ c, con.find? (fun c => c.f == f) = some c ∧ c.pos = [] ∧ c.run = pureRun' ts sp
section
variable {P : Program} {con : List (Con P)}
def callP (PC : List (PCon con)) (fr : List Av) (o : Oper) : Option (Prop × Av) :=
  match o.guard, o.op with
  | none, .call c => match calF fr c.callee with
    | some f => match PC.find? fun c => c.f == f with
      | some p => match decs p.ts (c.args.toList.map (operand fr)) with
        | some x => lin (p.sp x)
        | none => none
      | none => none
    | none => none
  | _, _ => none
theorem closeI_nil (m : Mem) : ∀ k, closeI m k [] = []
  | 0 => rfl
  | k + 1 => by rw [closeI]; exact closeI_nil m k
theorem call_aE {E : Env P} {fr : List Av} {m : Mem} {o : Oper} {c : Call} {f : FuncId} (hop : o.op = .call c) (h : calF fr c.callee = some f) : aE E fr m o = optT (E.con.find? fun c => c.f == f) fun k => (k.run (c.args.toList.map (operand fr)) m).bind fun (av, m') => .ret ⟨av, m', wrOf k.pos (c.args.toList.map (operand fr)) m⟩ := by
  obtain ⟨callee, ars, ts⟩ := c
  match callee, h with
  | .value (.func g), h =>
    have : g = f := Option.some.inj h
    subst this
    unfold aE
    rw [hop]
  | .value (.tmp t), h =>
    unfold aE
    rw [hop]
    simp only []
    rw [h]
theorem callP_wp {PC : List (PCon con)} {E : Env P} (hE : E.con = con) {fr : List Av} {m : Mem} {o : Oper} {p : Prop} {av : Av} {K : Ef → Prop} (h : callP PC fr o = some (p, av)) (hp : p) (hK : K ⟨av, m, []⟩) : o.guard = none ∧ (aE E fr m o).wp K := by
  unfold callP at h
  split at h
  · rename_i cl hg hop
    refine ⟨hg, ?_⟩
    split at h
    · rename_i f hcf
      split at h
      · rename_i c hc
        split at h
        · rename_i x hx
          obtain ⟨c0, h1, h2, h3⟩ := c.at_
          have hf : c.f = f := by simpa using List.find?_some hc
          rw [call_aE hop hcf, hE, ← hf, h1]
          show ((c0.run _ m).bind _).wp K
          rw [h3, T.wp_bind]
          unfold pureRun'
          rw [hx]
          simp only [T.wp_bind]
          refine lin_wp _ h hp ?_
          show K ⟨av, m, wrOf c0.pos _ m⟩
          rw [h2]
          show K ⟨av, m, closeI m 3 []⟩
          rw [closeI_nil]
          exact hK
        · cases h
      · cases h
    · cases h
  · cases h
def bsl (E : Env P) (t : TypeId) (len : Nat) (ps : List (Nat × Av)) : Option (Prop × Av) := match P.underlying t with
  | some (.slice e) => match E.cod.find? fun c => c.ty == e with
    | some C => match decodes C.c ps 0 with
      | some xs => if xs.length = len ∧ len * csz C.c ≤ 16777216 then some (True, .one (.ds C.c xs)) else none
      | none => none
    | none => none
  | _ => none
def valP (PC : List (PCon con)) (E : Env P) (m : Mem) (fr : List Av) (o : Oper) : Option (Prop × Av) :=
  match o.op with
  | .load t x => match o.guard with
    | none => lin (aLoad P (fun _ => true) m t (operand fr x))
    | some _ => none
  | .buildSlice t len ps => match o.guard with
    | none => bsl E t len (ps.toList.map fun p => (p.1, operand fr p.2))
    | some _ => none
  | _ => callP PC fr o
theorem valP_wp {PC : List (PCon con)} {E : Env P} (hE : E.con = con) {fr : List Av} {m : Mem} {o : Oper} {p : Prop} {av : Av} {K : Ef → Prop} (h : valP PC E m fr o = some (p, av)) (hp : p) (hK : K ⟨av, m, []⟩) : o.guard = none ∧ (aE E fr m o).wp K := by
  unfold valP at h
  split at h
  · rename_i t x hop
    split at h
    · rename_i hg
      refine ⟨hg, ?_⟩
      unfold aE
      simp only [hop]
      rw [T.wp_bind]
      unfold aS
      simp only [hop]
      exact lin_wp _ h hp hK
    · cases h
  · rename_i t len ps hop
    split at h
    · rename_i hg
      refine ⟨hg, ?_⟩
      unfold aE
      simp only [hop]
      unfold bsl at h
      split at h
      · rename_i e hu
        split at h
        · rename_i C hC
          split at h
          · rename_i xs hx
            split at h
            · rename_i hc
              cases h
              simp only [hu, hC, hx]
              simp only [optT, optN, hu, hC, hx]
              rw [if_pos hc]
              exact hK
            · cases h
          · cases h
        · cases h
      · cases h
    · cases h
  · exact callP_wp hE h hp hK
def isT (d : Tmp) : Operand → Bool
  | .tmp t => decide (t = d)
  | _ => false
def readsB (o : Oper) (d : Tmp) : Bool := match o.op with
  | .call c => c.args.toList.any (isT d) || (match c.callee with
    | .value x => isT d x
    | _ => false)
  | .load _ x => isT d x
  | .buildSlice _ _ ps => ps.toList.any fun p => isT d p.2
  | _ => true
theorem getD_set {fr : List Av} {d t : Tmp} {av : Av} (h : ¬ t = d) : (fr.set d av).getD t .any = fr.getD t .any := by
  rw [List.getD_eq_getElem?_getD, List.getD_eq_getElem?_getD, List.getElem?_set, if_neg (fun e => h e.symm)]
theorem operand_set {fr : List Av} {d : Tmp} {av : Av} {x : Operand} (h : isT d x = false) : operand (fr.set d av) x = operand fr x := by
  cases x with
  | tmp t => exact getD_set (by simpa [isT] using h)
  | const v => cases v <;> rfl
  | global g => rfl
  | func g => rfl
theorem callP_set {PC : List (PCon con)} {fr : List Av} {o : Oper} {d : Tmp} {av : Av} (h : readsB o d = false) : callP PC (fr.set d av) o = callP PC fr o := by
  unfold callP
  split
  · rename_i c hg hop
    unfold readsB at h
    rw [hop] at h
    simp only [Bool.or_eq_false_iff] at h
    obtain ⟨h, h2⟩ := h
    have e : c.args.toList.map (operand (fr.set d av)) = c.args.toList.map (operand fr) := by
      refine List.map_congr_left fun x hx => operand_set ?_
      have := List.any_eq_false.1 h x hx
      simpa using this
    have e2 : calF (fr.set d av) c.callee = calF fr c.callee := by
      cases hc : c.callee with
      | value x =>
        rw [hc] at h2
        cases x with
        | tmp t =>
          unfold calF
          simp only []
          rw [getD_set (by simpa [isT] using h2)]
        | _ => rfl
      | _ => rfl
    rw [e, e2]
  · rfl
theorem valP_set {PC : List (PCon con)} {E : Env P} {m : Mem} {fr : List Av} {o : Oper} {d : Tmp} {av : Av} (h : readsB o d = false) : valP PC E m (fr.set d av) o = valP PC E m fr o := by
  unfold valP
  split
  · rename_i t x hop
    unfold readsB at h
    rw [hop] at h
    rw [operand_set h]
  · rename_i t len ps hop
    unfold readsB at h
    rw [hop] at h
    have e : ps.toList.map (fun p => (p.1, operand (fr.set d av) p.2)) = ps.toList.map (fun p => (p.1, operand fr p.2)) := by
      refine List.map_congr_left fun x hx => ?_
      have := List.any_eq_false.1 h x hx
      rw [operand_set (by simpa using this)]
    rw [e]
  · exact callP_set h
def setAll (l : Array Bool) : List Nat → Array Bool
  | [] => l
  | i :: r => setAll (l.setIfInBounds i true) r
def putAll (fr : List Av) : List (Tmp × Av) → List Av
  | [] => fr
  | (d, av) :: r => putAll (fr.set d av) r
theorem setAll_at : ∀ (xs : List Nat) (l : Array Bool) (k : Nat), (setAll l xs)[k]? = if k ∈ xs ∧ k < l.size then some true else l[k]?
  | [], l, k => by simp [setAll]
  | i :: r, l, k => by
    rw [setAll, setAll_at r, Array.size_setIfInBounds]
    by_cases hk : k < l.size
    · by_cases h1 : k ∈ r
      · rw [if_pos ⟨h1, hk⟩, if_pos ⟨List.mem_cons_of_mem _ h1, hk⟩]
      · rw [if_neg (fun h => h1 h.1)]
        by_cases h2 : k = i
        · subst h2
          rw [if_pos ⟨by simp, hk⟩]
          simp [hk]
        · rw [if_neg (fun h => by rcases List.mem_cons.1 h.1 with h | h; exact h2 h; exact h1 h), Array.getElem?_setIfInBounds_ne (Ne.symm h2)]
    · rw [if_neg (fun h => hk h.2), if_neg (fun h => hk h.2)]
      rw [Array.getElem?_eq_none (by simpa using hk), Array.getElem?_eq_none (by simpa using hk)]
theorem setAll_swap {l : Array Bool} {i : Nat} {xs ys : List Nat} (h : ∀ k, k ∈ ys ↔ k = i ∨ k ∈ xs) : setAll (l.setIfInBounds i true) xs = setAll l ys := by
  refine Array.ext_getElem? fun k => ?_
  rw [show setAll (l.setIfInBounds i true) xs = setAll l (i :: xs) from rfl, setAll_at, setAll_at]
  have : (k ∈ i :: xs) ↔ k ∈ ys := by rw [h k, List.mem_cons]
  simp only [this]
theorem putAll_at : ∀ (l1 l2 : List (Tmp × Av)) (fr : List Av) (d : Tmp) (av : Av), (∀ p ∈ l1, p.1 ≠ d) → putAll fr (l1 ++ (d, av) :: l2) = putAll (fr.set d av) (l1 ++ l2)
  | [], l2, fr, d, av, _ => rfl
  | (e, bv) :: l1, l2, fr, d, av, h => by
    have h1 := h (e, bv) (by simp)
    show putAll (fr.set e bv) (l1 ++ (d, av) :: l2) = putAll ((fr.set d av).set e bv) (l1 ++ l2)
    rw [putAll_at l1 l2 _ d av fun p hp => h p (by simp [hp]), List.set_comm _ _ (by simpa using h1)]

theorem branch_all {α : Type} {f : Nat → T α} {Q : α → Prop} : ∀ {rs : List Nat}, rs ≠ [] → (∀ i ∈ rs, (f i).wp Q) → (branch f rs).wp Q
  | [], h, _ => absurd rfl h
  | [i], _, h => h i (by simp)
  | i :: j :: r, _, h => ⟨h i (by simp), branch_all (rs := j :: r) (by simp) fun k hk => h k (by simp [hk])⟩
structure Val (PC : List (PCon con)) (E : Env P) (m : Mem) (ops : Array Oper) (fr : List Av) (i : Nat) (d : Tmp) (p : Prop) (av : Av) (o : Oper) : Prop where
  at_ : ops[i]? = some o
  dst : o.dst = some d
  val : valP PC E m fr o = some (p, av)
def bVals (PC : List (PCon con)) (E : Env P) (m : Mem) (ops : Array Oper) (fr : List Av) : List Nat → Option (Prop × List (Tmp × Av))
  | [] => some (True, [])
  | i :: r => match ops[i]? with
    | some o => match o.dst, valP PC E m fr o, bVals PC E m ops fr r with
      | some d, some (p, av), some (q, l) => some (p ∧ q, (d, av) :: l)
      | _, _, _ => none
    | none => none
def dstOf (ops : Array Oper) (i : Nat) : Tmp := ((ops[i]?).bind (·.dst)).getD 0
def bOk (ops : Array Oper) (sd : Nat → Bool) (ps : List Nat) (listed : Array Bool) (B : List Nat) : Bool :=
  nodB B && nodB (B.map (dstOf ops)) && B.all fun i => !sd i && (B.all fun j => match ops[j]? with
    | some o => !readsB o (dstOf ops i)
    | none => false) && (later ops ps (setAll listed (B.erase i))).all fun j => decide (j = i)
structure Bun (PC : List (PCon con)) (E : Env P) (m : Mem) (ops : Array Oper) (sd : Nat → Bool) (ps : List Nat) (listed : Array Bool) (fr : List Av) (B : List Nat) (vs : List (Tmp × Av)) : Prop where
  len : vs.length = B.length
  nd : B.Nodup
  ndd : (vs.map (·.1)).Nodup
  rdy : ∀ i ∈ B, i ∈ Region.ready .any ops listed ∧ i ∉ ps ∧ sd i = false
  val : ∀ (k i : Nat) (v : Tmp × Av), B[k]? = some i → vs[k]? = some v → ∃ o p, p ∧ Val PC E m ops fr i v.1 p v.2 o
  rd : ∀ i ∈ B, ∀ o, ops[i]? = some o → ∀ v ∈ vs, readsB o v.1 = false
  lat : ∀ i ∈ B, ∀ j ∈ later ops ps (setAll listed (B.erase i)), j = i
theorem mem_later {ops : Array Oper} {ps : List Nat} {l : Array Bool} {j : Nat} : j ∈ later ops ps l ↔ l.getD j true = false ∧ j ∉ ps ∧ ∃ o, ops[j]? = some o ∧ ∀ e ∈ o.after, Region.binds .any e = true → l.getD e.on false = true ∨ e.on ∈ ps := by
  unfold later
  rw [List.mem_filter]
  constructor
  · rintro ⟨h1, h2⟩
    simp only [Bool.and_eq_true, Bool.not_eq_true', List.contains_eq_mem, decide_eq_false_iff_not] at h2
    obtain ⟨⟨h2, h3⟩, h4⟩ := h2
    split at h4
    · rename_i o ho
      refine ⟨h2, h3, o, ho, fun e he hb => ?_⟩
      have := Array.all_eq_true_iff_forall_mem.1 h4 e he
      simp only [hb, Bool.not_true, Bool.false_or, Bool.or_eq_true, decide_eq_true_eq] at this
      exact this
    · cases h4
  · rintro ⟨h1, h2, o, ho, h3⟩
    refine ⟨List.mem_range.2 (Array.getElem?_eq_some_iff.1 ho).1, ?_⟩
    simp only [h1, ho, Bool.not_false, Bool.true_and, Bool.and_eq_true, Bool.not_eq_true', List.contains_eq_mem, decide_eq_false_iff_not]
    refine ⟨h2, Array.all_eq_true_iff_forall_mem.2 fun e he => ?_⟩
    cases hb : Region.binds .any e with
    | false => simp
    | true =>
      have := h3 e he hb
      simp only [Bool.not_true, Bool.false_or, Bool.or_eq_true, decide_eq_true_eq]
      exact this
theorem getD_on {l : Array Bool} {xs : List Nat} {k : Nat} (h : l.getD k false = true) : (setAll l xs).getD k false = true := by
  rw [on_iff] at h ⊢
  rw [setAll_at]
  split
  · rfl
  · exact h
theorem later_sub {PC : List (PCon con)} {E : Env P} {m : Mem} {ops : Array Oper} {sd : Nat → Bool} {ps : List Nat} {listed : Array Bool} {fr : List Av} {B : List Nat} {vs : List (Tmp × Av)} (h : Bun PC E m ops sd ps listed fr B vs) (hne : B ≠ []) {j : Nat} (hj : j ∈ later ops ps listed) : j ∈ B := by
  obtain ⟨i, r, rfl⟩ : ∃ i r, B = i :: r := by
    match B, hne with
    | i :: r, _ => exact ⟨i, r, rfl⟩
  refine Classical.byContradiction fun hn => ?_
  have hm := h.lat i (by simp) j
  rw [mem_later] at hj
  obtain ⟨h1, h2, o, ho, h3⟩ := hj
  have := hm (mem_later.2 ⟨by
    rw [off_iff] at h1 ⊢
    rw [setAll_at, if_neg (fun h => hn (List.mem_of_mem_erase h.1))]
    exact h1, h2, o, ho, fun e he hb => (h3 e he hb).imp getD_on id⟩)
  exact hn (by rw [this]; simp)
theorem ready_later {ops : Array Oper} {ps : List Nat} {l : Array Bool} {j : Nat} (h : j ∈ Region.ready .any ops l) (hp : j ∉ ps) : j ∈ later ops ps l := by
  rw [mem_ready] at h
  obtain ⟨h1, o, ho, h2⟩ := h
  exact mem_later.2 ⟨h1, hp, o, ho, fun e he hb => .inl (h2 e he hb)⟩
theorem bunch_wp {PC : List (PCon con)} {E : Env P} (hE : E.con = con) {ops : Array Oper} {sd ok : Nat → Bool} {ps : List Nat} {Q : St → Prop} {m : Mem} : ∀ (k : Nat) (B : List Nat) (vs : List (Tmp × Av)) (listed : Array Bool) (fr : List Av) (n : Nat), B.length = k → Bun PC E m ops sd ps listed fr B vs →
    (runAny E ops sd ok ps n (setAll listed B) ⟨putAll fr vs, m⟩).wp Q → (runAny E ops sd ok ps (n + k) listed ⟨fr, m⟩).wp Q := by
  intro k
  induction k with
  | zero =>
    intro B vs listed fr n hk hB h
    obtain rfl : B = [] := List.length_eq_zero_iff.1 hk
    obtain rfl : vs = [] := List.length_eq_zero_iff.1 (by rw [hB.len]; rfl)
    exact h
  | succ k ih =>
    intro B vs listed fr n hk hB h
    have hne : B ≠ [] := fun e => by rw [e] at hk; simp at hk
    have sub : ∀ j, j ∈ Region.ready .any ops listed → j ∉ ps → j ∈ B := fun j h1 h2 => later_sub hB hne (ready_later h1 h2)
    show (runAny E ops sd ok ps (n + k + 1) listed ⟨fr, m⟩).wp Q
    unfold runAny
    have hf : ((Region.ready .any ops listed).find? fun i => sd i && !ps.contains i && Region.free .any ops listed i) = none := by
      rw [List.find?_eq_none]
      intro j hj
      by_cases hp : j ∈ ps
      · simp [hp]
      · rw [(hB.rdy j (sub j hj hp)).2.2]; simp
    rw [hf]
    simp only []
    have hmemR : ∀ j, j ∈ ((Region.ready .any ops listed).filter fun i => !ps.contains i) ↔ j ∈ B := fun j => by
      rw [List.mem_filter]
      constructor
      · rintro ⟨h1, h2⟩
        exact sub j h1 (by simpa using h2)
      · intro hj
        have := hB.rdy j hj
        exact ⟨this.1, by simpa using this.2.1⟩
    split
    · rename_i he
      exfalso
      obtain ⟨i, r, rfl⟩ : ∃ i r, B = i :: r := by
        match B, hne with
        | i :: r, _ => exact ⟨i, r, rfl⟩
      have := (hmemR i).2 (by simp)
      rw [he] at this
      cases this
    · rename_i r rs he
      have hl : ((later ops ps listed).all fun j => (r :: rs).contains j) = true := List.all_eq_true.2 fun j hj => by
        have := (hmemR j).2 (later_sub hB hne hj)
        rw [he] at this
        simpa using this
      rw [hl]
      refine branch_all (by simp) fun i hi => ?_
      have hiB : i ∈ B := (hmemR i).1 (by rw [he]; exact hi)
      obtain ⟨l1, l2, e1, hn1⟩ := List.append_of_mem hiB |> fun ⟨a, b, e⟩ => (⟨a, b, e, by
        have := hB.nd
        rw [e, List.nodup_append] at this
        exact fun hm => this.2.2 i hm i (by simp) rfl⟩ : ∃ l1 l2, B = l1 ++ i :: l2 ∧ i ∉ l1)
      have hlen := hB.len
      have hk1 : l1.length < vs.length := by rw [hlen, e1]; simp
      have hB1 : B[l1.length]? = some i := by rw [e1]; simp
      have hv1 : vs[l1.length]? = some vs[l1.length] := List.getElem?_eq_getElem hk1
      obtain ⟨o, p, hp, hval⟩ := hB.val _ _ _ hB1 hv1
      generalize hvv : vs[l1.length] = v at hval hv1
      obtain ⟨d, av⟩ := v
      have evs : vs = vs.take l1.length ++ (d, av) :: vs.drop (l1.length + 1) := by
        have := List.take_append_drop l1.length vs
        rw [List.drop_eq_getElem_cons hk1, hvv] at this
        exact this.symm
      simp only [hval.at_]
      obtain ⟨hg, hcall⟩ := valP_wp (E := E) (m := m) (K := fun e => (match e.wr.all fun i => !ok i with
        | true => runAny E ops sd ok ps (n + k) (listed.setIfInBounds i true) ⟨putFr fr o.dst e.av, e.mem⟩
        | false => .fail).wp Q) hE hval.val hp (by
        simp only [List.all_nil]
        rw [hval.dst]
        have hBe : B.erase i = l1 ++ l2 := by
          rw [e1, List.erase_append_right _ hn1, List.erase_cons_head]
        have hnd := hB.nd
        rw [e1] at hnd
        have hnd2 : (l1 ++ l2).Nodup := hnd.sublist (List.Sublist.append_left (List.sublist_cons_self _ _) _)
        have hni2 : i ∉ l1 ++ l2 := fun hm => by
          rw [List.nodup_append, List.nodup_cons] at hnd
          rcases List.mem_append.1 hm with hm | hm
          · exact hn1 hm
          · exact hnd.2.1.1 hm
        have hndd := hB.ndd
        rw [evs, List.map_append, List.map_cons] at hndd
        have hdn : ∀ q ∈ vs.take l1.length ++ vs.drop (l1.length + 1), q.1 ≠ d := fun q hq e => by
          rw [List.nodup_append, List.nodup_cons] at hndd
          rcases List.mem_append.1 hq with hq | hq
          · exact hndd.2.2 _ (List.mem_map.2 ⟨q, hq, rfl⟩) d (by simp) e
          · exact hndd.2.1.1 (List.mem_map.2 ⟨q, hq, e⟩)
        have hvsub : ∀ q, q ∈ vs.take l1.length ++ vs.drop (l1.length + 1) → q ∈ vs := fun q hq => by
          rcases List.mem_append.1 hq with hq | hq
          · exact List.mem_of_mem_take hq
          · exact List.mem_of_mem_drop hq
        have hdv : (d, av) ∈ vs := by rw [evs]; simp
        have hset : ∀ xs ys, (∀ z, z ∈ ys ↔ z = i ∨ z ∈ xs) → setAll (listed.setIfInBounds i true) xs = setAll listed ys := fun xs ys => setAll_swap
        refine ih (l1 ++ l2) (vs.take l1.length ++ vs.drop (l1.length + 1)) _ _ n (by
          rw [e1] at hk
          simp only [List.length_append, List.length_cons] at hk ⊢
          omega) ⟨?_, hnd2, ?_, fun j hj => ?_, fun q j v hq hv => ?_, fun j hj o' ho' q hq => ?_, fun j hj z hz => ?_⟩ ?_
        · rw [List.length_append, List.length_take, List.length_drop, hlen, e1]
          simp only [List.length_append, List.length_cons]
          omega
        · rw [List.map_append]
          exact hndd.sublist (List.Sublist.append_left (List.sublist_cons_self _ _) _)
        · have hjB : j ∈ B := List.mem_of_mem_erase (hBe ▸ hj)
          obtain ⟨h1, h2, h3⟩ := hB.rdy j hjB
          refine ⟨?_, h2, h3⟩
          rw [mem_ready] at h1 ⊢
          obtain ⟨h4, o', ho', h5⟩ := h1
          refine ⟨?_, o', ho', fun e he hb => getD_on (xs := [i]) (h5 e he hb)⟩
          rw [off_iff] at h4 ⊢
          exact set_off.2 ⟨h4, fun e => hni2 (e ▸ hj)⟩
        · have key : ∃ q' : Nat, B[q']? = some j ∧ vs[q']? = some v := by
            have hl2 : (vs.take l1.length).length = l1.length := by rw [List.length_take]; omega
            rcases Nat.lt_or_ge q l1.length with hlt | hge
            · refine ⟨q, ?_, ?_⟩
              · rw [List.getElem?_append_left hlt] at hq
                rw [e1, List.getElem?_append_left hlt]; exact hq
              · rw [List.getElem?_append_left (by omega), List.getElem?_take, if_pos hlt] at hv
                exact hv
            · refine ⟨q + 1, ?_, ?_⟩
              · rw [List.getElem?_append_right hge] at hq
                rw [e1, List.getElem?_append_right (by omega), show q + 1 - l1.length = (q - l1.length) + 1 by omega, List.getElem?_cons_succ]; exact hq
              · rw [List.getElem?_append_right (by omega), hl2, List.getElem?_drop] at hv
                rw [show q + 1 = l1.length + 1 + (q - l1.length) by omega]; exact hv
          obtain ⟨q', k1, k2⟩ := key
          obtain ⟨o', p', hp', hv'⟩ := hB.val _ _ _ k1 k2
          refine ⟨o', p', hp', hv'.at_, hv'.dst, ?_⟩
          have : readsB o' d = false := hB.rd j (List.mem_of_getElem? k1) o' hv'.at_ _ hdv
          exact (valP_set this).trans hv'.val
        · exact hB.rd j (List.mem_of_mem_erase (hBe ▸ hj)) o' ho' q (hvsub q hq)
        · refine hB.lat j (List.mem_of_mem_erase (hBe ▸ hj)) z ?_
          have e2 := hset ((l1 ++ l2).erase j) (B.erase j) fun z => by
            have hjB : j ∈ B := List.mem_of_mem_erase (hBe ▸ hj)
            have hji : j ≠ i := fun e => hni2 (e ▸ hj)
            rw [hB.nd.mem_erase_iff, hnd2.mem_erase_iff, e1]
            simp only [List.mem_append, List.mem_cons]
            constructor
            · rintro ⟨h1, h2 | h2 | h2⟩
              · exact .inr ⟨h1, .inl h2⟩
              · exact .inl h2
              · exact .inr ⟨h1, .inr h2⟩
            · rintro (h1 | ⟨h1, h2 | h2⟩)
              · exact ⟨h1 ▸ (Ne.symm hji), .inr (.inl h1)⟩
              · exact ⟨h1, .inl h2⟩
              · exact ⟨h1, .inr (.inr h2)⟩
          rw [← e2]; exact hz
        · have e3 := hset (l1 ++ l2) B fun z => by
            rw [e1]
            simp only [List.mem_append, List.mem_cons]
            constructor
            · rintro (h1 | h1 | h1)
              · exact .inr (.inl h1)
              · exact .inl h1
              · exact .inr (.inr h1)
            · rintro (h1 | h1 | h1)
              · exact .inr (.inl h1)
              · exact .inl h1
              · exact .inr (.inr h1)
          rw [e3]
          rw [evs, putAll_at _ _ _ _ _ fun q hq => hdn q (List.mem_append_left _ hq)] at h
          exact h)
      unfold guarded
      rw [hg]
      simp only []
      rw [T.wp_bind]
      exact hcall
end
end Ax
/-
The run with such calls at once: of regions, code, loops, functions.
-/
set_option linter.unusedSimpArgs false
set_option linter.unusedVariables false
namespace Ax
open Go Go.RowKit
section
variable {P : Program} {con : List (Con P)}
theorem bVals_spec {PC : List (PCon con)} {E : Env P} {m : Mem} {ops : Array Oper} {fr : List Av} : ∀ (B : List Nat) {p : Prop} {vs : List (Tmp × Av)}, bVals PC E m ops fr B = some (p, vs) → p →
    vs.map (·.1) = B.map (dstOf ops) ∧ ∀ (k i : Nat) (v : Tmp × Av), B[k]? = some i → vs[k]? = some v → ∃ o p, p ∧ Val PC E m ops fr i v.1 p v.2 o
  | [], p, vs, h, hp => by cases h; exact ⟨rfl, fun k i v h => by simp at h⟩
  | i :: r, p, vs, h, hp => by
    unfold bVals at h
    split at h
    · rename_i o ho
      split at h
      · rename_i d q av q' l hd hc hr
        cases h
        obtain ⟨i1, i2⟩ := bVals_spec r hr hp.2
        refine ⟨by simp [i1, dstOf, ho, hd], fun k j v hk hv => ?_⟩
        rcases k with _ | k
        · cases hk; cases hv
          exact ⟨o, q, hp.1, ho, hd, hc⟩
        · exact i2 k j v (by simpa using hk) (by simpa using hv)
      · cases h
    · cases h
def bunchQ (PC : List (PCon con)) (E : Env P) (m : Mem) (ops : Array Oper) (sd : Nat → Bool) (ps : List Nat) (listed : Array Bool) (fr : List Av) (n : Nat) (B : List Nat) : Option (Prop × List (Tmp × Av)) :=
  match decide (2 ≤ B.length) && decide (B.length ≤ n) && bOk ops sd ps listed B with
  | true => bVals PC E m ops fr B
  | false => none
theorem bun_of {PC : List (PCon con)} {E : Env P} {m : Mem} {ops : Array Oper} {sd : Nat → Bool} {ps : List Nat} {listed : Array Bool} {fr : List Av} {n : Nat} {B : List Nat} {p : Prop} {vs : List (Tmp × Av)} (h : bunchQ PC E m ops sd ps listed fr n B = some (p, vs)) (hp : p)
    (hr : ∀ i ∈ B, i ∈ Region.ready .any ops listed ∧ i ∉ ps) : B.length ≤ n ∧ Bun PC E m ops sd ps listed fr B vs := by
  unfold bunchQ at h
  split at h
  · rename_i hb
    simp only [Bool.and_eq_true, decide_eq_true_eq] at hb
    obtain ⟨⟨_, hn⟩, hb⟩ := hb
    unfold bOk at hb
    simp only [Bool.and_eq_true, List.all_eq_true, decide_eq_true_eq, Bool.not_eq_true'] at hb
    obtain ⟨⟨h1, h2⟩, h3⟩ := hb
    obtain ⟨e1, e2⟩ := bVals_spec B h hp
    refine ⟨hn, ?_, nodB_ok h1, ?_, fun i hi => ⟨(hr i hi).1, (hr i hi).2, (h3 i hi).1.1⟩, e2, fun i hi o ho v hv => ?_, fun i hi j hj => (h3 i hi).2 j hj⟩
    · have := congrArg List.length e1
      simpa using this
    · rw [e1]; exact nodB_ok h2
    · have hm : v.1 ∈ B.map (dstOf ops) := e1 ▸ List.mem_map.2 ⟨v, hv, rfl⟩
      obtain ⟨j, hj, ej⟩ := List.mem_map.1 hm
      have := (h3 j hj).1.2 i hi
      rw [ho] at this
      rw [← ej]
      simpa using this
  · cases h
theorem guarded_mono {α : Type} {sure : Bool} {ops : Array Oper} {o : Oper} {st : St} {yes no yes' no' : St → T α} {Q : α → Prop} (hy : ∀ st, (yes st).wp Q → (yes' st).wp Q) (hn : ∀ st, (no st).wp Q → (no' st).wp Q)
    (h : (guarded sure ops o st yes no).wp Q) : (guarded sure ops o st yes' no').wp Q := by
  have hb : ∀ (b want : Bool) (x y x' y' : T α), (x.wp Q → x'.wp Q) → (y.wp Q → y'.wp Q) → (bsel b want x y).wp Q → (bsel b want x' y').wp Q := fun b want x y x' y' h1 h2 h => by
    cases b <;> cases want <;> first | exact h1 h | exact h2 h
  unfold guarded at h ⊢
  split at h
  · exact hy _ h
  · split at h
    · split at h
      · exact hb _ _ _ _ _ _ (hy _) (hn _) h
      · split at h
        · exact ⟨h.1, hy _ h.2⟩
        · exact ⟨fun e => hb _ _ _ _ _ _ (hy _) (hn _) (h.1 e), fun e => hb _ _ _ _ _ _ (hy _) (hn _) (h.2 e)⟩
      · exact hn _ h
      · exact h
    · exact h
def runAnyB (PC : List (PCon con)) (E : Env P) (ops : Array Oper) (sd ok : Nat → Bool) (ps : List Nat) : Nat → Nat → Array Bool → St → T St
  | 0, _, _, _ => .fail
  | _ + 1, 0, listed, st => match Region.ready .any ops listed with
    | [] => .ret st
    | _ => .fail
  | k + 1, n + 1, listed, st => fSt st fun st =>
    match (Region.ready .any ops listed).find? fun i => sd i && !ps.contains i && Region.free .any ops listed i with
    | some i => match ops[i]? with
      | none => .fail
      | some o => guarded (E.sure 0) ops o st (fun st => (aS P E.zero ok st.mem st.fr o).bind fun av => runAnyB PC E ops sd ok ps k n (listed.setIfInBounds i true) ⟨putFr st.fr o.dst av, st.mem⟩)
          (fun st => runAnyB PC E ops sd ok ps k n (listed.setIfInBounds i true) ⟨putFr st.fr o.dst .nope, st.mem⟩)
    | none => match (Region.ready .any ops listed).filter fun i => !ps.contains i with
      | [] => match Region.ready .any ops listed with
        | [] => .ret st
        | i :: _ => match (later ops ps listed).all (waits ops i), ops[i]? with
          | true, some o => match o.op with
            | .alloc t => optT (E.zero.find? fun z => z.ty == t) fun z => runAnyB PC E ops sd ok ps k n (listed.setIfInBounds i true) ⟨putFr st.fr o.dst (.one (.p st.mem.length 0)), st.mem ++ [(t, z.cs)]⟩
            | _ => .fail
          | _, _ => .fail
      | r :: rs => match bunchQ PC E st.mem ops sd ps listed st.fr (n + 1) (r :: rs) with
        | some (p, vs) => .need p (runAnyB PC E ops sd ok ps k (n + 1 - (r :: rs).length) (setAll listed (r :: rs)) ⟨putAll st.fr vs, st.mem⟩)
        | none => match (later ops ps listed).all fun j => (r :: rs).contains j with
          | false => .fail
          | true => branch (fun i => match ops[i]? with
            | none => .fail
            | some o => guarded (E.sure 0) ops o st
              (fun st => (aE E st.fr st.mem o).bind fun e => match e.wr.all fun i => !ok i with
                | true => runAnyB PC E ops sd ok ps k n (listed.setIfInBounds i true) ⟨putFr st.fr o.dst e.av, e.mem⟩
                | false => .fail)
              (fun st => runAnyB PC E ops sd ok ps k n (listed.setIfInBounds i true) ⟨putFr st.fr o.dst .nope, st.mem⟩)) (r :: rs)
theorem runAnyB_wp {PC : List (PCon con)} {E : Env P} (hE : E.con = con) {ops : Array Oper} {sd ok : Nat → Bool} {ps : List Nat} {Q : St → Prop} : ∀ (k n : Nat) (listed : Array Bool) (st : St), (runAnyB PC E ops sd ok ps k n listed st).wp Q → (runAny E ops sd ok ps n listed st).wp Q := by
  intro k
  induction k with
  | zero => intro n listed st h; unfold runAnyB at h; exact h.elim
  | succ k ih =>
    intro n listed st h
    cases n with
    | zero => unfold runAnyB at h; unfold runAny; exact h
    | succ n =>
      unfold runAnyB at h
      rw [fSt_eq] at h
      have hfull : (runAny E ops sd ok ps (n + 1) listed st).wp Q ↔ (runAny E ops sd ok ps (n + 1) listed st).wp Q := Iff.rfl
      conv => unfold runAny
      split at h
      · rename_i i hi
        rw [hi]
        simp only []
        split at h
        · exact h.elim
        · rename_i o ho
          rw [ho]
          simp only []
          refine guarded_mono (fun st h => ?_) (fun st h => ih _ _ _ h) h
          rw [T.wp_bind] at h ⊢
          exact T.wp_mono (fun av h => ih _ _ _ h) h
      · rename_i hi
        rw [hi]
        simp only []
        split at h
        · rename_i he
          rw [he]
          simp only []
          split at h
          · rename_i hr
            rw [hr]
            exact h
          · rename_i i r hr
            rw [hr]
            simp only []
            split at h
            · rename_i o hl ho
              rw [hl, ho]
              simp only []
              split at h
              · rename_i t hop
                rw [hop]
                simp only []
                obtain ⟨z, hz, h⟩ := optT_wp h
                rw [hz]
                exact ih _ _ _ h
              · exact h.elim
            · exact h.elim
        · rename_i r rs he
          rw [he]
          simp only []
          split at h
          · rename_i p vs hb
            obtain ⟨hp, h⟩ := h
            have hmem : ∀ i ∈ r :: rs, i ∈ Region.ready .any ops listed ∧ i ∉ ps := fun i hm => by
              rw [← he, List.mem_filter] at hm
              exact ⟨hm.1, by simpa using hm.2⟩
            obtain ⟨hn, hbun⟩ := bun_of hb hp hmem
            have := bunch_wp (m := st.mem) (ok := ok) (Q := Q) (E := E) hE _ _ vs listed st.fr (n + 1 - (r :: rs).length) rfl hbun (ih _ _ _ h)
            rw [Nat.sub_add_cancel hn] at this
            unfold runAny at this
            rw [hi] at this
            simp only [] at this
            rw [he] at this
            exact this
          · split at h
            · exact h.elim
            · rename_i hl
              rw [hl]
              refine branch_all (by simp) fun i hm => ?_
              have h := branch_wp h i hm
              split at h
              · exact h.elim
              · rename_i o ho
                rw [ho]
                refine guarded_mono (fun st h => ?_) (fun st h => ih _ _ _ h) h
                rw [T.wp_bind] at h ⊢
                refine T.wp_mono (fun e h => ?_) h
                split at h
                · rename_i hw
                  rw [hw]
                  exact ih _ _ _ h
                · exact h.elim
def runDrawB (PC : List (PCon con)) (E : Env P) (ops : Array Oper) (st : St) : T St :=
  let W := writes E ops.toList st.fr ++ (match ops.toList.any (reaches E) with
    | true => rowsIn st.mem
    | false => [])
  let ps := (List.range ops.size).filter (early E ops st.fr.length)
  match Region.noSelect ops with
  | true => runAnyB PC E ops (fun i => match ops[i]? with | some o => steady o.op && !loadsOf ops.toList st.fr W o | none => false) (fun i => decide (i < st.mem.length) && !W.contains i) ps (ops.size + 1) ops.size (Array.replicate ops.size false) ⟨hide ops ps st.fr, st.mem⟩
  | false => .fail
theorem runDrawB_wp {PC : List (PCon con)} {E : Env P} (hE : E.con = con) {ops : Array Oper} {st : St} {Q : St → Prop} (h : (runDrawB PC E ops st).wp Q) : (runDraw E ops st).wp Q := by
  unfold runDrawB at h
  unfold runDraw
  simp only [] at h ⊢
  split at h
  · rename_i hs
    rw [hs]
    exact runAnyB_wp hE _ _ _ _ h
  · exact h.elim
theorem bsel_mono {α : Type} {b want : Bool} {x y x' y' : T α} {Q : α → Prop} (h1 : x.wp Q → x'.wp Q) (h2 : y.wp Q → y'.wp Q) (h : (bsel b want x y).wp Q) : (bsel b want x' y').wp Q := by
  cases b <;> cases want <;> first | exact h1 h | exact h2 h
end
end Ax
/-
A call that is run in place: on the blocks that its arguments reach.
-/
set_option linter.unusedSimpArgs false
set_option linter.unusedVariables false
namespace Ax
open Go Go.RowKit
def noFz : Nat → Nat → Option Ck := fun _ _ => none
def subMem (I : List Nat) (m : Mem) : Mem := I.map fun i => match m[i]? with
  | some e => (e.1, e.2.map (reC (posOf I) noFz))
  | none => (0, [])
def backI (I : List Nat) (n p : Nat) : Option Nat := match I[p]? with
  | some i => some i
  | none => some (n + (p - I.length))
def backMem (I : List Nat) (m m1 : Mem) : Mem := ((List.range m.length).map fun i => match posOf I i with
    | some p => (match m1[p]? with
      | some e => (e.1, e.2.map (reC (backI I m.length) noFz))
      | none => (0, []))
    | none => m.getD i (0, [])) ++ (m1.drop I.length).map fun e => (e.1, e.2.map (reC (backI I m.length) noFz))
def inlRun {P : Program} (E : Env P) (L : Loops) (fn : Func) (K : Nat) (pos : List Nat) (args : List Av) (m : Mem) : T (Av × Mem) :=
  fAvs args fun args => fMem m fun m => fNats (wrOf pos args m) fun I => match I.all (fun i => decide (i < m.length)) && nodB I && decide (I.length ≤ K) with
  | true => fAvs (args.map (reA (posOf I) noFz)) fun args' => fMem (subMem I m) fun m' => (fnRun E L fn args' m').bind fun r => fMem r.2 fun m1 => fAv (reA (backI I m.length) noFz r.1) fun av => fMem (backMem I m m1) fun m2 => .ret (av, m2)
  | false => .fail
theorem no_fz {w : World} {R' : Nat → Prop} {σ σ' : List Nat} {f : Nat → Option Nat} (i n : Nat) : FzOk w R' σ σ' f noFz i n := fun b cap c _ _ _ h => by cases h
theorem inl_ok {P : Program} {E : Env P} {L : Loops} {f : FuncId} {fn : Func} (hm : P.follows .mixedOrders = true) (hf : P.funcs[f]? = some fn) (K : Nat) (hL : ∀ c, fn.body = some c → LoopsOk P K L c) (pos : List Nat) : ConOk P f pos (inlRun E L fn K pos) := by
  intro w φ σ m args vs Q hmem hlen hargs hrun
  unfold inlRun at hrun
  simp only [fAvs_eq, fAv_eq, fMem_eq, fNats_eq] at hrun
  generalize hIe : wrOf pos args m = I at hrun ⊢
  split at hrun
  case h_2 => exact hrun.elim
  rename_i hI
  simp only [Bool.and_eq_true, decide_eq_true_eq] at hI
  obtain ⟨⟨hI1, hI2⟩, hI3⟩ := hI
  have hnd := nodB_ok hI2
  have hml : m.length = σ.length := hmem.len
  have hlt : ∀ i ∈ I, i < σ.length := fun i hi => by
    have := of_decide_eq_true (List.all_eq_true.1 hI1 i hi)
    omega
  have get : ∀ i, i < σ.length → ∃ b, σ[i]? = some b ∧ σ.getD i 0 = b := fun i hi => ⟨σ[i], List.getElem?_eq_getElem hi, by simp [hi]⟩
  have inj : ∀ i j b, σ[i]? = some b → σ[j]? = some b → i = j := fun i j b h1 h2 => by
    obtain ⟨l1, e1⟩ := List.getElem?_eq_some_iff.1 h1
    obtain ⟨l2, e2⟩ := List.getElem?_eq_some_iff.1 h2
    exact (List.getElem_inj hmem.nodup).1 (e1.trans e2.symm)
  generalize hs0 : (I.map fun i => σ.getD i 0) = σ0
  have hs0l : σ0.length = I.length := by rw [← hs0, List.length_map]
  have at0 : ∀ (p i : Nat) b, I[p]? = some i → σ[i]? = some b → σ0[p]? = some b := fun p i b h1 h2 => by
    rw [← hs0, List.getElem?_map, h1, Option.map_some]
    obtain ⟨b', h3, h4⟩ := get i (List.getElem?_eq_some_iff.1 h2).1
    rw [h4]
    rw [h2] at h3
    exact h3.symm
  have mem0 : ∀ b, b ∈ σ0 → ∃ i ∈ I, σ[i]? = some b := fun b hb => by
    rw [← hs0] at hb
    obtain ⟨i, hi, rfl⟩ := List.mem_map.1 hb
    obtain ⟨b, h1, h2⟩ := get i (hlt i hi)
    exact ⟨i, hi, by rw [h2]; exact h1⟩
  have sub0 : ∀ b, b ∈ σ0 → b ∈ σ := fun b hb => by
    obtain ⟨i, _, h⟩ := mem0 b hb
    exact List.mem_of_getElem? h
  have nd0 : σ0.Nodup := by
    rw [← hs0]
    unfold List.Nodup
    rw [List.pairwise_map]
    refine hnd.imp_of_mem fun {i j} hi hj hne e => hne ?_
    obtain ⟨b, h1, h2⟩ := get i (hlt i hi)
    obtain ⟨b', h3, h4⟩ := get j (hlt j hj)
    rw [h2, h4] at e
    subst e
    exact inj i j b h1 h3
  have out0 : ∀ i b, σ[i]? = some b → i ∉ I → b ∉ σ0 := fun i b hb hn hm0 => by
    obtain ⟨j, hj, hb'⟩ := mem0 b hm0
    exact hn (inj i j b hb hb' ▸ hj)
  generalize hφe : φ ++ σ.filter (fun b => !decide (b ∈ σ0)) = φ'
  have inφ : ∀ b, b ∈ φ' ↔ b ∈ φ ∨ (b ∈ σ ∧ b ∉ σ0) := fun b => by
    rw [← hφe, List.mem_append, List.mem_filter]
    simp
  have hro : ∀ b, Ro w φ σ b → Ro w φ' σ0 b := fun b hb => ⟨hb.1, fun h => by
    rcases (inφ b).1 h with h1 | h1
    · exact hb.2.1 h1
    · exact hb.2.2 h1.1, fun h => hb.2.2 (sub0 b h)⟩
  have hf0 : ∀ i b j : Nat, σ[i]? = some b → posOf I i = some j → σ0[j]? = some b := fun i b j hb hj => at0 j i b (posOf_get hj) hb
  have hmem0 : MemOk w φ' σ0 (subMem I m) := ⟨by simp [subMem, hs0l], nd0, fun b hb => by
      rcases (inφ b).1 hb with h1 | h1
      · exact hmem.fo b h1
      · exact hmem.lt h1.1, hmem.gl.mono fun z hz => ⟨hro z hz, rfl⟩, fun j t cs b hj hb => by
      unfold subMem at hj
      rw [List.getElem?_map] at hj
      cases hq : I[j]? with
      | none => rw [hq] at hj; simp at hj
      | some i =>
        rw [hq] at hj
        simp only [Option.map_some, Option.some.injEq] at hj
        obtain ⟨b', h1, _⟩ := get i (hlt i (List.mem_of_getElem? hq))
        have hb' := at0 j i b' hq h1
        rw [hb] at hb'
        cases hb'
        cases hmi : m[i]? with
        | none =>
          have := List.getElem?_eq_none_iff.1 hmi
          have := hlt i (List.mem_of_getElem? hq)
          omega
        | some e =>
          obtain ⟨t0, cs0⟩ := e
          rw [hmi] at hj
          cases hj
          obtain ⟨us, h3, h4⟩ := hmem.blk i t0 cs0 b hmi h1
          exact ⟨us, h3, h4.re hro hf0 fun i n cap _ => no_fz i n⟩⟩
  rw [T.wp_bind] at hrun
  refine (fn_ok (E := E) (L := L) hm hf hL (by simp [subMem]; exact hI3) hmem0 (by rw [List.length_map]; exact hlen) (fun i a v ha hv => by
    rw [List.getElem?_map] at ha
    cases hq : args[i]? with
    | none => rw [hq] at ha; simp at ha
    | some a0 =>
      rw [hq] at ha
      simp only [Option.map_some, Option.some.injEq] at ha
      subst ha
      exact (hargs i a0 v hq hv).re hro hf0 fun i n cap _ => no_fz i n) hrun).mono fun e w' hr => ?_
  obtain ⟨v, av, m1, σ1, rfl, hQ, hext, hkeep, hav, hmem1⟩ := hr
  obtain ⟨τ, rfl, hτ⟩ := hext.pre
  have hm1 : m1.length = I.length + τ.length := by
    have := hmem1.len
    rw [List.length_append, hs0l] at this
    exact this
  have hro1 : ∀ b, Ro w' φ' (σ0 ++ τ) b → Ro w' φ (σ ++ τ) b := fun b hb => ⟨hb.1, fun h => hb.2.1 ((inφ b).2 (.inl h)), fun h => by
    rcases List.mem_append.1 h with h1 | h1
    · by_cases h2 : b ∈ σ0
      · exact hb.2.2 (List.mem_append_left _ h2)
      · exact hb.2.1 ((inφ b).2 (.inr ⟨h1, h2⟩))
    · exact hb.2.2 (List.mem_append_right _ h1)⟩
  have hback : ∀ p b i : Nat, (σ0 ++ τ)[p]? = some b → backI I m.length p = some i → (σ ++ τ)[i]? = some b := fun p b i hb hi => by
    unfold backI at hi
    split at hi
    · rename_i j hj
      have hji : j = i := Option.some.inj hi
      subst hji
      have hjl := hlt j (List.mem_of_getElem? hj)
      have hpl := (List.getElem?_eq_some_iff.1 hj).1
      obtain ⟨b', h1, _⟩ := get j hjl
      have := at0 p j b' hj h1
      rw [List.getElem?_append_left (by omega), this] at hb
      cases hb
      rw [List.getElem?_append_left hjl]
      exact h1
    · rename_i hj
      cases hi
      have hpl := List.getElem?_eq_none_iff.1 hj
      rw [List.getElem?_append_right (by omega), hs0l] at hb
      rw [List.getElem?_append_right (by omega), show m.length + (p - I.length) - σ.length = p - I.length by omega]
      exact hb
  have hold : ∀ i b : Nat, σ[i]? = some b → i ∉ I → w'.heap[b]? = w.heap[b]? := fun i b hb hi => hkeep.block b (hmem.lt (List.mem_of_getElem? hb)) (out0 i b hb hi)
  refine ⟨v, _, _, σ ++ τ, rfl, hQ, ⟨⟨τ, rfl, hτ⟩⟩, ⟨hkeep.os, hkeep.tape, hkeep.output, hkeep.size, fun k hk hn => hkeep.block k hk fun h => hn (sub0 k h)⟩, fun i b hb hn => hold i b hb hn, hav.re hro1 hback fun i n cap _ => no_fz i n, ?_⟩
  refine ⟨by simp [backMem, hm1]; omega, ?_, fun b hb => Nat.lt_of_lt_of_le (hmem.fo b hb) hkeep.size, hmem1.gl.mono fun z hz => ⟨hro1 z hz, rfl⟩, fun i t cs b hi hb => ?_⟩
  · rw [List.nodup_append]
    refine ⟨hmem.nodup, (List.nodup_append.1 hmem1.nodup).2.1, fun x hx y hy e => ?_⟩
    have h1 := hmem.lt hx
    have h2 := hτ y hy
    omega
  · unfold backMem at hi
    rcases Nat.lt_or_ge i m.length with hil | hil
    · rw [List.getElem?_append_left (by simpa using hil), List.getElem?_map, List.getElem?_range hil, Option.map_some] at hi
      rw [List.getElem?_append_left (by omega)] at hb
      split at hi
      · rename_i p hp
        have hIp := posOf_get hp
        have hpl := (List.getElem?_eq_some_iff.1 hIp).1
        have hb1 : (σ0 ++ τ)[p]? = some b := by
          rw [List.getElem?_append_left (by omega)]
          exact at0 p i b hIp hb
        cases hm1p : m1[p]? with
        | none =>
          have := List.getElem?_eq_none_iff.1 hm1p
          omega
        | some e =>
          obtain ⟨t0, cs0⟩ := e
          rw [hm1p] at hi
          cases hi
          obtain ⟨us, h3, h4⟩ := hmem1.blk p t0 cs0 b hm1p hb1
          exact ⟨us, h3, h4.re hro1 hback fun i n cap _ => no_fz i n⟩
      · rename_i hp
        have hni := posOf_none hp
        have hmi : m[i]? = some (t, cs) := by
          rw [List.getElem?_eq_getElem hil] at *
          simpa [hil] using hi
        obtain ⟨us, h3, h4⟩ := hmem.blk i t cs b hmi hb
        refine ⟨us, (hold i b hb hni).trans h3, h4.mono (fun z hz => ⟨⟨Nat.lt_of_lt_of_le hz.1 hkeep.size, hz.2.1, fun h => ?_⟩, hkeep.block z hz.1 fun h => hz.2.2 (sub0 z h)⟩) (fun j z hj => by rw [List.getElem?_append_left (List.getElem?_eq_some_iff.1 hj).1]; exact hj)⟩
        rcases List.mem_append.1 h with h1 | h1
        · exact hz.2.2 h1
        · have := hτ z h1
          have := hz.1
          omega
    · rw [List.getElem?_append_right (by simpa using hil), List.getElem?_map, List.getElem?_drop] at hi
      rw [List.length_map, List.length_range] at hi
      rw [List.getElem?_append_right (by omega)] at hb
      cases hm1p : m1[I.length + (i - m.length)]? with
      | none => rw [hm1p] at hi; simp at hi
      | some e =>
        obtain ⟨t0, cs0⟩ := e
        rw [hm1p] at hi
        cases hi
        have hb1 : (σ0 ++ τ)[I.length + (i - m.length)]? = some b := by
          rw [List.getElem?_append_right (by omega), hs0l, show I.length + (i - m.length) - I.length = i - σ.length by omega]
          exact hb
        obtain ⟨us, h3, h4⟩ := hmem1.blk _ t0 cs0 b hm1p hb1
        exact ⟨us, h3, h4.re hro1 hback fun i n cap _ => no_fz i n⟩
end Ax
/-
Points: their cells, what the loop over points carries.
-/
set_option linter.unusedSimpArgs false
set_option linter.unusedVariables false
namespace Go.Proofs.YtokgbcachcmeaaaGreatDoor
open Go.RowKit Ax
abbrev cP : Cd := .pair cF cF
abbrev Pt := El cP
noncomputable def zeroP : Zero Tryz.prog := ⟨30, ck cP ((w0, w0), (w0, w0)), Pq.fl false 0 false 0 ++ Pq.fl false 0 false 0, by kernel_rfl, fun w R σ => (f_is w R σ (w0, w0)).app (f_is w R σ (w0, w0))⟩
noncomputable def codP : Cod Tryz.prog := ⟨30, cP, by kernel_rfl, ⟨.agg (Pq.fl false 0 false 0 ++ Pq.fl false 0 false 0).toArray, fun w => by kernel_rfl⟩⟩
noncomputable def EP0 : Env Tryz.prog := ⟨E35.con, zeroP :: E35.zero, codP :: E35.cod, E35.sure, E35.base, E35.frz⟩
def spPall : LSpec := ⟨22, [(5, false, .sl cP), (6, false, .int .i64), (7, false, .int .i64)], [], [], fun e => match e with | .ret => [2] | _ => []⟩
theorem cf_pall (xs : Array Value) (w : World) : (callFunc 52 xs).run Tryz.prog w = .ok (.enter 52 xs) w := by kernel_rfl
theorem cf_pis (xs : Array Value) (w : World) : (callFunc 26 xs).run Tryz.prog w = .ok (.enter 26 xs) w := by kernel_rfl
theorem cf_ptold (xs : Array Value) (w : World) : (callFunc 117 xs).run Tryz.prog w = .ok (.enter 117 xs) w := by kernel_rfl
theorem cf_psubm (xs : Array Value) (w : World) : (callFunc 102 xs).run Tryz.prog w = .ok (.enter 102 xs) w := by kernel_rfl
theorem cf_pmulm (xs : Array Value) (w : World) : (callFunc 103 xs).run Tryz.prog w = .ok (.enter 103 xs) w := by kernel_rfl
theorem cf_pvec (xs : Array Value) (w : World) : (callFunc 100 xs).run Tryz.prog w = .ok (.enter 100 xs) w := by kernel_rfl
theorem cf_pends (xs : Array Value) (w : World) : (callFunc 101 xs).run Tryz.prog w = .ok (.enter 101 xs) w := by kernel_rfl
theorem cf_pdotm (xs : Array Value) (w : World) : (callFunc 119 xs).run Tryz.prog w = .ok (.enter 119 xs) w := by kernel_rfl
theorem cf_pcross (xs : Array Value) (w : World) : (callFunc 81 xs).run Tryz.prog w = .ok (.enter 81 xs) w := by kernel_rfl
theorem cf_pdot (xs : Array Value) (w : World) : (callFunc 104 xs).run Tryz.prog w = .ok (.enter 104 xs) w := by kernel_rfl
theorem cf_pfar (xs : Array Value) (w : World) : (callFunc 84 xs).run Tryz.prog w = .ok (.enter 84 xs) w := by kernel_rfl
end Go.Proofs.YtokgbcachcmeaaaGreatDoor
/-
Whether points are points: the loop, its tree.
-/
set_option linter.unusedSimpArgs false
set_option linter.unusedVariables false
namespace Go.Proofs.YtokgbcachcmeaaaGreatDoor
open Go.RowKit Ax
noncomputable def tr_pallL (x : LSpec.X spPall × LSpec.Y spPall) : T (Rd spPall) :=
 .ite (decide (x.1.2.2.1 < x.1.2.1))
  (.get x.1.1 x.1.2.2.1 (fun v0 =>
   .ite (!safeF (60 : Int) v0.1)
    (.ret (.out (Go.Exit.ret) [(.one (.v (.bool (false))))] ()))
    (.ite (!safeF (60 : Int) v0.2)
     (.ret (.out (Go.Exit.ret) [(.one (.v (.bool (false))))] ()))
     (.ret (.again (x.1.1, (x.1.2.1, (IntKind.wrap .i64 (x.1.2.2.1 + (1 : Int)), ()))) ())))))
  (.ret (.out (Go.Exit.exit (0 : Nat)) [] ()))
theorem tr_pallL_eq (x : LSpec.X spPall × LSpec.Y spPall) : LSpec.round spPall EP0 (fun _ => none) (bodyOf Tryz.f52 0) x.1 x.2 = tr_pallL x := by kernel_rfl
end Go.Proofs.YtokgbcachcmeaaaGreatDoor
/-
How great sums, products of fractions are; points' products may be reckoned with: plain laws.
-/
set_option linter.unusedSimpArgs false
set_option linter.unusedVariables false
namespace Go.Proofs.YtokgbcachcmeaaaGreatDoor
open Go.RowKit Ax
def Bq (j k : Nat) (r : Rat) : Prop := r.num.natAbs < 2 ^ j ∧ r.den < 2 ^ k
theorem bq_mk {a b : Int} {j k : Nat} (hb : b ≠ 0) (ha : a.natAbs < 2 ^ j) (hk : b.natAbs < 2 ^ k) : Bq j k (Rat.divInt a b) := by
  have := divInt_le (a := a) hb
  exact ⟨Nat.lt_of_le_of_lt this.1 ha, Nat.lt_of_le_of_lt this.2 hk⟩
theorem den_z (r : Rat) : (r.den : Int) ≠ 0 := by have := r.den_pos; omega
theorem bq_add {r s : Rat} {j k j' k' n m : Nat} (hr : Bq j k r) (hs : Bq j' k' s) (h1 : j + k' < n) (h2 : j' + k < n) (h3 : k + k' ≤ m) : Bq n m (r + s) := by
  obtain ⟨n, rfl⟩ : ∃ q, n = q + 1 := ⟨n - 1, by omega⟩
  have e : r + s = Rat.divInt (r.num * s.den + s.num * r.den) (r.den * s.den) := by
    conv => lhs; rw [← Rat.num_divInt_den r, ← Rat.num_divInt_den s]
    exact Rat.divInt_add_divInt _ _ (den_z r) (den_z s)
  rw [e]
  refine bq_mk (Int.mul_ne_zero (den_z r) (den_z s)) (pow_add_ez (k := n) rfl ?_ ?_) ?_
  · exact pow_to (pow_mul_ez (j := j) (k := k') rfl hr.1 (by simpa using hs.2)) (by omega)
  · exact pow_to (pow_mul_ez (j := j') (k := k) rfl hs.1 (by simpa using hr.2)) (by omega)
  · exact pow_to (pow_mul_ez (j := k) (k := k') rfl (by simpa using hr.2) (by simpa using hs.2)) h3
theorem bq_neg {r : Rat} {j k : Nat} (h : Bq j k r) : Bq j k (-r) := by
  unfold Bq
  rw [Rat.neg_num, Rat.neg_den, Int.natAbs_neg]
  exact h
theorem bq_sub {r s : Rat} {j k j' k' n m : Nat} (hr : Bq j k r) (hs : Bq j' k' s) (h1 : j + k' < n) (h2 : j' + k < n) (h3 : k + k' ≤ m) : Bq n m (r - s) := by
  rw [Rat.sub_eq_add_neg]
  exact bq_add hr (bq_neg hs) h1 h2 h3
theorem bq_mul {r s : Rat} {j k j' k' n m : Nat} (hr : Bq j k r) (hs : Bq j' k' s) (h1 : j + j' ≤ n) (h3 : k + k' ≤ m) : Bq n m (r * s) := by
  have e : r * s = Rat.divInt (r.num * s.num) (r.den * s.den) := by
    conv => lhs; rw [← Rat.num_divInt_den r, ← Rat.num_divInt_den s]
    exact Rat.divInt_mul_divInt _ _
  rw [e]
  refine bq_mk (Int.mul_ne_zero (den_z r) (den_z s)) ?_ ?_
  · exact pow_to (pow_mul_ez (j := j) (k := j') rfl hr.1 hs.1) h1
  · exact pow_to (pow_mul_ez (j := k) (k := k') rfl (by simpa using hr.2) (by simpa using hs.2)) h3
theorem bq_safe {x : F} {k : Nat} (h : SafeF k x) : Bq k k (qF x) := by
  have h1 := safe_bk h
  obtain ⟨e1, e2⟩ := rat_parts h.2.2
  refine ⟨by rw [e1]; exact h1.1, ?_⟩
  have : ((qF x).den : Int).natAbs < 2 ^ k := by rw [e2]; exact h1.2.1
  simpa using this
theorem fits_bq {r : Rat} {j k : Nat} (h : Bq j k r) (hj : j ≤ 1024) (hk : k ≤ 1024) : Fits r :=
  ⟨Nat.lt_of_lt_of_le h.1 (bp_ge (k := j) 1024 rfl hj), Nat.lt_of_lt_of_le h.2 (bp_ge (k := k) 1024 rfl hk)⟩
theorem safe_bq {r : Rat} {j k : Nat} (b : Nat) (h : Bq j k r) (hb : b ≤ 1024) (hj : j ≤ b) (hk : k ≤ b) : SafeF b (rOf r) := by
  have hf := fits_bq h (Nat.le_trans hj hb) (Nat.le_trans hk hb)
  have e1 : zW (rOf r).1 = r.num := zW_wOf hf.1
  have e2 : zW (rOf r).2 = (r.den : Int) := zW_wOf (by simpa using hf.2)
  refine ⟨?_, ?_, (ok_rOf hf).1⟩
  · rw [e1]
    have := Pq.bitn_le.2 (pow_to h.1 hj)
    omega
  · rw [e2]
    have := Pq.bitn_le.2 (pow_to h.2 hk)
    simp only [Int.natAbs_natCast]
    omega
theorem q_bq {r : Rat} {j k : Nat} (h : Bq j k r) (hj : j ≤ 1024) (hk : k ≤ 1024) : qF (rOf r) = r := (ok_rOf (fits_bq h hj hk)).2
/-! ### points -/
abbrev PtF := F × F
def isP (p : PtF) : Bool := safeF 60 p.1 && safeF 60 p.2
theorem isP_iff {p : PtF} : isP p = true ↔ SafeF 60 p.1 ∧ SafeF 60 p.2 := by
  unfold isP safeF
  rw [Bool.and_eq_true, decide_eq_true_eq, decide_eq_true_eq]
theorem safe_500 {x : F} (h : SafeF 60 x) : SafeF 500 x := ⟨by have := h.1; omega, by have := h.2.1; omega, h.2.2⟩
theorem both_of {x y : F} (hx : SafeF 500 x) (hy : SafeF 500 y) : both x y = true := both_iff.2 ⟨hx, hy⟩
abbrev dif (x y : F) : Rat := qF x - qF y
theorem bq_dif {x y : F} (hx : SafeF 60 x) (hy : SafeF 60 y) : Bq 121 120 (dif x y) := bq_sub (bq_safe (k := 60) hx) (bq_safe (k := 60) hy) (by decide) (by decide) (by decide)
theorem both_dif {x y : F} (hx : SafeF 60 x) (hy : SafeF 60 y) : both x y = true := both_of (safe_500 hx) (safe_500 hy)
theorem safe_dif {x y : F} (hx : SafeF 60 x) (hy : SafeF 60 y) : SafeF 500 (rOf (dif x y)) := safe_bq 500 (bq_dif hx hy) (by decide) (by decide) (by decide)
theorem q_dif {x y : F} (hx : SafeF 60 x) (hy : SafeF 60 y) : qF (rOf (dif x y)) = dif x y := q_bq (bq_dif hx hy) (by decide) (by decide)
def crossQ (a b c : PtF) : Rat := dif b.1 a.1 * dif c.2 a.2 - dif b.2 a.2 * dif c.1 a.1
def dotQ (a b c : PtF) : Rat := dif b.1 a.1 * dif c.1 a.1 + dif b.2 a.2 * dif c.2 a.2
theorem bq_dd {x y z t : F} (hx : SafeF 60 x) (hy : SafeF 60 y) (hz : SafeF 60 z) (ht : SafeF 60 t) : Bq 242 240 (dif x y * dif z t) := bq_mul (bq_dif hx hy) (bq_dif hz ht) (by decide) (by decide)
theorem bq_cross {a b c : PtF} (ha : isP a = true) (hb : isP b = true) (hc : isP c = true) : Bq 483 480 (crossQ a b c) := by
  rw [isP_iff] at ha hb hc
  exact bq_sub (bq_dd hb.1 ha.1 hc.2 ha.2) (bq_dd hb.2 ha.2 hc.1 ha.1) (by decide) (by decide) (by decide)
theorem bq_dot {a b c : PtF} (ha : isP a = true) (hb : isP b = true) (hc : isP c = true) : Bq 483 480 (dotQ a b c) := by
  rw [isP_iff] at ha hb hc
  exact bq_add (bq_dd hb.1 ha.1 hc.1 ha.1) (bq_dd hb.2 ha.2 hc.2 ha.2) (by decide) (by decide) (by decide)
end Go.Proofs.YtokgbcachcmeaaaGreatDoor
/-
Whether points are points.
-/
set_option linter.unusedSimpArgs false
set_option linter.unusedVariables false
namespace Go.Proofs.YtokgbcachcmeaaaGreatDoor
open Go.RowKit Ax
def outPall (x : LSpec.X spPall) (y : LSpec.Y spPall) : T (Exit × List Av × LSpec.Y spPall) :=
  .need (x.2.1 = x.1.length ∧ 0 ≤ x.2.2.1 ∧ x.2.2.1 ≤ x.1.length ∧ lenOk x.1.length) (.ite ((x.1.drop x.2.2.1.toNat).all isP) (.ret (.exit 0, [], ())) (.ret (.ret, [aB false], ())))
theorem pallL_core (l : List Pt) (n i : Int) (Q : Exit × List Av × LSpec.Y spPall → Prop) (h : (outPall (l, n, i, ()) ()).wp Q) : (tr_pallL ((l, n, i, ()), ())).wp fun r => match r with
      | .again x' y' => (x'.1.length - x'.2.2.1).toNat < (l.length - i).toNat ∧ (outPall x' y').wp Q
      | .out e avs y' => Q (e, avs, y') := by
  unfold tr_pallL
  unfold outPall at h ⊢
  simp only [T.wp] at h ⊢
  dsimp only [El, vts] at h ⊢
  obtain ⟨⟨hn, h0, h1, hl⟩, ht, hf⟩ := h
  refine ⟨fun hlt => ?_, fun hge => ?_⟩
  · have hlt := of_decide_eq_true hlt
    rw [hn] at hlt
    obtain ⟨v, hv⟩ := elem_at h0 hlt
    have hd := drop_at h0 hv
    have no : isP v = false → Q (.ret, [aB false], ()) := fun hs => hf (by rw [hd, List.all_cons, hs]; rfl)
    refine ⟨v, h0, hv, fun hs => no ?_, fun hs => ⟨fun hs2 => no ?_, fun hs2 => ?_⟩⟩
    · simp at hs
      unfold isP; rw [hs]; rfl
    · simp at hs2
      unfold isP; rw [hs2, Bool.and_false]
    · rw [wrap_next h0 hlt hl]
      have hs' : isP v = true := by
        simp at hs hs2
        unfold isP; rw [hs, hs2]; rfl
      rw [hd, List.all_cons, hs', Bool.true_and] at ht hf
      exact ⟨by omega, ⟨hn, by omega, by omega, hl⟩, ht, hf⟩
  · have hge := of_decide_eq_false hge
    rw [hn] at hge
    rw [drop_end (by omega)] at ht
    exact ht rfl
theorem pallL_ok : LoopOk Tryz.prog 0 (bodyOf Tryz.f52 0) (spPall.run outPall) :=
  loop_ok (E := EP0) (L := fun _ => none) mixed 0 (loops_none _ _ _) spPall (Nat.le_refl _) outPall (fun x _ => (x.1.length - x.2.2.1).toNat) (by
    rintro ⟨l, n, i, ⟨⟩⟩ ⟨⟩ Q h
    rw [tr_pallL_eq ((l, n, i, ()), ())]
    exact pallL_core l n i Q h)
noncomputable def lpPall : Loops := oneL 2 (spPall.run outPall)
noncomputable def con_pall : Con Tryz.prog := ⟨52, [], _, cf_pall, val_con (E := EP0) (L := lpPall) mixed Tryz.func52 (one_loop pallL_ok (by kernel_rfl)) [(false, .sl cP)] (fun x => lenOk x.1.length) (fun x => aB (x.1.all isP)) fun x hx => by
  have e : fnP EP0 lpPall Tryz.f52 (encs [(false, .sl cP)] x) = .need ((↑(List.length (x.1)) : Int) = (↑(List.length (x.1)) : El (Cd.int .i64)) ∧ (0 : El (Cd.int .i64)) ≤ (0 : Int) ∧ (0 : Int) ≤ (↑(List.length (x.1)) : El (Cd.int .i64)) ∧ lenOk (List.length (x.1))) (.ite (List.all (List.drop (Int.toNat (0 : Int)) (x.1)) isP)
   (.ret (.one (.v (.bool (true)))))
   (.ret (.one (.v (.bool (false)))))) := by kernel_rfl
  rw [e]
  simp only [T.wp]
  dsimp only [El]
  refine ⟨⟨by simp, by simp, by simp, hx⟩, fun h => ?_, fun h => ?_⟩
  · simp only [Int.toNat_zero, List.drop_zero] at h; rw [h]; rfl
  · simp only [Int.toNat_zero, List.drop_zero] at h; rw [h]; rfl⟩
noncomputable def EP1 : Env Tryz.prog := EP0.add [con_pall]
theorem len1 {α : Type} (x : α) : lenOk (List.length [x]) := by
  unfold lenOk; simp
noncomputable def con_pis : Con Tryz.prog := ⟨26, [], _, cf_pis, tot_con (E := EP1) mixed Tryz.func26 no_loops [(true, cP)] (fun x => aB (isP x.1)) fun x => by
  have e : fnP EP1 (fun _ => none) Tryz.f26 (encs [(true, cP)] x) = .need (lenOk (List.length [x.1])) (.ret (aB (List.all [x.1] isP))) := by kernel_rfl
  rw [e]
  refine ⟨len1 _, ?_⟩
  show aB (List.all [x.1] isP) = _
  rw [List.all_cons, List.all_nil, Bool.and_true]⟩
noncomputable def m_rsub1 : Con Tryz.prog := ⟨38, [], _, cf_rsub, must_con0 con_rsub.ok⟩
noncomputable def m_rmul1 : Con Tryz.prog := ⟨118, [], _, cf_rmul, must_con0 con_rmul.ok⟩
noncomputable def m_radd1 : Con Tryz.prog := ⟨31, [], _, cf_radd, must_con0 con_radd.ok⟩
noncomputable def m_rdiv1 : Con Tryz.prog := ⟨14, [], _, cf_rdiv, must_con0 con_rdiv.ok⟩
noncomputable def m_rcmp1 : Con Tryz.prog := ⟨19, [], _, cf_rcmp, must_con0 con_rcmp.ok⟩
noncomputable def m_rof1 : Con Tryz.prog := ⟨12, [], _, cf_rof, must_con con_rof.ok⟩
noncomputable def m_rsum1 : Con Tryz.prog := ⟨13, [], _, cf_rsum, must_con con_rsum.ok⟩
noncomputable def m_rleast1 : Con Tryz.prog := ⟨37, [], _, cf_rleast, must_con con_rleast.ok⟩
noncomputable def EP2 : Env Tryz.prog := EP1.add [con_pis, m_rsub1, m_rmul1, m_radd1, m_rdiv1, m_rcmp1, m_rof1, m_rsum1, m_rleast1]
end Go.Proofs.YtokgbcachcmeaaaGreatDoor
/-
What points' sums carry: a call's result, whether all could be.
-/
set_option linter.unusedSimpArgs false
set_option linter.unusedVariables false
namespace Go.Proofs.YtokgbcachcmeaaaGreatDoor
open Go.RowKit Ax
noncomputable def tr_ptold (x : El (.bool) × Els [(true, cF), (false, .bool)]) : T (Av × El (.bool)) :=
 .ite (x.1)
  (.ret ((.agg [.v (.bool x.2.1.1.1), .w x.2.1.1.2, .v (.bool x.2.1.2.1), .w x.2.1.2.2]), true))
  (.ret ((.agg [.v (.bool x.2.1.1.1), .w x.2.1.1.2, .v (.bool x.2.1.2.1), .w x.2.1.2.2]), !x.2.2.1))
theorem tr_ptold_eq (x : El (.bool) × Els [(true, cF), (false, .bool)]) : ptr1 EP2 (fun _ => none) Tryz.f117 0 161 (.bool) x.1 (encs [(true, cF), (false, .bool)] x.2) = tr_ptold x := by kernel_rfl
noncomputable def tr_pends (x : El (.bool) × Els [(true, cF)]) : T (Av × El (.bool)) :=
 .ite (x.1)
  (.ret ((.tup [(.agg [.v (.bool w0.1), .w w0.2, .v (.bool w0.1), .w w0.2]), (.one (.v (.bool (false))))]), x.1))
  (.ret ((.tup [(.agg [.v (.bool x.2.1.1.1), .w x.2.1.1.2, .v (.bool x.2.1.2.1), .w x.2.1.2.2]), (.one (.v (.bool (true))))]), x.1))
theorem tr_pends_eq (x : El (.bool) × Els [(true, cF)]) : ptr1 EP2 (fun _ => none) Tryz.f101 0 161 (.bool) x.1 (encs [(true, cF)] x.2) = tr_pends x := by kernel_rfl
noncomputable def con_ptold : Con Tryz.prog := ⟨117, [0], _, cf_ptold, ptr1_ok (E := EP2) (L := fun _ => none) mixed Tryz.func117 no_loops 0 161 .bool [(true, cF), (false, .bool)] (fun bad x => .need (x.2.1 = true) (.ret (.agg (ck cF x.1), bad))) fun bad x Q hq => by
  have := tr_ptold_eq (bad, x)
  rw [show ptr1 EP2 (fun _ => none) Tryz.f117 0 161 .bool bad (encs [(true, cF), (false, .bool)] x) = _ from this]
  obtain ⟨a, ok, u⟩ := x
  unfold tr_ptold
  simp only [T.wp] at hq ⊢
  obtain ⟨h1, hq⟩ := hq
  refine ⟨fun h => ?_, fun h => ?_⟩
  · subst h; exact hq
  · subst h
    have h1 : ok = true := h1
    subst h1
    exact hq⟩
noncomputable def con_pends : Con Tryz.prog := ⟨101, [0], _, cf_pends, ptr1_ok (E := EP2) (L := fun _ => none) mixed Tryz.func101 no_loops 0 161 .bool [(true, cF)] (fun bad x => .need (bad = false) (.ret (.tup [.agg (ck cF x.1), aB true], false))) fun bad x Q hq => by
  have := tr_pends_eq (bad, x)
  rw [show ptr1 EP2 (fun _ => none) Tryz.f101 0 161 .bool bad (encs [(true, cF)] x) = _ from this]
  unfold tr_pends
  simp only [T.wp] at hq ⊢
  obtain ⟨h1, hq⟩ := hq
  subst h1
  exact ⟨fun h => Bool.noConfusion h, fun _ => hq⟩⟩
noncomputable def EP3 : Env Tryz.prog := EP2.add [con_ptold, con_pends]
noncomputable def con_psubm : Con Tryz.prog := ⟨102, [0], _, cf_psubm, ptr1_ok (E := EP3) (L := fun _ => none) mixed Tryz.func102 no_loops 0 161 .bool [(true, cF), (true, cF)] (fun bad x => .need (both x.1 x.2.1 = true) (.lt (rOf (qF x.1 - qF x.2.1)) fun v => .need (true = true) (.ret (.agg (ck cF v), bad)))) fun bad x Q hq => by
  have e : ptr1 EP3 (fun _ => none) Tryz.f102 0 161 .bool bad (encs [(true, cF), (true, cF)] x) = .need (both x.1 x.2.1 = true) (.lt (rOf (qF x.1 - qF x.2.1)) fun v => .need (true = true) (.ret (.agg (ck cF v), bad))) := by kernel_rfl
  rw [e]
  exact hq⟩
noncomputable def con_pmulm : Con Tryz.prog := ⟨103, [0], _, cf_pmulm, ptr1_ok (E := EP3) (L := fun _ => none) mixed Tryz.func103 no_loops 0 161 .bool [(true, cF), (true, cF)] (fun bad x => .need (both x.1 x.2.1 = true) (.lt (rOf (qF x.1 * qF x.2.1)) fun v => .need (true = true) (.ret (.agg (ck cF v), bad)))) fun bad x Q hq => by
  have e : ptr1 EP3 (fun _ => none) Tryz.f103 0 161 .bool bad (encs [(true, cF), (true, cF)] x) = .need (both x.1 x.2.1 = true) (.lt (rOf (qF x.1 * qF x.2.1)) fun v => .need (true = true) (.ret (.agg (ck cF v), bad))) := by kernel_rfl
  rw [e]
  exact hq⟩
noncomputable def EP4 : Env Tryz.prog := EP3.add [con_psubm, con_pmulm]
end Go.Proofs.YtokgbcachcmeaaaGreatDoor
/-
Ways from one point to another, their product: trees.
-/
set_option linter.unusedSimpArgs false
set_option linter.unusedVariables false
namespace Go.Proofs.YtokgbcachcmeaaaGreatDoor
open Go.RowKit Ax
noncomputable def tr_pvec (x : El (.bool) × Els [(true, cP), (true, cP)]) : T (Av × El (.bool)) :=
 .need (both x.2.2.1.1 x.2.1.1 = true) (.lt (rOf (qF x.2.2.1.1 - qF x.2.1.1)) (fun v0 =>
   .need (true = true) (.need (both x.2.2.1.2 x.2.1.2 = true) (.lt (rOf (qF x.2.2.1.2 - qF x.2.1.2)) (fun v1 =>
      .need (true = true) (.ret ((.agg [.v (.bool v0.1.1), .w v0.1.2, .v (.bool v0.2.1), .w v0.2.2, .v (.bool v1.1.1), .w v1.1.2, .v (.bool v1.2.1), .w v1.2.2]), x.1)))))))
theorem tr_pvec_eq (x : El (.bool) × Els [(true, cP), (true, cP)]) : ptr1 EP4 (fun _ => none) Tryz.f100 0 161 (.bool) x.1 (encs [(true, cP), (true, cP)] x.2) = tr_pvec x := by kernel_rfl
noncomputable def tr_pdotm (x : El (.bool) × Els [(true, cP), (true, cP)]) : T (Av × El (.bool)) :=
 .need (both x.2.1.1 x.2.2.1.1 = true) (.lt (rOf (qF x.2.1.1 * qF x.2.2.1.1)) (fun v0 =>
   .need (true = true) (.need (both x.2.1.2 x.2.2.1.2 = true) (.lt (rOf (qF x.2.1.2 * qF x.2.2.1.2)) (fun v1 =>
      .need (true = true) (.need (both v0 v1 = true) (.lt (rOf (qF v0 + qF v1)) (fun v2 =>
         .need (true = true) (.ret ((.agg [.v (.bool v2.1.1), .w v2.1.2, .v (.bool v2.2.1), .w v2.2.2]), x.1))))))))))
theorem tr_pdotm_eq (x : El (.bool) × Els [(true, cP), (true, cP)]) : ptr1 EP4 (fun _ => none) Tryz.f119 0 161 (.bool) x.1 (encs [(true, cP), (true, cP)] x.2) = tr_pdotm x := by kernel_rfl
noncomputable def con_pvec : Con Tryz.prog := ⟨100, [0], _, cf_pvec, ptr1_ok (E := EP4) (L := fun _ => none) mixed Tryz.func100 no_loops 0 161 .bool [(true, cP), (true, cP)] (fun bad x => .need (both x.2.1.1 x.1.1 = true ∧ both x.2.1.2 x.1.2 = true) (.lt (rOf (qF x.2.1.1 - qF x.1.1)) fun v0 => .lt (rOf (qF x.2.1.2 - qF x.1.2)) fun v1 => .ret (.agg (ck cP (v0, v1)), bad))) fun bad x Q hq => by
  have := tr_pvec_eq (bad, x)
  rw [show ptr1 EP4 (fun _ => none) Tryz.f100 0 161 .bool bad (encs [(true, cP), (true, cP)] x) = _ from this]
  exact ⟨hq.1.1, rfl, hq.1.2, rfl, hq.2⟩⟩
noncomputable def con_pdotm : Con Tryz.prog := ⟨119, [0], _, cf_pdotm, ptr1_ok (E := EP4) (L := fun _ => none) mixed Tryz.func119 no_loops 0 161 .bool [(true, cP), (true, cP)] (fun bad x => .need (both x.1.1 x.2.1.1 = true ∧ both x.1.2 x.2.1.2 = true) (.lt (rOf (qF x.1.1 * qF x.2.1.1)) fun v0 => .lt (rOf (qF x.1.2 * qF x.2.1.2)) fun v1 => .need (both v0 v1 = true) (.lt (rOf (qF v0 + qF v1)) fun v2 => .ret (.agg (ck cF v2), bad)))) fun bad x Q hq => by
  have := tr_pdotm_eq (bad, x)
  rw [show ptr1 EP4 (fun _ => none) Tryz.f119 0 161 .bool bad (encs [(true, cP), (true, cP)] x) = _ from this]
  exact ⟨hq.1.1, rfl, hq.1.2, rfl, hq.2.1, rfl, hq.2.2⟩⟩
noncomputable def EP5z : Env Tryz.prog := EP4.add [con_pvec, con_pdotm]
noncomputable def zeroQ : Zero Tryz.prog := ⟨161, [.v (.bool false)], [.bool false], by kernel_rfl, fun w R σ => .v rfl .nil⟩
noncomputable def EP5 : Env Tryz.prog := ⟨EP5z.con, zeroQ :: EP5z.zero, EP5z.cod, EP5z.sure, EP5z.base, EP5z.frz⟩
end Go.Proofs.YtokgbcachcmeaaaGreatDoor
/-
Products of ways: trees.
-/
set_option linter.unusedSimpArgs false
set_option linter.unusedVariables false
namespace Go.Proofs.YtokgbcachcmeaaaGreatDoor
open Go.RowKit Ax
noncomputable def tr_pcross (x : Els [(true, cP), (true, cP), (true, cP)]) : T Av :=
 .need (lenOk (List.length [x.1, x.2.1, x.2.2.1])) (.ite (!List.all [x.1, x.2.1, x.2.2.1] isP)
   (.ret (.tup [(.agg [.v (.bool w0.1), .w w0.2, .v (.bool w0.1), .w w0.2]), (.one (.v (.bool (false))))]))
   (.need (both x.2.1.1 x.1.1 = true ∧ both x.2.1.2 x.1.2 = true) (.lt (rOf (qF x.2.1.1 - qF x.1.1)) (fun v0 =>
     .lt (rOf (qF x.2.1.2 - qF x.1.2)) (fun v1 =>
      .need (both x.2.2.1.1 x.1.1 = true ∧ both x.2.2.1.2 x.1.2 = true) (.lt (rOf (qF x.2.2.1.1 - qF x.1.1)) (fun v2 =>
        .lt (rOf (qF x.2.2.1.2 - qF x.1.2)) (fun v3 =>
         .need (both v0 v3 = true) (.lt (rOf (qF v0 * qF v3)) (fun v4 =>
           .need (true = true) (.need (both v1 v2 = true) (.lt (rOf (qF v1 * qF v2)) (fun v5 =>
              .need (true = true) (.need (both v4 v5 = true) (.lt (rOf (qF v4 - qF v5)) (fun v6 =>
                 .need (true = true) (.need (false = false) (.ret (.tup [(.agg [.v (.bool v6.1.1), .w v6.1.2, .v (.bool v6.2.1), .w v6.2.2]), (.one (.v (.bool (true))))])))))))))))))))))))
theorem tr_pcross_eq (x : Els [(true, cP), (true, cP), (true, cP)]) : fnP EP5 (fun _ => none) Tryz.f81 (encs [(true, cP), (true, cP), (true, cP)] x) = tr_pcross x := by kernel_rfl
noncomputable def tr_pdot (x : Els [(true, cP), (true, cP), (true, cP)]) : T Av :=
 .need (lenOk (List.length [x.1, x.2.1, x.2.2.1])) (.ite (!List.all [x.1, x.2.1, x.2.2.1] isP)
   (.ret (.tup [(.agg [.v (.bool w0.1), .w w0.2, .v (.bool w0.1), .w w0.2]), (.one (.v (.bool (false))))]))
   (.need (both x.2.1.1 x.1.1 = true ∧ both x.2.1.2 x.1.2 = true) (.lt (rOf (qF x.2.1.1 - qF x.1.1)) (fun v0 =>
     .lt (rOf (qF x.2.1.2 - qF x.1.2)) (fun v1 =>
      .need (both x.2.2.1.1 x.1.1 = true ∧ both x.2.2.1.2 x.1.2 = true) (.lt (rOf (qF x.2.2.1.1 - qF x.1.1)) (fun v2 =>
        .lt (rOf (qF x.2.2.1.2 - qF x.1.2)) (fun v3 =>
         .need (both v0 v2 = true ∧ both v1 v3 = true) (.lt (rOf (qF v0 * qF v2)) (fun v4 =>
           .lt (rOf (qF v1 * qF v3)) (fun v5 =>
            .need (both v4 v5 = true) (.lt (rOf (qF v4 + qF v5)) (fun v6 =>
              .need (false = false) (.ret (.tup [(.agg [.v (.bool v6.1.1), .w v6.1.2, .v (.bool v6.2.1), .w v6.2.2]), (.one (.v (.bool (true))))])))))))))))))))
theorem tr_pdot_eq (x : Els [(true, cP), (true, cP), (true, cP)]) : fnP EP5 (fun _ => none) Tryz.f104 (encs [(true, cP), (true, cP), (true, cP)] x) = tr_pdot x := by kernel_rfl
end Go.Proofs.YtokgbcachcmeaaaGreatDoor
/-
Products of ways: what they tell.
-/
set_option linter.unusedSimpArgs false
set_option linter.unusedVariables false
namespace Go.Proofs.YtokgbcachcmeaaaGreatDoor
open Go.RowKit Ax
theorem len3 {α : Type} (x y z : α) : lenOk (List.length [x, y, z]) := by
  unfold lenOk; simp
abbrev all3 (a b c : Pt) : Bool := List.all [a, b, c] isP
theorem all3_iff {a b c : Pt} : all3 a b c = true ↔ isP a = true ∧ isP b = true ∧ isP c = true := by
  unfold all3
  simp only [List.all_cons, List.all_nil, Bool.and_true, Bool.and_eq_true]
theorem safe_dd {x y z t : F} (hx : SafeF 60 x) (hy : SafeF 60 y) (hz : SafeF 60 z) (ht : SafeF 60 t) : SafeF 500 (rOf (dif x y * dif z t)) := safe_bq 500 (bq_dd hx hy hz ht) (by decide) (by decide) (by decide)
theorem q_dd {x y z t : F} (hx : SafeF 60 x) (hy : SafeF 60 y) (hz : SafeF 60 z) (ht : SafeF 60 t) : qF (rOf (dif x y * dif z t)) = dif x y * dif z t := q_bq (bq_dd hx hy hz ht) (by decide) (by decide)
theorem pcross_ok (a b c : Pt) : (tr_pcross (a, b, c, ())).wp (· = ansF (all3 a b c) (rOf (crossQ a b c))) := by
  unfold tr_pcross
  simp only [T.wp]
  refine ⟨len3 _ _ _, fun h => ?_, fun h => ?_⟩
  · have h : all3 a b c = false := (Bool.not_eq_true' _).mp h
    rw [h]; exact ans_no.symm
  · have h : all3 a b c = true := (Bool.not_eq_false' _).mp h
    obtain ⟨ha, hb, hc⟩ := all3_iff.1 h
    rw [isP_iff] at ha hb hc
    rw [h, q_dif hb.1 ha.1, q_dif hb.2 ha.2, q_dif hc.1 ha.1, q_dif hc.2 ha.2, q_dd hb.1 ha.1 hc.2 ha.2, q_dd hb.2 ha.2 hc.1 ha.1]
    exact ⟨⟨both_dif hb.1 ha.1, both_dif hb.2 ha.2⟩, ⟨both_dif hc.1 ha.1, both_dif hc.2 ha.2⟩, both_of (safe_dif hb.1 ha.1) (safe_dif hc.2 ha.2), trivial, both_of (safe_dif hb.2 ha.2) (safe_dif hc.1 ha.1), trivial,
      both_of (safe_dd hb.1 ha.1 hc.2 ha.2) (safe_dd hb.2 ha.2 hc.1 ha.1), trivial, trivial, rfl⟩
theorem pdot_ok (a b c : Pt) : (tr_pdot (a, b, c, ())).wp (· = ansF (all3 a b c) (rOf (dotQ a b c))) := by
  unfold tr_pdot
  simp only [T.wp]
  refine ⟨len3 _ _ _, fun h => ?_, fun h => ?_⟩
  · have h : all3 a b c = false := (Bool.not_eq_true' _).mp h
    rw [h]; exact ans_no.symm
  · have h : all3 a b c = true := (Bool.not_eq_false' _).mp h
    obtain ⟨ha, hb, hc⟩ := all3_iff.1 h
    rw [isP_iff] at ha hb hc
    rw [h, q_dif hb.1 ha.1, q_dif hb.2 ha.2, q_dif hc.1 ha.1, q_dif hc.2 ha.2, q_dd hb.1 ha.1 hc.1 ha.1, q_dd hb.2 ha.2 hc.2 ha.2]
    exact ⟨⟨both_dif hb.1 ha.1, both_dif hb.2 ha.2⟩, ⟨both_dif hc.1 ha.1, both_dif hc.2 ha.2⟩, ⟨both_of (safe_dif hb.1 ha.1) (safe_dif hc.1 ha.1), both_of (safe_dif hb.2 ha.2) (safe_dif hc.2 ha.2)⟩,
      both_of (safe_dd hb.1 ha.1 hc.1 ha.1) (safe_dd hb.2 ha.2 hc.2 ha.2), trivial, rfl⟩
noncomputable def con_pcross : Con Tryz.prog := ⟨81, [], _, cf_pcross, tot_con (E := EP5) mixed Tryz.func81 no_loops [(true, cP), (true, cP), (true, cP)] (fun x => ansF (all3 x.1 x.2.1 x.2.2.1) (rOf (crossQ x.1 x.2.1 x.2.2.1))) fun x => by
  rw [tr_pcross_eq]; exact pcross_ok x.1 x.2.1 x.2.2.1⟩
noncomputable def con_pdot : Con Tryz.prog := ⟨104, [], _, cf_pdot, tot_con (E := EP5) mixed Tryz.func104 no_loops [(true, cP), (true, cP), (true, cP)] (fun x => ansF (all3 x.1 x.2.1 x.2.2.1) (rOf (dotQ x.1 x.2.1 x.2.2.1))) fun x => by
  rw [tr_pdot_eq]; exact pdot_ok x.1 x.2.1 x.2.2.1⟩
noncomputable def EP6 : Env Tryz.prog := EP5.add [con_pcross, con_pdot]
end Go.Proofs.YtokgbcachcmeaaaGreatDoor
/-
Triangles: trees.
-/
set_option linter.unusedSimpArgs false
set_option linter.unusedVariables false
namespace Go.Proofs.YtokgbcachcmeaaaGreatDoor
open Go.RowKit Ax
theorem cf_tarea (xs : Array Value) (w : World) : (callFunc 53 xs).run Tryz.prog w = .ok (.enter 53 xs) w := by kernel_rfl
theorem cf_tis (xs : Array Value) (w : World) : (callFunc 82 xs).run Tryz.prog w = .ok (.enter 82 xs) w := by kernel_rfl
theorem cf_tall (xs : Array Value) (w : World) : (callFunc 83 xs).run Tryz.prog w = .ok (.enter 83 xs) w := by kernel_rfl
theorem cf_tcdot (xs : Array Value) (w : World) : (callFunc 85 xs).run Tryz.prog w = .ok (.enter 85 xs) w := by kernel_rfl
theorem cf_tccross (xs : Array Value) (w : World) : (callFunc 86 xs).run Tryz.prog w = .ok (.enter 86 xs) w := by kernel_rfl
theorem cf_tsharp (xs : Array Value) (w : World) : (callFunc 55 xs).run Tryz.prog w = .ok (.enter 55 xs) w := by kernel_rfl
theorem cf_tsides (xs : Array Value) (w : World) : (callFunc 54 xs).run Tryz.prog w = .ok (.enter 54 xs) w := by kernel_rfl
abbrev cT3 : Cd := .pair cP (.pair cP cP)
noncomputable def con_pfar : Con Tryz.prog := ⟨84, [], _, cf_pfar, tot_con (E := EP6) mixed Tryz.func84 no_loops [(true, cP), (true, cP)] (fun x => ansF (all3 x.1 x.2.1 x.2.1) (rOf (dotQ x.1 x.2.1 x.2.1))) fun x => by
  have e : fnP EP6 (fun _ => none) Tryz.f84 (encs [(true, cP), (true, cP)] x) = .ret (ansF (all3 x.1 x.2.1 x.2.1) (rOf (dotQ x.1 x.2.1 x.2.1))) := by kernel_rfl
  rw [e]; rfl⟩
noncomputable def con_tarea : Con Tryz.prog := ⟨53, [], _, cf_tarea, tot_con (E := EP6) mixed Tryz.func53 no_loops [(true, cP), (true, cP), (true, cP)] (fun x => ansF (all3 x.1 x.2.1 x.2.2.1) (rOf (crossQ x.1 x.2.1 x.2.2.1))) fun x => by
  have e : fnP EP6 (fun _ => none) Tryz.f53 (encs [(true, cP), (true, cP), (true, cP)] x) = .ret (ansF (all3 x.1 x.2.1 x.2.2.1) (rOf (crossQ x.1 x.2.1 x.2.2.1))) := by kernel_rfl
  rw [e]; rfl⟩
end Go.Proofs.YtokgbcachcmeaaaGreatDoor
/-
A type's zero out of what kind of data it is.
-/
set_option linter.unusedSimpArgs false
set_option linter.unusedVariables false
namespace Ax
open Go Go.RowKit
def zE : (c : Cd) → El c
  | .int _ => (0 : Int)
  | .bool => false
  | .str => ByteArray.mk #[]
  | .words => ⟨0, Pq.bp_pos 32⟩
  | .unit => ()
  | .pair a b => (zE a, zE b)
  | .sl _ => []
  | .ptr c => zE c
def zU : Cd → List Value
  | .int k => [.int k 0]
  | .bool => [.bool false]
  | .str => [.string (ByteArray.mk #[])]
  | .words => Pq.am 32 0
  | .unit => []
  | .pair a b => zU a ++ zU b
  | .sl _ => [.slice none 0 0]
  | .ptr _ => []
def noPt : Cd → Bool
  | .ptr _ => false
  | .pair a b => noPt a && noPt b
  | _ => true
theorem z_is (w : World) (R : Nat → Prop) (σ : List Nat) : ∀ c : Cd, noPt c = true → Is w R σ (ck c (zE c)) (zU c)
  | .int _, _ => .v rfl .nil
  | .bool, _ => .v rfl .nil
  | .str, _ => .v rfl .nil
  | .words, _ => by
    have : Is w R σ [.w ⟨0, Pq.bp_pos 32⟩] (Pq.am 32 0 ++ []) := .w .nil
    rwa [List.append_nil] at this
  | .unit, _ => .nil
  | .pair a b, h => by
    rw [noPt, Bool.and_eq_true] at h
    exact (z_is w R σ a h.1).app (z_is w R σ b h.2)
  | .sl _, _ => .dn .nil
  | .ptr _, h => by cases h
def zOf {P : Program} (ty : TypeId) (c : Cd) (hn : noPt c = true) (h : (match P.info? ty with | some i => i.zero.map (·.cells) | none => none) = some (zU c).toArray) : Zero P := ⟨ty, ck c (zE c), zU c, h, fun w R σ => z_is w R σ c hn⟩
def zU0 : List Cd → List Value
  | [] => []
  | c :: r => zU c ++ zU0 r
def zC0 : List Cd → List Ck
  | [] => []
  | .sl _ :: r => .v (.slice none 0 0) :: zC0 r
  | c :: r => ck c (zE c) ++ zC0 r
theorem zC_is (w : World) (R : Nat → Prop) (σ : List Nat) : ∀ l : List Cd, l.all noPt = true → Is w R σ (zC0 l) (zU0 l)
  | [], _ => .nil
  | .sl _ :: r, h => .v rfl (zC_is w R σ r (by simpa [noPt] using h))
  | .int k :: r, h => (z_is w R σ (.int k) rfl).app (zC_is w R σ r (by simpa [noPt] using h))
  | .bool :: r, h => (z_is w R σ .bool rfl).app (zC_is w R σ r (by simpa [noPt] using h))
  | .str :: r, h => (z_is w R σ .str rfl).app (zC_is w R σ r (by simpa [noPt] using h))
  | .words :: r, h => (z_is w R σ .words rfl).app (zC_is w R σ r (by simpa [noPt] using h))
  | .unit :: r, h => (z_is w R σ .unit rfl).app (zC_is w R σ r (by simpa [noPt] using h))
  | .pair a b :: r, h => by
    rw [List.all_cons, Bool.and_eq_true] at h
    exact (z_is w R σ (.pair a b) h.1).app (zC_is w R σ r h.2)
  | .ptr _ :: r, h => by simp [noPt] at h
def zRow {P : Program} (ty : TypeId) (l : List Cd) (hn : l.all noPt = true) (h : (match P.info? ty with | some i => i.zero.map (·.cells) | none => none) = some (zU0 l).toArray) : Zero P := ⟨ty, zC0 l, zU0 l, h, fun w R σ => zC_is w R σ l hn⟩
end Ax
/-
Triangles whose corners are points: their parts.
-/
set_option linter.unusedSimpArgs false
set_option linter.unusedVariables false
namespace Go.Proofs.YtokgbcachcmeaaaGreatDoor
open Go.RowKit Ax
noncomputable def zero3 : Zero Tryz.prog := zOf 133 cT3 rfl (by kernel_rfl)
noncomputable def zeroT : Zero Tryz.prog := zOf 135 cT3 rfl (by kernel_rfl)
abbrev c3T : Cd := .pair cT3 (.pair cT3 cT3)
abbrev c3F : Cd := .pair cF (.pair cF cF)
noncomputable def zero33 : Zero Tryz.prog := zOf 136 c3T rfl (by kernel_rfl)
noncomputable def zero3F : Zero Tryz.prog := zOf 98 c3F rfl (by kernel_rfl)
noncomputable def EP7z : Env Tryz.prog := EP6.add [con_pfar, con_tarea]
noncomputable def EP7 : Env Tryz.prog := ⟨EP7z.con, zero3 :: zeroT :: zero33 :: zero3F :: EP7z.zero, EP7z.cod, EP7z.sure, EP7z.base, EP7z.frz⟩
end Go.Proofs.YtokgbcachcmeaaaGreatDoor
/-
Corners of points: what they tell.
-/
set_option linter.unusedSimpArgs false
set_option linter.unusedVariables false
namespace Go.Proofs.YtokgbcachcmeaaaGreatDoor
open Go.RowKit Ax
abbrev Tri := El cT3
abbrev triOk (t : Tri) : Prop := all3 t.1 t.2.1 t.2.2 = true
theorem kb_of {w : World} {R : Nat → Prop} {σ : List Nat} {b : Bool} {v : Value} (h : AvIs w R σ (aB b) v) (hb : b = true) : AvIs w R σ (.one (.kb true)) v := by
  subst hb
  have := val_of h rfl
  subst this
  exact .one rfl (.kb .nil)
theorem tup2_kb {w : World} {R : Nat → Prop} {σ : List Nat} {a : Av} {v : Value} (h : AvIs w R σ (.tup [a, aB true]) v) : AvIs w R σ (.tup [a, .one (.kb true)]) v := by
  cases h with
  | tup us hl hi =>
    refine .tup us hl fun i x u hx hu => ?_
    match i, hx with
    | 0, hx => exact hi 0 x u hx hu
    | 1, hx =>
      have hx : Av.one (.kb true) = x := by simpa using hx
      subst hx
      exact kb_of (hi 1 _ u rfl hu) rfl
theorem tup3_kb {w : World} {R : Nat → Prop} {σ : List Nat} {a b : Av} {v : Value} (h : AvIs w R σ (.tup [a, b, aB true]) v) : AvIs w R σ (.tup [a, b, .one (.kb true)]) v := by
  cases h with
  | tup us hl hi =>
    refine .tup us hl fun i x u hx hu => ?_
    match i, hx with
    | 0, hx => exact hi 0 x u hx hu
    | 1, hx => exact hi 1 x u hx hu
    | 2, hx =>
      have hx : Av.one (.kb true) = x := by simpa using hx
      subst hx
      exact kb_of (hi 2 _ u rfl hu) rfl
theorem kb2_con {P : Program} {f : FuncId} {ts : List (Bool × Cd)} {pre : Els ts → Prop} {F : Els ts → Av} (h : ConOk P f [] (pureRun' ts fun x => .need (pre x) (.ret (.tup [F x, aB true])))) : ConOk P f [] (pureRun' ts fun x => .need (pre x) (.ret (.tup [F x, .one (.kb true)]))) := by
  refine con_weaken h fun args m Q hq => ?_
  unfold pureRun' at hq ⊢
  split at hq
  · rw [T.wp_bind] at hq ⊢
    exact ⟨hq.1, _, hq.2, fun _ _ _ _ h => tup2_kb h⟩
  · exact hq.elim
theorem kb3_con {P : Program} {f : FuncId} {ts : List (Bool × Cd)} {pre : Els ts → Prop} {F G : Els ts → Av} (h : ConOk P f [] (pureRun' ts fun x => .need (pre x) (.ret (.tup [F x, G x, aB true])))) : ConOk P f [] (pureRun' ts fun x => .need (pre x) (.ret (.tup [F x, G x, .one (.kb true)]))) := by
  refine con_weaken h fun args m Q hq => ?_
  unfold pureRun' at hq ⊢
  split at hq
  · rw [T.wp_bind] at hq ⊢
    exact ⟨hq.1, _, hq.2, fun _ _ _ _ h => tup3_kb h⟩
  · exact hq.elim
theorem tri_of {t : Tri} (h : triOk t) : isP t.1 = true ∧ isP t.2.1 = true ∧ isP t.2.2 = true := all3_iff.1 h
theorem tis_wp {t : Tri} (h : triOk t) : (T.ite (isP t.1) (.ite (isP t.2.1) (.ret (aB (isP t.2.2))) (.ret (aB false))) (.ret (aB false))).wp fun a => ∀ w R σ v, AvIs w R σ a v → AvIs w R σ (.one (.kb true)) v := by
  have hh := tri_of h
  refine ⟨fun _ => ⟨fun _ w R σ v h => kb_of h hh.2.2, fun h => ?_⟩, fun h => ?_⟩
  · rw [hh.2.1] at h; cases h
  · rw [hh.1] at h; cases h
noncomputable def m_tis : Con Tryz.prog := ⟨82, [], _, cf_tis, val_con_w (E := EP7) mixed Tryz.func82 no_loops [(true, cT3)] (fun x => triOk x.1) (fun _ => .one (.kb true)) fun x hx => by
  have e : fnP EP7 (fun _ => none) Tryz.f82 (encs [(true, cT3)] x) = .ite (isP x.1.1) (.ite (isP x.1.2.1) (.ret (aB (isP x.1.2.2))) (.ret (aB false))) (.ret (aB false)) := by kernel_rfl
  rw [e]
  exact tis_wp hx⟩
noncomputable def m_tcdot : Con Tryz.prog := ⟨85, [], _, cf_tcdot, val_con (E := EP7) mixed Tryz.func85 no_loops [(true, cT3)] (fun x => triOk x.1) (fun x => .agg (ck cF (rOf (dotQ x.1.1 x.1.2.1 x.1.2.2)))) fun x hx => by
  have e : fnP EP7 (fun _ => none) Tryz.f85 (encs [(true, cT3)] x) = .ret (.agg (ck cF (if all3 x.1.1 x.1.2.1 x.1.2.2 = true then rOf (dotQ x.1.1 x.1.2.1 x.1.2.2) else (w0, w0)))) := by kernel_rfl
  rw [e]
  show _ = _
  rw [if_pos hx]⟩
noncomputable def m_tccross : Con Tryz.prog := ⟨86, [], _, cf_tccross, val_con (E := EP7) mixed Tryz.func86 no_loops [(true, cT3)] (fun x => triOk x.1) (fun x => .agg (ck cF (rOf (crossQ x.1.1 x.1.2.1 x.1.2.2)))) fun x hx => by
  have e : fnP EP7 (fun _ => none) Tryz.f86 (encs [(true, cT3)] x) = .ret (.agg (ck cF (if all3 x.1.1 x.1.2.1 x.1.2.2 = true then rOf (crossQ x.1.1 x.1.2.1 x.1.2.2) else (w0, w0)))) := by kernel_rfl
  rw [e]
  show _ = _
  rw [if_pos hx]⟩
noncomputable def con_tall : Con Tryz.prog := ⟨83, [], _, cf_tall, tot_con (E := EP7) mixed Tryz.func83 no_loops [(true, cT3)] (fun x => .agg (ck c3T (x.1, (x.1.2.1, x.1.2.2, x.1.1), (x.1.2.2, x.1.1, x.1.2.1)))) fun x => by
  have e : fnP EP7 (fun _ => none) Tryz.f83 (encs [(true, cT3)] x) = .ret (.agg (ck c3T (x.1, (x.1.2.1, x.1.2.2, x.1.1), (x.1.2.2, x.1.1, x.1.2.1)))) := by kernel_rfl
  rw [e]; rfl⟩
noncomputable def EP8 : Env Tryz.prog := EP7.add [m_tis, m_tcdot, m_tccross, con_tall]
end Go.Proofs.YtokgbcachcmeaaaGreatDoor
/-
The run with what is known ahead: conditions that are owed, not parted; numbers that are known where arrays are indexed; loops of known length.
-/
set_option linter.unusedSimpArgs false
set_option linter.unusedVariables false
namespace Ax
open Go Go.RowKit
structure Opt {P : Program} (con : List (Con P)) : Type 1 where
  pc : List (PCon con)
  cs : List Tmp
  fc : Tmp → Option Bool
theorem swI_of {z : Int} {f : Nat → T Av} {K : Av → Prop} (h : (f z.toNat).wp K) : ∀ (k i : Nat), (i : Int) ≤ z → z ≤ (i + k : Nat) → (swI z f k i).wp K
  | 0, i, h1, h2 => by
    have : z.toNat = i := by omega
    rw [this] at h; exact h
  | k + 1, i, h1, h2 => by
    refine ⟨fun e => ?_, fun e => ?_⟩
    · have e : z = i := by simpa using e
      have : z.toNat = i := by omega
      rw [this] at h; exact h
    · have e : ¬ z = i := by simpa using e
      exact swI_of h k (i + 1) (by omega) (by omega)
theorem index_T {P : Program} {t : TypeId} {x ix : Av} {K : Av → Prop} (h : (aIndex P t x ix).wp K) : (aIndexT P t x ix).wp K := by
  unfold aIndexT
  split
  · rename_i cs k z
    unfold aIndex at h
    simp only [] at h
    split at h
    · rename_i len e hu
      obtain ⟨n, hn, h1⟩ := optN_wp h
      obtain ⟨row, hrow, h2⟩ := optN_wp h1
      obtain ⟨hb, h3⟩ := h2
      rw [hn, hrow]
      exact ⟨hb, swI_of (f := fun i => optT (sub (i * n) n cs) fun m => optT (mkOf row m) .ret) h3 _ _ (by omega) (by omega)⟩
    · exact h.elim
  · exact h
theorem indexAddr_T {P : Program} {m : Mem} {t : TypeId} {x ix : Av} {K : Av → Prop} (h : (aIndexAddr P m t x ix).wp K) : (aIndexAddrT P m t x ix).wp K := by
  unfold aIndexAddrT
  split
  · rename_i i off k z
    split
    · rename_i len e hu
      split
      · unfold aIndexAddr at h
        simp only [hu] at h
        obtain ⟨n, hn, h1⟩ := optN_wp h
        obtain ⟨hb, h3⟩ := h1
        rw [hn]
        refine ⟨hb, ?_⟩
        split at h3
        · exact h3
        · exact swI_of (f := fun j => .ret (.one (.p i (off + j * n)))) h3 _ _ (by omega) (by omega)
      · exact h
    · rename_i hu
      unfold aIndexAddr at h
      simp only [] at h
      exact h
  · exact h
section
variable {P : Program} {con : List (Con P)}
def aEC (cs : List Tmp) (E : Env P) (fr : List Av) (m : Mem) (o : Oper) : T Ef :=
  match o.op with
  | .index t x (.tmp k) => match cs.contains k with
    | true => (aIndex P t (operand fr x) (operand fr (.tmp k))).bind fun av => .ret ⟨av, m, []⟩
    | false => aE E fr m o
  | .indexAddr t x (.tmp k) => match cs.contains k with
    | true => (aIndexAddr P m t (operand fr x) (operand fr (.tmp k))).bind fun av => .ret ⟨av, m, []⟩
    | false => aE E fr m o
  | _ => aE E fr m o
theorem aEC_wp {cs : List Tmp} {E : Env P} {fr : List Av} {m : Mem} {o : Oper} {K : Ef → Prop} (h : (aEC cs E fr m o).wp K) : (aE E fr m o).wp K := by
  unfold aEC at h
  split at h
  · rename_i t x k hop
    split at h
    · rw [T.wp_bind] at h
      unfold aE
      simp only [hop]
      rw [T.wp_bind]
      unfold aS
      simp only [hop]
      exact index_T h
    · exact h
  · rename_i t x k hop
    split at h
    · rw [T.wp_bind] at h
      unfold aE
      simp only [hop]
      rw [T.wp_bind]
      unfold aS
      simp only [hop]
      exact indexAddr_T h
    · exact h
  · exact h
def runOpsC (cs : List Tmp) (E : Env P) (ops : Array Oper) : List Oper → St → T St
  | [], st => .ret st
  | o :: r, st => fSt st fun st => guarded (E.sure 0) ops o st (fun st => (aEC cs E st.fr st.mem o).bind fun e => runOpsC cs E ops r ⟨putFr st.fr o.dst e.av, e.mem⟩) (fun st => runOpsC cs E ops r ⟨putFr st.fr o.dst .nope, st.mem⟩)
theorem runOpsC_wp {cs : List Tmp} {E : Env P} {ops : Array Oper} {Q : St → Prop} : ∀ (l : List Oper) (st : St), (runOpsC cs E ops l st).wp Q → (runOps E ops l st).wp Q
  | [], _, h => h
  | o :: r, st, h => by
    rw [runOpsC, fSt_eq] at h
    rw [runOps]
    refine guarded_mono (fun st h => ?_) (fun st h => runOpsC_wp r _ h) h
    rw [T.wp_bind] at h ⊢
    exact aEC_wp (T.wp_mono (fun e h => runOpsC_wp r _ h) h)
def codeC (O : Opt con) (E : Env P) (L : Loops) : Code → St → T (Exit × St)
  | .skip, st => .ret (.normal, st)
  | .label _, st => .ret (.normal, st)
  | .region id ops false, st => fSt st fun st => (frzL E.base (E.frz id) st).bind fun st => (runOpsC O.cs (E.sel id) ops ops.toList st).bind fun st => .ret (.normal, st)
  | .region id ops true, st => fSt st fun st => (frzL E.base (E.frz id) st).bind fun st => (runDrawB O.pc (E.sel id) ops st).bind fun st => .ret (.normal, st)
  | .seq x y, st => (codeC O E L x st).bind fun r => match r.1 with
    | .normal => codeC O E L y r.2
    | e => .ret (e, r.2)
  | .cond (.tmp t) x y, st => match st.fr[t]? with
    | some (.one (.kb b)) => bsel b true (codeC O E L x st) (codeC O E L y st)
    | some (.one (.v (.bool b))) => match O.fc t with
      | some true => .need (b = true) (codeC O E L x (know st t true))
      | some false => .need (b = false) (codeC O E L y (know st t false))
      | none => .ite b (codeC O E L x (know st t true)) (codeC O E L y (know st t false))
    | _ => .fail
  | .cond (.const (.bool b)) x y, st => bsel b true (codeC O E L x st) (codeC O E L y st)
  | .block id c, st => (codeC O E L c st).bind fun r => .ret (exitBlock id r.1, r.2)
  | .loop c, st => match L (Code.first c) with
    | some run => run st
    | none => .fail
  | .exit id, st => .ret (.exit id, st)
  | .ret, st => .ret (.ret, st)
  | _, _ => .fail
theorem codeC_wp {O : Opt con} {E : Env P} (hE : E.con = con) {L : Loops} : ∀ (c : Code) (st : St) {Q : Exit × St → Prop}, (codeC O E L c st).wp Q → (code E L c st).wp Q := by
  intro c
  induction c with
  | skip => intro st Q h; exact h
  | label _ => intro st Q h; exact h
  | region id ops b =>
    intro st Q h
    cases b with
    | false =>
      rw [codeC, fSt_eq, T.wp_bind] at h
      rw [code, T.wp_bind]
      refine T.wp_mono (fun st h => ?_) h
      rw [T.wp_bind] at h ⊢
      exact runOpsC_wp _ _ h
    | true =>
      rw [codeC, fSt_eq, T.wp_bind] at h
      rw [code, T.wp_bind]
      refine T.wp_mono (fun st h => ?_) h
      rw [T.wp_bind] at h ⊢
      exact runDrawB_wp (E := E.sel id) hE h
  | seq x y ihx ihy =>
    intro st Q h
    rw [codeC, T.wp_bind] at h
    rw [code, T.wp_bind]
    refine T.wp_mono (fun r h => ?_) (ihx st h)
    obtain ⟨e, st'⟩ := r
    cases e with
    | normal => exact ihy _ h
    | _ => exact h
  | cond o x y ihx ihy =>
    intro st Q h
    cases o with
    | tmp t =>
      rw [codeC] at h
      rw [code]
      split at h
      · rename_i hx
        rw [hx]
        exact bsel_mono (ihx st) (ihy st) h
      · rename_i b hx
        rw [hx]
        split at h
        · obtain ⟨hb, h⟩ := h
          exact ⟨fun _ => ihx _ h, fun e => Bool.noConfusion (e.symm.trans hb)⟩
        · obtain ⟨hb, h⟩ := h
          exact ⟨fun e => Bool.noConfusion (e.symm.trans hb), fun _ => ihy _ h⟩
        · exact ⟨fun e => ihx _ (h.1 e), fun e => ihy _ (h.2 e)⟩
      · exact h.elim
    | const v =>
      cases v with
      | bool b =>
        rw [codeC] at h
        rw [code]
        exact bsel_mono (ihx st) (ihy st) h
      | _ => exact h.elim
    | global _ => exact h.elim
    | func _ => exact h.elim
  | block id c ih =>
    intro st Q h
    rw [codeC, T.wp_bind] at h
    rw [code, T.wp_bind]
    exact ih st h
  | _ => intro st Q h; exact h
def unrollC (O : Opt con) (E : Env P) (L : Loops) (body : Code) : List (Tmp → Option Bool) → St → T (Exit × St)
  | [], _ => .fail
  | f :: r, st => (codeC ⟨O.pc, O.cs, f⟩ E L body st).bind fun x => match r, x.1 with
    | [], .normal => .fail
    | [], e => .ret (e, x.2)
    | _ :: _, .normal => unrollC O E L body r x.2
    | _ :: _, _ => .fail
theorem unrollC_ok {O : Opt con} {E : Env P} (hE : E.con = con) {L : Loops} (hm : P.follows .mixedOrders = true) (k : Nat) {body : Code} (hL : LoopsOk P k L body) (fs : List (Tmp → Option Bool)) : LoopOk P k body (unrollC O (E.at_ k) L body fs) := by
  intro w0 φ σ0 σ st a w Q hσ hφ hS hrun
  refine wp_loop_ghost (fun n a w => ∃ fs st σ, n = fs.length ∧ Sat w0 φ σ0 σ st a w ∧ (unrollC O (E.at_ k) L body fs st).wp Q) fs.length ⟨fs, st, σ, rfl, hS, hrun⟩ fun n a w hI => ?_
  obtain ⟨fs, st, σ, rfl, hS, h⟩ := hI
  cases fs with
  | nil => exact h.elim
  | cons f r =>
    rw [unrollC, T.wp_bind] at h
    refine wp_mono (code_ok (E := E.at_ k) hm hσ hσ hφ body _ σ a w _ hL hS (codeC_wp (E := E.at_ k) hE _ _ h)) fun e a' w' hr => ?_
    obtain ⟨hq, st', σ', h2, h3⟩ := hr
    cases r with
    | nil =>
      cases e with
      | normal => exact h2.elim
      | panic _ => cases hq
      | outgrown => cases hq
      | exit id => exact ⟨rfl, st', σ', h2, h3⟩
      | ret => exact ⟨rfl, st', σ', h2, h3⟩
      | goto l => exact ⟨rfl, st', σ', h2, h3⟩
    | cons g r =>
      cases e with
      | normal => exact ⟨(g :: r).length, Nat.lt_succ_self _, g :: r, st', σ', rfl, h3, h2⟩
      | panic _ => cases hq
      | outgrown => cases hq
      | exit id => exact h2.elim
      | ret => exact h2.elim
      | goto l => exact h2.elim
theorem unrollS_ok {O : Opt con} {E : Env P} (hE : E.con = con) {L : Loops} (hm : P.follows .mixedOrders = true) (k : Nat) {body : Code} (hL : LoopsOk P k L body) (g : St → List (Tmp → Option Bool)) : LoopOk P k body (fun st => unrollC O (E.at_ k) L body (g st) st) := by
  intro w0 φ σ0 σ st a w Q h1 h2 h3 h4
  exact unrollC_ok hE hm k hL (g st) w0 φ σ0 σ st a w Q h1 h2 h3 h4
def rowN (st : St) (t : Tmp) : Nat := match st.fr[t]? with
  | some (.one (.ds _ xs)) => xs.length
  | some (.one (.os _ n _)) => n
  | _ => 0
def fcs (l : List (Tmp × Bool)) : Tmp → Option Bool := fun k => match l.find? fun p => p.1 == k with
  | some p => some p.2
  | none => none
def rowRounds (t : Tmp) (go last : List (Tmp × Bool)) (st : St) : List (Tmp → Option Bool) := List.replicate (rowN st t) (fcs go) ++ [fcs last]
def fnRunC (O : Opt con) (E : Env P) (L : Loops) (fn : Func) (args : List Av) (m : Mem) : T (Av × Mem) :=
  match fn.body with
  | some c => (codeC O (E.at_ m.length) L c ⟨args ++ List.replicate (fn.ntmps - args.length) .nope, m⟩).bind fun r => match r.1 with
    | .ret | .normal => fSt r.2 fun st => finRun P m.length fn.results.toList st
    | _ => .fail
  | none => .fail
theorem fnRunC_wp {O : Opt con} {E : Env P} (hE : E.con = con) {L : Loops} {fn : Func} {args : List Av} {m : Mem} {Q : Av × Mem → Prop} (h : (fnRunC O E L fn args m).wp Q) : (fnRun E L fn args m).wp Q := by
  unfold fnRunC at h
  unfold fnRun
  cases hb : fn.body with
  | none => rw [hb] at h; exact h.elim
  | some c =>
    rw [hb] at h
    simp only [fSt_eq] at h ⊢
    rw [T.wp_bind] at h ⊢
    exact codeC_wp (E := E.at_ m.length) hE c _ h
def fnPC (O : Opt con) (E : Env P) (L : Loops) (fn : Func) (args : List Av) : T Av :=
  (fnRunC O E L fn args []).bind fun r => match noA r.1 with
    | true => .ret (nA r.1)
    | false => .fail
theorem fnPC_wp {O : Opt con} {E : Env P} (hE : E.con = con) {L : Loops} {fn : Func} {args : List Av} {Q : Av → Prop} (h : (fnPC O E L fn args).wp Q) : (fnP E L fn args).wp Q := by
  unfold fnPC at h
  unfold fnP
  rw [T.wp_bind] at h ⊢
  exact fnRunC_wp hE h
def inlRunC (O : Opt con) (E : Env P) (L : Loops) (fn : Func) (K : Nat) (pos : List Nat) (args : List Av) (m : Mem) : T (Av × Mem) :=
  fAvs args fun args => fMem m fun m => fNats (wrOf pos args m) fun I => match I.all (fun i => decide (i < m.length)) && nodB I && decide (I.length ≤ K) with
  | true => fAvs (args.map (reA (posOf I) noFz)) fun args' => fMem (subMem I m) fun m' => (fnRunC O E L fn args' m').bind fun r => fMem r.2 fun m1 => fAv (reA (backI I m.length) noFz r.1) fun av => fMem (backMem I m m1) fun m2 => .ret (av, m2)
  | false => .fail
theorem inlC_ok {O : Opt con} {E : Env P} (hE : E.con = con) {L : Loops} {f : FuncId} {fn : Func} (hm : P.follows .mixedOrders = true) (hf : P.funcs[f]? = some fn) (K : Nat) (hL : ∀ c, fn.body = some c → LoopsOk P K L c) (pos : List Nat) : ConOk P f pos (inlRunC O E L fn K pos) := by
  refine con_weaken (inl_ok (E := E) (L := L) hm hf K hL pos) fun args m Q h => ?_
  unfold inlRunC at h
  unfold inlRun
  simp only [fAvs_eq, fAv_eq, fMem_eq, fNats_eq] at h ⊢
  split at h
  · rename_i hI
    try rw [hI]
    simp only [T.wp_bind] at h ⊢
    refine T.wp_mono (fun r hr => ?_) (fnRunC_wp hE h)
    exact ⟨_, hr, fun _ _ _ _ h => h⟩
  · exact h.elim
theorem fnPC_of {O : Opt con} {E : Env P} (hE : E.con = con) {L : Loops} {fn : Func} {args : List Av} {Q : Av → Prop} {t : T Av} (e : fnPC O E L fn args = t) (h : t.wp Q) : (fnP E L fn args).wp Q :=
  fnPC_wp hE (by rw [e]; exact h)
theorem val_conC {O : Opt con} {E : Env P} (hE : E.con = con) {L : Loops} {f : FuncId} {fn : Func} (hm : P.follows .mixedOrders = true) (hf : P.funcs[f]? = some fn) (hL : ∀ c, fn.body = some c → LoopsOk P 0 L c) (ts : List (Bool × Cd)) (pre : Els ts → Prop) (F : Els ts → Av)
    (t : Els ts → T Av) (e : ∀ x, fnPC O E L fn (encs ts x) = t x) (h : ∀ x, pre x → (t x).wp (· = F x)) : ConOk P f [] (pureRun' ts fun x => .need (pre x) (.ret (F x))) :=
  val_con (E := E) (L := L) hm hf hL ts pre F fun x hx => fnPC_of hE (e x) (h x hx)
theorem con_okC {O : Opt con} {E : Env P} (hE : E.con = con) {L : Loops} {f : FuncId} {fn : Func} (hm : P.follows .mixedOrders = true) (hf : P.funcs[f]? = some fn) (hL : ∀ c, fn.body = some c → LoopsOk P 0 L c) (ts : List (Bool × Cd)) (sp : Els ts → T Av)
    (h : ∀ x Q, (sp x).wp Q → ∃ t, fnPC O E L fn (encs ts x) = t ∧ t.wp Q) : ConOk P f [] (pureRun' ts sp) :=
  con_ok (E := E) (L := L) hm hf hL ts sp fun x Q hq => let ⟨_, e, ht⟩ := h x Q hq; fnPC_of hE e ht
end
end Ax
/-
A corner's tangent, the sides: trees.
-/
set_option linter.unusedSimpArgs false
set_option linter.unusedVariables false
namespace Go.Proofs.YtokgbcachcmeaaaGreatDoor
open Go.RowKit Ax
noncomputable def tr_tsharp (x : Els [(true, cP), (true, cP), (true, cP)]) : T Av :=
 .need (triOk (x.1, x.2.1, x.2.2.1)) (.ite (!true)
   (.ret (.tup [(.agg [.v (.bool w0.1), .w w0.2, .v (.bool w0.1), .w w0.2]), (.one (.v (.bool (false)))), (.one (.v (.bool (false))))]))
   (.need (triOk (x.1, x.2.1, x.2.2.1)) (.ite (decide (Pq.cz (zW (rOf (dotQ (x.1) x.2.1 x.2.2.1)).1) (0 : Int) ≤ (0 : Int)))
     (.need ((in64 (0 : Int) ∧ in64 (1 : Int)) ∧ decide ((1 : Int) ≠ (0 : El (Cd.int .i64))) = true) (.lt (rOf (Rat.divInt (0 : Int) (1 : Int))) (fun v0 =>
       .ret (.tup [(.agg [.v (.bool v0.1.1), .w v0.1.2, .v (.bool v0.2.1), .w v0.2.2]), (.one (.v (.bool (false)))), (.one (.v (.bool (true))))]))))
     (.need (triOk (x.1, x.2.1, x.2.2.1)) (.need (triOk (x.1, x.2.1, x.2.2.1)) (.need ((both (rOf (crossQ (x.1) x.2.1 x.2.2.1)) (rOf (dotQ (x.1) x.2.1 x.2.2.1)) && decide (qF (rOf (dotQ (x.1) x.2.1 x.2.2.1)) ≠ (0 : Rat))) = true) (.lt (rOf (qF (rOf (crossQ (x.1) x.2.1 x.2.2.1)) / qF (rOf (dotQ (x.1) x.2.1 x.2.2.1)))) (fun v0 =>
         .ret (.tup [(.agg [.v (.bool v0.1.1), .w v0.1.2, .v (.bool v0.2.1), .w v0.2.2]), (.one (.v (.bool (true)))), (.one (.v (.bool (true))))])))))))))
theorem tr_tsharp_eq (x : Els [(true, cP), (true, cP), (true, cP)]) : fnP EP8 (fun _ => none) Tryz.f55 (encs [(true, cP), (true, cP), (true, cP)] x) = tr_tsharp x := by kernel_rfl
def sharpB (a b c : Pt) : Bool := decide (0 < dotQ a b c)
def sharpV (a b c : Pt) : F := if sharpB a b c = true then rOf (crossQ a b c / dotQ a b c) else rOf 0
theorem safe_cr {a b c : Pt} (h : all3 a b c = true) : SafeF 500 (rOf (crossQ a b c)) ∧ qF (rOf (crossQ a b c)) = crossQ a b c := by
  obtain ⟨ha, hb, hc⟩ := all3_iff.1 h
  have := bq_cross ha hb hc
  exact ⟨safe_bq 500 this (by decide) (by decide) (by decide), q_bq this (by decide) (by decide)⟩
theorem safe_do {a b c : Pt} (h : all3 a b c = true) : SafeF 500 (rOf (dotQ a b c)) ∧ qF (rOf (dotQ a b c)) = dotQ a b c := by
  obtain ⟨ha, hb, hc⟩ := all3_iff.1 h
  have := bq_dot ha hb hc
  exact ⟨safe_bq 500 this (by decide) (by decide) (by decide), q_bq this (by decide) (by decide)⟩
theorem zW_num {r : Rat} {j k : Nat} (h : Bq j k r) (hj : j ≤ 1024) (hk : k ≤ 1024) : zW (rOf r).1 = r.num := zW_wOf (fits_bq h hj hk).1
theorem rat_pos (r : Rat) : 0 < r.num ↔ 0 < r := by
  rw [Rat.lt_iff]
  simp
theorem cz_dot {a b c : Pt} (h : all3 a b c = true) : decide (Pq.cz (zW (rOf (dotQ a b c)).1) (0 : Int) ≤ (0 : Int)) = !sharpB a b c := by
  obtain ⟨ha, hb, hc⟩ := all3_iff.1 h
  rw [zW_num (bq_dot ha hb hc) (by decide) (by decide)]
  unfold sharpB
  have h1 := cz_gt (dotQ a b c).num
  have e0 : zW w0 = 0 := rfl
  rw [e0] at h1
  have h2 : 0 < (dotQ a b c).num ↔ 0 < dotQ a b c := rat_pos _
  by_cases hp : 0 < dotQ a b c
  · rw [decide_eq_true hp, decide_eq_false (by have := h1.2 (h2.2 hp); omega)]; rfl
  · rw [decide_eq_false hp, decide_eq_true (Int.not_lt.1 fun q => hp (h2.1 (h1.1 q)))]; rfl
theorem tsharp_ok (a b c : Pt) (h : all3 a b c = true) : (tr_tsharp (a, b, c, ())).wp (· = .tup [.agg (ck cF (sharpV a b c)), aB (sharpB a b c), aB true]) := by
  have hd := safe_do h
  have hc := safe_cr h
  unfold tr_tsharp
  simp only [T.wp]
  rw [cz_dot h]
  refine ⟨h, fun h => Bool.noConfusion h, fun _ => ⟨h, fun hs => ?_, fun hs => ?_⟩⟩
  · have hs : sharpB a b c = false := (Bool.not_eq_true' _).mp hs
    refine ⟨⟨⟨by unfold in64; decide, by unfold in64; decide⟩, by decide⟩, ?_⟩
    have e : rOf (Rat.divInt 0 1) = sharpV a b c := by
      unfold sharpV
      rw [if_neg (by rw [hs]; simp), Rat.zero_divInt]
    rw [e, hs]; rfl
  · have hs : sharpB a b c = true := (Bool.not_eq_false' _).mp hs
    have hp : 0 < dotQ a b c := of_decide_eq_true hs
    have e : rOf (crossQ a b c / dotQ a b c) = sharpV a b c := by
      unfold sharpV
      rw [if_pos hs]
    rw [hc.2, hd.2, e, hs]
    refine ⟨h, h, ?_, rfl⟩
    rw [both_of hc.1 hd.1, Bool.true_and]
    exact decide_eq_true (Ne.symm (Rat.ne_of_lt hp))
noncomputable def m_tsharp : Con Tryz.prog := ⟨55, [], _, cf_tsharp, val_con (E := EP8) mixed Tryz.func55 no_loops [(true, cP), (true, cP), (true, cP)] (fun x => all3 x.1 x.2.1 x.2.2.1 = true) (fun x => .tup [.agg (ck cF (sharpV x.1 x.2.1 x.2.2.1)), aB (sharpB x.1 x.2.1 x.2.2.1), aB true]) fun x hx => by
  rw [tr_tsharp_eq]; exact tsharp_ok x.1 x.2.1 x.2.2.1 hx⟩
/-! ### the sides -/
def fcT (t : Tmp) (b : Bool) : Tmp → Option Bool := fun k => if k = t then some b else none
noncomputable def OSd : Opt EP8.con := ⟨[], [24, 29], fun _ => none⟩
noncomputable def unSd : St → T (Exit × St) := unrollC OSd (EP8.at_ 0) (fun _ => none) (bodyOf Tryz.f54 0) [fcT 25 true, fcT 25 true, fcT 25 true, fcT 25 false]
noncomputable def lpSd : Loops := oneL 6 unSd
theorem unSd_ok : LoopOk Tryz.prog 0 (bodyOf Tryz.f54 0) unSd := unrollC_ok (O := OSd) rfl mixed 0 (loops_none _ _ _) _
end Go.Proofs.YtokgbcachcmeaaaGreatDoor
/-
A triangle's sides.
-/
set_option linter.unusedSimpArgs false
set_option linter.unusedVariables false
namespace Go.Proofs.YtokgbcachcmeaaaGreatDoor
open Go.RowKit Ax
def nx (i : Int) : Int := IntKind.wrap .i64 (i + 1)
def rd3 (i : Int) (t : T Av) : T Av := .need (decide (i < (3 : Int)) = true) (.need ((0 : Int) ≤ i ∧ i < (↑(3 : Nat) : Int)) (.need ((0 : Int) ≤ i ∧ i < (↑(3 : Nat) : Int)) t))
def mk3 (x y z : F) : El c3F := (x, y, z)
def farF (a b : Pt) : F := if all3 a b b = true then rOf (dotQ a b b) else (w0, w0)
def trSides (a b c : Pt) : T Av := .need (triOk (a, b, c)) (.ite (!true) (.ret (.tup [.agg (ck c3F (zE c3F)), aB false]))
    (rd3 0 (rd3 (nx 0) (rd3 (nx (nx 0)) (.need (decide (nx (nx (nx 0)) < (3 : Int)) = false) (.ret (.tup [.agg (ck c3F (mk3 (farF a b) (farF b c) (farF c a))), aB true])))))))
theorem tr_tsides_eq (x : Els [(true, cP), (true, cP), (true, cP)]) : fnPC OSd EP8 lpSd Tryz.f54 (encs [(true, cP), (true, cP), (true, cP)] x) = trSides x.1 x.2.1 x.2.2.1 := by kernel_rfl
def sidesV (a b c : Pt) : El c3F := mk3 (rOf (dotQ a b b)) (rOf (dotQ b c c)) (rOf (dotQ c a a))
theorem far_of {a b : Pt} (ha : isP a = true) (hb : isP b = true) : farF a b = rOf (dotQ a b b) := by
  unfold farF
  rw [if_pos (all3_iff.2 ⟨ha, hb, hb⟩)]
theorem rd3_wp {i : Int} {t : T Av} {Q : Av → Prop} (h0 : 0 ≤ i) (h1 : i < 3) (h : t.wp Q) : (rd3 i t).wp Q := ⟨decide_eq_true h1, ⟨h0, h1⟩, ⟨h0, h1⟩, h⟩
theorem nx0 : nx 0 = 1 := by decide
theorem nx1 : nx 1 = 2 := by decide
theorem nx2 : nx 2 = 3 := by decide
theorem sides_ok (a b c : Pt) (h : all3 a b c = true) : (trSides a b c).wp (· = .tup [.agg (ck c3F (sidesV a b c)), aB true]) := by
  obtain ⟨ha, hb, hc⟩ := all3_iff.1 h
  unfold trSides
  rw [nx0, nx1, nx2, far_of ha hb, far_of hb hc, far_of hc ha]
  exact ⟨h, fun h => Bool.noConfusion h, fun _ => rd3_wp (by decide) (by decide) (rd3_wp (by decide) (by decide) (rd3_wp (by decide) (by decide) ⟨by decide, rfl⟩))⟩
noncomputable def m_tsides : Con Tryz.prog := ⟨54, [], _, cf_tsides, val_conC (O := OSd) (E := EP8) (L := lpSd) rfl mixed Tryz.func54 (one_loop unSd_ok (by kernel_rfl)) [(true, cP), (true, cP), (true, cP)] (fun x => all3 x.1 x.2.1 x.2.2.1 = true) (fun x => .tup [.agg (ck c3F (sidesV x.1 x.2.1 x.2.2.1)), aB true]) _ tr_tsides_eq fun x hx => sides_ok x.1 x.2.1 x.2.2.1 hx⟩
noncomputable def m_tarea : Con Tryz.prog := ⟨53, [], _, cf_tarea, val_con (E := EP6) mixed Tryz.func53 no_loops [(true, cP), (true, cP), (true, cP)] (fun x => all3 x.1 x.2.1 x.2.2.1 = true) (fun x => .tup [.agg (ck cF (rOf (crossQ x.1 x.2.1 x.2.2.1))), aB true]) fun x hx => by
  have e : fnP EP6 (fun _ => none) Tryz.f53 (encs [(true, cP), (true, cP), (true, cP)] x) = .ret (ansF (all3 x.1 x.2.1 x.2.2.1) (rOf (crossQ x.1 x.2.1 x.2.2.1))) := by kernel_rfl
  rw [e]
  show ansF (all3 x.1 x.2.1 x.2.2.1) _ = _
  rw [hx]; rfl⟩
abbrev c33 : Cd := .pair cT3 (.pair cT3 cT3)
noncomputable def zeroP3 : Zero Tryz.prog := zOf 101 cT3 rfl (by kernel_rfl)
noncomputable def zeroP33 : Zero Tryz.prog := zOf 102 c33 rfl (by kernel_rfl)
noncomputable def zeroCo : Zero Tryz.prog := zRow 56 [.sl cF, .sl cF, .sl cF, .int .i64] rfl (by kernel_rfl)
noncomputable def k_tarea : Con Tryz.prog := ⟨53, [], _, cf_tarea, kb2_con m_tarea.ok⟩
noncomputable def k_tsides : Con Tryz.prog := ⟨54, [], _, cf_tsides, kb2_con m_tsides.ok⟩
noncomputable def k_tsharp : Con Tryz.prog := ⟨55, [], _, cf_tsharp, kb3_con m_tsharp.ok⟩
noncomputable def EP9z : Env Tryz.prog := EP8.add [k_tarea, k_tsides, k_tsharp]
noncomputable def EP9 : Env Tryz.prog := ⟨EP9z.con, zeroP3 :: zeroP33 :: zeroCo :: EP9z.zero, EP9z.cod, EP9z.sure, EP9z.base, EP9z.frz⟩
end Go.Proofs.YtokgbcachcmeaaaGreatDoor
/-
What is gathered of triangles: run in place.
-/
set_option linter.unusedSimpArgs false
set_option linter.unusedVariables false
namespace Go.Proofs.YtokgbcachcmeaaaGreatDoor
open Go.RowKit Ax
theorem cf_sadd (xs : Array Value) (w : World) : (callFunc 27 xs).run Tryz.prog w = .ok (.enter 27 xs) w := by kernel_rfl
theorem cf_sall (xs : Array Value) (w : World) : (callFunc 11 xs).run Tryz.prog w = .ok (.enter 11 xs) w := by kernel_rfl
theorem cf_scont (xs : Array Value) (w : World) : (callFunc 24 xs).run Tryz.prog w = .ok (.enter 24 xs) w := by kernel_rfl
theorem cf_sidx (xs : Array Value) (w : World) : (callFunc 51 xs).run Tryz.prog w = .ok (.enter 51 xs) w := by kernel_rfl
theorem cf_sall1 (xs : Array Value) (w : World) : (callFunc 25 xs).run Tryz.prog w = .ok (.enter 25 xs) w := by kernel_rfl
theorem cf_sof (xs : Array Value) (w : World) : (callFunc 6 xs).run Tryz.prog w = .ok (.enter 6 xs) w := by kernel_rfl
theorem cf_sturned (xs : Array Value) (w : World) : (callFunc 16 xs).run Tryz.prog w = .ok (.enter 16 xs) w := by kernel_rfl
theorem cf_sleast (xs : Array Value) (w : World) : (callFunc 15 xs).run Tryz.prog w = .ok (.enter 15 xs) w := by kernel_rfl
theorem cf_ssharps (xs : Array Value) (w : World) : (callFunc 8 xs).run Tryz.prog w = .ok (.enter 8 xs) w := by kernel_rfl
theorem cf_sprint (xs : Array Value) (w : World) : (callFunc 10 xs).run Tryz.prog w = .ok (.enter 10 xs) w := by kernel_rfl
theorem cf_sprint1 (xs : Array Value) (w : World) : (callFunc 20 xs).run Tryz.prog w = .ok (.enter 20 xs) w := by kernel_rfl
theorem cf_sprint2 (xs : Array Value) (w : World) : (callFunc 22 xs).run Tryz.prog w = .ok (.enter 22 xs) w := by kernel_rfl
noncomputable def OAd : Opt EP9.con := ⟨[], [64], fun _ => none⟩
noncomputable def unAd : St → T (Exit × St) := unrollC OAd (EP9.at_ 1) (fun _ => none) (bodyOf Tryz.f27 0) [fcs [(65, true), (82, false)], fcs [(65, true), (82, true)], fcs [(65, true), (82, true)], fcs [(65, false)]]
noncomputable def lpAd : Loops := oneL 6 unAd
theorem unAd_ok : LoopOk Tryz.prog 1 (bodyOf Tryz.f27 0) unAd := unrollC_ok (O := OAd) rfl mixed 1 (loops_none _ _ _) _
noncomputable def con_sadd : Con Tryz.prog := ⟨27, [0], _, cf_sadd, inlC_ok (O := OAd) (E := EP9) (L := lpAd) rfl mixed Tryz.func27 1 (one_loop unAd_ok (by kernel_rfl)) [0]⟩
noncomputable def EPA : Env Tryz.prog := EP9.add [con_sadd]
end Go.Proofs.YtokgbcachcmeaaaGreatDoor
/-
A mesh's triangles: what is run in place.
-/
set_option linter.unusedSimpArgs false
set_option linter.unusedVariables false
namespace Go.Proofs.YtokgbcachcmeaaaGreatDoor
open Go.RowKit Ax
noncomputable def con_sall1 : Con Tryz.prog := ⟨25, [], _, cf_sall1, tot_con (E := EP9) mixed Tryz.func25 no_loops [(true, cP)] (fun x => aB (!isP x.1)) fun x => by
  have e : fnP EP9 (fun _ => none) Tryz.f25 (encs [(true, cP)] x) = .ret (aB (!isP x.1)) := by kernel_rfl
  rw [e]; rfl⟩
noncomputable def EPB : Env Tryz.prog := EPA.add [con_sall1]
noncomputable def OIx : Opt EPB.con := ⟨[], [], fun _ => none⟩
noncomputable def unIx : St → T (Exit × St) := fun st => unrollC OIx (EPB.at_ 0) (fun _ => none) (bodyOf Tryz.f51 0) (rowRounds 6 [(9, true), (16, false)] [(9, false)] st) st
noncomputable def lpIx : Loops := oneL 2 unIx
theorem unIx_ok : LoopOk Tryz.prog 0 (bodyOf Tryz.f51 0) unIx := unrollS_ok (O := OIx) (E := EPB) rfl mixed 0 (loops_none _ _ _) _
noncomputable def con_sidx : Con Tryz.prog := ⟨51, [], _, cf_sidx, inlC_ok (O := OIx) (E := EPB) (L := lpIx) rfl mixed Tryz.func51 0 (one_loop unIx_ok (by kernel_rfl)) []⟩
noncomputable def EPC : Env Tryz.prog := EPB.add [con_sidx]
noncomputable def OCf : Opt EPC.con := ⟨[], [], fun _ => none⟩
noncomputable def con_scont : Con Tryz.prog := ⟨24, [], _, cf_scont, inlC_ok (O := OCf) (E := EPC) (L := fun _ => none) rfl mixed Tryz.func24 0 no_loops []⟩
abbrev c3I : Cd := .pair (.int .i64) (.pair (.int .i64) (.int .i64))
noncomputable def zero3I : Zero Tryz.prog := zOf 33 c3I rfl (by kernel_rfl)
noncomputable def cod3I : Cod Tryz.prog := ⟨33, c3I, by kernel_rfl, ⟨.agg (zU c3I).toArray, fun w => by kernel_rfl⟩⟩
noncomputable def EPDz : Env Tryz.prog := EPC.add [con_scont]
noncomputable def EPD : Env Tryz.prog := ⟨EPDz.con, zero3I :: EPDz.zero, cod3I :: EPDz.cod, EPDz.sure, EPDz.base, EPDz.frz⟩
def noPts (st : St) : Bool := match st.mem[0]? with
  | some (_, Ck.ds _ xs :: _) => xs.isEmpty
  | some (_, Ck.v (.slice none 0 0) :: _) => true
  | _ => false
noncomputable def OAl : Opt EPD.con := ⟨[], [22], fcs [(11, false)]⟩
noncomputable def unAlI : St → T (Exit × St) := fun st => unrollC OAl (EPD.at_ 0) (fun _ => none) (innerOf (bodyOf Tryz.f11 0) 0) (match noPts st with
  | true => [fcs [(23, true), (33, true)]]
  | false => [fcs [(23, true), (33, false)], fcs [(23, true), (33, false)], fcs [(23, true), (33, false)], fcs [(23, false)]]) st
theorem unAlI_ok : LoopOk Tryz.prog 0 (innerOf (bodyOf Tryz.f11 0) 0) unAlI := unrollS_ok (O := OAl) (E := EPD) rfl mixed 0 (loops_none _ _ _) _
noncomputable def unAl : St → T (Exit × St) := fun st => unrollC OAl (EPD.at_ 0) (manyL [(8, unAlI)]) (bodyOf Tryz.f11 0) (match noPts st with
  | true => [fcs [(18, true)]]
  | false => rowRounds 15 [(18, true), (55, false)] [(18, false)] st) st
theorem unAl_ok : LoopOk Tryz.prog 0 (bodyOf Tryz.f11 0) unAl := unrollS_ok (O := OAl) (E := EPD) rfl mixed 0 (inner_one (by kernel_rfl) unAlI_ok) _
noncomputable def lpAl : Loops := oneL 5 unAl
noncomputable def con_sall : Con Tryz.prog := ⟨11, [], _, cf_sall, inlC_ok (O := OAl) (E := EPD) (L := lpAl) rfl mixed Tryz.func11 0 (one_loop unAl_ok (by kernel_rfl)) []⟩
noncomputable def EPE : Env Tryz.prog := EPD.add [con_sall]
end Go.Proofs.YtokgbcachcmeaaaGreatDoor
/-
Rows that a loop builds: one more element, whichever way; what is left to be appended.
-/
set_option linter.unusedSimpArgs false
set_option linter.unusedVariables false
namespace Ax
open Go Go.RowKit
abbrev Gr (α : Type) : Type := Option (List α × Nat)
def gx {α : Type} : Gr α → List α
  | none => []
  | some r => r.1
def gl {α : Type} : Gr α → Nat
  | none => 0
  | some r => r.1.length
theorem gl_eq {α : Type} (g : Gr α) : gl g = (gx g).length := by cases g <;> rfl
def gnd {α : Type} (n : Nat) : Gr α → Prop
  | none => True
  | some r => n = r.1.length ∧ r.2 = r.2
theorem gnd_gl {α : Type} (g : Gr α) : gnd (gl g) g := by
  cases g with
  | none => trivial
  | some r => exact ⟨rfl, rfl⟩
theorem gnd_app {α : Type} (g : Gr α) (v : α) (k : Nat) : gnd (gl g + 1) (some (gx g ++ [v], k)) := ⟨by rw [List.length_append, gl_eq]; rfl, rfl⟩
def appG {α β : Type} (b : Nat) (g : Gr α) (v : α) (K : Nat → Gr α → T β) : T β := match g with
  | none => .need (List.length [v] * (b + 1) ≤ 140737488355328 ∧ List.length [v] ≤ maxLen) (.up (List.length [v]) fun k => K (List.length [v]) (some ([v], k)))
  | some r => .need (List.length r.1 = List.length r.1 ∧ r.2 = r.2 ∧ (List.length r.1 + List.length [v]) * (b + 1) ≤ 140737488355328 ∧ List.length r.1 + List.length [v] ≤ maxLen) (.and (K (List.length r.1 + List.length [v]) (some (r.1 ++ [v], r.2))) (.up (List.length r.1 + List.length [v]) fun k => K (List.length r.1 + List.length [v]) (some (r.1 ++ [v], k))))
theorem appG_wp {α β : Type} {b : Nat} {g : Gr α} {v : α} {K : Nat → Gr α → T β} {R : β → Prop} (h1 : (gl g + 1) * (b + 1) ≤ 140737488355328) (h2 : gl g + 1 ≤ maxLen)
    (h : ∀ k, (K (gl g + 1) (some (gx g ++ [v], k))).wp R) : (appG b g v K).wp R := by
  cases g with
  | none =>
    have e : gl (none : Gr α) = 0 := rfl
    rw [e] at h1 h2
    exact ⟨⟨h1, h2⟩, fun k _ => h k⟩
  | some r => exact ⟨⟨rfl, rfl, h1, h2⟩, h r.2, fun k _ => h k⟩
def finG {α A B C : Type} (e : A) (avs : B) (y : C) (g : Gr α) (W : List α) : T (A × B × C × Gr α) := match g with
  | none => .ite W.isEmpty (.ret (e, avs, y, none)) (.up 0 fun k => .ret (e, avs, y, some (W, k)))
  | some r => .up 0 fun k => .ret (e, avs, y, some (r.1 ++ W, k))
theorem finG_nil {α A B C : Type} {e : A} {avs : B} {y : C} {g : Gr α} {Q : A × B × C × Gr α → Prop} (h : (finG e avs y g []).wp Q) : Q (e, avs, y, g) := by
  cases g with
  | none => exact h.1 rfl
  | some r =>
    have := h r.2 (Nat.zero_le _)
    rw [List.append_nil] at this
    exact this
theorem finG_cons {α A B C : Type} {e : A} {avs : B} {y : C} {g : Gr α} {v : α} {W : List α} {Q : A × B × C × Gr α → Prop} (h : (finG e avs y g (v :: W)).wp Q) (k : Nat) : (finG e avs y (some (gx g ++ [v], k)) W).wp Q := by
  cases g with
  | none => exact h.2 rfl
  | some r =>
    intro j hj
    have := h j hj
    show Q (e, avs, y, some ((r.1 ++ [v]) ++ W, j))
    rw [List.append_assoc]
    exact this
end Ax
/-
Numbers with the other sign: the loop.
-/
set_option linter.unusedSimpArgs false
set_option linter.unusedVariables false
namespace Go.Proofs.YtokgbcachcmeaaaGreatDoor
open Go.RowKit Ax
abbrev spTu : RSpec := ⟨32, [(14, false, .sl cF), (15, false, .int .i64), (16, false, .int .i64)], [(3, 0, 0)], [(28, cF)], fun _ => [], 5, 28, cF, false, fun _ => 5⟩
abbrev GF := Gr F
def tuRound (l : List F) (n i : Int) (z : F) (g : GF) : T (RRd spTu) := .ite (decide (i < n)) (.get l i fun v => .need (both z v = true) (.lt (rOf (qF z - qF v)) fun u => appG 263 g u fun m g' => .need (gnd m g') (.ret (.again (l, n, IntKind.wrap .i64 (i + (1 : Int)), ()) (z, ()) g'))))
  (.need (gnd (gl g) g) (.ret (.out (Exit.exit 0) [] (z, ()) g)))
theorem tr_tuL_eq (l : List F) (n i : Int) (z : F) (xs : List F) (cap : Nat) : RSpec.round spTu EPE (fun _ => none) (bodyOf Tryz.f16 0) (l, n, i, ()) (z, ()) (some (xs, cap)) = tuRound l n i z (some (xs, cap)) := by kernel_rfl
theorem tr_tuL0_eq (l : List F) (n i : Int) (z : F) : RSpec.round spTu EPE (fun _ => none) (bodyOf Tryz.f16 0) (l, n, i, ()) (z, ()) none = tuRound l n i z none := by kernel_rfl
def negF (z v : F) : F := rOf (qF z - qF v)
def outTu (x : RSpec.X spTu) (y : RSpec.Y spTu) (g : GF) : T (Exit × List Av × RSpec.Y spTu × GF) :=
  .need ((x.2.1 : Int) = (x.1.length : Int) ∧ 0 ≤ (x.2.2.1 : Int) ∧ (x.2.2.1 : Int) ≤ (x.1.length : Int) ∧ x.1.length ≤ 1000 ∧ (∀ v ∈ x.1, both y.1 v = true) ∧ (List.length (gx g) : Int) ≤ (x.2.2.1 : Int))
    (finG (Exit.exit 0) [] y g ((x.1.drop (x.2.2.1 : Int).toNat).map (negF y.1)))
theorem tu_core (l : List F) (n i : Int) (z : F) (g : GF) (Q : Exit × List Av × RSpec.Y spTu × GF → Prop) (hq : (outTu (l, n, i, ()) (z, ()) g).wp Q) :
    (tuRound l n i z g).wp fun r => match r with
      | .again x' y' g' => ((x'.1.length : Int) - x'.2.2.1).toNat < ((l.length : Int) - i).toNat ∧ (outTu x' y' g').wp Q
      | .out e avs y' g' => Q (e, avs, y', g') := by
  unfold outTu at hq
  simp only [T.wp] at hq
  dsimp only [El, vts, spTu] at hq
  obtain ⟨⟨h1, h2, h3, h4, h5, h6⟩, hq⟩ := hq
  unfold tuRound
  simp only [T.wp]
  refine ⟨fun hlt => ?_, fun hge => ?_⟩
  · have hlt := of_decide_eq_true hlt
    rw [h1] at hlt
    obtain ⟨v, hv⟩ := elem_at h2 hlt
    have hd := drop_at h2 hv
    refine ⟨v, h2, hv, h5 v (List.mem_of_getElem? hv), ?_⟩
    rw [← gl_eq] at h6
    refine appG_wp (by omega) (by simp only [Go.maxLen]; omega) fun k => ⟨gnd_app g _ k, ?_⟩
    unfold outTu
    simp only [T.wp]
    dsimp only [El, vts, spTu]
    rw [IntWalk.i64_in (i + 1) (by omega)]
    refine ⟨by omega, ⟨h1, by omega, by omega, h4, h5, ?_⟩, ?_⟩
    · show (((gx g ++ [_]).length : Nat) : Int) ≤ _
      rw [List.length_append, ← gl_eq]
      simp only [List.length_cons, List.length_nil]
      omega
    · rw [hd, List.map_cons] at hq
      exact finG_cons hq k
  · have hge := of_decide_eq_false hge
    rw [h1] at hge
    rw [drop_end (by omega)] at hq
    exact ⟨gnd_gl g, finG_nil hq⟩
theorem tuL_ok : LoopOk Tryz.prog 0 (bodyOf Tryz.f16 0) (spTu.run outTu) :=
  loopR_ok (E := EPE) (L := fun _ => none) mixed 0 (loops_none _ _ _) spTu (Nat.zero_le _) outTu (fun x _ _ => ((x.1.length : Int) - x.2.2.1).toNat) (by
    rintro ⟨l, n, i, ⟨⟩⟩ ⟨z, ⟨⟩⟩ g Q hq
    match g, hq with
    | some (xs, cap), hq =>
      rw [tr_tuL_eq l n i z xs cap]
      exact tu_core l n i z (some (xs, cap)) Q hq
    | none, hq =>
      rw [tr_tuL0_eq l n i z]
      exact tu_core l n i z none Q hq)
noncomputable def lpTu : Loops := oneL 4 (spTu.run outTu)
def z0 : F := rOf (Rat.divInt 0 1)
end Go.Proofs.YtokgbcachcmeaaaGreatDoor
/-
Numbers with the other sign, the least one: what they tell.
-/
set_option linter.unusedSimpArgs false
set_option linter.unusedVariables false
namespace Go.Proofs.YtokgbcachcmeaaaGreatDoor
open Go.RowKit Ax
def tuTree (l : List F) : T Av := .need ((in64 (0 : Int) ∧ in64 (1 : Int)) ∧ decide ((1 : Int) ≠ (0 : Int)) = true) (.lt z0 fun z => .need True (.need ((List.length l : Int) = (List.length l : Int) ∧ (0 : Int) ≤ 0 ∧ (0 : Int) ≤ (List.length l : Int) ∧ List.length l ≤ 1000 ∧ (∀ v ∈ l, both z v = true) ∧ (List.length (gx (none : GF)) : Int) ≤ (0 : Int))
  (.ite (List.isEmpty (List.map (negF z) (List.drop (Int.toNat (0 : Int)) l))) (.ret (.one (.v (.slice none 0 0))))
    (.up 0 fun k => .need (List.length (List.map (negF z) (List.drop (Int.toNat (0 : Int)) l)) ≤ List.length (List.map (negF z) (List.drop (Int.toNat (0 : Int)) l))) (.ret (.one (.ds cF (List.take (List.length (List.map (negF z) (List.drop (Int.toNat (0 : Int)) l))) (List.map (negF z) (List.drop (Int.toNat (0 : Int)) l))))))))))
theorem tr_tu_eq (x : Els [(false, .sl cF)]) : fnP EPE lpTu Tryz.f16 (encs [(false, .sl cF)] x) = tuTree x.1 := by kernel_rfl
theorem tu_ok (l : List F) (h0 : l ≠ []) (h1 : l.length ≤ 1000) (h2 : ∀ v ∈ l, both z0 v = true) : (tuTree l).wp (· = .one (.ds cF (l.map (negF z0)))) := by
  have e : List.drop (Int.toNat (0 : Int)) l = l := rfl
  unfold tuTree
  rw [e]
  refine ⟨⟨⟨by unfold in64; decide, by unfold in64; decide⟩, by decide⟩, trivial, ⟨rfl, Int.le_refl 0, by omega, h1, h2, Int.le_refl 0⟩, fun he => ?_, fun _ k _ => ⟨Nat.le_refl _, ?_⟩⟩
  · have := List.isEmpty_iff.1 he
    exact absurd (List.map_eq_nil_iff.1 this) h0
  · show Av.one (.ds cF _) = _
    rw [List.take_length]
noncomputable def con_sturned : Con Tryz.prog := ⟨16, [], _, cf_sturned, val_con (E := EPE) (L := lpTu) mixed Tryz.func16 (one_loop tuL_ok (by kernel_rfl)) [(false, .sl cF)] (fun x => x.1 ≠ [] ∧ List.length x.1 ≤ 1000 ∧ ∀ v ∈ x.1, both z0 v = true) (fun x => .one (.ds cF (x.1.map (negF z0)))) fun x hx => by
  rw [tr_tu_eq x]
  exact tu_ok x.1 hx.1 hx.2.1 hx.2.2⟩
def leTree (l : List F) : T Av := .ite ((List.length l : Int) == 0) (.need ((in64 (0 : Int) ∧ in64 (1 : Int)) ∧ decide ((1 : Int) ≠ (0 : Int)) = true) (.lt z0 fun z => .ret (.tup [.agg (ck cF z), aB true]))) (.need (lenOk (List.length l) ∧ (leastF l).1 = true) (.lt (leastF l).2 fun z => .ret (.tup [.agg (ck cF z), aB true])))
theorem tr_le_eq (x : Els [(false, .sl cF)]) : fnP EPE (fun _ => none) Tryz.f15 (encs [(false, .sl cF)] x) = leTree x.1 := by kernel_rfl
theorem le_ok (l : List F) (h0 : l ≠ []) (h1 : lenOk l.length) (h2 : (leastF l).1 = true) : (leTree l).wp (· = .tup [.agg (ck cF (leastF l).2), aB true]) := by
  unfold leTree
  refine ⟨fun he => ?_, fun _ => ⟨⟨h1, h2⟩, rfl⟩⟩
  have he : (l.length : Int) = 0 := by simpa using he
  exact absurd (List.length_eq_zero_iff.1 (by omega)) h0
noncomputable def m_sleast : Con Tryz.prog := ⟨15, [], _, cf_sleast, val_con (E := EPE) mixed Tryz.func15 no_loops [(false, .sl cF)] (fun x => x.1 ≠ [] ∧ lenOk (List.length x.1) ∧ (leastF x.1).1 = true) (fun x => .tup [.agg (ck cF (leastF x.1).2), aB true]) fun x hx => by
  rw [tr_le_eq x]
  exact le_ok x.1 hx.1 hx.2.1 hx.2.2⟩
noncomputable def k_sleast : Con Tryz.prog := ⟨15, [], _, cf_sleast, kb2_con m_sleast.ok⟩
abbrev cSt : Cd := .pair (.int .i64) (.pair (.int .i64) (.pair (.int .i64) (.pair cF (.pair cF (.pair (.int .i64) (.pair cF cF))))))
abbrev cMe : Cd := .pair (.sl cP) (.pair (.sl c3I) (.sl c3I))
noncomputable def zeroSt : Zero Tryz.prog := zOf 39 cSt rfl (by kernel_rfl)
noncomputable def zeroMe : Zero Tryz.prog := zOf 37 cMe rfl (by kernel_rfl)
noncomputable def EPFz : Env Tryz.prog := EPE.add [con_sturned, k_sleast]
noncomputable def EPF : Env Tryz.prog := ⟨EPFz.con, zeroSt :: zeroMe :: EPFz.zero, EPFz.cod, EPFz.sure, EPFz.base, EPFz.frz⟩
noncomputable def EPFf : Env Tryz.prog := EPF.fz [(5, [1000000, 1, 2, 4, 6])]
noncomputable def OOf : Opt EPF.con := ⟨[], [], fun _ => none⟩
end Go.Proofs.YtokgbcachcmeaaaGreatDoor
/-
stat.Of of one triangle with a right corner: its tree.
-/
set_option linter.unusedSimpArgs false
set_option linter.unusedVariables false
namespace Go.Proofs.YtokgbcachcmeaaaGreatDoor
open Go.RowKit Ax
def newRow (l : List F) (K : Nat → T Av) : T Av := .need (List.length l * (263 + 1) ≤ 140737488355328 ∧ List.length l ≤ Go.maxLen) (.up (List.length l) K)
def grow2 (s t : F) (k : Nat) (K : T Av) : T Av := .need (List.length [s] = List.length [s] ∧ k = k ∧ (List.length [s] + List.length [t]) * (263 + 1) ≤ 140737488355328 ∧ List.length [s] + List.length [t] ≤ Go.maxLen) (.and K (.up (List.length [s] + List.length [t]) fun _ => K))
def noSt : T Av := .ret (.tup [.agg (ck cSt (zE cSt)), aB false])
def tk (l : List F) : List F := List.take (List.length l) l
def tk2 (s t : F) : List F := List.take (List.length [s] + List.length [t]) ([s] ++ [t])
def leOk (l : List F) : Prop := l ≠ [] ∧ lenOk (List.length l) ∧ (leastF l).1 = true
def tuOk (l : List F) : Prop := l ≠ [] ∧ List.length l ≤ 1000 ∧ ∀ v ∈ l, both z0 v = true
def in3 (i : Int) (t : T Av) : T Av := .need ((0 : Int) ≤ i ∧ i < (↑(3 : Nat) : Int)) t
def stV (np nt ne : Nat) (area : F) (sh : F) (bl : Int) (lo si : F) : Av := .tup [.agg (ck cSt ((np : Int), (nt : Int), (ne : Int), area, sh, bl, lo, si)), aB true]
def sdL (a b c : Pt) : List F := [(sidesV a b c).1, (sidesV a b c).2.1, (sidesV a b c).2.2]
def ofEnd (np nt ne : Nat) (ar : F) (s t : F) (sd : List F) : T Av := .need ((in64 (2 : Int) ∧ in64 (1 : Int)) ∧ decide ((1 : Int) ≠ (0 : Int)) = true) (.lt (rOf (Rat.divInt 2 1)) fun two => .need (List.length [s] + List.length [t] ≤ List.length ([s] ++ [t])) (.need (List.length sd ≤ List.length sd) (.need (List.length [ar] ≤ List.length [ar]) (.need (lenOk (List.length (tk [ar])) ∧ (sumF (tk [ar])).1 = true) (.lt (sumF (tk [ar])).2 fun sum =>
  .need ((both sum two && decide (qF two ≠ 0)) = true) (.lt (rOf (qF sum / qF two)) fun area => .need (leOk (tk2 s t)) (.need (leOk (tk sd)) (.need (tuOk (tk sd)) (.need (leOk (List.map (negF z0) (tk sd))) (.ite (!true) noSt (.ite (!true) noSt (.ite (!true) noSt (.ite (!true) noSt (.ite (!true) noSt
    (.need (tuOk [(leastF (List.map (negF z0) (tk sd))).2]) (.get (List.map (negF z0) [(leastF (List.map (negF z0) (tk sd))).2]) 0 fun lo => .ret (stV np nt ne area (leastF (tk2 s t)).2 (nx 0) lo (leastF (tk sd)).2)))))))))))))))))
def ofAdd (np nt ne : Nat) (a b c : Pt) : T Av := .need (all3 a b c = true) (.need (all3 a b c = true) (.need (True ∧ True ∧ True) (newRow [rOf (crossQ a b c)] fun _ => newRow (sdL a b c) fun _ =>
  .need (decide ((0 : Int) < 3) = true) (in3 0 (in3 0 (in3 1 (in3 2 (.need (all3 a b c = true) (.need (sharpB a b c = false)
  (.need (decide (nx 0 < 3) = true) (in3 (nx 0) (in3 0 (in3 1 (in3 2 (.need (all3 b c a = true) (.need (sharpB b c a = true) (.need (True ∧ True ∧ True) (newRow [sharpV b c a] fun k =>
  .need (decide (nx (nx 0) < 3) = true) (in3 (nx (nx 0)) (in3 0 (in3 1 (in3 2 (.need (all3 c a b = true) (.need (sharpB c a b = true) (.need (True ∧ True ∧ True) (grow2 (sharpV b c a) (sharpV c a b) k
  (.need (decide (nx (nx (nx 0)) < 3) = false) (.need ((!true) = false) (.need (decide (nx 0 < (nt : Int)) = false) (.ite (!true) noSt (ofEnd np nt ne (rOf (crossQ a b c)) (sharpV b c a) (sharpV c a b) (sdL a b c))))))))))))))))))))))))))))))))
def ofIdx (l : List Pt) (nt ne : Nat) (t : El c3I) : T Av := .need (decide ((0 : Int) < 3) = true) (in3 0 (.ite (decide (t.1 < (0 : Int))) .fail (.need (decide (t.1 ≥ (List.length l : Int)) = false)
  (.need (decide (nx 0 < 3) = true) (in3 (nx 0) (.ite (decide (t.2.1 < (0 : Int))) .fail (.need (decide (t.2.1 ≥ (List.length l : Int)) = false)
  (.need (decide (nx (nx 0) < 3) = true) (in3 (nx (nx 0)) (.ite (decide (t.2.2 < (0 : Int))) .fail (.need (decide (t.2.2 ≥ (List.length l : Int)) = false) (.need (decide (nx (nx (nx 0)) < 3) = false)
  (in3 0 (.get l t.1 fun a => in3 1 (.get l t.2.1 fun b => in3 2 (.get l t.2.2 fun c => ofAdd (List.length l) nt ne a b c))))))))))))))))
def pts3 (l : List Pt) (K : T Av) : T Av := .need (decide ((0 : Int) < (List.length l : Int)) = true) (.get l 0 fun v => .need ((!isP v) = false) (.need (decide (nx 0 < (List.length l : Int)) = true) (.get l (nx 0) fun v => .need ((!isP v) = false)
  (.need (decide (nx (nx 0) < (List.length l : Int)) = true) (.get l (nx (nx 0)) fun v => .need ((!isP v) = false) (.need (decide (nx (nx (nx 0)) < (List.length l : Int)) = false) (.need (decide ((-1 : Int) ≥ 0) = false) K)))))))
def ofTree (l : List Pt) (ts : List (El c3I)) : T Av := pts3 l (.need (decide ((0 : Int) < (List.length ts : Int)) = true) (.get ts 0 fun t => ofIdx l (List.length ts) 0 t))
def triM (a b c : Pt) : El cMe := ([a, b, c], [((0 : Int), (2 : Int), (1 : Int))], [])
theorem tr_of_eq (a b c : Pt) : fnPC OOf EPFf (fun _ => none) Tryz.f6 (encs [(true, cMe)] (triM a b c, ())) = ofTree [a, b, c] [((0 : Int), (2 : Int), (1 : Int))] := by kernel_rfl
end Go.Proofs.YtokgbcachcmeaaaGreatDoor
/-
Whole numbers as fractions; the right triangle's products: plain laws.
-/
set_option linter.unusedSimpArgs false
set_option linter.unusedVariables false
namespace Go.Proofs.YtokgbcachcmeaaaGreatDoor
open Go.RowKit Ax
def rI (z : Int) : F := rOf (z : Rat)
def sI (z : Int) : Prop := z.natAbs < 1000000000000
theorem two60 {z : Int} (h : sI z) : z.natAbs < 2 ^ 60 := by unfold sI at h; omega
theorem bq_int {z : Int} {k : Nat} (h : z.natAbs < 2 ^ k) (hk : 1 ≤ k) : Bq k k (z : Rat) := by
  refine ⟨by rw [Rat.num_intCast]; exact h, ?_⟩
  rw [Rat.den_intCast]
  exact Nat.one_lt_two_pow (by omega)
theorem rI_safe {z : Int} (h : sI z) : SafeF 60 (rI z) := safe_bq 60 (bq_int (k := 60) (two60 h) (by decide)) (by decide) (by decide) (by decide)
theorem rI_q {z : Int} (h : sI z) : qF (rI z) = (z : Rat) := q_bq (bq_int (k := 60) (two60 h) (by decide)) (by decide) (by decide)
theorem rI_s5 {z : Int} (h : sI z) : SafeF 500 (rI z) := safe_500 (rI_safe h)
theorem rI_both {y z : Int} (hy : sI y) (hz : sI z) : both (rI y) (rI z) = true := both_of (rI_s5 hy) (rI_s5 hz)
theorem rI_dif {y z : Int} (hy : sI y) (hz : sI z) : dif (rI y) (rI z) = ((y - z : Int) : Rat) := by
  show qF (rI y) - qF (rI z) = _
  rw [rI_q hy, rI_q hz, Rat.intCast_sub]
def pI (x y : Int) : Pt := (rI x, rI y)
theorem pI_is {x y : Int} (hx : sI x) (hy : sI y) : isP (pI x y) = true := isP_iff.2 ⟨rI_safe hx, rI_safe hy⟩
theorem cross_int {x0 y0 x1 y1 x2 y2 : Int} (h0 : sI x0) (h1 : sI y0) (h2 : sI x1) (h3 : sI y1) (h4 : sI x2) (h5 : sI y2) : crossQ (pI x0 y0) (pI x1 y1) (pI x2 y2) = (((x1 - x0) * (y2 - y0) - (y1 - y0) * (x2 - x0) : Int) : Rat) := by
  unfold crossQ pI
  rw [rI_dif h2 h0, rI_dif h5 h1, rI_dif h3 h1, rI_dif h4 h0, ← Rat.intCast_mul, ← Rat.intCast_mul, ← Rat.intCast_sub]
theorem dot_int {x0 y0 x1 y1 x2 y2 : Int} (h0 : sI x0) (h1 : sI y0) (h2 : sI x1) (h3 : sI y1) (h4 : sI x2) (h5 : sI y2) : dotQ (pI x0 y0) (pI x1 y1) (pI x2 y2) = (((x1 - x0) * (x2 - x0) + (y1 - y0) * (y2 - y0) : Int) : Rat) := by
  unfold dotQ pI
  rw [rI_dif h2 h0, rI_dif h4 h0, rI_dif h3 h1, rI_dif h5 h1, ← Rat.intCast_mul, ← Rat.intCast_mul, ← Rat.intCast_add]
theorem cq_int (a b : Int) : cq (a : Rat) (b : Rat) < 0 ↔ a < b := by
  unfold cq
  by_cases h : (a : Rat) < b
  · rw [if_pos h]; exact ⟨fun _ => Rat.intCast_lt_intCast.1 h, fun _ => by decide⟩
  · rw [if_neg h]
    refine ⟨fun q => ?_, fun q => absurd (Rat.intCast_lt_intCast.2 q) h⟩
    split at q <;> exact absurd q (by decide)
theorem int_div (a b : Int) : (a : Rat) / (b : Rat) = Rat.divInt a b := by
  have e : ∀ z : Int, (z : Rat) = Rat.divInt z 1 := fun z => by
    have := Rat.num_divInt_den (z : Rat)
    rw [Rat.num_intCast, Rat.den_intCast] at this
    exact this.symm
  rw [e a, e b, Rat.div_def, Rat.inv_divInt, Rat.divInt_mul_divInt, Int.mul_one, Int.one_mul]
theorem int_pos (a : Int) : decide (0 < (a : Rat)) = decide (0 < a) := by
  have : (0 : Rat) < (a : Rat) ↔ 0 < a := by
    have h := Rat.intCast_lt_intCast (a := 0) (b := a)
    simpa using h
  by_cases h : 0 < a
  · rw [decide_eq_true h, decide_eq_true (this.2 h)]
  · rw [decide_eq_false h, decide_eq_false (fun q => h (this.1 q))]
/-! ### the right triangle -/
structure RT (x y a b : Int) : Prop where
  x0 : 0 ≤ x
  x1 : x ≤ 255
  y0 : 0 ≤ y
  y1 : y ≤ 255
  a0 : 1 ≤ a
  a1 : a ≤ 256
  b0 : 1 ≤ b
  b1 : b ≤ 256
section
variable {x y a b : Int} (h : RT x y a b)
include h
theorem rt_s : sI x ∧ sI y ∧ sI (x + a) ∧ sI (y + b) := by
  obtain ⟨h1, h2, h3, h4, h5, h6, h7, h8⟩ := h
  unfold sI
  omega
theorem rt_isP : isP (pI x y) = true ∧ isP (pI (x + a) y) = true ∧ isP (pI x (y + b)) = true := by
  obtain ⟨h1, h2, h3, h4⟩ := rt_s h
  exact ⟨pI_is h1 h2, pI_is h3 h2, pI_is h1 h4⟩
theorem rt_c1 : crossQ (pI x y) (pI (x + a) y) (pI x (y + b)) = ((a * b : Int) : Rat) ∧ dotQ (pI x y) (pI (x + a) y) (pI x (y + b)) = ((0 : Int) : Rat) := by
  obtain ⟨h1, h2, h3, h4⟩ := rt_s h
  rw [cross_int h1 h2 h3 h2 h1 h4, dot_int h1 h2 h3 h2 h1 h4]
  rw [show x + a - x = a by omega, show y + b - y = b by omega, show y - y = 0 by omega, show x - x = 0 by omega]
  simp
theorem rt_c2 : crossQ (pI (x + a) y) (pI x (y + b)) (pI x y) = ((a * b : Int) : Rat) ∧ dotQ (pI (x + a) y) (pI x (y + b)) (pI x y) = ((a * a : Int) : Rat) := by
  obtain ⟨h1, h2, h3, h4⟩ := rt_s h
  rw [cross_int h3 h2 h1 h4 h1 h2, dot_int h3 h2 h1 h4 h1 h2]
  rw [show x - (x + a) = -a by omega, show y + b - y = b by omega, show y - y = 0 by omega]
  rw [Int.mul_zero, Int.mul_zero, Int.mul_neg, Int.neg_mul_neg, Int.mul_comm b a, Int.add_zero]
  rw [show (0 : Int) - -(a * b) = a * b by omega]
  exact ⟨rfl, rfl⟩
theorem rt_c3 : crossQ (pI x (y + b)) (pI x y) (pI (x + a) y) = ((a * b : Int) : Rat) ∧ dotQ (pI x (y + b)) (pI x y) (pI (x + a) y) = ((b * b : Int) : Rat) := by
  obtain ⟨h1, h2, h3, h4⟩ := rt_s h
  rw [cross_int h1 h4 h1 h2 h3 h2, dot_int h1 h4 h1 h2 h3 h2]
  rw [show x + a - x = a by omega, show y - (y + b) = -b by omega, show x - x = 0 by omega]
  rw [Int.zero_mul, Int.zero_mul, Int.neg_mul, Int.neg_mul_neg, Int.mul_comm b a, Int.zero_add]
  rw [show (0 : Int) - -(a * b) = a * b by omega]
  exact ⟨rfl, rfl⟩
theorem rt_sides : dotQ (pI x y) (pI (x + a) y) (pI (x + a) y) = ((a * a : Int) : Rat) ∧ dotQ (pI (x + a) y) (pI x (y + b)) (pI x (y + b)) = ((a * a + b * b : Int) : Rat) ∧ dotQ (pI x (y + b)) (pI x y) (pI x y) = ((b * b : Int) : Rat) := by
  obtain ⟨h1, h2, h3, h4⟩ := rt_s h
  rw [dot_int h1 h2 h3 h2 h3 h2, dot_int h3 h2 h1 h4 h1 h4, dot_int h1 h4 h1 h2 h1 h2]
  rw [show x + a - x = a by omega, show y - y = 0 by omega, show x - (x + a) = -a by omega, show y + b - y = b by omega, show x - x = 0 by omega, show y - (y + b) = -b by omega]
  rw [Int.neg_mul_neg, Int.neg_mul_neg, Int.mul_zero, Int.add_zero, Int.zero_add]
  exact ⟨rfl, rfl, rfl⟩
end
end Go.Proofs.YtokgbcachcmeaaaGreatDoor
/-
stat.Of of a right triangle: what it tells.
-/
set_option linter.unusedSimpArgs false
set_option linter.unusedVariables false
namespace Go.Proofs.YtokgbcachcmeaaaGreatDoor
open Go.RowKit Ax
theorem z0_eq : z0 = rI 0 := by
  unfold z0 rI
  rw [Rat.zero_divInt]
  rfl
theorem w0_eq : ((w0, wOf 1) : F) = rI 0 := by
  have e : wOf 0 = w0 := by
    unfold wOf
    rw [dif_pos (by exact Pq.bp_pos 32)]
    rfl
  show (w0, wOf 1) = (wOf ((0 : Int) : Rat).num, wOf (((0 : Int) : Rat).den : Int))
  rw [Rat.num_intCast, Rat.den_intCast, e]
  rfl
theorem two_eq : rOf (Rat.divInt 2 1) = rI 2 := by
  have e := Rat.num_divInt_den ((2 : Int) : Rat)
  rw [Rat.num_intCast, Rat.den_intCast] at e
  unfold rI
  rw [← e]
  rfl
theorem cq_lt (p q : Rat) : cq p q < 0 ↔ p < q := by
  unfold cq
  by_cases h : p < q
  · rw [if_pos h]; exact ⟨fun _ => h, fun _ => by decide⟩
  · rw [if_neg h]
    refine ⟨fun e => ?_, fun e => absurd e h⟩
    split at e <;> exact absurd e (by decide)
theorem least_int {t x : Int} (ht : sI t) (hx : sI x) (r : List F) : leastS (rI t) (rI x :: r) = leastS (rI (if x < t then x else t)) r := by
  show (if both (rI x) (rI t) = true then leastS (if cq (qF (rI x)) (qF (rI t)) < 0 then rI x else rI t) r else (false, rI t)) = _
  rw [if_pos (rI_both hx ht), rI_q hx, rI_q ht]
  by_cases h : x < t
  · rw [if_pos ((cq_int x t).2 h), if_pos h]
  · rw [if_neg (fun q => h ((cq_int x t).1 q)), if_neg h]
theorem neg_int {s : Int} (hs : sI s) : negF (rI 0) (rI s) = rI (-s) := by
  unfold negF
  rw [rI_q (by unfold sI; decide), rI_q hs, ← Rat.intCast_sub]
  unfold rI
  rw [show (0 : Int) - s = -s by omega]
theorem sum_int {s : Int} (hs : sI s) : sumF [rI s] = (true, rI s) := by
  unfold sumF
  rw [w0_eq]
  show (if both (rI 0) (rI s) = true then sumS (rOf (qF (rI 0) + qF (rI s))) [] else (false, rI 0)) = _
  rw [if_pos (rI_both (by unfold sI; decide) hs), rI_q (by unfold sI; decide), rI_q hs, ← Rat.intCast_add]
  show (true, rI (0 + s)) = _
  rw [Int.zero_add]
theorem rt_mul {p q : Int} (hp : 1 ≤ p ∧ p ≤ 256) (hq : 1 ≤ q ∧ q ≤ 256) : 1 ≤ p * q ∧ p * q ≤ 65536 := by
  have h1 : 1 * 1 ≤ p * q := Int.mul_le_mul hp.1 hq.1 (by decide) (by omega)
  have h2 : p * q ≤ 256 * 256 := Int.mul_le_mul hp.2 hq.2 (by omega) (by decide)
  omega
theorem quo_ok {p q : Int} (hp : 1 ≤ p ∧ p ≤ 256) (hq : 1 ≤ q ∧ q ≤ 256) : SafeF 500 (rOf (Rat.divInt p q)) ∧ qF (rOf (Rat.divInt p q)) = Rat.divInt p q := by
  have h9 : (2 : Nat) ^ 9 = 512 := by decide
  have hb : Bq 9 9 (Rat.divInt p q) := bq_mk (by omega) (by rw [h9]; omega) (by rw [h9]; omega)
  exact ⟨safe_bq 500 hb (by decide) (by decide) (by decide), q_bq hb (by decide) (by decide)⟩
theorem sq_lt {p q : Int} (hp : 1 ≤ p) (hq : 1 ≤ q) : p * p < q * q ↔ p < q := by
  constructor
  · intro h
    refine Classical.byContradiction fun hn => ?_
    have : q * q ≤ p * p := Int.mul_le_mul (by omega) (by omega) (by omega) (by omega)
    omega
  · intro h
    have h1 : p * p < p * q := Int.mul_lt_mul_of_pos_left h (by omega)
    have h2 : p * q < q * q := Int.mul_lt_mul_of_pos_right h (by omega)
    omega
theorem least_quo {a b : Int} (ha : 1 ≤ a ∧ a ≤ 256) (hb : 1 ≤ b ∧ b ≤ 256) : leastF [rOf (Rat.divInt b a), rOf (Rat.divInt a b)] = (true, rOf (Rat.divInt (min a b) (max a b))) := by
  obtain ⟨s1, q1⟩ := quo_ok hb ha
  obtain ⟨s2, q2⟩ := quo_ok ha hb
  show (if both (rOf (Rat.divInt a b)) (rOf (Rat.divInt b a)) = true then leastS (if cq (qF (rOf (Rat.divInt a b))) (qF (rOf (Rat.divInt b a))) < 0 then rOf (Rat.divInt a b) else rOf (Rat.divInt b a)) [] else _) = _
  rw [if_pos (both_of s2 s1), q1, q2]
  have hl : Rat.divInt a b < Rat.divInt b a ↔ a < b := (divInt_lt (by omega) (by omega)).trans (sq_lt ha.1 hb.1)
  by_cases h : a < b
  · rw [if_pos ((cq_lt _ _).2 (hl.2 h)), Int.min_eq_left (by omega), Int.max_eq_right (by omega)]
    rfl
  · rw [if_neg (fun e => h (hl.1 ((cq_lt _ _).1 e))), Int.min_eq_right (by omega), Int.max_eq_left (by omega)]
    rfl
section
variable {x y a b : Int} (h : RT x y a b)
include h
theorem rt_sharp : sharpB (pI x y) (pI (x + a) y) (pI x (y + b)) = false ∧ (sharpB (pI (x + a) y) (pI x (y + b)) (pI x y) = true ∧ sharpV (pI (x + a) y) (pI x (y + b)) (pI x y) = rOf (Rat.divInt b a)) ∧
    (sharpB (pI x (y + b)) (pI x y) (pI (x + a) y) = true ∧ sharpV (pI x (y + b)) (pI x y) (pI (x + a) y) = rOf (Rat.divInt a b)) := by
  obtain ⟨c1, d1⟩ := rt_c1 h
  obtain ⟨c2, d2⟩ := rt_c2 h
  obtain ⟨c3, d3⟩ := rt_c3 h
  have ha := rt_mul ⟨h.a0, h.a1⟩ ⟨h.a0, h.a1⟩
  have hb := rt_mul ⟨h.b0, h.b1⟩ ⟨h.b0, h.b1⟩
  have e2 : sharpB (pI (x + a) y) (pI x (y + b)) (pI x y) = true := by
    unfold sharpB
    rw [d2, int_pos]
    exact decide_eq_true (by omega)
  have e3 : sharpB (pI x (y + b)) (pI x y) (pI (x + a) y) = true := by
    unfold sharpB
    rw [d3, int_pos]
    exact decide_eq_true (by omega)
  refine ⟨?_, ⟨e2, ?_⟩, e3, ?_⟩
  · unfold sharpB
    rw [d1, int_pos]
    rfl
  · unfold sharpV
    rw [if_pos e2, c2, d2, int_div, Rat.divInt_mul_left (by have := h.a0; omega)]
  · unfold sharpV
    rw [if_pos e3, c3, d3, int_div, Rat.divInt_mul_right (by have := h.b0; omega)]
theorem rt_sd : sdL (pI x y) (pI (x + a) y) (pI x (y + b)) = [rI (a * a), rI (a * a + b * b), rI (b * b)] := by
  obtain ⟨s1, s2, s3⟩ := rt_sides h
  unfold sdL sidesV mk3
  rw [s1, s2, s3]
  rfl
theorem rt_small : sI (a * a) ∧ sI (b * b) ∧ sI (a * b) ∧ sI (a * a + b * b) ∧ sI (-(a * a)) ∧ sI (-(b * b)) ∧ sI (-(a * a + b * b)) := by
  have ha := rt_mul ⟨h.a0, h.a1⟩ ⟨h.a0, h.a1⟩
  have hb := rt_mul ⟨h.b0, h.b1⟩ ⟨h.b0, h.b1⟩
  have hc := rt_mul ⟨h.a0, h.a1⟩ ⟨h.b0, h.b1⟩
  unfold sI
  omega
theorem rt_short : leastF [rI (a * a), rI (a * a + b * b), rI (b * b)] = (true, rI (min a b * min a b)) := by
  obtain ⟨s1, s2, s3, s4, s5, s6, s7⟩ := rt_small h
  have ha := rt_mul ⟨h.a0, h.a1⟩ ⟨h.a0, h.a1⟩
  have hb := rt_mul ⟨h.b0, h.b1⟩ ⟨h.b0, h.b1⟩
  show leastS (rI (a * a)) [rI (a * a + b * b), rI (b * b)] = _
  rw [least_int s1 s4, if_neg (by omega), least_int s1 s2]
  have hq := sq_lt h.b0 h.a0
  by_cases hlt : b < a
  · rw [if_pos (hq.2 hlt), Int.min_eq_right (by omega)]; rfl
  · rw [if_neg (fun e => hlt (hq.1 e)), Int.min_eq_left (by omega)]; rfl
theorem rt_negs : List.map (negF z0) [rI (a * a), rI (a * a + b * b), rI (b * b)] = [rI (-(a * a)), rI (-(a * a + b * b)), rI (-(b * b))] := by
  obtain ⟨s1, s2, s3, s4, s5, s6, s7⟩ := rt_small h
  rw [z0_eq, List.map_cons, List.map_cons, List.map_cons, List.map_nil, neg_int s1, neg_int s4, neg_int s2]
theorem rt_long : leastF [rI (-(a * a)), rI (-(a * a + b * b)), rI (-(b * b))] = (true, rI (-(a * a + b * b))) := by
  obtain ⟨s1, s2, s3, s4, s5, s6, s7⟩ := rt_small h
  have ha := rt_mul ⟨h.a0, h.a1⟩ ⟨h.a0, h.a1⟩
  have hb := rt_mul ⟨h.b0, h.b1⟩ ⟨h.b0, h.b1⟩
  show leastS (rI (-(a * a))) [rI (-(a * a + b * b)), rI (-(b * b))] = _
  rw [least_int s5 s7, if_pos (by omega), least_int s7 s6, if_neg (by omega)]
  rfl
theorem rt_area : rOf (qF (rI (a * b)) / qF (rI 2)) = rOf (Rat.divInt (a * b) 2) ∧ (both (rI (a * b)) (rI 2) && decide (qF (rI 2) ≠ 0)) = true := by
  obtain ⟨s1, s2, s3, s4, s5, s6, s7⟩ := rt_small h
  have s : sI 2 := by unfold sI; decide
  refine ⟨by rw [rI_q s3, rI_q s, int_div], ?_⟩
  rw [rI_both s3 s, rI_q s, Bool.true_and]
  exact decide_eq_true (by decide)
end
end Go.Proofs.YtokgbcachcmeaaaGreatDoor
/-
stat.Of of a right triangle: its contract.
-/
set_option linter.unusedSimpArgs false
set_option linter.unusedVariables false
namespace Go.Proofs.YtokgbcachcmeaaaGreatDoor
open Go.RowKit Ax
theorem get_wp {α β : Type} {l : List α} {i : Int} {K : α → T β} {Q : β → Prop} {v : α} (h0 : 0 ≤ i) (hv : l[i.toNat]? = some v) (h : (K v).wp Q) : (T.get l i K).wp Q := ⟨v, h0, hv, h⟩
theorem ned {β : Type} {p : Prop} {t : T β} {Q : β → Prop} (hp : p) (h : t.wp Q) : (T.need p t).wp Q := ⟨hp, h⟩
theorem itf {β : Type} {c : Bool} {s t : T β} {Q : β → Prop} (hc : c = false) (h : t.wp Q) : (T.ite c s t).wp Q := ⟨fun e => Bool.noConfusion (hc.symm.trans e), fun _ => h⟩
theorem in3_wp {i : Int} {t : T Av} {Q : Av → Prop} (h0 : 0 ≤ i) (h1 : i < 3) (h : t.wp Q) : (in3 i t).wp Q := ⟨⟨h0, h1⟩, h⟩
theorem not_f {b : Bool} (h : b = true) : (!b) = false := by rw [h]; rfl
theorem pts3_wp {a b c : Pt} {K : T Av} {Q : Av → Prop} (ha : isP a = true) (hb : isP b = true) (hc : isP c = true) (h : K.wp Q) : (pts3 [a, b, c] K).wp Q := by
  unfold pts3
  rw [nx0, nx1, nx2]
  exact ned rfl (get_wp (v := a) (by decide) rfl (ned (not_f ha) (ned rfl (get_wp (v := b) (by decide) rfl (ned (not_f hb) (ned rfl (get_wp (v := c) (by decide) rfl (ned (not_f hc) (ned rfl (ned (by decide) h))))))))))
theorem ofIdx_wp {a b c : Pt} {nt ne : Nat} {Q : Av → Prop} (h : (ofAdd 3 nt ne a c b).wp Q) : (ofIdx [a, b, c] nt ne ((0 : Int), (2 : Int), (1 : Int))).wp Q := by
  unfold ofIdx
  rw [nx0, nx1, nx2]
  exact ned (by decide) (in3_wp (by decide) (by decide) (itf (by decide) (ned rfl (ned (by decide) (in3_wp (by decide) (by decide) (itf (by decide) (ned rfl (ned (by decide) (in3_wp (by decide) (by decide) (itf (by decide) (ned rfl (ned (by decide)
    (in3_wp (by decide) (by decide) (get_wp (v := a) (by decide) rfl (in3_wp (by decide) (by decide) (get_wp (v := c) (by decide) rfl (in3_wp (by decide) (by decide) (get_wp (v := b) (by decide) rfl h))))))))))))))))))
theorem newRow_wp {l : List F} {K : Nat → T Av} {Q : Av → Prop} (hl : l.length ≤ 1000) (h : ∀ k, (K k).wp Q) : (newRow l K).wp Q := ⟨⟨by omega, by unfold Go.maxLen; omega⟩, fun k _ => h k⟩
theorem grow2_wp {s t : F} {k : Nat} {K : T Av} {Q : Av → Prop} (h : K.wp Q) : (grow2 s t k K).wp Q := ⟨⟨rfl, rfl, by simp, by simp [Go.maxLen]⟩, h, fun _ _ => h⟩
theorem ofAdd_wp {np ne : Nat} {a b c : Pt} {Q : Av → Prop} (h1 : all3 a b c = true) (h2 : sharpB a b c = false) (h3 : all3 b c a = true) (h4 : sharpB b c a = true) (h5 : all3 c a b = true) (h6 : sharpB c a b = true)
    (h : (ofEnd np 1 ne (rOf (crossQ a b c)) (sharpV b c a) (sharpV c a b) (sdL a b c)).wp Q) : (ofAdd np 1 ne a b c).wp Q := by
  unfold ofAdd
  rw [nx0, nx1, nx2]
  exact ned h1 (ned h1 (ned ⟨trivial, trivial, trivial⟩ (newRow_wp (by simp) fun _ => newRow_wp (by unfold sdL; simp) fun _ =>
    ned (by decide) (in3_wp (by decide) (by decide) (in3_wp (by decide) (by decide) (in3_wp (by decide) (by decide) (in3_wp (by decide) (by decide) (ned h1 (ned h2
    (ned (by decide) (in3_wp (by decide) (by decide) (in3_wp (by decide) (by decide) (in3_wp (by decide) (by decide) (in3_wp (by decide) (by decide) (ned h3 (ned h4 (ned ⟨trivial, trivial, trivial⟩ (newRow_wp (by simp) fun _ =>
    ned (by decide) (in3_wp (by decide) (by decide) (in3_wp (by decide) (by decide) (in3_wp (by decide) (by decide) (in3_wp (by decide) (by decide) (ned h5 (ned h6 (ned ⟨trivial, trivial, trivial⟩ (grow2_wp
    (ned (by decide) (ned rfl (ned rfl (itf rfl h))))))))))))))))))))))))))))))
def stR (a b : Int) : El cSt := ((3 : Int), (1 : Int), (0 : Int), rOf (Rat.divInt (a * b) 2), rOf (Rat.divInt (min a b) (max a b)), (1 : Int), rI (a * a + b * b), rI (min a b * min a b))
theorem tk_eq (l : List F) : tk l = l := List.take_length
theorem tk2_eq (s t : F) : tk2 s t = [s, t] := rfl
section
variable {x y a b : Int} (h : RT x y a b)
include h
theorem rt_long2 : negF z0 (rI (-(a * a + b * b))) = rI (a * a + b * b) := by
  obtain ⟨s1, s2, s3, s4, s5, s6, s7⟩ := rt_small h
  rw [z0_eq, neg_int s7, Int.neg_neg]
theorem of_end : (ofEnd 3 1 0 (rOf (crossQ (pI x y) (pI (x + a) y) (pI x (y + b)))) (sharpV (pI (x + a) y) (pI x (y + b)) (pI x y)) (sharpV (pI x (y + b)) (pI x y) (pI (x + a) y)) (sdL (pI x y) (pI (x + a) y) (pI x (y + b)))).wp (· = .tup [.agg (ck cSt (stR a b)), aB true]) := by
  obtain ⟨s1, s2, s3, s4, s5, s6, s7⟩ := rt_small h
  obtain ⟨_, ⟨_, e2⟩, _, e3⟩ := rt_sharp h
  have hq := least_quo ⟨h.a0, h.a1⟩ ⟨h.b0, h.b1⟩
  have h0 : sI 0 := by unfold sI; decide
  have ec : rOf (crossQ (pI x y) (pI (x + a) y) (pI x (y + b))) = rI (a * b) := by rw [(rt_c1 h).1]; rfl
  rw [ec, e2, e3, rt_sd h]
  unfold ofEnd
  rw [tk_eq, tk_eq, tk2_eq, two_eq, sum_int s3, hq, rt_short h, rt_negs h, rt_long h, nx0]
  refine ned ⟨⟨by unfold in64; decide, by unfold in64; decide⟩, by decide⟩ (ned (Nat.le_refl 2) (ned (Nat.le_refl _) (ned (Nat.le_refl _) (ned ⟨len1 _, rfl⟩ (ned (rt_area h).2 (ned ?_ (ned ?_ (ned ?_ (ned ?_ (itf rfl (itf rfl (itf rfl (itf rfl (itf rfl (ned ?_ (get_wp (v := rI (a * a + b * b)) (by decide) ?_ ?_))))))))))))))))
  · exact ⟨by simp, len2 _ _, by rw [hq]⟩
  · exact ⟨by simp, len3 _ _ _, by rw [rt_short h]⟩
  · refine ⟨by simp, by simp, fun v hv => ?_⟩
    rw [z0_eq]
    simp only [List.mem_cons, List.not_mem_nil, or_false] at hv
    rcases hv with rfl | rfl | rfl
    · exact rI_both h0 s1
    · exact rI_both h0 s4
    · exact rI_both h0 s2
  · exact ⟨by simp, len3 _ _ _, by rw [rt_long h]⟩
  · refine ⟨by simp, by simp, fun v hv => ?_⟩
    rw [z0_eq]
    rw [List.mem_singleton] at hv
    subst hv
    exact rI_both h0 s7
  · show some (negF z0 (rI (-(a * a + b * b)))) = _
    rw [rt_long2 h]
  · show stV 3 1 0 (rOf (qF (rI (a * b)) / qF (rI 2))) _ _ _ _ = _
    rw [(rt_area h).1]
    rfl
theorem of_ok : (ofTree [pI x y, pI x (y + b), pI (x + a) y] [((0 : Int), (2 : Int), (1 : Int))]).wp (· = .tup [.agg (ck cSt (stR a b)), aB true]) := by
  obtain ⟨h1, h2, h3⟩ := rt_isP h
  obtain ⟨e1, ⟨e2, _⟩, e3, _⟩ := rt_sharp h
  unfold ofTree
  exact pts3_wp h1 h3 h2 (ned rfl (get_wp (v := ((0 : Int), (2 : Int), (1 : Int))) (by decide) rfl (ofIdx_wp (ofAdd_wp (all3_iff.2 ⟨h1, h2, h3⟩) e1 (all3_iff.2 ⟨h2, h3, h1⟩) e2 (all3_iff.2 ⟨h3, h1, h2⟩) e3 (of_end h)))))
end
end Go.Proofs.YtokgbcachcmeaaaGreatDoor
/-
stat.Of: its contract of right triangles, of no points.
-/
set_option linter.unusedSimpArgs false
set_option linter.unusedVariables false
namespace Go.Proofs.YtokgbcachcmeaaaGreatDoor
open Go.RowKit Ax
def noM : El cMe := ([], [((0 : Int), (1 : Int), (2 : Int))], [])
def of0Z : T Av := .ite (!false) noSt (.need ((in64 (2 : Int) ∧ in64 (1 : Int)) ∧ decide ((1 : Int) ≠ (0 : Int)) = true) (.lt (rOf (Rat.divInt 2 1)) fun _ => .fail))
def of0 (n : Nat) (ts : List (El c3I)) : T Av := .need (decide ((0 : Int) < (n : Int)) = false) (.need (decide ((-1 : Int) ≥ (0 : Int)) = false) (.need (decide ((0 : Int) < (List.length ts : Int)) = true) (.get ts 0 fun t => .need (decide ((0 : Int) < (3 : Int)) = true) (in3 0 (.ite (decide (t.1 < (0 : Int))) of0Z (.need (decide (t.1 ≥ (n : Int)) = true) of0Z))))))
theorem tr_of0_eq : fnPC OOf EPFf (fun _ => none) Tryz.f6 (encs [(true, cMe)] (noM, ())) = of0 (List.length ([] : List Pt)) [((0 : Int), (1 : Int), (2 : Int))] := by kernel_rfl
theorem of0_ok : (of0 (List.length ([] : List Pt)) [((0 : Int), (1 : Int), (2 : Int))]).wp (· = .tup [.agg (ck cSt (zE cSt)), aB false]) := by
  unfold of0
  exact ned rfl (ned (by decide) (ned rfl (get_wp (v := ((0 : Int), (1 : Int), (2 : Int))) (by decide) rfl (ned (by decide) (in3_wp (by decide) (by decide) (itf (by decide) (ned rfl ⟨fun _ => rfl, fun e => Bool.noConfusion e⟩)))))))
def rtM (x y a b : Int) : El cMe := triM (pI x y) (pI x (y + b)) (pI (x + a) y)
def legs (m : El cMe) : Int × Int := match m.1 with
  | [p, q, r] => ((dif r.1 p.1).num, (dif q.2 p.2).num)
  | _ => (0, 0)
theorem legs_rt {x y a b : Int} (h : RT x y a b) : legs (rtM x y a b) = (a, b) := by
  obtain ⟨h1, h2, h3, h4⟩ := rt_s h
  show ((dif (rI (x + a)) (rI x)).num, (dif (rI (y + b)) (rI y)).num) = _
  rw [rI_dif h3 h1, rI_dif h4 h2, Rat.num_intCast, Rat.num_intCast]
  rw [show x + a - x = a by omega, show y + b - y = b by omega]
def isRT (m : El cMe) : Prop := ∃ x y a b, RT x y a b ∧ m = rtM x y a b
def ofSp (x : Els [(true, cMe)]) : T Av := match x.1.1 with
  | [] => .need (x.1 = noM) (.ret (.tup [.agg (ck cSt (zE cSt)), aB false]))
  | _ => .need (isRT x.1) (.ret (.tup [.agg (ck cSt (stR (legs x.1).1 (legs x.1).2)), aB true]))
theorem ofSp_ok (m : El cMe) (Q : Av → Prop) (hq : (ofSp (m, ())).wp Q) : ∃ t, fnPC OOf EPFf (fun _ => none) Tryz.f6 (encs [(true, cMe)] (m, ())) = t ∧ t.wp Q := by
  unfold ofSp at hq
  split at hq
  · obtain ⟨he, hq⟩ := hq
    have he : m = noM := he
    subst he
    exact ⟨_, tr_of0_eq, T.wp_mono (fun a ha => by rw [ha]; exact hq) of0_ok⟩
  · obtain ⟨⟨x, y, a, b, h, he⟩, hq⟩ := hq
    have he : m = rtM x y a b := he
    subst he
    have e := legs_rt h
    have hq : Q (.tup [.agg (ck cSt (stR (legs (rtM x y a b)).1 (legs (rtM x y a b)).2)), aB true]) := hq
    rw [e] at hq
    exact ⟨_, tr_of_eq _ _ _, T.wp_mono (fun v hv => by rw [hv]; exact hq) (of_ok h)⟩
noncomputable def m_sof : Con Tryz.prog := ⟨6, [], _, cf_sof, con_okC (O := OOf) (E := EPFf) (L := fun _ => none) rfl mixed Tryz.func6 no_loops [(true, cMe)] ofSp fun x Q hq => ofSp_ok x.1 Q hq⟩
noncomputable def EPG : Env Tryz.prog := EPF.add [m_sof]
end Go.Proofs.YtokgbcachcmeaaaGreatDoor
/-
stat.Print's parts.
-/
set_option linter.unusedSimpArgs false
set_option linter.unusedVariables false
namespace Go.Proofs.YtokgbcachcmeaaaGreatDoor
open Go.RowKit Ax
theorem cf_itoaS (xs : Array Value) (w : World) : (callFunc 21 xs).run Tryz.prog w = .ok (.enter 21 xs) w := by kernel_rfl
theorem itoa_calls (z : Int) (h2 : 0 ≤ z) (h3 : z < 100) (w : World) : Calls Tryz.prog 21 #[Value.int .i64 z] w (fun e w' => e = .returned (.string ⟨(Lib.decDigits z.toNat).toArray⟩) ∧ w' = w) := by
  have hc := Tryz.strconv_Itoa_small z.toNat (by omega) w
  rw [Int.toNat_of_nonneg h2] at hc
  exact hc
noncomputable def con_itoaS : Con Tryz.prog := ⟨21, [], pureRun' [(false, .int .i64)] (fun x => .need (0 ≤ x.1 ∧ x.1 < 100) (.ret (.one (.v (.string ⟨(Lib.decDigits x.1.toNat).toArray⟩))))), cf_itoaS, ret_con _ _ fun x vs w R Q ha hQ => by
  obtain ⟨v, rfl, h1⟩ := args1 ha
  rw [int_av h1]
  obtain ⟨z, u⟩ := x
  obtain ⟨⟨h2, h3⟩, hQ⟩ := hQ
  have hc := itoa_calls z h2 h3 w
  exact ⟨_, _, hQ, hc.mono fun e w' hr => ⟨hr.1, hr.2 ▸ Below.refl _ _⟩, fun _ _ => .val rfl⟩⟩
def cat1 (a b : ByteArray) (K : ByteArray → T Av) : T Av := .need (((ByteArray.size a + ByteArray.size b : Nat) : Int) ≤ IntKind.max .i64) (.lt (a ++ b) K)
noncomputable def EPO : Env Tryz.prog := EPG.add [con_itoaS]
def p1T (s : ByteArray) (n : Int) : T Av := cat1 s ⟨#[32]⟩ fun v => .need (0 ≤ n ∧ n < 100) (cat1 v ⟨(Lib.decDigits n.toNat).toArray⟩ fun v => .ret (.one (.v (.string v))))
def p2T (s : ByteArray) (f : F) : T Av := cat1 s ⟨#[32]⟩ fun v => cat1 v (ftxt f) fun v => .ret (.one (.v (.string v)))
theorem tr_p1_eq (x : Els [(false, .str), (false, .int .i64)]) : fnP EPO (fun _ => none) Tryz.f20 (encs [(false, .str), (false, .int .i64)] x) = p1T x.1 x.2.1 := by kernel_rfl
theorem tr_p2_eq (x : Els [(false, .str), (true, cF)]) : fnP EPO (fun _ => none) Tryz.f22 (encs [(false, .str), (true, cF)] x) = p2T x.1 x.2.1 := by kernel_rfl
noncomputable def con_p1 : Con Tryz.prog := ⟨20, [], _, cf_sprint1, con_ok (E := EPO) (L := fun _ => none) mixed Tryz.func20 no_loops [(false, .str), (false, .int .i64)] (fun x => p1T x.1 x.2.1) fun x Q hq => by
  rw [tr_p1_eq x]; exact hq⟩
noncomputable def con_p2 : Con Tryz.prog := ⟨22, [], _, cf_sprint2, con_ok (E := EPO) (L := fun _ => none) mixed Tryz.func22 no_loops [(false, .str), (true, cF)] (fun x => p2T x.1 x.2.1) fun x Q hq => by
  rw [tr_p2_eq x]; exact hq⟩
noncomputable def codStr : Cod Tryz.prog := ⟨9, .str, by kernel_rfl, ⟨.string (ByteArray.mk #[]), fun w => by kernel_rfl⟩⟩
noncomputable def EPPz : Env Tryz.prog := EPO.add [con_p1, con_p2]
noncomputable def EPP : Env Tryz.prog := ⟨EPPz.con, EPPz.zero, codStr :: EPPz.cod, EPPz.sure, EPPz.base, EPPz.frz⟩
noncomputable def pc1 : PCon EPP.con := ⟨20, [(false, .str), (false, .int .i64)], fun x => p1T x.1 x.2.1, ⟨con_p1, rfl, rfl, rfl⟩⟩
noncomputable def pc2 : PCon EPP.con := ⟨22, [(false, .str), (true, cF)], fun x => p2T x.1 x.2.1, ⟨con_p2, rfl, rfl, rfl⟩⟩
noncomputable def OPr : Opt EPP.con := ⟨[pc1, pc2], [], fun _ => none⟩
end Go.Proofs.YtokgbcachcmeaaaGreatDoor
/-
stat.Sharps: how it is run.
-/
set_option linter.unusedSimpArgs false
set_option linter.unusedVariables false
namespace Go.Proofs.YtokgbcachcmeaaaGreatDoor
open Go.RowKit Ax
noncomputable def zeroI : Zero Tryz.prog := zOf 3 (.int .i64) rfl (by kernel_rfl)
noncomputable def codI : Cod Tryz.prog := ⟨3, .int .i64, by kernel_rfl, ⟨.int .i64 0, fun w => by kernel_rfl⟩⟩
noncomputable def EPH : Env Tryz.prog := ⟨EPG.con, zeroI :: EPG.zero, codI :: EPG.cod, EPG.sure, EPG.base, EPG.frz⟩
noncomputable def OSh : Opt EPH.con := ⟨[], [], fcs [(25, false)]⟩
def shB (kn : Bool) (st : St) : Bool := match st.fr[(10 : Tmp)]? with
  | some (.one (.v (.int _ z))) => (z == 0) == kn
  | _ => false
noncomputable def unShI (kn : Bool) : St → T (Exit × St) := fun st => unrollC OSh (EPH.at_ 0) (fun _ => none) (innerOf (bodyOf Tryz.f8 0) 0) (rowRounds 42 [(45, true), (58, shB kn st)] [(45, false)] st) st
theorem unShI_ok (kn : Bool) : LoopOk Tryz.prog 0 (innerOf (bodyOf Tryz.f8 0) 0) (unShI kn) := unrollS_ok (O := OSh) (E := EPH) rfl mixed 0 (loops_none _ _ _) _
noncomputable def unSh (kn : Bool) : St → T (Exit × St) := fun st => unrollC OSh (EPH.at_ 0) (manyL [(10, unShI kn)]) (bodyOf Tryz.f8 0) (rowRounds 32 [(35, true)] [(35, false)] st) st
theorem unSh_ok (kn : Bool) : LoopOk Tryz.prog 0 (bodyOf Tryz.f8 0) (unSh kn) := unrollS_ok (O := OSh) (E := EPH) rfl mixed 0 (inner_one (by kernel_rfl) (unShI_ok kn)) _
noncomputable def lpSh (kn : Bool) : Loops := oneL 7 (unSh kn)
end Go.Proofs.YtokgbcachcmeaaaGreatDoor
/-
stat.Sharps of one triangle with a right corner: its tree.
-/
set_option linter.unusedSimpArgs false
set_option linter.unusedVariables false
namespace Go.Proofs.YtokgbcachcmeaaaGreatDoor
open Go.RowKit Ax
def allAdd (nt : Nat) (a b c : Pt) (K : F → F → List F → F → T Av) : T Av := .need (all3 a b c = true) (.need (all3 a b c = true) (.need (True ∧ True ∧ True) (newRow [rOf (crossQ a b c)] fun _ => newRow (sdL a b c) fun _ =>
  .need (decide ((0 : Int) < 3) = true) (in3 0 (in3 0 (in3 1 (in3 2 (.need (all3 a b c = true) (.need (sharpB a b c = false)
  (.need (decide (nx 0 < 3) = true) (in3 (nx 0) (in3 0 (in3 1 (in3 2 (.need (all3 b c a = true) (.need (sharpB b c a = true) (.need (True ∧ True ∧ True) (newRow [sharpV b c a] fun k =>
  .need (decide (nx (nx 0) < 3) = true) (in3 (nx (nx 0)) (in3 0 (in3 1 (in3 2 (.need (all3 c a b = true) (.need (sharpB c a b = true) (.need (True ∧ True ∧ True) (grow2 (sharpV b c a) (sharpV c a b) k
  (.need (decide (nx (nx (nx 0)) < 3) = false) (.need ((!true) = false) (.need (decide (nx 0 < (nt : Int)) = false) (K (sharpV b c a) (sharpV c a b) (sdL a b c) (rOf (crossQ a b c))))))))))))))))))))))))))))))))
def allIdx (l : List Pt) (nt : Nat) (t : El c3I) (K : F → F → List F → F → T Av) : T Av := .need (decide ((0 : Int) < 3) = true) (in3 0 (.ite (decide (t.1 < (0 : Int))) .fail (.need (decide (t.1 ≥ (List.length l : Int)) = false)
  (.need (decide (nx 0 < 3) = true) (in3 (nx 0) (.ite (decide (t.2.1 < (0 : Int))) .fail (.need (decide (t.2.1 ≥ (List.length l : Int)) = false)
  (.need (decide (nx (nx 0) < 3) = true) (in3 (nx (nx 0)) (.ite (decide (t.2.2 < (0 : Int))) .fail (.need (decide (t.2.2 ≥ (List.length l : Int)) = false) (.need (decide (nx (nx (nx 0)) < 3) = false)
  (in3 0 (.get l t.1 fun a => in3 1 (.get l t.2.1 fun b => in3 2 (.get l t.2.2 fun c => allAdd nt a b c K))))))))))))))))
def allK (l : List Pt) (ts : List (El c3I)) (K : F → F → List F → F → T Av) : T Av := pts3 l (.need (decide ((0 : Int) < (List.length ts : Int)) = true) (.get ts 0 fun t => allIdx l (List.length ts) t K))
def cmpS (b : Bool) (L : List F) (n j i : Int) (tan : F) (xs : List Int) (K : List Int → T Av) : T Av := .need (decide (j < n) = true) (.need ((0 : Int) ≤ j ∧ j < n) (.get L j fun sv => .need (both sv tan = true) (.lt (cq (qF sv) (qF tan)) fun c => .need (decide (c < (0 : Int)) = b) (match b with
  | true => .need ((0 : Int) ≤ i ∧ i < (↑(Int.toNat 2) : Int)) (.get xs i fun v => .need ((0 : Int) ≤ i ∧ i < (↑(Int.toNat 2) : Int)) (.need (i < (List.length xs : Int)) (K (xs.set i.toNat (nx v)))))
  | false => K xs))))
def inn (b : Bool) (L : List F) (n i : Int) (tan : F) (xs : List Int) (K : List Int → T Av) : T Av := cmpS b L n 0 i tan xs fun xs => cmpS b L n (nx 0) i tan xs fun xs => .need (decide (nx (nx 0) < n) = false) (K xs)
def shEnd (kn : Bool) (tans L : List F) (n : Nat) (sd : List F) (ar : F) : T Av := .need (decide ((0 : Int) < (List.length tans : Int)) = true) (.get tans 0 fun u => inn kn L (n : Int) 0 u [0, 0] fun xs => .need (decide (nx 0 < (List.length tans : Int)) = true) (.get tans (nx 0) fun u => inn (!kn) L (n : Int) (nx 0) u xs fun xs => .need (decide (nx (nx 0) < (List.length tans : Int)) = false) (.need (2 ≤ List.length xs) (.need (n ≤ List.length L) (.need (List.length sd ≤ List.length sd) (.need (List.length [ar] ≤ List.length [ar]) (.ret (.one (.ds (.int .i64) (xs.take 2))))))))))
def shTree (kn : Bool) (l : List Pt) (tans : List F) : T Av := .need (0 ≤ (List.length tans : Int) ∧ (List.length tans : Int) = (List.length tans : Int) ∧ (7 + 1) * (Int.toNat (List.length tans : Int)) ≤ 281474976710656 ∧ Int.toNat (List.length tans : Int) ≤ Go.maxLen)
  (.need (isRT (l, [((0 : Int), (2 : Int), (1 : Int))], [])) (.need ((!true) = false) (allK l [((0 : Int), (2 : Int), (1 : Int))] fun s t sd ar => shEnd kn tans ([s] ++ [t]) (List.length [s] + List.length [t]) sd ar)))
theorem tr_shl_eq (a b c : Pt) (s t : F) : fnPC OSh EPH (lpSh false) Tryz.f8 (encs [(true, cMe), (false, .sl cF)] (triM a b c, [s, t], ())) = shTree false [a, b, c] [s, t] := by kernel_rfl
theorem tr_shk_eq (a b c : Pt) (s t : F) : fnPC OSh EPH (lpSh true) Tryz.f8 (encs [(true, cMe), (false, .sl cF)] (triM a b c, [s, t], ())) = shTree true [a, b, c] [s, t] := by kernel_rfl
end Go.Proofs.YtokgbcachcmeaaaGreatDoor
/-
stat.Sharps of a right triangle: its contracts.
-/
set_option linter.unusedSimpArgs false
set_option linter.unusedVariables false
namespace Go.Proofs.YtokgbcachcmeaaaGreatDoor
open Go.RowKit Ax
theorem allAdd_wp {nt : Nat} {a b c : Pt} {K : F → F → List F → F → T Av} {Q : Av → Prop} (hn : nt = 1) (h1 : all3 a b c = true) (h2 : sharpB a b c = false) (h3 : all3 b c a = true) (h4 : sharpB b c a = true) (h5 : all3 c a b = true) (h6 : sharpB c a b = true)
    (h : (K (sharpV b c a) (sharpV c a b) (sdL a b c) (rOf (crossQ a b c))).wp Q) : (allAdd nt a b c K).wp Q := by
  subst hn
  unfold allAdd
  rw [nx0, nx1, nx2]
  exact ned h1 (ned h1 (ned ⟨trivial, trivial, trivial⟩ (newRow_wp (by simp) fun _ => newRow_wp (by unfold sdL; simp) fun _ =>
    ned (by decide) (in3_wp (by decide) (by decide) (in3_wp (by decide) (by decide) (in3_wp (by decide) (by decide) (in3_wp (by decide) (by decide) (ned h1 (ned h2
    (ned (by decide) (in3_wp (by decide) (by decide) (in3_wp (by decide) (by decide) (in3_wp (by decide) (by decide) (in3_wp (by decide) (by decide) (ned h3 (ned h4 (ned ⟨trivial, trivial, trivial⟩ (newRow_wp (by simp) fun _ =>
    ned (by decide) (in3_wp (by decide) (by decide) (in3_wp (by decide) (by decide) (in3_wp (by decide) (by decide) (in3_wp (by decide) (by decide) (ned h5 (ned h6 (ned ⟨trivial, trivial, trivial⟩ (grow2_wp
    (ned (by decide) (ned rfl (ned rfl h)))))))))))))))))))))))))))))
theorem allK_wp {a b c : Pt} {K : F → F → List F → F → T Av} {Q : Av → Prop} (ha : isP a = true) (hb : isP b = true) (hc : isP c = true) (h2 : sharpB a c b = false) (h4 : sharpB c b a = true) (h6 : sharpB b a c = true)
    (h : (K (sharpV c b a) (sharpV b a c) (sdL a c b) (rOf (crossQ a c b))).wp Q) : (allK [a, b, c] [((0 : Int), (2 : Int), (1 : Int))] K).wp Q := by
  unfold allK
  refine pts3_wp ha hb hc (ned rfl (get_wp (v := ((0 : Int), (2 : Int), (1 : Int))) (by decide) rfl ?_))
  unfold allIdx
  rw [nx0, nx1, nx2]
  exact ned (by decide) (in3_wp (by decide) (by decide) (itf (by decide) (ned rfl (ned (by decide) (in3_wp (by decide) (by decide) (itf (by decide) (ned rfl (ned (by decide) (in3_wp (by decide) (by decide) (itf (by decide) (ned rfl (ned (by decide)
    (in3_wp (by decide) (by decide) (get_wp (v := a) (by decide) rfl (in3_wp (by decide) (by decide) (get_wp (v := c) (by decide) rfl (in3_wp (by decide) (by decide) (get_wp (v := b) (by decide) rfl
      (allAdd_wp rfl (all3_iff.2 ⟨ha, hc, hb⟩) h2 (all3_iff.2 ⟨hc, hb, ha⟩) h4 (all3_iff.2 ⟨hb, ha, hc⟩) h6 h)))))))))))))))))))
theorem cmpT_wp {L : List F} {n j i : Int} {tan s : F} {xs : List Int} {K : List Int → T Av} {Q : Av → Prop} {v : Int} (hj : 0 ≤ j) (hn : j < n) (hs : L[j.toNat]? = some s) (hb : both s tan = true) (hi : 0 ≤ i) (hi2 : i < 2) (hx : xs.length = 2) (hv : xs[i.toNat]? = some v) (hc : cq (qF s) (qF tan) < 0)
    (h : (K (xs.set i.toNat (nx v))).wp Q) : (cmpS true L n j i tan xs K).wp Q := by
  unfold cmpS
  exact ned (decide_eq_true hn) (ned ⟨hj, hn⟩ (get_wp (v := s) hj hs (ned hb (ned (decide_eq_true hc) (ned ⟨hi, hi2⟩ (get_wp (v := v) hi hv (ned ⟨hi, hi2⟩ (ned (by rw [hx]; exact hi2) h))))))))
theorem cmpF_wp {L : List F} {n j i : Int} {tan s : F} {xs : List Int} {K : List Int → T Av} {Q : Av → Prop} (hj : 0 ≤ j) (hn : j < n) (hs : L[j.toNat]? = some s) (hb : both s tan = true) (hc : ¬ cq (qF s) (qF tan) < 0)
    (h : (K xs).wp Q) : (cmpS false L n j i tan xs K).wp Q := by
  unfold cmpS
  exact ned (decide_eq_true hn) (ned ⟨hj, hn⟩ (get_wp (v := s) hj hs (ned hb (ned (decide_eq_false hc) h))))
theorem shT_wp {s u t0 t1 : F} {sd : List F} {ar : F} {Q : Av → Prop} (h1 : both s t0 = true) (h2 : both u t0 = true) (h3 : both s t1 = true) (h4 : both u t1 = true) (c1 : cq (qF s) (qF t0) < 0) (c2 : cq (qF u) (qF t0) < 0) (c3 : ¬ cq (qF s) (qF t1) < 0) (c4 : ¬ cq (qF u) (qF t1) < 0)
    (h : Q (.one (.ds (.int .i64) [(2 : Int), (0 : Int)]))) : (shEnd true [t0, t1] ([s] ++ [u]) (List.length [s] + List.length [u]) sd ar).wp Q := by
  unfold shEnd inn
  rw [nx0, nx1]
  refine ned rfl (get_wp (v := t0) (by decide) rfl ?_)
  refine cmpT_wp (s := s) (v := 0) (by decide) (show (0 : Int) < 2 from by decide) rfl h1 (by decide) (by decide) rfl rfl c1 ?_
  refine cmpT_wp (s := u) (v := nx 0) (by decide) (show (1 : Int) < 2 from by decide) rfl h2 (by decide) (by decide) rfl rfl c2 ?_
  refine ned rfl (ned rfl (get_wp (v := t1) (by decide) rfl ?_))
  refine cmpF_wp (s := s) (by decide) (show (0 : Int) < 2 from by decide) rfl h3 c3 ?_
  refine cmpF_wp (s := u) (by decide) (show (1 : Int) < 2 from by decide) rfl h4 c4 ?_
  refine ned rfl (ned rfl (ned (Nat.le_refl 2) (ned (Nat.le_refl 2) (ned (Nat.le_refl _) (ned (Nat.le_refl _) ?_)))))
  rw [nx0, nx1]
  exact h
theorem shF_wp {s u t0 t1 : F} {sd : List F} {ar : F} {Q : Av → Prop} (h1 : both s t0 = true) (h2 : both u t0 = true) (h3 : both s t1 = true) (h4 : both u t1 = true) (c1 : ¬ cq (qF s) (qF t0) < 0) (c2 : ¬ cq (qF u) (qF t0) < 0) (c3 : cq (qF s) (qF t1) < 0) (c4 : cq (qF u) (qF t1) < 0)
    (h : Q (.one (.ds (.int .i64) [(0 : Int), (2 : Int)]))) : (shEnd false [t0, t1] ([s] ++ [u]) (List.length [s] + List.length [u]) sd ar).wp Q := by
  unfold shEnd inn
  rw [nx0, nx1]
  refine ned rfl (get_wp (v := t0) (by decide) rfl ?_)
  refine cmpF_wp (s := s) (by decide) (show (0 : Int) < 2 from by decide) rfl h1 c1 ?_
  refine cmpF_wp (s := u) (by decide) (show (1 : Int) < 2 from by decide) rfl h2 c2 ?_
  refine ned rfl (ned rfl (get_wp (v := t1) (by decide) rfl ?_))
  refine cmpT_wp (s := s) (v := 0) (by decide) (show (0 : Int) < 2 from by decide) rfl h3 (by decide) (by decide) rfl rfl c3 ?_
  refine cmpT_wp (s := u) (v := nx 0) (by decide) (show (1 : Int) < 2 from by decide) rfl h4 (by decide) (by decide) rfl rfl c4 ?_
  refine ned rfl (ned rfl (ned (Nat.le_refl 2) (ned (Nat.le_refl 2) (ned (Nat.le_refl _) (ned (Nat.le_refl _) ?_)))))
  rw [nx0, nx1]
  exact h
theorem cq_whole {p q z : Int} (hp : 1 ≤ p ∧ p ≤ 256) (hq : 1 ≤ q ∧ q ≤ 256) (hz : sI z) : cq (qF (rOf (Rat.divInt p q))) (qF (rI z)) < 0 ↔ p < z * q := by
  have e : ((z : Int) : Rat) = Rat.divInt z 1 := by
    have := Rat.num_divInt_den ((z : Int) : Rat)
    rw [Rat.num_intCast, Rat.den_intCast] at this
    exact this.symm
  rw [(quo_ok hp hq).2, rI_q hz, cq_lt, e, divInt_lt (by omega) (by decide), Int.mul_one]
theorem cq_quo {p q r s : Int} (hp : 1 ≤ p ∧ p ≤ 256) (hq : 1 ≤ q ∧ q ≤ 256) (hr : 1 ≤ r ∧ r ≤ 256) (hs : 1 ≤ s ∧ s ≤ 256) : cq (qF (rOf (Rat.divInt p q))) (qF (rOf (Rat.divInt r s))) < 0 ↔ p * s < r * q := by
  rw [(quo_ok hp hq).2, (quo_ok hr hs).2, cq_lt, divInt_lt (by omega) (by omega)]
theorem sI_300 : sI 300 := by unfold sI; decide
theorem sI_2 : sI 2 := by unfold sI; decide
theorem sI_1 : sI 1 := by unfold sI; decide
def smQ (a b : Int) : F := rOf (Rat.divInt (min a b) (max a b))
theorem lens2 : 0 ≤ ((List.length [z0, z0] : Nat) : Int) ∧ ((List.length [z0, z0] : Nat) : Int) = ((List.length [z0, z0] : Nat) : Int) ∧ (7 + 1) * (Int.toNat ((List.length [z0, z0] : Nat) : Int)) ≤ 281474976710656 ∧ Int.toNat ((List.length [z0, z0] : Nat) : Int) ≤ Go.maxLen := by
  refine ⟨by decide, rfl, by decide, ?_⟩
  show 2 ≤ Go.maxLen
  unfold Go.maxLen
  omega
section
variable {x y a b : Int} (h : RT x y a b)
include h
theorem shl_ok : (shTree false [pI x y, pI x (y + b), pI (x + a) y] [smQ a b, rI 300]).wp (· = .one (.ds (.int .i64) [(0 : Int), (2 : Int)])) := by
  obtain ⟨h1, h2, h3⟩ := rt_isP h
  obtain ⟨e1, ⟨e2, e4⟩, e3, e5⟩ := rt_sharp h
  have ha : 1 ≤ a ∧ a ≤ 256 := ⟨h.a0, h.a1⟩
  have hb : 1 ≤ b ∧ b ≤ 256 := ⟨h.b0, h.b1⟩
  have hm : 1 ≤ min a b ∧ min a b ≤ 256 := by omega
  have hM : 1 ≤ max a b ∧ max a b ≤ 256 := by omega
  unfold shTree
  refine ned lens2 (ned ⟨x, y, a, b, h, rfl⟩ (ned rfl (allK_wp h1 h3 h2 e1 e2 e3 ?_)))
  rw [e4, e5]
  refine shF_wp (both_of (quo_ok hb ha).1 (quo_ok hm hM).1) (both_of (quo_ok ha hb).1 (quo_ok hm hM).1) (both_of (quo_ok hb ha).1 (rI_s5 sI_300)) (both_of (quo_ok ha hb).1 (rI_s5 sI_300)) ?_ ?_ ?_ ?_ rfl
  · unfold smQ
    rw [cq_quo hb ha hm hM]
    have : min a b * a ≤ b * max a b := Int.mul_le_mul (by omega) (by omega) (by omega) (by omega)
    omega
  · unfold smQ
    rw [cq_quo ha hb hm hM]
    have : min a b * b ≤ a * max a b := Int.mul_le_mul (by omega) (by omega) (by omega) (by omega)
    omega
  · rw [cq_whole hb ha sI_300]; omega
  · rw [cq_whole ha hb sI_300]; omega
end
theorem rt_kn : RT 0 0 2 2 := ⟨by decide, by decide, by decide, by decide, by decide, by decide, by decide, by decide⟩
theorem shk_ok : (shTree true [pI 0 0, pI 0 (0 + 2), pI (0 + 2) 0] [rI 2, rI 1]).wp (· = .one (.ds (.int .i64) [(2 : Int), (0 : Int)])) := by
  have h := rt_kn
  obtain ⟨h1, h2, h3⟩ := rt_isP h
  obtain ⟨e1, ⟨e2, e4⟩, e3, e5⟩ := rt_sharp h
  have ha : (1 : Int) ≤ 2 ∧ (2 : Int) ≤ 256 := by decide
  unfold shTree
  refine ned lens2 (ned ⟨0, 0, 2, 2, h, rfl⟩ (ned rfl (allK_wp h1 h3 h2 e1 e2 e3 ?_)))
  rw [e4, e5]
  refine shT_wp (both_of (quo_ok ha ha).1 (rI_s5 sI_2)) (both_of (quo_ok ha ha).1 (rI_s5 sI_2)) (both_of (quo_ok ha ha).1 (rI_s5 sI_1)) (both_of (quo_ok ha ha).1 (rI_s5 sI_1)) ?_ ?_ ?_ ?_ rfl
  · rw [cq_whole ha ha sI_2]; decide
  · rw [cq_whole ha ha sI_2]; decide
  · rw [cq_whole ha ha sI_1]; decide
  · rw [cq_whole ha ha sI_1]; decide
def shlSp (x : Els [(true, cMe), (false, .sl cF)]) : T Av := .need (∃ x0 y a b, RT x0 y a b ∧ x.1 = rtM x0 y a b ∧ x.2.1 = [smQ a b, rI 300]) (.ret (.one (.ds (.int .i64) [(0 : Int), (2 : Int)])))
def shkSp (x : Els [(true, cMe), (false, .sl cF)]) : T Av := .need (x.1 = rtM 0 0 2 2 ∧ x.2.1 = [rI 2, rI 1]) (.ret (.one (.ds (.int .i64) [(2 : Int), (0 : Int)])))
theorem shlSp_ok (x : Els [(true, cMe), (false, .sl cF)]) (Q : Av → Prop) (hq : (shlSp x).wp Q) : ∃ t, fnPC OSh EPH (lpSh false) Tryz.f8 (encs [(true, cMe), (false, .sl cF)] x) = t ∧ t.wp Q := by
  obtain ⟨m, l, u⟩ := x
  obtain ⟨⟨x0, y, a, b, h, h1, h2⟩, hq⟩ := hq
  have h1 : m = rtM x0 y a b := h1
  have h2 : l = [smQ a b, rI 300] := h2
  subst h1
  subst h2
  exact ⟨_, tr_shl_eq _ _ _ _ _, T.wp_mono (fun v hv => by rw [hv]; exact hq) (shl_ok h)⟩
theorem shkSp_ok (x : Els [(true, cMe), (false, .sl cF)]) (Q : Av → Prop) (hq : (shkSp x).wp Q) : ∃ t, fnPC OSh EPH (lpSh true) Tryz.f8 (encs [(true, cMe), (false, .sl cF)] x) = t ∧ t.wp Q := by
  obtain ⟨m, l, u⟩ := x
  obtain ⟨⟨h1, h2⟩, hq⟩ := hq
  have h1 : m = rtM 0 0 2 2 := h1
  have h2 : l = [rI 2, rI 1] := h2
  subst h1
  subst h2
  exact ⟨_, tr_shk_eq _ _ _ _ _, T.wp_mono (fun v hv => by rw [hv]; exact hq) shk_ok⟩
noncomputable def con_shl : Con Tryz.prog := ⟨8, [], _, cf_ssharps, con_okC (O := OSh) (E := EPH) (L := lpSh false) rfl mixed Tryz.func8 (one_loop (unSh_ok false) (by kernel_rfl)) [(true, cMe), (false, .sl cF)] shlSp shlSp_ok⟩
noncomputable def con_shk : Con Tryz.prog := ⟨8, [], _, cf_ssharps, con_okC (O := OSh) (E := EPH) (L := lpSh true) rfl mixed Tryz.func8 (one_loop (unSh_ok true) (by kernel_rfl)) [(true, cMe), (false, .sl cF)] shkSp shkSp_ok⟩
end Go.Proofs.YtokgbcachcmeaaaGreatDoor
/-
The reference: New, Of, points of whole numbers; stat.Print of the known triangle.
-/
set_option linter.unusedSimpArgs false
set_option linter.unusedVariables false
namespace Go.Proofs.YtokgbcachcmeaaaGreatDoor
open Go.RowKit Ax
theorem cf_ptNew (xs : Array Value) (w : World) : (callFunc 17 xs).run Tryz.prog w = .ok (.enter 17 xs) w := by kernel_rfl
theorem cf_ptOf (xs : Array Value) (w : World) : (callFunc 7 xs).run Tryz.prog w = .ok (.enter 7 xs) w := by kernel_rfl
theorem cf_ptAt (xs : Array Value) (w : World) : (callFunc 5 xs).run Tryz.prog w = .ok (.enter 5 xs) w := by kernel_rfl
noncomputable def pcNeg : PCon EPG.con := ⟨42, [(true, cW)], fun x => .ret (aB (x.1.1 && decide (x.1.2.1 ≠ 0))), ⟨con_pneg, rfl, rfl, rfl⟩⟩
noncomputable def pcOf : PCon EPG.con := ⟨43, [(true, cW)], fun x => .ret (.one (.ds (.int .u32) (mg x.1.2.1))), ⟨con_pof, rfl, rfl, rfl⟩⟩
noncomputable def pcRat : PCon EPG.con := ⟨41, [(false, .bool), (false, .sl (.int .u32)), (false, .sl (.int .u32))], fun x => .need ((x.2.1 : List Int) = mg (valL x.2.1) ∧ (x.2.2.1 : List Int) = mg (valL x.2.2.1) ∧ valL x.2.1 < Pq.bp 32 ∧ valL x.2.2.1 < Pq.bp 32 ∧ valL x.2.2.1 ≠ 0) (.ret (.tup [.agg (ck cF (rOf (Rat.divInt (Pq.zv x.1 (valL x.2.1)) (valL x.2.2.1 : Nat)))), aB true])), ⟨con_prat, rfl, rfl, rfl⟩⟩
noncomputable def ONw : Opt EPG.con := ⟨[pcNeg, pcOf, pcRat], [], fun _ => none⟩
def noR : T Av := .ret (.tup [.agg (ck cF (zE cF)), aB false])
def ratT (b : Bool) (l r : List Int) : T Av := .need (l = mg (valL l) ∧ r = mg (valL r) ∧ valL l < Pq.bp 32 ∧ valL r < Pq.bp 32 ∧ valL r ≠ 0) (.ret (.tup [.agg (ck cF (rOf (Rat.divInt (Pq.zv b (valL l)) (valL r : Nat)))), aB true]))
def nwTree (x y : W) : T Av := .ite (!isW x) noR (.ite (!isW y) noR (.ite (decide ((Pq.bitn x.2.1 : Int) > 1023)) noR (.ite (decide ((Pq.bitn y.2.1 : Int) > 1023)) noR (.ite (decide ((Pq.bitn y.2.1 : Int) = 0)) noR
  (ratT ((x.1 && decide (x.2.1 ≠ 0)) != (y.1 && decide (y.2.1 ≠ 0))) (mg x.2.1) (mg y.2.1))))))
theorem tr_nw_eq (x y : W) : fnPC ONw EPG (fun _ => none) Tryz.f17 (encs [(true, cW), (true, cW)] (x, y, ())) = nwTree x y := by kernel_rfl
def smN (n : Int) : Prop := 1 ≤ n ∧ n ≤ 1000000
theorem sm_big {n : Int} (h : smN n) : n.natAbs < 2 ^ 20 := by
  obtain ⟨h1, h2⟩ := h
  have : (2 : Nat) ^ 20 = 1048576 := by decide
  omega
theorem sm_bp {n : Int} (h : smN n) : n.natAbs < Pq.bp 32 := (big_b (pow_to (j := 20) (k := 1001) (sm_big h) (by decide))).1
theorem sm_w {n : Int} (h : smN n) : wOf n = (false, ⟨n.natAbs, sm_bp h⟩) := by
  have : decide (n < 0) = false := decide_eq_false (by have := h.1; omega)
  unfold wOf
  rw [dif_pos (sm_bp h), this]
theorem nw_ok {n d : Int} (hn : smN n) (hd : smN d) : (nwTree (wOf n) (wOf d)).wp (· = .tup [.agg (ck cF (rOf (Rat.divInt n d))), aB true]) := by
  have z1 : isW (wOf n) = true := isW_pos (by rw [zW_wOf (sm_bp hn)]; have := hn.1; omega)
  have z2 : isW (wOf d) = true := isW_pos (by rw [zW_wOf (sm_bp hd)]; have := hd.1; omega)
  have b1 := Pq.bitn_le.2 (sm_big hn)
  have b2 := Pq.bitn_le.2 (sm_big hd)
  have b3 : Pq.bitn d.natAbs ≠ 0 := fun e => by
    have := Pq.bitn_eq0.1 e
    have := hd.1
    omega
  have l1 := sm_bp hn
  have l2 := sm_bp hd
  have e1 : Pq.zv false n.natAbs = n := by
    unfold Pq.zv
    have := hn.1
    simp
    omega
  have e2 : ((d.natAbs : Nat) : Int) = d := by have := hd.1; omega
  unfold nwTree
  refine itf (by rw [z1]; rfl) (itf (by rw [z2]; rfl) ?_)
  rw [sm_w hn, sm_w hd]
  refine itf (decide_eq_false ?_) (itf (decide_eq_false ?_) (itf (decide_eq_false ?_) ?_))
  · show ¬ ((Pq.bitn n.natAbs : Int) > 1023); omega
  · show ¬ ((Pq.bitn d.natAbs : Int) > 1023); omega
  · show ¬ ((Pq.bitn d.natAbs : Int) = 0); omega
  · show (ratT false (mg n.natAbs) (mg d.natAbs)).wp _
    unfold ratT
    rw [val_mg, val_mg, e1, e2]
    exact ned ⟨rfl, rfl, l1, l2, by have := hd.1; omega⟩ rfl
noncomputable def con_ptNew : Con Tryz.prog := ⟨17, [], _, cf_ptNew, con_okC (O := ONw) (E := EPG) (L := fun _ => none) rfl mixed Tryz.func17 no_loops [(true, cW), (true, cW)]
  (fun x => .need (∃ n d, smN n ∧ smN d ∧ x.1 = wOf n ∧ x.2.1 = wOf d) (.ret (.tup [.agg (ck cF (rOf (Rat.divInt (zW x.1) (zW x.2.1)))), aB true]))) fun x Q hq => by
  obtain ⟨a, b, u⟩ := x
  obtain ⟨⟨n, d, hn, hd, h1, h2⟩, hq⟩ := hq
  have h1 : a = wOf n := h1
  have h2 : b = wOf d := h2
  subst h1
  subst h2
  have hq : Q (.tup [.agg (ck cF (rOf (Rat.divInt (zW (wOf n)) (zW (wOf d))))), aB true]) := hq
  rw [zW_wOf (sm_bp hn), zW_wOf (sm_bp hd)] at hq
  exact ⟨_, tr_nw_eq _ _, T.wp_mono (fun v hv => by rw [hv]; exact hq) (nw_ok hn hd)⟩⟩
noncomputable def EPQ : Env Tryz.prog := EPG.add [con_ptNew]
def nwPre (x y : W) : Prop := ∃ n d, smN n ∧ smN d ∧ x = wOf n ∧ y = wOf d
def ofT (n d : Int) : T Av := .need (in64 n) (.need (in64 d) (.need (nwPre (wOf n) (wOf d)) (.ret (.tup [.agg (ck cF (rOf (Rat.divInt (zW (wOf n)) (zW (wOf d))))), aB true]))))
noncomputable def OQ : Opt EPQ.con := ⟨[], [], fun _ => none⟩
theorem tr_ptOf_eq (n d : Int) : fnPC OQ EPQ (fun _ => none) Tryz.f7 (encs [(false, .int .i64), (false, .int .i64)] (n, d, ())) = ofT n d := by kernel_rfl
theorem in64_sm {n : Int} (h : smN n) : in64 n := by
  obtain ⟨h1, h2⟩ := h
  unfold in64
  omega
theorem ptOf_ok {n d : Int} (hn : smN n) (hd : smN d) : (ofT n d).wp (· = .tup [.agg (ck cF (rOf (Rat.divInt n d))), aB true]) := by
  unfold ofT
  rw [zW_wOf (sm_bp hn), zW_wOf (sm_bp hd)]
  exact ned (in64_sm hn) (ned (in64_sm hd) (ned ⟨n, d, hn, hd, rfl, rfl⟩ rfl))
noncomputable def con_ptOf : Con Tryz.prog := ⟨7, [], _, cf_ptOf, val_conC (O := OQ) (E := EPQ) (L := fun _ => none) rfl mixed Tryz.func7 no_loops [(false, .int .i64), (false, .int .i64)]
  (fun x => smN x.1 ∧ smN x.2.1) (fun x => .tup [.agg (ck cF (rOf (Rat.divInt x.1 x.2.1))), aB true]) (fun x => ofT x.1 x.2.1) (fun x => tr_ptOf_eq x.1 x.2.1) fun x h => ptOf_ok h.1 h.2⟩
noncomputable def OG : Opt EPG.con := ⟨[], [], fun _ => none⟩
theorem tr_ptAt_eq (x y : Int) : fnPC OG EPG (fun _ => none) Tryz.f5 (encs [(false, .int .i64), (false, .int .i64)] (x, y, ())) = .need (in64 x) (.need (in64 y) (.ret (.agg (ck cP (pI x y))))) := by kernel_rfl
noncomputable def con_ptAt : Con Tryz.prog := ⟨5, [], _, cf_ptAt, val_conC (O := OG) (E := EPG) (L := fun _ => none) rfl mixed Tryz.func5 no_loops [(false, .int .i64), (false, .int .i64)]
  (fun x => in64 x.1 ∧ in64 x.2.1) (fun x => .agg (ck cP (pI x.1 x.2.1))) (fun x => .need (in64 x.1) (.need (in64 x.2.1) (.ret (.agg (ck cP (pI x.1 x.2.1)))))) (fun x => tr_ptAt_eq x.1 x.2.1) fun x h => ned h.1 (ned h.2 rfl)⟩
/-! ### Print -/
def p1K (s : ByteArray) (n : Int) (K : ByteArray → T Av) : T Av := cat1 s ⟨#[32]⟩ fun v => .need (0 ≤ n ∧ n < 100) (cat1 v ⟨(Lib.decDigits n.toNat).toArray⟩ K)
def p2K (s : ByteArray) (f : F) (K : ByteArray → T Av) : T Av := cat1 s ⟨#[32]⟩ fun v => cat1 v (ftxt f) K
def prTree (n t e : Int) (ar le : F) (bl : Int) (lo sh : F) : T Av :=
  p1K ⟨#[110, 111, 100, 101, 115]⟩ n fun s0 => p1K ⟨#[116, 114, 105, 115]⟩ t fun s1 => p1K ⟨#[101, 100, 103, 101, 115]⟩ e fun s2 => p2K ⟨#[97, 114, 101, 97]⟩ ar fun s3 =>
  p2K ⟨#[108, 101, 97, 115, 116]⟩ le fun s4 => p1K ⟨#[98, 108, 117, 110, 116]⟩ bl fun s5 => p2K ⟨#[108, 111, 110, 103]⟩ lo fun s6 => p2K ⟨#[115, 104, 111, 114, 116]⟩ sh fun s7 =>
  .ret (.one (.ds .str [s0, s1, s2, s3, s4, s5, s6, s7]))
theorem tr_pr_eq (n t e : Int) (ar le : F) (bl : Int) (lo sh : F) : fnPC OPr EPP (fun _ => none) Tryz.f10 (encs [(true, cSt)] ((n, t, e, ar, le, bl, lo, sh), ())) = prTree n t e ar le bl lo sh := by kernel_rfl
theorem cat1_wp {a b : ByteArray} {K : ByteArray → T Av} {Q : Av → Prop} (h : a.size + b.size ≤ 100000) (hk : (K (a ++ b)).wp Q) : (cat1 a b K).wp Q := ⟨by
  show ((_ : Nat) : Int) ≤ 9223372036854775807
  omega, hk⟩
theorem p1K_wp {s : ByteArray} {n : Int} {K : ByteArray → T Av} {Q : Av → Prop} (hs : s.size ≤ 1000) (h0 : 0 ≤ n) (h9 : n < 100) (hd : ByteArray.size ⟨(Lib.decDigits n.toNat).toArray⟩ ≤ 1000) (h : (K (s ++ ⟨#[32]⟩ ++ ⟨(Lib.decDigits n.toNat).toArray⟩)).wp Q) : (p1K s n K).wp Q := by
  have e : (ByteArray.size ⟨#[(32 : UInt8)]⟩) = 1 := rfl
  exact cat1_wp (by rw [e]; omega) (ned ⟨h0, h9⟩ (cat1_wp (by rw [ByteArray.size_append, e]; omega) h))
theorem ftxt_size (f : F) : (ftxt f).size ≤ 3000 := by
  have h1 := txt_size f.1
  have h2 := txt_size f.2
  have e : (ByteArray.size ⟨#[(47 : UInt8)]⟩) = 1 := rfl
  unfold ftxt
  split
  · split
    · omega
    · rw [ByteArray.size_append, ByteArray.size_append, e]; omega
  · show 0 ≤ 3000; omega
theorem p2K_wp {s : ByteArray} {f : F} {K : ByteArray → T Av} {Q : Av → Prop} (hs : s.size ≤ 1000) (h : (K (s ++ ⟨#[32]⟩ ++ ftxt f)).wp Q) : (p2K s f K).wp Q := by
  have e : (ByteArray.size ⟨#[(32 : UInt8)]⟩) = 1 := rfl
  have := ftxt_size f
  exact cat1_wp (by rw [e]; omega) (cat1_wp (by rw [ByteArray.size_append, e]; omega) h)
def dgB (n : Int) : ByteArray := ⟨(Lib.decDigits n.toNat).toArray⟩
def prL : List ByteArray := [⟨#[110, 111, 100, 101, 115]⟩ ++ ⟨#[32]⟩ ++ dgB 3, ⟨#[116, 114, 105, 115]⟩ ++ ⟨#[32]⟩ ++ dgB 1, ⟨#[101, 100, 103, 101, 115]⟩ ++ ⟨#[32]⟩ ++ dgB 0, ⟨#[97, 114, 101, 97]⟩ ++ ⟨#[32]⟩ ++ ftxt (rOf (Rat.divInt (2 * 2) 2)),
  ⟨#[108, 101, 97, 115, 116]⟩ ++ ⟨#[32]⟩ ++ ftxt (rOf (Rat.divInt (min 2 2) (max 2 2))), ⟨#[98, 108, 117, 110, 116]⟩ ++ ⟨#[32]⟩ ++ dgB 1, ⟨#[108, 111, 110, 103]⟩ ++ ⟨#[32]⟩ ++ ftxt (rI (2 * 2 + 2 * 2)), ⟨#[115, 104, 111, 114, 116]⟩ ++ ⟨#[32]⟩ ++ ftxt (rI (min 2 2 * min 2 2))]
theorem pr_ok : (prTree 3 1 0 (rOf (Rat.divInt (2 * 2) 2)) (rOf (Rat.divInt (min 2 2) (max 2 2))) 1 (rI (2 * 2 + 2 * 2)) (rI (min 2 2 * min 2 2))).wp (· = .one (.ds .str prL)) := by
  unfold prTree
  exact p1K_wp (by decide) (by decide) (by decide) (Nat.le_of_ble_eq_true (by kernel_rfl)) (p1K_wp (by decide) (by decide) (by decide) (Nat.le_of_ble_eq_true (by kernel_rfl)) (p1K_wp (by decide) (by decide) (by decide) (Nat.le_of_ble_eq_true (by kernel_rfl)) (p2K_wp (by decide) (p2K_wp (by decide)
    (p1K_wp (by decide) (by decide) (by decide) (Nat.le_of_ble_eq_true (by kernel_rfl)) (p2K_wp (by decide) (p2K_wp (by decide) rfl)))))))
noncomputable def con_pr : Con Tryz.prog := ⟨10, [], _, cf_sprint, con_okC (O := OPr) (E := EPP) (L := fun _ => none) rfl mixed Tryz.func10 no_loops [(true, cSt)]
  (fun x => .need (x.1 = stR 2 2) (.ret (.one (.ds .str prL)))) fun x Q hq => by
  obtain ⟨a, u⟩ := x
  obtain ⟨h1, hq⟩ := hq
  have h1 : a = stR 2 2 := h1
  subst h1
  exact ⟨_, tr_pr_eq _ _ _ _ _ _ _ _, T.wp_mono (fun v hv => by rw [hv]; exact hq) pr_ok⟩⟩
end Go.Proofs.YtokgbcachcmeaaaGreatDoor
/-
StatRights' known: it tells true.
-/
set_option linter.unusedSimpArgs false
set_option linter.unusedVariables false
namespace Go.Proofs.YtokgbcachcmeaaaGreatDoor
open Go.RowKit Ax
theorem cf_knR (xs : Array Value) (w : World) : (callFunc 4 xs).run Tryz.prog w = .ok (.enter 4 xs) w := by kernel_rfl
noncomputable def EKn0 : Env Tryz.prog := EPH.add [con_shk, con_pr, con_ptAt]
noncomputable def EKn : Env Tryz.prog := ⟨EKn0.con, EKn0.zero, codStr :: EKn0.cod, fun id => id == 6, EKn0.base, EKn0.frz⟩
noncomputable def pcWhK : PCon EKn.con := ⟨9, [(false, .int .i64)], fun x => .need (in64 x.1) (.ret (.agg (ck cF (wOf x.1, wOf 1)))), ⟨con_pwhole, rfl, rfl, rfl⟩⟩
noncomputable def pcShK : PCon EKn.con := ⟨8, [(true, cMe), (false, .sl cF)], shkSp, ⟨con_shk, rfl, rfl, rfl⟩⟩
noncomputable def OKn : Opt EKn.con := ⟨[pcWhK, pcShK], [], fcs []⟩
def mK : El cMe := ([pI 0 0, pI 0 2, pI 2 0], [((0 : Int), (2 : Int), (1 : Int))], [])
noncomputable def stK : El cSt := stR (legs mK).1 (legs mK).2
def qK (c : Bool) (K : T Av) : T Av := .need (c = true) K
noncomputable def knE (st : El cSt) (K : T Av) : T Av := qK true (qK (decide (st.1 = 3)) (qK (decide (st.2.1 = 1)) (.need (in64 2) (qK (decide (st.2.2.2.1 = rI 2)) (.need (in64 1) (qK (decide (st.2.2.2.2.1 = rI 1)) (qK (decide (st.2.2.2.2.2.1 = 1))
  (.need (in64 8) (qK (decide (st.2.2.2.2.2.2.1 = rI 8)) (.need (in64 4) (qK (decide (st.2.2.2.2.2.2.2 = rI 4)) (qK (!false) K))))))))))))
noncomputable def knF (p : List ByteArray) (h : List Int) : T Av := qK (decide ((List.length p : Int) = 8)) ((.get p 3 fun v => qK (v.toList == (ByteArray.mk #[97, 114, 101, 97, 32, 50]).toList)
  (qK (decide ((List.length h : Int) = 2)) ((.get h 0 fun a => qK (decide (a = 2)) ((.get h 1 fun a => .ret (aB (decide (a = 0))))))))))
noncomputable def knT : T Av := T.need (in64 0 ∧ in64 0) (.need (in64 0 ∧ in64 2) (.need (in64 2 ∧ in64 0) (.need (isRT mK) (.need (noM = noM) (.need (stK = stR 2 2) (.need (in64 2) (.need (in64 1) (.need (mK = rtM 0 0 2 2 ∧ [rI 2, rI 1] = [rI 2, rI 1]) (knE stK (knF prL [2, 0]))))))))))
theorem tr_kn_eq : fnPC OKn EKn (fun _ => none) Tryz.f4 (encs [] ()) = knT := by kernel_rfl
theorem mK_eq : mK = rtM 0 0 2 2 := by
  unfold mK rtM triM
  rw [Int.zero_add]
theorem stK_eq : stK = stR 2 2 := by
  unfold stK
  rw [mK_eq, legs_rt rt_kn]
theorem qK_wp {c : Bool} {K : T Av} {Q : Av → Prop} (hc : c = true) (h : K.wp Q) : (qK c K).wp Q := ⟨hc, h⟩
theorem whole_eq (z : Int) : rOf (Rat.divInt z 1) = rI z := by
  have e := Rat.num_divInt_den ((z : Int) : Rat)
  rw [Rat.num_intCast, Rat.den_intCast] at e
  unfold rI
  rw [← e]
  rfl
theorem ar_eq : rOf (Rat.divInt (2 * 2) 2) = rI 2 := by
  have e : Rat.divInt (2 * 2) (1 * 2) = Rat.divInt 2 1 := Rat.divInt_mul_right (by decide)
  rw [← whole_eq, ← e]
  rfl
theorem le_eq : rOf (Rat.divInt (min 2 2) (max 2 2)) = rI 1 := by
  have e : Rat.divInt (1 * 2) (1 * 2) = Rat.divInt 1 1 := Rat.divInt_mul_right (by decide)
  rw [← whole_eq, ← e]
  rfl
theorem ftxt_2 : ftxt (rI 2) = ⟨#[50]⟩ := by
  have h1 : okF (rI 2) = true := decide_eq_true (rI_s5 sI_2).2.2
  have h2 : zW (rI 2).2 = 1 := zW_wOf (z := 1) (sm_bp ⟨by decide, by decide⟩)
  have h3 : (rI 2).1 = (false, ⟨2, sm_bp (n := 2) ⟨by decide, by decide⟩⟩) := sm_w (n := 2) ⟨by decide, by decide⟩
  have h4 : dg 2 = [50] := by
    rw [dg_pos (by decide)]
    show (48 + ((2 % 10 : Nat) : Int)) :: dg 0 = _
    rw [dg_zero]
    rfl
  unfold ftxt
  rw [if_pos h1, if_pos h2, h3]
  unfold txt
  rw [if_neg (by decide)]
  show bytesOf ((dg 2 ++ []).reverse) = _
  rw [h4]
  rfl
theorem knE_ok {K : T Av} {Q : Av → Prop} (h : K.wp Q) : (knE (stR 2 2) K).wp Q := by
  unfold knE
  exact qK_wp rfl (qK_wp rfl (qK_wp rfl (ned ⟨by decide, by decide⟩ (qK_wp (decide_eq_true ar_eq) (ned ⟨by decide, by decide⟩ (qK_wp (decide_eq_true le_eq) (qK_wp rfl
    (ned ⟨by decide, by decide⟩ (qK_wp (decide_eq_true rfl) (ned ⟨by decide, by decide⟩ (qK_wp (decide_eq_true rfl) (qK_wp rfl h))))))))))))
theorem knF_ok : (knF prL [2, 0]).wp (· = aB true) := by
  unfold knF
  refine qK_wp rfl (get_wp (v := ⟨#[97, 114, 101, 97]⟩ ++ ⟨#[32]⟩ ++ ftxt (rOf (Rat.divInt (2 * 2) 2))) (by decide) rfl (qK_wp ?_ (qK_wp rfl (get_wp (v := 2) (by decide) rfl (qK_wp rfl (get_wp (v := 0) (by decide) rfl rfl))))))
  rw [ar_eq, ftxt_2]
  kernel_rfl
theorem kn_ok : knT.wp (· = aB true) := by
  unfold knT
  rw [stK_eq]
  exact ned ⟨⟨by decide, by decide⟩, ⟨by decide, by decide⟩⟩ (ned ⟨⟨by decide, by decide⟩, ⟨by decide, by decide⟩⟩ (ned ⟨⟨by decide, by decide⟩, ⟨by decide, by decide⟩⟩ (ned ⟨0, 0, 2, 2, rt_kn, mK_eq⟩ (ned rfl (ned rfl
    (ned ⟨by decide, by decide⟩ (ned ⟨by decide, by decide⟩ (ned ⟨mK_eq, rfl⟩ (knE_ok knF_ok)))))))))
noncomputable def con_knR : Con Tryz.prog := ⟨4, [], _, cf_knR, val_conC (O := OKn) (E := EKn) (L := fun _ => none) rfl mixed Tryz.func4 no_loops [] (fun _ => True) (fun _ => aB true) (fun _ => knT) (fun _ => tr_kn_eq) fun _ _ => kn_ok⟩
end Go.Proofs.YtokgbcachcmeaaaGreatDoor
/-
StatRights: its tree, its proof.
-/
set_option linter.unusedSimpArgs false
set_option linter.unusedVariables false
namespace Go.Proofs.YtokgbcachcmeaaaGreatDoor
open Go.RowKit Ax
noncomputable def ELn0 : Env Tryz.prog := EPH.add [con_shl, con_knR, con_ptAt, con_ptOf]
noncomputable def ELn : Env Tryz.prog := ⟨ELn0.con, ELn0.zero, ELn0.cod, fun id => id == 9, ELn0.base, ELn0.frz⟩
noncomputable def pcWhL : PCon ELn.con := ⟨9, [(false, .int .i64)], fun x => .need (in64 x.1) (.ret (.agg (ck cF (wOf x.1, wOf 1)))), ⟨con_pwhole, rfl, rfl, rfl⟩⟩
noncomputable def pcShL : PCon ELn.con := ⟨8, [(true, cMe), (false, .sl cF)], shlSp, ⟨con_shl, rfl, rfl, rfl⟩⟩
noncomputable def OLn : Opt ELn.con := ⟨[pcWhL, pcShL], [], fcs [(20, false)]⟩
def mL (x y xa yb : Int) : El cMe := ([pI x y, pI x yb, pI xa y], [((0 : Int), (2 : Int), (1 : Int))], [])
def shPre (m : El cMe) (l : List F) : Prop := ∃ x0 y a b, RT x0 y a b ∧ m = rtM x0 y a b ∧ l = [smQ a b, rI 300]
def eqFF (v x : F) : Bool := v.1.1 == x.1.1 && (v.1.2.1 == x.1.2.1 && true) && (v.2.1 == x.2.1 && (v.2.2.1 == x.2.2.1 && true) && true)
def mn (A B : Int) : Int := if B < A then B else A
def mx (A B : Int) : Int := if A < B then B else A
noncomputable def lawG (m m2 : Int) (st : El cSt) (h : List Int) : T Av := .need (in64 (IntKind.wrap .i64 (m * m2))) (qK (eqFF st.2.2.2.2.2.2.2 (rI (IntKind.wrap .i64 (m * m2))))
  (qK (decide ((List.length h : Int) = 2)) (.get h 0 fun a => qK (decide (a = 0)) (.get h 1 fun a => .ret (aB (decide (a = 2)))))))
noncomputable def lawE (A B : Int) (st : El cSt) (ar le : F) (h : List Int) : T Av := qK true (qK (eqFF st.2.2.2.1 ar) (qK (eqFF st.2.2.2.2.1 le) (qK (decide (st.2.2.2.2.2.1 = 1))
  (.need (in64 (IntKind.wrap .i64 (IntKind.wrap .i64 (A * A) + IntKind.wrap .i64 (B * B)))) (qK (eqFF st.2.2.2.2.2.2.1 (rI (IntKind.wrap .i64 (IntKind.wrap .i64 (A * A) + IntKind.wrap .i64 (B * B)))))
  (.and (.lt (mn A B) fun m => .lt (mn A B) fun m2 => lawG m m2 st h) (.lt (mn A B) fun m2 => .lt (mn A B) fun m => lawG m m2 st h)))))))
noncomputable def lawM (x y A B xa yb : Int) : T Av := .need (in64 x ∧ in64 y) (.need (in64 x ∧ in64 yb) (.need (in64 xa ∧ in64 y) (.need (isRT (mL x y xa yb)) (.need (smN (IntKind.wrap .i64 (A * B)) ∧ smN 2) (.lt (mn A B) fun m => .lt (mx A B) fun M => .need (smN m ∧ smN M) (.need (in64 300)
  (.need (shPre (mL x y xa yb) [rOf (Rat.divInt m M), rI 300]) (lawE A B (stR (legs (mL x y xa yb)).1 (legs (mL x y xa yb)).2) (rOf (Rat.divInt (IntKind.wrap .i64 (A * B)) 2)) (rOf (Rat.divInt m M)) [0, 2]))))))))
def u6 (z : Int) : Int := IntKind.wrap .i64 z
noncomputable def lawT (a b x y : Int) : T Av := .need True (.need ((!true) = false) (lawM (u6 x) (u6 y) (u6 (u6 a + 1)) (u6 (u6 b + 1)) (u6 (u6 x + u6 (u6 a + 1))) (u6 (u6 y + u6 (u6 b + 1)))))
theorem tr_law_eq (a b x y : Int) : fnPC OLn ELn (fun _ => none) Tryz.f3 (encs [(false, .int .u8), (false, .int .u8), (false, .int .u8), (false, .int .u8)] (a, b, x, y, ())) = lawT a b x y := by kernel_rfl
theorem eqFF_self (f : F) : eqFF f f = true := by unfold eqFF; simp
theorem mn_eq (A B : Int) : mn A B = min A B := by unfold mn; split <;> omega
theorem mx_eq (A B : Int) : mx A B = max A B := by unfold mx; split <;> omega
theorem in_of {z : Int} (h : -1000000 ≤ z) (h2 : z ≤ 1000000) : in64 z := by unfold in64; omega
theorem lawG_ok {A B : Int} (ha : 1 ≤ A ∧ A ≤ 256) (hb : 1 ≤ B ∧ B ≤ 256) : (lawG (min A B) (min A B) (stR A B) [0, 2]).wp (· = aB true) := by
  have hm : 1 ≤ min A B ∧ min A B ≤ 256 := by omega
  have h := rt_mul hm hm
  unfold lawG
  rw [IntWalk.i64_in (min A B * min A B) (by omega)]
  exact ned (in_of (by omega) (by omega)) (qK_wp (eqFF_self _) (qK_wp rfl (get_wp (v := 0) (by decide) rfl (qK_wp rfl (get_wp (v := 2) (by decide) rfl rfl)))))
theorem lawE_ok {A B : Int} (ha : 1 ≤ A ∧ A ≤ 256) (hb : 1 ≤ B ∧ B ≤ 256) : (lawE A B (stR A B) (rOf (Rat.divInt (A * B) 2)) (rOf (Rat.divInt (min A B) (max A B))) [0, 2]).wp (· = aB true) := by
  have h1 := rt_mul ha ha
  have h2 := rt_mul hb hb
  have hg := lawG_ok ha hb
  unfold lawE
  rw [IntWalk.i64_in (A * A) (by omega), IntWalk.i64_in (B * B) (by omega), IntWalk.i64_in (A * A + B * B) (by omega), mn_eq]
  exact qK_wp rfl (qK_wp (eqFF_self _) (qK_wp (eqFF_self _) (qK_wp rfl (ned (in_of (by omega) (by omega)) (qK_wp (eqFF_self _) ⟨hg, hg⟩)))))
theorem lawM_ok {x y A B : Int} (h : RT x y A B) : (lawM x y A B (x + A) (y + B)).wp (· = aB true) := by
  have ha : 1 ≤ A ∧ A ≤ 256 := ⟨h.a0, h.a1⟩
  have hb : 1 ≤ B ∧ B ≤ 256 := ⟨h.b0, h.b1⟩
  have hx0 := h.x0
  have hx1 := h.x1
  have hy0 := h.y0
  have hy1 := h.y1
  have hab := rt_mul ha hb
  have hE := lawE_ok ha hb
  have em : mL x y (x + A) (y + B) = rtM x y A B := rfl
  have ix : in64 x := in_of (by omega) (by omega)
  have iy : in64 y := in_of (by omega) (by omega)
  unfold lawM
  rw [em, legs_rt h, IntWalk.i64_in (A * B) (by omega), mn_eq, mx_eq]
  refine ned ⟨ix, iy⟩ (ned ⟨ix, in_of (by omega) (by omega)⟩ (ned ⟨in_of (by omega) (by omega), iy⟩ (ned ⟨x, y, A, B, h, rfl⟩ (ned ⟨⟨by omega, by omega⟩, ⟨by decide, by decide⟩⟩ ?_))))
  exact ned ⟨⟨by omega, by omega⟩, ⟨by omega, by omega⟩⟩ (ned (in_of (by decide) (by decide)) (ned ⟨x, y, A, B, h, rfl, rfl⟩ hE))
theorem law_ok {a b x y : Int} (ha : 0 ≤ a ∧ a ≤ 255) (hb : 0 ≤ b ∧ b ≤ 255) (hx : 0 ≤ x ∧ x ≤ 255) (hy : 0 ≤ y ∧ y ≤ 255) : (lawT a b x y).wp (· = aB true) := by
  unfold lawT u6
  rw [IntWalk.i64_in a (by omega), IntWalk.i64_in b (by omega), IntWalk.i64_in x (by omega), IntWalk.i64_in y (by omega), IntWalk.i64_in (a + 1) (by omega), IntWalk.i64_in (b + 1) (by omega), IntWalk.i64_in (x + (a + 1)) (by omega), IntWalk.i64_in (y + (b + 1)) (by omega)]
  exact ned trivial (ned rfl (lawM_ok ⟨hx.1, hx.2, hy.1, hy.2, by omega, by omega, by omega, by omega⟩))
theorem law_run {a b x y : Int} (ha : 0 ≤ a ∧ a ≤ 255) (hb : 0 ≤ b ∧ b ≤ 255) (hx : 0 ≤ x ∧ x ≤ 255) (hy : 0 ≤ y ∧ y ≤ 255) : (fnP ELn (fun _ => none) Tryz.f3 (encs [(false, .int .u8), (false, .int .u8), (false, .int .u8), (false, .int .u8)] (a, b, x, y, ()))).wp (· = aB true) := fnPC_of (O := OLn) rfl (tr_law_eq a b x y) (law_ok ha hb hx hy)
end Go.Proofs.YtokgbcachcmeaaaGreatDoor
/-
Arguments out of their readings; a law's row out of its contract.
-/
set_option linter.unusedSimpArgs false
set_option linter.unusedVariables false
namespace Ax
open Go Go.RowKit Go.ChangeShapes Go.WideShapes
def Fit : (c : Cd) → El c → Prop
  | .int k, z => (Lit.int k z).wf = true
  | .bool, _ => True
  | .str, s => s.size ≤ maxLen
  | .words, _ => True
  | .unit, _ => True
  | .pair a b, x => Fit a x.1 ∧ Fit b x.2
  | .sl c, xs => xs.length ≤ maxLen ∧ ∀ x ∈ xs, Fit c x
  | .ptr c, x => Fit c x

abbrev Rw (w : World) : Nat → Prop := fun b => b < w.heap.size

structure Opens (P : Program) (t : TypeId) (c : Cd) : Prop where
  size : P.cellsOf t = csz c
  ok : ∀ {H : Type} (enc : TypeId × Value → H) (w : World) (fuel : Nat) (cs : List Value) (x : DataW H × List MemPlace),
    DataW.trod enc P w 0 (fun _ => true) true fuel t cs = some x → ∃ y : El c, Fit c y ∧ Is w (Rw w) [] (ck c y) cs

section
variable {P : Program}
theorem opens_int {t : TypeId} {k : IntKind} (hu : P.underlying t = some (.int k)) (hs : P.cellsOf t = 1) : Opens P t (.int k) :=
  ⟨hs, fun enc w fuel cs x h => by
    obtain ⟨n, rfl, rfl, hw⟩ := DataW.trod_int hu h
    exact ⟨n, hw, .v rfl .nil⟩⟩




/-! ### a call's arguments -/
def aggT (P : Program) (t : TypeId) : Option Bool := match P.underlying t with
  | some (.struct _) | some (.array _ _) => some true
  | some .bool | some (.int _) | some .string | some (.slice _) | some (.pointer _) => some false
  | _ => none
def OpensAll (P : Program) : List TypeId → List (Bool × Cd) → Prop
  | [], [] => True
  | t :: ts, c :: cs => Opens P t c.2 ∧ aggT P t = some c.1 ∧ OpensAll P ts cs
  | _, _ => False
def FitA : (ts : List (Bool × Cd)) → Els ts → Prop
  | [], _ => True
  | t :: ts, x => Fit t.2 x.1 ∧ FitA ts x.2

theorem single_cells {w : World} {r : Reach} {base : Nat} {t : TypeId} {v : Value} (ha : aggT P t = some false) (h : Value.okWide P w r base t v) : v.cells.toList = [v] := by
  unfold aggT at ha
  unfold Value.okWide at h
  cases hu : P.underlying t with
  | none => simp [hu] at ha
  | some u =>
    cases u <;> simp [hu] at ha h
    all_goals
      unfold Cell.okWide Cell.ok at h
      cases v <;> simp_all [Value.cells]
theorem agg_cells {w : World} {r : Reach} {base : Nat} {t : TypeId} {v : Value} (ha : aggT P t = some true) (h : Value.okWide P w r base t v) : ∃ us : List Value, v = .agg us.toArray ∧ v.cells.toList = us := by
  unfold aggT at ha
  unfold Value.okWide at h
  cases hu : P.underlying t with
  | none => simp [hu] at ha
  | some u =>
    cases u <;> simp [hu] at ha h
    all_goals
      obtain ⟨cs, rfl, _⟩ := h
      exact ⟨cs.toList, by simp, by simp [Value.cells]⟩
theorem is_one {w : World} {R : Nat → Prop} {σ : List Nat} {l : List Ck} {us : List Value} (h : Is w R σ l us) (h1 : us.length = 1) (hc : ∀ k ∈ l, 0 < k.size) : ∃ k, l = [k] ∧ k.size = 1 := by
  match l, h with
  | [], h => cases h; simp at h1
  | k :: r, h =>
    obtain ⟨ua, ub, rfl, e, i1, i2⟩ := h.head
    have hk := hc k (by simp)
    rw [List.length_append] at h1
    have hub : ub = [] := List.length_eq_zero_iff.1 (by omega)
    subst hub
    match r, i2 with
    | [], _ => exact ⟨k, rfl, by simp at h1; omega⟩
    | k2 :: r2, i2 =>
      obtain ⟨uc, ud, e1, e2, _, _⟩ := i2.head
      have := hc k2 (by simp)
      have : uc = [] := by
        have := congrArg List.length e1
        rw [List.length_append] at this
        exact List.length_eq_zero_iff.1 (by simp at this; omega)
      subst this
      simp at e2
      omega
theorem ck_size : ∀ (c : Cd) (x : El c), ∀ k ∈ ck c x, 0 < k.size
  | .int k, x, k', h => by simp [ck] at h; subst h; simp [Ck.size]
  | .bool, x, k', h => by simp [ck] at h; subst h; simp [Ck.size]
  | .str, x, k', h => by simp [ck] at h; subst h; simp [Ck.size]
  | .words, x, k', h => by simp [ck] at h; subst h; simp [Ck.size]
  | .unit, x, k', h => by simp [ck] at h
  | .pair a b, x, k', h => by
    simp only [ck, List.mem_append] at h
    rcases h with h | h
    · exact ck_size a _ _ h
    · exact ck_size b _ _ h
  | .sl c, x, k', h => by simp [ck] at h; subst h; simp [Ck.size]
  | .ptr c, x, k', h => by simp [ck] at h; subst h; simp [Ck.size]

theorem arg_is {H : Type} {enc : TypeId × Value → H} {w : World} {r : Reach} {base : Nat} {t : TypeId} {b : Bool} {c : Cd} {v : Value} {d : DataW H} {p : List MemPlace} (hO : Opens P t c) (ha : aggT P t = some b)
    (hv : Value.okWide P w r base t v) (h : DataW.Trod enc P w 0 (fun _ => true) true t v d p) : ∃ y : El c, Fit c y ∧ AvIs w (Rw w) [] (encA b c y) v := by
  obtain ⟨fuel, hf⟩ := h
  obtain ⟨y, h1, h2⟩ := hO.ok enc w fuel _ _ hf
  refine ⟨y, h1, ?_⟩
  cases b with
  | true =>
    obtain ⟨us, rfl, e⟩ := agg_cells ha hv
    rw [e] at h2
    exact .agg h2
  | false =>
    have e := single_cells ha hv
    rw [e] at h2
    obtain ⟨k, hk, hs⟩ := is_one h2 rfl (ck_size c y)
    unfold encA
    simp only [hk] at h2 ⊢
    exact .one hs h2
theorem args_are {H : Type} {enc : TypeId × Value → H} {w : World} {r : Reach} {base : Nat} : ∀ (ts : List (Bool × Cd)) (tys : List TypeId) (vs : List Value) (ds : List (DataW H)) (p : List MemPlace), OpensAll P tys ts →
    DataW.TrodAll enc P w 0 (fun _ => true) true tys vs ds p → (∀ (j : Nat) t v, tys[j]? = some t → vs[j]? = some v → Value.okWide P w r base t v) →
    ∃ x : Els ts, FitA ts x ∧ vs.length = (encs ts x).length ∧ (∀ (i : Nat) a v, (encs ts x)[i]? = some a → vs[i]? = some v → AvIs w (Rw w) [] a v)
  | [], [], vs, ds, p, _, h, _ => by
    obtain ⟨rfl, rfl, rfl⟩ := trodAll_nil h
    exact ⟨(), trivial, rfl, fun i a v h1 => by simp [encs] at h1⟩
  | [], _ :: _, _, _, _, hO, _, _ => hO.elim
  | _ :: _, [], _, _, _, hO, _, _ => hO.elim
  | c :: ts, t :: tys, vs, ds, p, hO, h, hv => by
    obtain ⟨v, vs1, d, ds1, a, b, rfl, rfl, rfl, h1, h2⟩ := trodAll_cons h
    obtain ⟨o1, o2, o3⟩ := hO
    obtain ⟨y, f1, i1⟩ := arg_is o1 o2 (hv 0 t v rfl rfl) h1
    obtain ⟨x, f2, hl, i2⟩ := args_are ts tys vs1 ds1 b o3 h2 (fun j t' v' ht hv' => hv (j + 1) t' v' (by simpa using ht) (by simpa using hv'))
    refine ⟨(y, x), ⟨f1, f2⟩, by simp [encs, hl], fun i a' v' ha' hv' => ?_⟩
    rcases i with _ | i
    · cases ha'; cases hv'; exact i1
    · exact i2 i a' v' (by simpa [encs] using ha') (by simpa using hv')

theorem trod_stays {H : Type} {enc : TypeId × Value → H} {W W' : World} (hl : laidOutB P = true) (hb : Below W.heap.size W W') : ∀ (tys : List TypeId) (vs : List Value) (ds : List (DataW H)) (p : List MemPlace), (∀ t ∈ tys, P.readableRec t = true ∧ t < P.types.size) →
    DataW.TrodAll enc P W 0 (fun _ => true) true tys vs ds p → (∀ x ∈ p, x.block < W.heap.size) → DataW.TrodAll enc P W' 0 (fun b => decide (b < W.heap.size)) true tys vs ds p
  | [], vs, ds, p, _, h, _ => by
    obtain ⟨rfl, rfl, rfl⟩ := trodAll_nil h
    exact trodAll_mk0
  | t :: tys, vs, ds, p, ht, h, hp => by
    obtain ⟨v, vs1, d, ds1, a, b, rfl, rfl, rfl, h1, h2⟩ := trodAll_cons h
    exact trodAll_cons_mk (Below.trod hl (ht t (by simp)).1 (ht t (by simp)).2 h1 hb (fun x hx => hp x (by simp [hx])))
      (trod_stays hl hb tys vs1 ds1 b (fun t' h' => ht t' (by simp [h'])) h2 (fun x hx => hp x (by simp [hx])))
theorem law_post {E : Env P} {L : Loops} {f : FuncId} {fn : Func} {H : Type} {enc : TypeId × Value → H} {s : ChangeSpec} {tb : TypeId} {W : World} {base : Nat} {args : Array Value} {ds gs : List (DataW H)} {before : List MemPlace}
    (hm : P.follows .mixedOrders = true) (hf : P.funcs[f]? = some fn) (hL : ∀ c, fn.body = some c → LoopsOk P 0 L c) (hlaid : laidOutB P = true) (ts : List (Bool × Cd))
    (hrun : ∀ x : Els ts, FitA ts x → (fnP E L fn (encs ts x)).wp fun av => av = .one (.v (.bool true)))
    (tys : List TypeId) (hty : fn.params.toList = tys) (hO : OpensAll P tys ts) (hread : ∀ t ∈ tys, P.readableRec t = true ∧ t < P.types.size) (hres : fn.resultTypes = #[tb]) (hub : P.underlying tb = some .bool)
    (hvars : s.vars = []) (hspec : ∀ ds : List (DataW H), ds.length = tys.length → s.fn H ds = { results := [.lit (.bool true)], args := ds })
    (hval : ∀ (j : Nat) t v, fn.params[j]? = some t → args[j]? = some v → Value.okWide P W .any base t v) (hW : DataW.Whole enc P fn.params.toList s.vars false W args.toList ds gs before) (hgl : GlobAt W (Ro W [] [])) :
    Calls P f args W fun e W' => ∃ v, e = .returned v ∧ s.post enc P fn false true false false W args v W' := by
  have hW' := hW
  obtain ⟨p, q, hA, hV, rfl, hfz, hnd⟩ := hW
  rw [hvars] at hV
  obtain ⟨rfl, rfl⟩ := trodVars_none hV
  rw [hty] at hA
  obtain ⟨x, hfit, hlen, hargs⟩ := args_are (r := .any) (base := base) ts tys args.toList ds p hO hA (fun j t v ht hv => hval j t v (by rw [← hty] at ht; simpa using ht) (by simpa using hv))
  have hdl : ds.length = tys.length := by
    have : ∀ (tys : List TypeId) (vs : List Value) (ds : List (DataW H)) (p : List MemPlace), DataW.TrodAll enc P W 0 (fun _ => true) true tys vs ds p → ds.length = tys.length := by
      intro tys
      induction tys with
      | nil => intro vs ds p h; obtain ⟨rfl, rfl, rfl⟩ := trodAll_nil h; rfl
      | cons t tys ih =>
        intro vs ds p h
        obtain ⟨v, vs1, d, ds1, a, b, rfl, rfl, rfl, h1, h2⟩ := trodAll_cons h
        simp [ih _ _ _ h2]
    exact this _ _ _ _ hA
  have hmem0 : MemOk W [] [] [] := ⟨rfl, by simp, by simp, hgl, fun i t cs b h1 h2 => by simp at h1⟩
  have hro : ∀ b, Rw W b → Ro W [] [] b := fun b hb => ⟨hb, by simp, by simp⟩
  have hw := fnP_wp (hrun x hfit)
  have hcall := fn_ok (E := E) (L := L) (w := W) (φ := []) (σ := []) hm hf hL (Nat.zero_le _) hmem0 hlen (fun i a v h1 h2 => (hargs i a v h1 h2).ro hro []) hw
  have hargsE : args.toList.toArray = args := by simp
  rw [hargsE] at hcall
  refine hcall.mono fun e W' hr => ?_
  obtain ⟨v, av, m', σ', rfl, ⟨hQ, hno⟩, hext, hkeep, hav, hmem'⟩ := hr
  have hv : v = .bool true := by
    have := nA_is hav
    rw [hQ] at this
    exact val_of this rfl
  subst hv
  have hb := hkeep.below
  have hps : ∀ y ∈ p, y.block < W.heap.size := fun y hy => by simpa using hW'.lt y (by simp [hy])
  have hst := trod_stays (enc := enc) hlaid hb tys args.toList ds p hread hA hps
  refine ⟨_, rfl, ds, [], p ++ [], [], p, [], hW', ?_, ?_, ?_, hb.frame _, fun h => by cases h⟩
  · rw [List.append_nil, hspec ds hdl, hres]
    exact trodAll_mk1 (shut_bool hub true)
  · rw [List.append_nil, hspec ds hdl, hty]
    exact hst
  · rw [List.append_nil, hspec ds hdl, hvars]
    rfl
end
end Ax
/-
A law's row that lists package-level variables: what the library reads of them; the wrap that hands on the world's shape.
-/
set_option linter.unusedSimpArgs false
set_option linter.unusedVariables false
namespace Ax
open Go Go.RowKit Go.ChangeShapes Go.WideShapes
theorem handed_laid {H : Type} {enc : TypeId × Value → H} {a : Assume} {C : Checked} {os : Os} {f : FuncId} {fn : Func} {s : ChangeSpec} {conds : List PathCond} {apart fresh handsOn again : Bool} {laid : List (String × DataW Unit)}
    (own : ownKnob C.prog.godebug = none) (started : os.Started) (noInit : C.prog.inits.idxOf? f = none) (hfn : C.prog.funcs[f]? = some fn)
    (witness : ∃ (w : World) (tape : Tape) (i : Input), w.os = os ∧ (w.forCall tape i).Shaped C.prog ∧ i.vars = [] ∧ Input.okWide C.prog (w.forCall tape i) .any w.heap.size f i ∧
      ((s.pre enc C.prog fn conds apart (w.forCall tape i).memory i.args ∧ laidMetH C.prog laid (w.forCall tape i).memory) ∧ sizedMet enc C.prog fn (OpenSpec.ofChange s) apart (w.forCall tape i).memory i.args) ∧ a.holds C.prog (lone (Frame.enter C.prog f i.args .normal) [] (w.forCall tape i)))
    (contract : ∀ (W : World) (base : Nat) (args : Array Value) (ds gs : List (DataW H)) (before : List MemPlace),
      (∀ (j : Nat) t v, fn.params[j]? = some t → args[j]? = some v → Value.okWide C.prog W .any base t v) →
      DataW.Whole enc C.prog fn.params.toList s.vars apart W args.toList ds gs before → laidMetH C.prog laid W → W.ShapedOpen C.prog →
      Calls C.prog f args W fun e W' => ∃ v, e = .returned v ∧ s.post enc C.prog fn apart fresh handsOn again W args v W') :
    ReturnsInHanded a C os f .any (fun w args => (s.pre enc C.prog fn conds apart w args ∧ laidMetH C.prog laid w) ∧ sizedMet enc C.prog fn (OpenSpec.ofChange s) apart w args) (s.post enc C.prog fn apart fresh handsOn again) := by
  refine returnsInHanded_of_calls own started noInit witness ?_
  intro w tape i _ hsh _ hok hpre hholds
  obtain ⟨_, _, _, fn', hfn', _, _, _, _, hval⟩ := hok
  have e : fn' = fn := Option.some.inj (hfn'.symm.trans hfn)
  subst e
  obtain ⟨⟨⟨ds, gs, before, hw, hc⟩, hx⟩, hz⟩ := hpre
  have hw' := DataW.Whole.of_heap (w' := w.forCall tape i) (by rfl) hw
  refine (contract (w.forCall tape i) w.heap.size i.args ds gs before hval hw' (hx.of_heap (by rfl)) hsh).mono fun e W' ⟨v, he, hp⟩ => ?_
  subst he
  exact ChangeSpec.post_blind hp
theorem cells_of_var {P : Program} {W : World} {n : String} {g : Nat} {cs : Array Value} (h : W.var? P n = some cs) (hg : P.globalNamed n = some g) : ∃ t z, W.heap[g]? = some (.cells cs t z) := by
  unfold World.var? at h
  rw [hg] at h
  simp only [Option.bind_some] at h
  split at h
  · rename_i c t z hh
    cases h
    exact ⟨t, z, hh⟩
  · cases h
theorem reads_tab {P : Program} {W : World} {n : String} {k : IntKind} {zs : List Int} {g ti te m : Nat} (h : Lib.VarReads P W n (Lib.tabData k zs)) (hg : P.globalNamed n = some g) (ht : (P.globals[g]?).map (·.type) = some ti) (hu : P.underlying ti = some (.array m te)) (he : P.underlying te = some (.int k)) (hce : P.cellsOf te = 1) (hct : P.cellsOf ti = m) :
    ∃ cs t z, W.heap[g]? = some (.cells cs t z) ∧ cs = (zs.map fun z => Value.int k z).toArray := by
  obtain ⟨g', t', cs, fuel, p, hg', ht', hv, hd⟩ := h
  obtain rfl := Option.some.inj (hg.symm.trans hg')
  obtain rfl := Option.some.inj (ht.symm.trans ht')
  obtain ⟨t, z, hh⟩ := cells_of_var hv hg
  refine ⟨cs, t, z, hh, ?_⟩
  rw [← Lib.cells_of_tab hu he hce hct hd]
end Ax
/-
StatRights: what its row wants of the program.
-/
set_option linter.unusedSimpArgs false
set_option linter.unusedVariables false
namespace Go.Proofs.YtokgbcachcmeaaaGreatDoor
open Go.ChangeShapes Go.WideShapes Go.ChangeAt Go.RowKit Ax
theorem own : ownKnob Tryz.prog.godebug = none := by kernel_rfl
theorem laidOut : laidOutB Tryz.prog = true := by kernel_rfl
abbrev laidL : List (String × DataW Unit) := Rows.statRightsRow.laid
theorem glob_laid {W : World} (h : laidMetH Tryz.prog laidL W) (hs : W.ShapedOpen Tryz.prog) : GlobAt W (Ro W [] []) := by
  rw [MakeChecks.laidMetH_plain _ _ _ (by kernel_rfl)] at h
  have hro : ∀ (g : Nat) cs t z, W.heap[g]? = some (.cells cs t z) → Ro W [] [] g := fun g cs t z hh => ⟨(Array.getElem?_eq_some_iff.1 hh).1, by simp, by simp⟩
  intro f hf g hg
  unfold gfacts at hf
  simp only [List.mem_cons, List.not_mem_nil, or_false] at hf
  have fin : (∃ cs t z, W.heap[g]? = some (.cells cs t z) ∧ f.2 cs) → Ro W [] [] g ∧ ∃ cs t z, W.heap[g]? = some (.cells cs t z) ∧ f.2 cs := fun ⟨cs, t, z, h1, h2⟩ => ⟨hro g cs t z h1, cs, t, z, h1, h2⟩
  refine fin ?_
  rcases hf with rfl | rfl | rfl | rfl
  · have e : Tryz.prog.globalNamed "strconv.ErrSyntax" = none := by kernel_rfl
    cases e.symm.trans hg
  · have e : Tryz.prog.globalNamed "strconv.ErrRange" = none := by kernel_rfl
    cases e.symm.trans hg
  · have e : Tryz.prog.globalNamed "internal/bytealg.MaxLen" = none := by kernel_rfl
    cases e.symm.trans hg
  · have e : Tryz.prog.globalNamed "internal/strconv.uint64pow10" = some 0 := by kernel_rfl
    obtain rfl := Option.some.inj (e.symm.trans hg)
    exact reads_tab (zs := Lib.pow10Tab) (ti := 171) (te := 87) (m := 20) (Lib.laidMet.reads h (n := "internal/strconv.uint64pow10") (d := Rows.laid_internal_strconv_uint64pow10) (.tail _ (.tail _ (.head _)))) e (by kernel_rfl) (by kernel_rfl) (by kernel_rfl) (by kernel_rfl) (by kernel_rfl)
theorem o_u8 : Opens Tryz.prog 5 (.int .u8) := opens_int (by kernel_rfl) (by kernel_rfl)
theorem fit_u8 {z : Int} (h : (Lit.int .u8 z).wf = true) : 0 ≤ z ∧ z ≤ 255 := by simpa [Lit.wf, IntKind.min, IntKind.max, IntKind.signed, IntKind.bits] using h
theorem laid_wit (os : Os) (args : Array Value) : laidMetH Tryz.prog laidL ((World.laidAll Tryz.prog os laidL).forCall (fun _ _ => 0) ⟨#[], args, []⟩).memory := by
  rw [MakeChecks.laidMetH_plain _ _ _ (by kernel_rfl)]
  exact laidMet_laidAll _ (by kernel_rfl) (by kernel_rfl)
end Go.Proofs.YtokgbcachcmeaaaGreatDoor
