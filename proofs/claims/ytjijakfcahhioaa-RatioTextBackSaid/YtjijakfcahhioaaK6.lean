import Derived.Test.YtjijakfcahhioaaK5
/-
A decimal's text, read back; plain.
-/
set_option linter.unusedSimpArgs false
set_option linter.unusedVariables false
namespace Go.Proofs.Ytjijakfcahhioaa
open Go.RowKit Ax
def isDig (c : UInt8) : Prop := 48 ≤ (c.toNat : Int) ∧ (c.toNat : Int) ≤ 57
/-- the number that digits tell, behind v -/
def dv (v : Int) (l : List UInt8) : Int := l.foldl (fun v c => v * 10 + ((c.toNat : Int) - 48)) v
theorem dv_app (v : Int) (l k : List UInt8) : dv v (l ++ k) = dv (dv v l) k := by unfold dv; rw [List.foldl_append]
theorem scn_digits : ∀ (l r : List UInt8) (i v a : Int) (n : Bool), (∀ c ∈ l, isDig c) → scn (l ++ r) i v a n = scn r (i + l.length) (dv v l) a n
  | [], r, i, v, a, n, _ => by simp [dv]
  | c :: l, r, i, v, a, n, h => by
    have hc : isDig c := h c (by simp)
    unfold isDig at hc
    rw [List.cons_append, scn, if_neg (by omega), if_neg (by omega), if_pos hc, scn_digits l r _ _ a n (fun c' h' => h c' (by simp [h']))]
    simp only [List.length_cons, dv, List.foldl_cons]
    congr 1
    omega
theorem dg_byte {x : Nat} : ∀ z ∈ dg x, 48 ≤ z ∧ z ≤ 57 := by
  induction x using Nat.strongRecOn with
  | ind x ih =>
    intro z hz
    by_cases h : x = 0
    · rw [h, dg_zero] at hz; cases hz
    · rw [dg_pos h] at hz
      rcases List.mem_cons.1 hz with rfl | hz
      · omega
      · exact ih (x / 10) (Nat.div_lt_self (by omega) (by omega)) z hz
def byt (z : Int) : UInt8 := UInt8.ofNat z.toNat
theorem byt_nat {z : Int} (h : 0 ≤ z ∧ z < 256) : ((byt z).toNat : Int) = z := by
  unfold byt
  rw [UInt8.toNat_ofNat_of_lt' (by simp; omega)]
  omega
theorem dv_dg (x : Nat) : dv 0 ((dg x).reverse.map byt) = x := by
  induction x using Nat.strongRecOn with
  | ind x ih =>
    by_cases h : x = 0
    · rw [h, dg_zero]; rfl
    · rw [dg_pos h, List.reverse_cons, List.map_append, dv_app, ih (x / 10) (Nat.div_lt_self (by omega) (by omega))]
      simp only [List.map_cons, List.map_nil, dv, List.foldl_cons, List.foldl_nil]
      rw [byt_nat (by omega)]
      omega
theorem txt_list {z : Int} (h0 : 0 ≤ z) (hz : z.natAbs < Pq.bp 32) : (txt (wOf z)).data.toList = if z = 0 then [48] else (dg z.toNat).reverse.map byt := by
  have e : wOf z = (decide (z < 0), ⟨z.natAbs, hz⟩) := by unfold wOf; rw [dif_pos hz]
  rw [e]
  unfold txt
  by_cases h : z = 0
  · subst h; rfl
  · rw [if_neg (show ¬ z.natAbs = 0 by omega), if_neg h, if_neg (by simpa using h0), List.append_nil]
    have e2 : z.natAbs = z.toNat := by omega
    show ((dg z.natAbs).reverse.map fun z => UInt8.ofNat z.toNat).toArray.toList = _
    rw [e2]
    rfl
theorem txt_dig {z : Int} (h0 : 0 ≤ z) (hz : z.natAbs < Pq.bp 32) : (∀ c ∈ (txt (wOf z)).data.toList, isDig c) ∧ dv 0 (txt (wOf z)).data.toList = z := by
  rw [txt_list h0 hz]
  by_cases h : z = 0
  · subst h
    rw [if_pos rfl]
    exact ⟨fun c hc => by rw [List.mem_singleton] at hc; subst hc; unfold isDig; decide, by decide⟩
  · rw [if_neg h]
    refine ⟨fun c hc => ?_, ?_⟩
    · obtain ⟨y, hy, rfl⟩ := List.mem_map.1 hc
      have := dg_byte y (List.mem_reverse.1 hy)
      unfold isDig
      rw [byt_nat (by omega)]; omega
    · rw [dv_dg]; omega
theorem dv_zeros (n : Nat) : dv 0 (List.replicate n 48) = 0 := by
  induction n with
  | zero => rfl
  | succ n ih => rw [List.replicate_succ]; exact ih
theorem pad_dig {z k : Int} (h0 : 0 ≤ z) (hz : z.natAbs < Pq.bp 32) : (∀ c ∈ (padS k (txt (wOf z))).data.toList, isDig c) ∧ dv 0 (padS k (txt (wOf z))).data.toList = z ∧ k + 1 ≤ ((padS k (txt (wOf z))).data.toList.length : Int) := by
  obtain ⟨h1, h2⟩ := txt_dig h0 hz
  have e : (padS k (txt (wOf z))).data.toList = List.replicate (k + 1 - (txt (wOf z)).size).toNat 48 ++ (txt (wOf z)).data.toList := by unfold padS; simp
  rw [e]
  refine ⟨fun c hc => ?_, ?_, ?_⟩
  · rcases List.mem_append.1 hc with hc | hc
    · rw [List.eq_of_mem_replicate hc]; unfold isDig; decide
    · exact h1 c hc
  · rw [dv_app, dv_zeros, h2]
  · rw [List.length_append, List.length_replicate]
    have : (txt (wOf z)).size = (txt (wOf z)).data.toList.length := by rw [Array.length_toList]; rfl
    omega
theorem point_list {k : Int} {s : ByteArray} (hk : 0 < k) (hs : k < s.size) : (pointS k s).data.toList = s.data.toList.take (s.size - k.toNat) ++ 46 :: s.data.toList.drop (s.size - k.toNat) := by
  have hsz : s.size = s.data.toList.length := by rw [Array.length_toList]; rfl
  unfold pointS
  rw [if_pos hk]
  simp only [ByteArray.data_append, ByteArray.data_extract, Array.toList_append, Array.toList_extract, List.extract_eq_take_drop]
  rw [show ((s.size : Int) - k).toNat = s.size - k.toNat from by omega]
  simp only [Nat.sub_zero, List.drop_zero, List.append_assoc]
  congr 1
  show [46] ++ _ = _
  rw [List.singleton_append, List.take_of_length_le (by rw [List.length_drop]; omega)]
/-- the text of a decimal, read -/
theorem scn_dec {z k nz : Int} (h0 : 0 ≤ z) (hz : z.natAbs < Pq.bp 32) (hk : 0 ≤ k) : ∃ a : Int, scn (decS z k nz).data.toList 0 0 (-1) false = some (z, a, decide (nz < 0 ∧ z ≠ 0)) ∧
    (k = 0 → a = -1) ∧ (0 < k → 0 ≤ a ∧ ((decS z k nz).size : Int) - a - 1 = k) := by
  obtain ⟨h1, h2, h3⟩ := pad_dig (k := k) h0 hz
  unfold decS
  generalize padS k (txt (wOf z)) = s at *
  have hsz : s.size = s.data.toList.length := by rw [Array.length_toList]; rfl
  have body : ∀ (i : Int) (n : Bool), 0 ≤ i → ∃ a : Int, scn (pointS k s).data.toList i 0 (-1) n = some (z, a, n) ∧ (k = 0 → a = -1) ∧ (0 < k → a = i + (s.size - k)) := fun i n hi => by
    by_cases hk0 : k = 0
    · subst hk0
      refine ⟨-1, ?_, fun _ => rfl, fun h => by omega⟩
      have e : pointS 0 s = s := by unfold pointS; rw [if_neg (by omega)]
      rw [e, ← List.append_nil s.data.toList, scn_digits _ _ _ _ _ _ h1, h2]
      rfl
    · refine ⟨i + (s.size - k), ?_, fun h => absurd h hk0, fun _ => rfl⟩
      rw [point_list (by omega) (by omega), scn_digits _ _ _ _ _ _ (fun c hc => h1 c (List.mem_of_mem_take hc))]
      rw [scn, if_neg (fun h => absurd h.1 (by decide)), if_pos ⟨by decide, by omega⟩]
      rw [← List.append_nil (s.data.toList.drop _), scn_digits _ _ _ _ _ _ (fun c hc => h1 c (List.mem_of_mem_drop hc)), ← dv_app, List.take_append_drop, h2]
      rw [scn, List.length_take]
      congr 3
      omega
  have hp : (pointS k s).size = s.size + if 0 < k then 1 else 0 := by
    by_cases hk0 : 0 < k
    · have e := congrArg List.length (point_list hk0 (s := s) (by omega))
      rw [Array.length_toList] at e
      rw [if_pos hk0]
      show (pointS k s).data.size = _
      rw [e]
      simp
      omega
    · rw [if_neg hk0]; unfold pointS; rw [if_neg hk0]; rfl
  by_cases hn : nz < 0 ∧ z ≠ 0
  · rw [decide_eq_true hn]
    obtain ⟨a, e1, e2, e3⟩ := body 1 true (by omega)
    have el : (signS true (pointS k s)).data.toList = 45 :: (pointS k s).data.toList := by
      unfold signS; simp
    have es : (signS true (pointS k s)).size = 1 + (pointS k s).size := by
      have := congrArg List.length el
      rw [Array.length_toList] at this
      show (signS true (pointS k s)).data.size = _
      rw [this, List.length_cons, Array.length_toList]
      show (pointS k s).size + 1 = _
      omega
    refine ⟨a, ?_, e2, fun h => ?_⟩
    · rw [el, scn, if_pos ⟨by decide, rfl⟩]
      exact e1
    · rw [es, hp, if_pos h, e3 h]; omega
  · rw [decide_eq_false hn]
    obtain ⟨a, e1, e2, e3⟩ := body 0 false (by omega)
    have el : signS false (pointS k s) = pointS k s := by unfold signS; simp
    rw [el]
    refine ⟨a, e1, e2, fun h => ?_⟩
    rw [hp, if_pos h, e3 h]; omega
theorem dec_size {z k nz : Int} (h0 : 0 ≤ z) (hz : z < 10000000000000000000) (hk : 0 ≤ k) (hk9 : k ≤ 9) : (decS z k nz).size ≤ 100 := by
  have hb : z.natAbs < Pq.bp 32 := Nat.lt_of_lt_of_le (show z.natAbs < 2 ^ 64 by show z.natAbs < 18446744073709551616; omega) (bp_ge (k := 64) 1024 rfl (by decide))
  have ht : (txt (wOf z)).size ≤ 65 := by
    have hsz : (txt (wOf z)).size = (txt (wOf z)).data.toList.length := by rw [Array.length_toList]; rfl
    rw [hsz, txt_list h0 hb]
    split
    · simp
    · rw [List.length_map, List.length_reverse]
      have := dg_len (n := 64) (x := z.toNat) (by show z.toNat < 18446744073709551616; omega)
      omega
  have hp := padS_size k (txt (wOf z))
  have hpt : (pointS k (padS k (txt (wOf z)))).size ≤ (padS k (txt (wOf z))).size + 1 := by
    unfold pointS
    split
    · rw [ByteArray.size_append, ByteArray.size_append, ByteArray.size_extract, ByteArray.size_extract]
      have : ByteArray.size (⟨#[46]⟩ : ByteArray) = 1 := rfl
      omega
    · omega
  unfold decS
  generalize pointS k (padS k (txt (wOf z))) = u at *
  have hs : (signS (decide (nz < 0 ∧ z ≠ 0)) u).size ≤ u.size + 1 := by
    unfold signS
    split
    · rw [ByteArray.size_append]
      have : ByteArray.size (⟨#[45]⟩ : ByteArray) = 1 := rfl
      omega
    · omega
  omega
end Go.Proofs.Ytjijakfcahhioaa
/-
Numbers' texts, parsed back; plain.
-/
set_option linter.unusedSimpArgs false
set_option linter.unusedVariables false
namespace Go.Proofs.Ytjijakfcahhioaa
open Go.RowKit Ax
theorem dv_le : ∀ (l : List UInt8) (v : Int), 0 ≤ v → (∀ c ∈ l, isDig c) → v ≤ dv v l
  | [], v, _, _ => Int.le_refl _
  | c :: r, v, h0, h => by
    have hc : isDig c := h c (by simp)
    unfold isDig at hc
    have := dv_le r (v * 10 + ((c.toNat : Int) - 48)) (by omega) (fun x hx => h x (by simp [hx]))
    have e : dv v (c :: r) = dv (v * 10 + ((c.toNat : Int) - 48)) r := rfl
    rw [e]; omega
theorem fits_le {a b : Int} (h0 : 0 ≤ a) (hab : a ≤ b) (h : Pq.fits b = true) : Pq.fits a = true := by
  unfold Pq.fits at h ⊢
  have := of_decide_eq_true h
  exact decide_eq_true (by omega)
theorem parD_dv : ∀ (l : List UInt8) (v : Int), 0 ≤ v → (∀ c ∈ l, isDig c) → Pq.fits (dv v l) = true → parD v l = (true, dv v l)
  | [], v, _, _, _ => rfl
  | c :: r, v, h0, h, hf => by
    have hc : isDig c := h c (by simp)
    unfold isDig at hc
    have hr : ∀ x ∈ r, isDig x := fun x hx => h x (by simp [hx])
    have e : dv v (c :: r) = dv (v * 10 + ((c.toNat : Int) - 48)) r := rfl
    rw [e] at hf ⊢
    have hle := dv_le r (v * 10 + ((c.toNat : Int) - 48)) (by omega) hr
    rw [parD, if_neg (by omega), if_pos ⟨fits_le (by omega) (show v * 10 ≤ _ by omega) hf, fits_le (by omega) hle hf⟩]
    exact parD_dv r _ (by omega) hr hf
theorem parD_bad : ∀ (l r : List UInt8) (v : Int), (parD v (l ++ 47 :: r)).1 = false
  | [], r, v => by rw [List.nil_append, parD, if_pos (by decide)]
  | c :: l, r, v => by
    rw [List.cons_append, parD]
    split
    · rfl
    · split
      · exact parD_bad l r _
      · rfl
theorem dg_head {x : Nat} (h : x ≠ 0) : ∃ c r, (dg x).reverse = c :: r ∧ c ≠ 48 := by
  induction x using Nat.strongRecOn with
  | ind x ih =>
    rw [dg_pos h, List.reverse_cons]
    by_cases h0 : x / 10 = 0
    · rw [h0, dg_zero]
      exact ⟨_, [], rfl, by omega⟩
    · obtain ⟨c, r, e, hc⟩ := ih (x / 10) (Nat.div_lt_self (by omega) (by omega)) h0
      rw [e]
      exact ⟨c, r ++ [_], rfl, hc⟩
/-- the bytes of a number above 0 -/
theorem nat_text {x : Nat} (h : x ≠ 0) : ∃ c r, (dg x).reverse.map byt = c :: r ∧ (c.toNat : Int) ≠ 48 ∧ (∀ b ∈ c :: r, isDig b) ∧ dv 0 (c :: r) = x := by
  obtain ⟨c, r, e, hc⟩ := dg_head h
  have hd := dv_dg x
  have hb : ∀ y ∈ (dg x).reverse, 48 ≤ y ∧ y ≤ 57 := fun y hy => dg_byte y (List.mem_reverse.1 hy)
  rw [e] at hd hb ⊢
  have hcb := hb c (by simp)
  refine ⟨byt c, r.map byt, rfl, by rw [byt_nat (by omega)]; exact hc, fun b hbm => ?_, hd⟩
  obtain ⟨y, hy, rfl⟩ := List.mem_map.1 (show b ∈ (c :: r).map byt from hbm)
  have := hb y hy
  unfold isDig
  rw [byt_nat (by omega)]; omega
theorem wOf_neg_parts {z : Int} (hz : z.natAbs < Pq.bp 32) : wOf z = (decide (z < 0), ⟨z.natAbs, hz⟩) := by unfold wOf; rw [dif_pos hz]
theorem txt_bytes {z : Int} (hz : z.natAbs < Pq.bp 32) : (txt (wOf z)).data.toList = if z = 0 then [48] else (if z < 0 then [45] else []) ++ (dg z.natAbs).reverse.map byt := by
  rw [wOf_neg_parts hz]
  unfold txt
  by_cases h : z = 0
  · subst h; rfl
  · rw [if_neg (show ¬ z.natAbs = 0 by omega), if_neg h]
    unfold bytesOf
    by_cases hn : z < 0
    · rw [if_pos hn, decide_eq_true hn]
      simp only [if_true, List.reverse_append, List.reverse_cons, List.reverse_nil, List.nil_append]
      rfl
    · rw [if_neg hn, decide_eq_false hn]
      simp only [Bool.false_eq_true, if_false, List.append_nil, List.nil_append]
      rfl
theorem txt_noslash {z : Int} (hz : z.natAbs < Pq.bp 32) : ∀ c ∈ (txt (wOf z)).data.toList, c ≠ 47 := by
  rw [txt_bytes hz]
  intro c hc e
  subst e
  split at hc
  · revert hc; decide
  · rcases List.mem_append.1 hc with h | h
    · split at h
      · revert h; decide
      · cases h
    · obtain ⟨y, hy, e⟩ := List.mem_map.1 h
      have := dg_byte y (List.mem_reverse.1 hy)
      have hb := byt_nat (z := y) (by omega)
      rw [e] at hb
      have : (((47 : UInt8).toNat : Nat) : Int) = 47 := rfl
      omega
theorem txt_short {z : Int} (hz : z.natAbs < 2 ^ 1000) : (txt (wOf z)).data.toList.length ≤ 310 := by
  have hb : z.natAbs < Pq.bp 32 := Nat.lt_of_lt_of_le hz (bp_ge (k := 1000) 1024 rfl (by decide))
  rw [txt_bytes hb]
  have key : ∀ {n x : Nat}, x < 10 ^ n → (dg x).length ≤ n := by
    intro n
    induction n with
    | zero => intro x h; rw [show x = 0 by simpa using h, dg_zero]; simp
    | succ n ih =>
      intro x h
      by_cases h0 : x = 0
      · rw [h0, dg_zero]; simp
      · rw [dg_pos h0, List.length_cons]
        have := ih (x := x / 10) (by rw [Nat.pow_succ] at h; omega)
        omega
  have h10 : z.natAbs < 10 ^ 302 := Nat.lt_of_lt_of_le hz (by decide +kernel)
  have := key h10
  split
  · simp
  · rw [List.length_append, List.length_map, List.length_reverse]
    split <;> simp <;> omega
/-- a number's text is parsed as it -/
theorem pz_txt {z : Int} (hz : z.natAbs < 2 ^ 1000) : pz (txt (wOf z)).data.toList = some z := by
  have hb : z.natAbs < Pq.bp 32 := Nat.lt_of_lt_of_le hz (bp_ge (k := 1000) 1024 rfl (by decide))
  have hlen := txt_short hz
  rw [txt_bytes hb] at hlen ⊢
  by_cases h : z = 0
  · subst h; rfl
  · rw [if_neg h] at hlen ⊢
    obtain ⟨c, r, e, hc, hd, hv⟩ := nat_text (x := z.natAbs) (by omega)
    rw [e] at hlen ⊢
    have hf : Pq.fits (dv 0 (c :: r)) = true := by rw [hv]; unfold Pq.fits; exact decide_eq_true (by omega)
    have hp := parD_dv (c :: r) 0 (by omega) hd hf
    have hcd : isDig c := hd c (by simp)
    unfold isDig at hcd
    by_cases hn : z < 0
    · rw [if_pos hn] at hlen ⊢
      show pz (45 :: c :: r) = some z
      rw [pz, if_pos (by decide), pzB, if_neg (by simp at hlen ⊢; omega)]
      show (if c.toNat = 48 ∧ _ then _ else _) = _
      rw [if_neg (by omega), hp, hv]
      simp; omega
    · rw [if_neg hn] at hlen ⊢
      show pz (c :: r) = some z
      rw [pz, if_neg (by omega), pzB, if_neg (by simp at hlen ⊢; omega)]
      rw [if_neg (by omega), hp, hv]
      simp; omega
/-- what has a slash within is no number -/
theorem pz_bad (l r : List UInt8) : pz (l ++ 47 :: r) = none := by
  have bad : ∀ (neg : Bool) (a d : List UInt8), (parD 0 d).1 = false → pzB neg a d = none := fun neg a d h => by
    unfold pzB
    split
    · rfl
    · split
      · rfl
      · split
        · rfl
        · rw [if_neg (by rw [h]; simp)]
  match l with
  | [] =>
    rw [List.nil_append, pz, if_neg (by decide)]
    exact bad _ _ _ (parD_bad [] r 0)
  | c :: l =>
    rw [List.cons_append, pz]
    split
    · exact bad _ _ _ (parD_bad l r 0)
    · exact bad _ _ _ (parD_bad (c :: l) r 0)
theorem slash_no : ∀ (l : List UInt8), (∀ c ∈ l, c ≠ 47) → Lib.indexByte l 47 = -1
  | [], _ => rfl
  | c :: r, h => by
    rw [Lib.indexByte, if_neg (by simpa using h c (by simp)), slash_no r (fun x hx => h x (by simp [hx]))]
    rfl
theorem slash_app : ∀ (l r : List UInt8), (∀ c ∈ l, c ≠ 47) → Lib.indexByte (l ++ 47 :: r) 47 = l.length
  | [], r, _ => rfl
  | c :: l, r, h => by
    rw [List.cons_append, Lib.indexByte, if_neg (by simpa using h c (by simp)), slash_app l r (fun x hx => h x (by simp [hx]))]
    have : ¬ (((l.length : Nat) : Int) == -1) = true := by rw [beq_iff_eq]; omega
    rw [if_neg this, List.length_cons]
    rfl
/-- a text cut at its first slash -/
theorem cut_app {s : ByteArray} {l r : List UInt8} (hs : s.data.toList = l ++ 47 :: r) (h : ∀ c ∈ l, c ≠ 47) : 0 ≤ slashAt s ∧ (cutA s).data.toList = l ∧ (cutB s).data.toList = r := by
  have e : slashAt s = l.length := by unfold slashAt; rw [hs]; exact slash_app l r h
  have hsz : s.size = (l ++ 47 :: r).length := by rw [← hs, Array.length_toList]; rfl
  refine ⟨by omega, ?_, ?_⟩
  · unfold cutA
    rw [if_pos (by omega), ext_list, hs, e, List.drop_zero, Int.toNat_natCast, List.take_left']
    rfl
  · unfold cutB
    rw [if_pos (by omega), ext_list, hs, e, hsz, List.take_length, show ((l.length : Int) + 1).toNat = l.length + 1 by omega]
    rw [show l ++ 47 :: r = (l ++ [47]) ++ r by simp, List.drop_left']
    simp
theorem cut_no {s : ByteArray} (h : ∀ c ∈ s.data.toList, c ≠ 47) : ¬ 0 ≤ slashAt s ∧ cutA s = s := by
  have e : slashAt s = -1 := slash_no _ h
  refine ⟨by omega, ?_⟩
  unfold cutA
  rw [if_neg (by omega)]
end Go.Proofs.Ytjijakfcahhioaa
/-
RatioTextBack, plain.
-/
set_option linter.unusedSimpArgs false
set_option linter.unusedVariables false
namespace Go.Proofs.Ytjijakfcahhioaa
open Go.RowKit Ax
theorem app_list (a b : ByteArray) : (a ++ b).data.toList = a.data.toList ++ b.data.toList := by rw [ByteArray.data_append, Array.toList_append]
theorem two_slash (a b : ByteArray) : (a ++ ⟨#[47]⟩ ++ b).data.toList = a.data.toList ++ 47 :: b.data.toList := by
  rw [app_list, app_list]
  show a.data.toList ++ [47] ++ b.data.toList = _
  rw [List.append_assoc]; rfl
theorem w_of {z : Int} {w : W} (h : zW w = z) (hw : isW w = true) : wOf z = w := by rw [← h]; exact wOf_zW hw
theorem pR_text {x : F} (h : OkF x) (h1 : (zW x.1).natAbs < 2 ^ 1000) (h2 : (zW x.2).natAbs < 2 ^ 1000) : pR (ftxt x) = some x := by
  have b1 : (zW x.1).natAbs < Pq.bp 32 := zW_lt _
  have b2 : (zW x.2).natAbs < Pq.bp 32 := zW_lt _
  have e1 : wOf (zW x.1) = x.1 := wOf_zW ((isW_iff _).2 h.1)
  have e2 : wOf (zW x.2) = x.2 := wOf_zW (isW_pos h.2.1)
  have n1 := txt_noslash b1
  have n2 := txt_noslash b2
  have p1 := pz_txt h1
  have p2 := pz_txt h2
  rw [e1] at n1 p1
  rw [e2] at n2 p2
  have hok : okF x = true := decide_eq_true h
  unfold ftxt
  rw [if_pos hok]
  by_cases hd : zW x.2 = 1
  · rw [if_pos hd]
    obtain ⟨c1, c2⟩ := cut_no n1
    have e3 : wOf 1 = x.2 := by rw [← hd]; exact e2
    unfold pR
    rw [c2, p1]
    show (if 0 ≤ slashAt (txt x.1) then _ else _) = _
    rw [if_neg c1, e1, e3]
    rw [if_pos hok]
  · rw [if_neg hd]
    obtain ⟨c1, c2, c3⟩ := cut_app (two_slash (txt x.1) (txt x.2)) n1
    unfold pR
    rw [c2, p1]
    show (if 0 ≤ slashAt _ then _ else _) = _
    rw [if_pos c1, c3, p2]
    show (if zW (wOf (zW x.2)) = 1 then _ else _) = _
    rw [e1, e2, if_neg hd]
    show (if okF (x.1, x.2) = true then _ else _) = _
    rw [if_pos hok]
theorem pR_times {n d : Int} (hn : n.natAbs < 2 ^ 1000) (hd : d.natAbs < 2 ^ 1000) {k : Int} (hk : 2 ≤ k) (dn : k ∣ n) (dd : k ∣ d) : pR (txt (wOf n) ++ ⟨#[47]⟩ ++ txt (wOf d)) = none := by
  have b1 : n.natAbs < Pq.bp 32 := Nat.lt_of_lt_of_le hn (bp_ge (k := 1000) 1024 rfl (by decide))
  have b2 : d.natAbs < Pq.bp 32 := Nat.lt_of_lt_of_le hd (bp_ge (k := 1000) 1024 rfl (by decide))
  obtain ⟨c1, c2, c3⟩ := cut_app (two_slash (txt (wOf n)) (txt (wOf d))) (txt_noslash b1)
  unfold pR
  rw [c2, pz_txt hn]
  show (if 0 ≤ slashAt _ then _ else _) = _
  rw [if_pos c1, c3, pz_txt hd]
  show (if zW (wOf d) = 1 then _ else _) = _
  have hbad : okF (wOf n, wOf d) = false := by
    refine decide_eq_false fun h => ?_
    have hg := h.2.2
    simp only [] at hg
    rw [zW_wOf b1, zW_wOf b2] at hg
    have h1 : k.natAbs ∣ Nat.gcd n.natAbs d.natAbs := Nat.dvd_gcd (Int.natAbs_dvd_natAbs.2 dn) (Int.natAbs_dvd_natAbs.2 dd)
    rw [hg] at h1
    have := Nat.le_of_dvd (by omega) h1
    omega
  rw [hbad]
  split <;> rfl
theorem pR_over {x : F} (h : OkF x) (h1 : (zW x.1).natAbs < 2 ^ 1000) : pR (ftxt x ++ ⟨#[47, 49]⟩) = none := by
  have b1 : (zW x.1).natAbs < Pq.bp 32 := zW_lt _
  have e1 : wOf (zW x.1) = x.1 := wOf_zW ((isW_iff _).2 h.1)
  have n1 := txt_noslash b1
  have p1 := pz_txt h1
  rw [e1] at n1 p1
  have hok : okF x = true := decide_eq_true h
  unfold ftxt
  rw [if_pos hok]
  have hlast : (⟨#[47, 49]⟩ : ByteArray).data.toList = [47, 49] := rfl
  by_cases hd : zW x.2 = 1
  · rw [if_pos hd]
    have hl : (txt x.1 ++ ⟨#[47, 49]⟩).data.toList = (txt x.1).data.toList ++ 47 :: [49] := by rw [app_list, hlast]
    obtain ⟨c1, c2, c3⟩ := cut_app hl n1
    unfold pR
    rw [c2, p1]
    show (if 0 ≤ slashAt _ then _ else _) = _
    rw [if_pos c1, c3]
    have : pz [49] = some 1 := by decide +kernel
    rw [this]
    show (if zW (wOf 1) = 1 then _ else _) = _
    rw [if_pos (zW_wOf (i64_lt (by omega) (by omega)))]
  · rw [if_neg hd]
    have hl : (txt x.1 ++ ⟨#[47]⟩ ++ txt x.2 ++ ⟨#[47, 49]⟩).data.toList = (txt x.1).data.toList ++ 47 :: ((txt x.2).data.toList ++ 47 :: [49]) := by
      rw [app_list, two_slash, hlast, List.append_assoc]; rfl
    obtain ⟨c1, c2, c3⟩ := cut_app hl n1
    unfold pR
    rw [c2, p1]
    show (if 0 ≤ slashAt _ then _ else _) = _
    rw [if_pos c1, c3, pz_bad]
theorem ltextback_wp (x : F) (g : Int) (hg : 0 ≤ g ∧ g ≤ 255) : (tr_ltextback (x, g, ())).wp fun av => av = .one (.v (.bool true)) := by
  unfold tr_ltextback
  simp only [T.wp]
  dsimp only [El]
  refine ⟨fun h => (by cases h), fun _ => ⟨fun _ => trivial, fun hs => ?_⟩⟩
  have hs : SafeF 400 x := safeF_iff.1 (by simpa using hs)
  obtain ⟨b1, b2, b3⟩ := safe_bk (k := 400) hs
  have t1 : (zW x.1).natAbs < 2 ^ 1000 := pow_to (j := 400) (k := 1000) b1 (by decide)
  have t2 : (zW x.2).natAbs < 2 ^ 1000 := pow_to (j := 400) (k := 1000) b2 (by decide)
  have ek : IntKind.i64.wrap (IntKind.i64.wrap g + 2) = g + 2 := by rw [w_i64 (z := g) (by omega), w_i64 (by omega)]
  have ik : in64 (g + 2) := ⟨by omega, by omega⟩
  have zk : zW (wOf (g + 2)) = g + 2 := zW_wOf (i64_lt (by omega) (by omega))
  rw [ek, zk]
  have hk9 : (g + 2).natAbs < 2 ^ 9 := by show _ < 512; omega
  have m1 : (zW x.1 * (g + 2)).natAbs < 2 ^ 1000 := pow_to (j := 409) (k := 1000) (pow_mul_ez (j := 400) (k := 9) (n := 409) rfl b1 hk9) (by decide)
  have m2 : (zW x.2 * (g + 2)).natAbs < 2 ^ 1000 := pow_to (j := 409) (k := 1000) (pow_mul_ez (j := 400) (k := 9) (n := 409) rfl b2 hk9) (by decide)
  have e1 := pR_text hs.2.2 t1 t2
  have e2 : pR (txt (wOf (zW x.1 * (g + 2))) ++ ⟨#[47]⟩ ++ txt (wOf (zW x.2 * (g + 2)))) = none := pR_times m1 m2 (k := g + 2) (by omega) (Int.dvd_mul_left _ _) (Int.dvd_mul_left _ _)
  have e3 := pR_over hs.2.2 t1
  have s1 := txt_size (wOf (zW x.1 * (g + 2)))
  have s2 := txt_size (wOf (zW x.2 * (g + 2)))
  have s3 := txt_size x.1
  have s4 := txt_size x.2
  have hft : ByteArray.size (ftxt x) ≤ 3000 := by
    unfold ftxt
    have c1 : ByteArray.size (⟨#[47]⟩ : ByteArray) = 1 := rfl
    have c0 : ByteArray.size (⟨#[]⟩ : ByteArray) = 0 := rfl
    split
    · split
      · omega
      · rw [ByteArray.size_append, ByteArray.size_append]; omega
    · omega
  have c1 : ByteArray.size (⟨#[47]⟩ : ByteArray) = 1 := rfl
  have c2 : ByteArray.size (⟨#[47, 49]⟩ : ByteArray) = 2 := rfl
  have i64m : IntKind.max .i64 = 9223372036854775807 := rfl
  rw [e1, e2, e3]
  clear b1 b2 t1 t2 m1 m2 hk9
  simp only [ByteArray.size_append, c1, c2, i64m, eqF]
  generalize ByteArray.size (ftxt x) = n0 at *
  generalize ByteArray.size (txt (wOf (zW x.1 * (g + 2)))) = n1 at *
  generalize ByteArray.size (txt (wOf (zW x.2 * (g + 2)))) = n2 at *
  refine ⟨by unfold lenOk; omega, fun _ => ⟨ik, ik, by omega, by omega, by unfold lenOk; omega, fun h => (by cases h), fun _ => ⟨by omega, by unfold lenOk; omega, fun h => (by cases h), fun _ => ⟨fun _ => ⟨fun _ => rfl, fun h => (by cases h)⟩, fun h => ?_⟩⟩⟩, fun h => (by cases h)⟩
  simp at h
end Go.Proofs.Ytjijakfcahhioaa
