import Derived.Test.YtjijakfcahhioaaGreatK4
/-
The reference: of.
-/
set_option linter.unusedSimpArgs false
set_option linter.unusedVariables false
namespace Go.Proofs.YtjijakfcahhioaaGreat
open Go.RowKit Ax
noncomputable def tr_pofL (x : RSpec.X spOf × RSpec.Y spOf × (List (El (RSpec.c spOf)) × Nat)) : T (RRd spOf) :=
 .ite (decide (x.1.1 < (32 : Int)))
  (.need ((0 : Int) ≤ x.1.1 ∧ x.1.1 < (↑(32 : Nat) : Int)) (.need (x.1.1 < (32 : Int)) (.need (List.length x.2.2.1 = List.length x.2.2.1 ∧ x.2.2.2 = x.2.2.2 ∧ (List.length x.2.2.1 + List.length [(↑(Pq.wd x.2.1.1.2.1 (Int.toNat x.1.1)) : Int)]) * (nat_lit 3 + (1 : Nat)) ≤ (140737488355328 : Nat) ∧ List.length x.2.2.1 + List.length [(↑(Pq.wd x.2.1.1.2.1 (Int.toNat x.1.1)) : Int)] ≤ Go.maxLen) (.and
      (.need (List.length x.2.2.1 + List.length [(↑(Pq.wd x.2.1.1.2.1 (Int.toNat x.1.1)) : Int)] = List.length (x.2.2.1 ++ [(↑(Pq.wd x.2.1.1.2.1 (Int.toNat x.1.1)) : Int)]) ∧ x.2.2.2 = x.2.2.2) (.ret (.again (IntKind.wrap .i64 (x.1.1 + (1 : Int)), ()) (x.2.1.1, ()) (some ((x.2.2.1 ++ [(↑(Pq.wd x.2.1.1.2.1 (Int.toNat x.1.1)) : Int)], x.2.2.2))))))
      (.up (List.length x.2.2.1 + List.length [(↑(Pq.wd x.2.1.1.2.1 (Int.toNat x.1.1)) : Int)]) (fun v0 =>
       .need (List.length x.2.2.1 + List.length [(↑(Pq.wd x.2.1.1.2.1 (Int.toNat x.1.1)) : Int)] = List.length (x.2.2.1 ++ [(↑(Pq.wd x.2.1.1.2.1 (Int.toNat x.1.1)) : Int)]) ∧ v0 = v0) (.ret (.again (IntKind.wrap .i64 (x.1.1 + (1 : Int)), ()) (x.2.1.1, ()) (some ((x.2.2.1 ++ [(↑(Pq.wd x.2.1.1.2.1 (Int.toNat x.1.1)) : Int)], v0)))))))))))
  (.need (List.length x.2.2.1 = List.length x.2.2.1 ∧ x.2.2.2 = x.2.2.2) (.ret (.out (Go.Exit.exit (0 : Nat)) [] (x.2.1.1, ()) (some x.2.2))))
theorem tr_pofL_eq (x : RSpec.X spOf × RSpec.Y spOf × (List (El (RSpec.c spOf)) × Nat)) : RSpec.round spOf E23 (fun _ => none) (bodyOf Tryz.f51 0) x.1 x.2.1 (some x.2.2) = tr_pofL x := by kernel_rfl
noncomputable def tr_pofL0 (x : RSpec.X spOf × RSpec.Y spOf) : T (RRd spOf) :=
 .ite (decide (x.1.1 < (32 : Int)))
  (.need ((0 : Int) ≤ x.1.1 ∧ x.1.1 < (↑(32 : Nat) : Int)) (.need (x.1.1 < (32 : Int)) (.need (List.length [(↑(Pq.wd x.2.1.2.1 (Int.toNat x.1.1)) : Int)] * (nat_lit 3 + (1 : Nat)) ≤ (140737488355328 : Nat) ∧ List.length [(↑(Pq.wd x.2.1.2.1 (Int.toNat x.1.1)) : Int)] ≤ Go.maxLen) (.up (List.length [(↑(Pq.wd x.2.1.2.1 (Int.toNat x.1.1)) : Int)]) (fun v0 =>
      .need (List.length [(↑(Pq.wd x.2.1.2.1 (Int.toNat x.1.1)) : Int)] = List.length [(↑(Pq.wd x.2.1.2.1 (Int.toNat x.1.1)) : Int)] ∧ v0 = v0) (.ret (.again (IntKind.wrap .i64 (x.1.1 + (1 : Int)), ()) (x.2.1, ()) (some (([(↑(Pq.wd x.2.1.2.1 (Int.toNat x.1.1)) : Int)], v0))))))))))
  (.need (True) (.ret (.out (Go.Exit.exit (0 : Nat)) [] (x.2.1, ()) none)))
theorem tr_pofL0_eq (x : RSpec.X spOf × RSpec.Y spOf) : RSpec.round spOf E23 (fun _ => none) (bodyOf Tryz.f51 0) x.1 x.2 none = tr_pofL0 x := by kernel_rfl
def wfrom (x i : Nat) : List Int := (List.range (32 - i)).map fun j => ((Pq.wd x (i + j) : Nat) : Int)
theorem wfrom_step (x : Nat) {i : Nat} (h : i < 32) : wfrom x i = ((Pq.wd x i : Nat) : Int) :: wfrom x (i + 1) := by
  unfold wfrom
  rw [show 32 - i = (32 - (i + 1)) + 1 by omega, List.range_succ_eq_map, List.map_cons, List.map_map, Nat.add_zero]
  congr 1
  refine List.map_congr_left fun j _ => ?_
  simp only [Function.comp]
  rw [show i + j.succ = i + 1 + j by omega]
theorem wfrom_end (x : Nat) {i : Nat} (h : 32 ≤ i) : wfrom x i = [] := by
  unfold wfrom
  rw [show 32 - i = 0 by omega]; rfl
theorem words_wfrom (x i : Nat) : Words (wfrom x i) := fun v hv => by
  obtain ⟨j, _, rfl⟩ := List.mem_map.1 hv
  have := Pq.wd_lt x (i + j)
  omega
theorem val_wfrom {x : Nat} (h : x < Pq.bp 32) : valL (wfrom x 0) = x := by
  unfold wfrom
  simp only [Nat.zero_add, Nat.sub_zero]
  rw [val_range]
  exact Nat.mod_eq_of_lt h
def outOf (x : RSpec.X spOf) (y : RSpec.Y spOf) (g : RSpec.G spOf) : T (Exit × List Av × RSpec.Y spOf × RSpec.G spOf) :=
  match g with
  | none => .need (x.1 = 0) (.up 0 fun k => .ret (.exit 0, [], y, some (wfrom y.1.2.1 0, k)))
  | some r => .need (0 ≤ x.1 ∧ x.1 ≤ 32 ∧ (r.1.length : Int) = x.1) (.up 0 fun k => .ret (.exit 0, [], y, some ((r.1 : List Int) ++ wfrom y.1.2.1 x.1.toNat, k)))
theorem pofL_core (i : Int) (y : W) (xs : List Int) (cap : Nat) (Q : Exit × List Av × RSpec.Y spOf × RSpec.G spOf → Prop) (h : (outOf (i, ()) (y, ()) (some (xs, cap))).wp Q) : (tr_pofL ((i, ()), (y, ()), (xs, cap))).wp fun r => match r with
      | .again x' y' g' => (32 - x'.1).toNat < (32 - i).toNat ∧ (outOf x' y' g').wp Q
      | .out e avs y' g' => Q (e, avs, y', g') := by
  unfold tr_pofL
  unfold outOf at h ⊢
  simp only [T.wp] at h ⊢
  dsimp only [El, vts, spOf] at h ⊢
  obtain ⟨⟨h0, h1, h2⟩, hq⟩ := h
  refine ⟨fun hlt => ?_, fun hge => ?_⟩
  · have hlt := of_decide_eq_true hlt
    rw [IntWalk.i64_in (i + 1) (by omega)]
    rw [wfrom_step y.2.1 (show i.toNat < 32 by omega), show i.toNat + 1 = (i + 1).toNat by omega] at hq
    simp only [List.length_append, List.length_cons, List.length_nil, Go.maxLen, List.append_assoc, List.singleton_append, List.cons_append, List.nil_append] at hq ⊢
    exact ⟨⟨by omega, by omega⟩, by omega, ⟨trivial, trivial, by omega, by omega⟩, ⟨⟨trivial, trivial⟩, by omega, ⟨by omega, by omega, by omega⟩, hq⟩, fun k hk => ⟨⟨trivial, trivial⟩, by omega, ⟨by omega, by omega, by omega⟩, hq⟩⟩
  · have hge := of_decide_eq_false hge
    obtain rfl : i = 32 := by omega
    rw [show (32 : Int).toNat = 32 from rfl, wfrom_end _ (Nat.le_refl _), List.append_nil] at hq
    exact ⟨⟨trivial, trivial⟩, hq cap (Nat.zero_le _)⟩
theorem pofL_core0 (i : Int) (y : W) (Q : Exit × List Av × RSpec.Y spOf × RSpec.G spOf → Prop) (h : (outOf (i, ()) (y, ()) none).wp Q) : (tr_pofL0 ((i, ()), (y, ()))).wp fun r => match r with
      | .again x' y' g' => (32 - x'.1).toNat < (32 - i).toNat ∧ (outOf x' y' g').wp Q
      | .out e avs y' g' => Q (e, avs, y', g') := by
  unfold tr_pofL0
  unfold outOf at h ⊢
  simp only [T.wp] at h ⊢
  dsimp only [El, vts, spOf] at h ⊢
  obtain ⟨h0, hq⟩ := h
  subst h0
  rw [wfrom_step y.2.1 (show 0 < 32 by omega)] at hq
  refine ⟨fun _ => ?_, fun hge => by simp at hge⟩
  rw [IntWalk.i64_in ((0 : Int) + 1) (by omega)]
  simp only [List.length_cons, List.length_nil, Go.maxLen] at hq ⊢
  exact ⟨⟨by omega, by omega⟩, by omega, ⟨by omega, by omega⟩, fun k hk => ⟨⟨trivial, trivial⟩, by omega, ⟨by omega, by omega, by omega⟩, hq⟩⟩
theorem pofL_ok : LoopOk Tryz.prog 0 (bodyOf Tryz.f51 0) (spOf.run outOf) :=
  loopR_ok (E := E23) (L := fun _ => none) mixed 0 (loops_none _ _ _) spOf (Nat.zero_le _) outOf (fun x _ _ => (32 - x.1).toNat) (by
    rintro ⟨i, ⟨⟩⟩ ⟨y, ⟨⟩⟩ g Q h
    match g, h with
    | some (xs, cap), h =>
      rw [tr_pofL_eq ((i, ()), (y, ()), (xs, cap))]
      exact pofL_core i y xs cap Q h
    | none, h =>
      rw [tr_pofL0_eq ((i, ()), (y, ()))]
      exact pofL_core0 i y Q h)
noncomputable def lpOf : Loops := oneL 3 (spOf.run outOf)
noncomputable def E23f : Env Tryz.prog := E23.fz [(6, [3])]
end Go.Proofs.YtjijakfcahhioaaGreat
/-
The reference: of, its run.
-/
set_option linter.unusedSimpArgs false
set_option linter.unusedVariables false
namespace Go.Proofs.YtjijakfcahhioaaGreat
open Go.RowKit Ax
noncomputable def tr_pof (x : Els [(true, cW)]) : T Av :=
 .need (True) (.need ((0 : Int) = (0 : El (Cd.int .i64))) (.up ((0 : Nat)) (fun v0 =>
    .need (List.length (wfrom x.1.2.1 (0 : Nat)) ≤ List.length (wfrom x.1.2.1 (0 : Nat))) (.need (lenOk (List.length (List.take (List.length (wfrom x.1.2.1 (0 : Nat))) (wfrom x.1.2.1 (0 : Nat))))) (.ret (.one (.ds (Cd.int .u32) (trimmed (List.take (List.length (wfrom x.1.2.1 (0 : Nat))) (wfrom x.1.2.1 (0 : Nat)))))))))))
theorem tr_pof_eq (x : Els [(true, cW)]) : fnP E23f lpOf Tryz.f51 (encs [(true, cW)] x) = tr_pof x := by kernel_rfl
noncomputable def con_pof : Con Tryz.prog := ⟨51, [], _, cf_pof, tot_con (E := E23f) (L := lpOf) mixed Tryz.func51 (one_loop pofL_ok (by kernel_rfl)) [(true, cW)] (fun x => .one (.ds (.int .u32) (mg x.1.2.1))) fun x => by
  rw [tr_pof_eq]
  obtain ⟨⟨b, a⟩, u⟩ := x
  revert b a
  intro (b : Bool) (a : Amt)
  unfold tr_pof
  simp only [T.wp]
  try dsimp only [El]
  have hl : (wfrom a.1 0).length = 32 := by unfold wfrom; simp
  have ht : List.take (wfrom a.1 0).length (wfrom a.1 0) = wfrom a.1 0 := List.take_length
  refine ⟨trivial, trivial, fun k _ => ⟨Nat.le_refl _, by rw [ht, hl]; unfold lenOk; omega, ?_⟩⟩
  rw [ht, trimmed_mg (words_wfrom _ _), val_wfrom a.2]⟩
noncomputable def E25 : Env Tryz.prog := E23.add [con_pof]
abbrev spMulI : RSpec := ⟨67, [(0, false, .sl (.int .u32)), (1, false, .sl (.int .u32)), (6, false, .int .i64), (7, false, .int .u64), (8, false, .int .i64)], [], [], fun e => match e with | .exit _ => [0, 1, 6, 7] | _ => [], 5, 22, .int .u32, true⟩
abbrev spMulO : RSpec := ⟨67, [(0, false, .sl (.int .u32)), (1, false, .sl (.int .u32)), (6, false, .int .i64)], [], [], fun _ => [], 5, 22, .int .u32, true⟩
abbrev spTen : RSpec := ⟨38, [(0, false, .sl (.int .u32)), (5, false, .int .u64), (6, false, .int .i64)], [], [], fun e => match e with | .exit _ => [5] | _ => [], 4, 22, .int .u32, true⟩
abbrev spPtext : LSpec := ⟨26, [(0, false, .sl (.int .u32)), (3, false, .str)], [], [], fun e => match e with | .exit _ => [3] | _ => []⟩
end Go.Proofs.YtjijakfcahhioaaGreat
/-
The reference: what the loops of add, sub, cmp, bits, shl, divmod, gcd, tiny, common carry.
-/
set_option linter.unusedSimpArgs false
set_option linter.unusedVariables false
namespace Go.Proofs.YtjijakfcahhioaaGreat
open Go.RowKit Ax
theorem cf_padd (xs : Array Value) (w : World) : (callFunc 56 xs).run Tryz.prog w = .ok (.enter 56 xs) w := by kernel_rfl
theorem cf_psub (xs : Array Value) (w : World) : (callFunc 94 xs).run Tryz.prog w = .ok (.enter 94 xs) w := by kernel_rfl
theorem cf_pcmp (xs : Array Value) (w : World) : (callFunc 70 xs).run Tryz.prog w = .ok (.enter 70 xs) w := by kernel_rfl
theorem cf_pbits (xs : Array Value) (w : World) : (callFunc 92 xs).run Tryz.prog w = .ok (.enter 92 xs) w := by kernel_rfl
theorem cf_pshl (xs : Array Value) (w : World) : (callFunc 93 xs).run Tryz.prog w = .ok (.enter 93 xs) w := by kernel_rfl
theorem cf_pdivmod (xs : Array Value) (w : World) : (callFunc 55 xs).run Tryz.prog w = .ok (.enter 55 xs) w := by kernel_rfl
theorem cf_pgcd (xs : Array Value) (w : World) : (callFunc 71 xs).run Tryz.prog w = .ok (.enter 71 xs) w := by kernel_rfl
theorem cf_ptiny (xs : Array Value) (w : World) : (callFunc 67 xs).run Tryz.prog w = .ok (.enter 67 xs) w := by kernel_rfl
theorem cf_pcommon (xs : Array Value) (w : World) : (callFunc 87 xs).run Tryz.prog w = .ok (.enter 87 xs) w := by kernel_rfl
abbrev cM : Cd := .sl (.int .u32)
abbrev spAdd : RSpec := ⟨55, [(0, false, cM), (1, false, cM), (6, false, .int .u64), (7, false, .int .i64)], [], [], fun _ => [], 5, 22, .int .u32, false⟩
abbrev spSub : RSpec := ⟨44, [(0, false, cM), (1, false, cM), (6, false, .int .i64), (7, false, .int .i64)], [], [], fun _ => [], 5, 22, .int .u32, false⟩
abbrev spCmp : LSpec := ⟨41, [(0, false, cM), (1, false, cM), (5, false, .int .i64)], [], [], fun e => match e with | .ret => [4] | _ => []⟩
abbrev spBits : LSpec := ⟨25, [(3, false, .int .i64), (4, false, .int .u32)], [], [], fun e => match e with | .exit _ => [3] | _ => []⟩
abbrev spShl : RSpec := ⟨61, [(0, false, cM), (1, false, .int .i64), (6, false, .int .i64)], [], [], fun _ => [], 5, 22, .int .u32, true⟩
abbrev spDiv : RSpec := ⟨56, [(1, false, cM), (8, false, cM), (9, false, .int .i64)], [], [], fun e => match e with | .exit _ => [8] | _ => [], 7, 22, .int .u32, true⟩
abbrev spGcd : LSpec := ⟨23, [(5, false, cM), (6, false, cM)], [], [], fun e => match e with | .exit _ => [5] | _ => []⟩
abbrev spTiny : LSpec := ⟨73, [(5, false, .int .i64)], [(1, 0, 0)], [(27, cF)], fun e => match e with | .ret => [2, 3, 4] | _ => []⟩
abbrev spComm : LSpec := ⟨20, [(0, false, .int .i64), (1, false, .int .i64)], [], [], fun e => match e with | .exit _ => [0] | _ => []⟩
end Go.Proofs.YtjijakfcahhioaaGreat
/-
Plain laws: rows of words that are multiplied, divided by ten.
-/
set_option linter.unusedSimpArgs false
set_option linter.unusedVariables false
namespace Go.Proofs.YtjijakfcahhioaaGreat
open Go.RowKit Ax
theorem w_u64 {z : Int} (h : 0 ≤ z ∧ z < 18446744073709551616) : IntKind.u64.wrap z = z := IntWalk.u64_in _ (by omega)
theorem val_set {row : List Int} {p : Nat} {v old : Int} (hw : Words row) (hv : 0 ≤ v) (h : row[p]? = some old) : (valL (row.set p v) : Int) = valL row + Pq.bp p * (v - old) := by
  induction row generalizing p with
  | nil => simp at h
  | cons x r ih =>
    have hx := hw x (by simp)
    cases p with
    | zero =>
      simp only [List.getElem?_cons_zero, Option.some.injEq] at h
      subst h
      rw [List.set_cons_zero, valL, valL, Pq.bp_zero]
      omega
    | succ p =>
      rw [List.set_cons_succ, valL, valL, Pq.bp_succ]
      have := ih (fun y hy => hw y (by simp [hy])) (by simpa using h)
      have e1 : ((Pq.bp p * 4294967296 : Nat) : Int) * (v - old) = 4294967296 * ((Pq.bp p : Nat) * (v - old)) := by
        rw [Int.natCast_mul, Int.mul_comm ((Pq.bp p : Nat) : Int) ((4294967296 : Nat) : Int), Int.mul_assoc]; rfl
      rw [e1]
      generalize ((Pq.bp p : Nat) : Int) * (v - old) = q at *
      omega
theorem words_set {row : List Int} {p : Nat} {v : Int} (hw : Words row) (h0 : 0 ≤ v) (h1 : v < 4294967296) : Words (row.set p v) := fun x hx => by
  rcases List.mem_or_eq_of_mem_set hx with h | rfl
  · exact hw x h
  · exact ⟨h0, h1⟩
/-- a row of words, and a times the others put in from a place on -/
def inW (a : Int) : List Int → Nat → Int → List Int → Int × List Int
  | [], _, c, row => (c, row)
  | y :: bs, p, c, row => inW a bs (p + 1) ((c + a * y + row.getD p 0) / 4294967296) (row.set p ((c + a * y + row.getD p 0) % 4294967296))
theorem inW_spec {a : Int} (ha : 0 ≤ a ∧ a < 4294967296) : ∀ (bs : List Int) (p : Nat) (c : Int) (row : List Int), Words bs → Words row → 0 ≤ c → c < 4294967296 → p + bs.length ≤ row.length →
    Words (inW a bs p c row).2 ∧ (inW a bs p c row).2.length = row.length ∧ 0 ≤ (inW a bs p c row).1 ∧ (inW a bs p c row).1 < 4294967296 ∧ (∀ j, p + bs.length ≤ j → (inW a bs p c row).2[j]? = row[j]?) ∧
    (valL (inW a bs p c row).2 : Int) + Pq.bp (p + bs.length) * (inW a bs p c row).1 = valL row + Pq.bp p * (a * valL bs + c)
  | [], p, c, row, _, hr, h0, h1, hl => ⟨hr, rfl, h0, h1, fun _ _ => rfl, by simp [inW, valL]⟩
  | y :: bs, p, c, row, hb, hr, h0, h1, hl => by
    rw [List.length_cons] at hl
    obtain ⟨y0, y1⟩ := hb y (by simp)
    have hp : row[p]? = some (row.getD p 0) := by
      rw [List.getD_eq_getElem?_getD, List.getElem?_eq_getElem (by omega)]; rfl
    obtain ⟨o0, o1⟩ := hr _ (List.mem_of_getElem? hp)
    have hm0 : 0 ≤ a * y := Int.mul_nonneg ha.1 y0
    have hm1 : a * y ≤ 4294967295 * 4294967295 := Int.mul_le_mul (by omega) (by omega) y0 (by omega)
    rw [inW]
    generalize row.getD p 0 = old at *
    generalize hm : a * y = m at *
    have hw' : Words (row.set p ((c + m + old) % 4294967296)) := words_set hr (by omega) (by omega)
    obtain ⟨i1, i2, i3, i4, i5, i6⟩ := inW_spec ha bs (p + 1) ((c + m + old) / 4294967296) (row.set p ((c + m + old) % 4294967296)) (fun x hx => hb x (by simp [hx])) hw' (by omega) (by omega) (by rw [List.length_set]; omega)
    refine ⟨i1, by rw [i2, List.length_set], i3, i4, fun j hj => ?_, ?_⟩
    · rw [List.length_cons] at hj
      rw [i5 j (by omega), List.getElem?_set_ne (by omega)]
    · rw [List.length_cons, show p + (bs.length + 1) = p + 1 + bs.length by omega, i6, val_set hr (by omega) hp, valL, Pq.bp_succ]
      have e1 : ((Pq.bp p * 4294967296 : Nat) : Int) = (Pq.bp p : Nat) * 4294967296 := by simp
      have e2 : ((y.toNat + 4294967296 * valL bs : Nat) : Int) = y + 4294967296 * (valL bs : Nat) := by omega
      rw [e1, e2]
      generalize ((Pq.bp p : Nat) : Int) = b
      generalize ((valL bs : Nat) : Int) = z
      have e3 : a * (y + 4294967296 * z) = m + 4294967296 * (a * z) := by rw [Int.mul_add, hm, Int.mul_left_comm]
      rw [e3]
      generalize a * z = az
      have e4 := Int.mul_ediv_add_emod (c + m + old) 4294967296
      have e5 : (c + m + old) % 4294967296 - old + 4294967296 * (az + (c + m + old) / 4294967296) = m + 4294967296 * az + c := by omega
      rw [← e5, Int.mul_add b ((c + m + old) % 4294967296 - old), Int.mul_assoc b 4294967296]
      omega
/-- a product, word by word -/
def mulW (b : List Int) : List Int → Nat → List Int → List Int
  | [], _, row => row
  | x :: r, i, row => mulW b r (i + 1) ((inW x b i 0 row).2.set (i + b.length) (inW x b i 0 row).1)
theorem mulW_round {x : Int} {b row : List Int} {i n : Nat} (hx : 0 ≤ x ∧ x < 4294967296) (hb : Words b) (hr : Words row) (hl : row.length = i + (n + 1) + b.length) (hz : ∀ j, i + b.length ≤ j → j < row.length → row[j]? = some 0) :
    Words ((inW x b i 0 row).2.set (i + b.length) (inW x b i 0 row).1) ∧ ((inW x b i 0 row).2.set (i + b.length) (inW x b i 0 row).1).length = row.length ∧
    (∀ j, i + 1 + b.length ≤ j → j < row.length → ((inW x b i 0 row).2.set (i + b.length) (inW x b i 0 row).1)[j]? = some 0) ∧
    (valL ((inW x b i 0 row).2.set (i + b.length) (inW x b i 0 row).1) : Int) = valL row + Pq.bp i * (x * valL b) := by
  obtain ⟨h1, h2, h3, h4, h5, h6⟩ := inW_spec hx b i 0 row hb hr (by omega) (by omega) (by omega)
  have hold : (inW x b i 0 row).2[i + b.length]? = some 0 := by rw [h5 _ (Nat.le_refl _)]; exact hz _ (Nat.le_refl _) (by omega)
  refine ⟨words_set h1 h3 h4, by rw [List.length_set, h2], fun j hj hjl => ?_, ?_⟩
  · rw [List.getElem?_set_ne (by omega), h5 j (by omega)]; exact hz j (by omega) hjl
  · rw [val_set h1 h3 hold]
    rw [Int.add_zero] at h6
    rw [Int.sub_zero]
    exact h6
theorem mulW_spec {b : List Int} (hb : Words b) : ∀ (a : List Int) (i : Nat) (row : List Int), Words a → Words row → row.length = i + a.length + b.length → (∀ j, i + b.length ≤ j → j < row.length → row[j]? = some 0) →
    Words (mulW b a i row) ∧ (mulW b a i row).length = row.length ∧ (valL (mulW b a i row) : Int) = valL row + Pq.bp i * (valL a * valL b)
  | [], i, row, _, hr, hl, hz => ⟨hr, rfl, by simp [mulW, valL]⟩
  | x :: r, i, row, ha, hr, hl, hz => by
    rw [List.length_cons] at hl
    have hx := ha x (by simp)
    obtain ⟨h1, h2, h3, h4⟩ := mulW_round (n := r.length) hx hb hr hl hz
    rw [mulW]
    obtain ⟨i1, i2, i3⟩ := mulW_spec hb r (i + 1) _ (fun y hy => ha y (by simp [hy])) h1 (by rw [h2]; omega) (by rw [h2]; exact h3)
    refine ⟨i1, by rw [i2, h2], ?_⟩
    rw [i3, h4, valL, Pq.bp_succ]
    have e1 : ((Pq.bp i * 4294967296 : Nat) : Int) = (Pq.bp i : Nat) * 4294967296 := by simp
    have e2 : ((x.toNat + 4294967296 * valL r : Nat) : Int) = x + 4294967296 * (valL r : Nat) := by omega
    rw [e1, e2, Int.add_mul x, Int.mul_add, Int.mul_assoc, Int.mul_assoc 4294967296]
    omega
/-- divided by ten, from the top -/
def tenW (a : List Int) : Nat → Int → List Int → Int × List Int
  | 0, r, row => (r, row)
  | n + 1, r, row => tenW a n ((r * 4294967296 + a.getD n 0) % 10) (row.set n ((r * 4294967296 + a.getD n 0) / 10))
theorem tenW_spec {a : List Int} (ha : Words a) : ∀ (n : Nat) (r : Int) (row : List Int), n ≤ a.length → row.length = a.length → Words row → 0 ≤ r → r < 10 → (∀ j, j < n → row[j]? = some 0) →
    Words (tenW a n r row).2 ∧ (tenW a n r row).2.length = a.length ∧ 0 ≤ (tenW a n r row).1 ∧ (tenW a n r row).1 < 10 ∧ 10 * (valL (tenW a n r row).2 : Int) + (tenW a n r row).1 = 10 * valL row + valL (a.take n) + Pq.bp n * r
  | 0, r, row, _, hl, hr, h0, h1, _ => ⟨hr, hl, h0, h1, by simp [tenW, valL, Pq.bp_zero]⟩
  | n + 1, r, row, hn, hl, hr, h0, h1, hz => by
    have hp : a[n]? = some (a.getD n 0) := by
      rw [List.getD_eq_getElem?_getD, List.getElem?_eq_getElem (by omega)]; rfl
    obtain ⟨o0, o1⟩ := ha _ (List.mem_of_getElem? hp)
    have hta : a.take (n + 1) = a.take n ++ [a.getD n 0] := by rw [List.take_add_one, hp]; rfl
    rw [tenW, hta, val_app]
    have hlt : (a.take n).length = n := by rw [List.length_take]; omega
    rw [hlt, Pq.bp_succ]
    generalize a.getD n 0 = v at *
    have hw' : Words (row.set n ((r * 4294967296 + v) / 10)) := words_set hr (by omega) (by omega)
    obtain ⟨i1, i2, i3, i4, i5⟩ := tenW_spec ha n ((r * 4294967296 + v) % 10) (row.set n ((r * 4294967296 + v) / 10)) (by omega) (by rw [List.length_set, hl]) hw' (by omega) (by omega) (fun j hj => by
      rw [List.getElem?_set_ne (by omega)]; exact hz j (by omega))
    refine ⟨i1, i2, i3, i4, ?_⟩
    rw [i5, val_set hr (by omega) (hz n (by omega))]
    have e1 : ((Pq.bp n * 4294967296 : Nat) : Int) = (Pq.bp n : Nat) * 4294967296 := by simp
    have e2 : (valL [v] : Int) = v := by simp [valL]; omega
    rw [Int.natCast_add, Int.natCast_mul (Pq.bp n), e1, e2]
    generalize ((Pq.bp n : Nat) : Int) = b
    have e4 := Int.mul_ediv_add_emod (r * 4294967296 + v) 10
    have e5 : 10 * ((r * 4294967296 + v) / 10 - 0) + (r * 4294967296 + v) % 10 = v + 4294967296 * r := by omega
    have e6 := congrArg (b * ·) e5
    simp only [Int.mul_add] at e6 ⊢
    rw [Int.mul_left_comm b 10, ← Int.mul_assoc b 4294967296] at e6
    omega
theorem or_64 {x y : Int} (hx : 0 ≤ x ∧ x < 4294967296) (hy : 0 ≤ y ∧ y < 4294967296) : ((BitVec.ofInt (IntKind.bits .u64) (x * 4294967296) ||| BitVec.ofInt (IntKind.bits .u64) y).toNat : Int) = x * 4294967296 + y := by
  have e1 : (BitVec.ofInt (IntKind.bits .u64) (x * 4294967296)).toNat = 2 ^ 32 * x.toNat := by
    rw [BitVec.toNat_ofInt]
    show ((x * 4294967296) % 18446744073709551616).toNat = _
    omega
  have e2 : (BitVec.ofInt (IntKind.bits .u64) y).toNat = y.toNat := by
    rw [BitVec.toNat_ofInt]
    show (y % 18446744073709551616).toNat = _
    omega
  rw [BitVec.toNat_or, e1, e2, ← Nat.two_pow_add_eq_or_of_lt (by omega) x.toNat]
  omega
theorem words_zero (n : Nat) : Words (List.replicate n 0) := fun v hv => by rw [List.eq_of_mem_replicate hv]; omega
theorem val_zero (n : Nat) : valL (List.replicate n 0) = 0 := by
  induction n with
  | zero => rfl
  | succ n ih => rw [List.replicate_succ, valL, ih]; rfl
end Go.Proofs.YtjijakfcahhioaaGreat
/-
The reference: loops that call nothing.
-/
set_option linter.unusedSimpArgs false
set_option linter.unusedVariables false
namespace Go.Proofs.YtjijakfcahhioaaGreat
open Go.RowKit Ax
noncomputable def tr_paddL (x : RSpec.X spAdd × RSpec.Y spAdd × (List (El (RSpec.c spAdd)) × Nat)) : T (RRd spAdd) :=
 .ite (decide (x.1.2.2.2.1 < (↑(List.length x.1.1) : Int)))
  (.ite (decide (x.1.2.2.2.1 < (↑(List.length x.1.1) : Int)))
   (.get x.1.1 x.1.2.2.2.1 (fun v0 =>
    .ite (decide (x.1.2.2.2.1 < (↑(List.length x.1.2.1) : Int)))
     (.get x.1.2.1 x.1.2.2.2.1 (fun v1 =>
      .need (List.length x.2.2.1 = List.length x.2.2.1 ∧ x.2.2.2 = x.2.2.2 ∧ (List.length x.2.2.1 + List.length [IntKind.wrap .u32 (IntKind.wrap .u64 (IntKind.wrap .u64 (x.1.2.2.1 + IntKind.wrap .u64 v0) + IntKind.wrap .u64 v1))]) * (nat_lit 3 + (1 : Nat)) ≤ (140737488355328 : Nat) ∧ List.length x.2.2.1 + List.length [IntKind.wrap .u32 (IntKind.wrap .u64 (IntKind.wrap .u64 (x.1.2.2.1 + IntKind.wrap .u64 v0) + IntKind.wrap .u64 v1))] ≤ Go.maxLen) (.and
        (.need (List.length x.2.2.1 + List.length [IntKind.wrap .u32 (IntKind.wrap .u64 (IntKind.wrap .u64 (x.1.2.2.1 + IntKind.wrap .u64 v0) + IntKind.wrap .u64 v1))] = List.length (x.2.2.1 ++ [IntKind.wrap .u32 (IntKind.wrap .u64 (IntKind.wrap .u64 (x.1.2.2.1 + IntKind.wrap .u64 v0) + IntKind.wrap .u64 v1))]) ∧ x.2.2.2 = x.2.2.2) (.ret (.again (x.1.1, (x.1.2.1, (Int.fdiv (IntKind.wrap .u64 (IntKind.wrap .u64 (x.1.2.2.1 + IntKind.wrap .u64 v0) + IntKind.wrap .u64 v1)) ((2 : Int) ^ Min.min (Int.toNat (32 : Int)) (IntKind.bits .u64)), (IntKind.wrap .i64 (x.1.2.2.2.1 + (1 : Int)), ())))) () (some ((x.2.2.1 ++ [IntKind.wrap .u32 (IntKind.wrap .u64 (IntKind.wrap .u64 (x.1.2.2.1 + IntKind.wrap .u64 v0) + IntKind.wrap .u64 v1))], x.2.2.2))))))
        (.up (List.length x.2.2.1 + List.length [IntKind.wrap .u32 (IntKind.wrap .u64 (IntKind.wrap .u64 (x.1.2.2.1 + IntKind.wrap .u64 v0) + IntKind.wrap .u64 v1))]) (fun v2 =>
         .need (List.length x.2.2.1 + List.length [IntKind.wrap .u32 (IntKind.wrap .u64 (IntKind.wrap .u64 (x.1.2.2.1 + IntKind.wrap .u64 v0) + IntKind.wrap .u64 v1))] = List.length (x.2.2.1 ++ [IntKind.wrap .u32 (IntKind.wrap .u64 (IntKind.wrap .u64 (x.1.2.2.1 + IntKind.wrap .u64 v0) + IntKind.wrap .u64 v1))]) ∧ v2 = v2) (.ret (.again (x.1.1, (x.1.2.1, (Int.fdiv (IntKind.wrap .u64 (IntKind.wrap .u64 (x.1.2.2.1 + IntKind.wrap .u64 v0) + IntKind.wrap .u64 v1)) ((2 : Int) ^ Min.min (Int.toNat (32 : Int)) (IntKind.bits .u64)), (IntKind.wrap .i64 (x.1.2.2.2.1 + (1 : Int)), ())))) () (some ((x.2.2.1 ++ [IntKind.wrap .u32 (IntKind.wrap .u64 (IntKind.wrap .u64 (x.1.2.2.1 + IntKind.wrap .u64 v0) + IntKind.wrap .u64 v1))], v2))))))))))
     (.need (List.length x.2.2.1 = List.length x.2.2.1 ∧ x.2.2.2 = x.2.2.2 ∧ (List.length x.2.2.1 + List.length [IntKind.wrap .u32 (IntKind.wrap .u64 (x.1.2.2.1 + IntKind.wrap .u64 v0))]) * (nat_lit 3 + (1 : Nat)) ≤ (140737488355328 : Nat) ∧ List.length x.2.2.1 + List.length [IntKind.wrap .u32 (IntKind.wrap .u64 (x.1.2.2.1 + IntKind.wrap .u64 v0))] ≤ Go.maxLen) (.and
       (.need (List.length x.2.2.1 + List.length [IntKind.wrap .u32 (IntKind.wrap .u64 (x.1.2.2.1 + IntKind.wrap .u64 v0))] = List.length (x.2.2.1 ++ [IntKind.wrap .u32 (IntKind.wrap .u64 (x.1.2.2.1 + IntKind.wrap .u64 v0))]) ∧ x.2.2.2 = x.2.2.2) (.ret (.again (x.1.1, (x.1.2.1, (Int.fdiv (IntKind.wrap .u64 (x.1.2.2.1 + IntKind.wrap .u64 v0)) ((2 : Int) ^ Min.min (Int.toNat (32 : Int)) (IntKind.bits .u64)), (IntKind.wrap .i64 (x.1.2.2.2.1 + (1 : Int)), ())))) () (some ((x.2.2.1 ++ [IntKind.wrap .u32 (IntKind.wrap .u64 (x.1.2.2.1 + IntKind.wrap .u64 v0))], x.2.2.2))))))
       (.up (List.length x.2.2.1 + List.length [IntKind.wrap .u32 (IntKind.wrap .u64 (x.1.2.2.1 + IntKind.wrap .u64 v0))]) (fun v1 =>
        .need (List.length x.2.2.1 + List.length [IntKind.wrap .u32 (IntKind.wrap .u64 (x.1.2.2.1 + IntKind.wrap .u64 v0))] = List.length (x.2.2.1 ++ [IntKind.wrap .u32 (IntKind.wrap .u64 (x.1.2.2.1 + IntKind.wrap .u64 v0))]) ∧ v1 = v1) (.ret (.again (x.1.1, (x.1.2.1, (Int.fdiv (IntKind.wrap .u64 (x.1.2.2.1 + IntKind.wrap .u64 v0)) ((2 : Int) ^ Min.min (Int.toNat (32 : Int)) (IntKind.bits .u64)), (IntKind.wrap .i64 (x.1.2.2.2.1 + (1 : Int)), ())))) () (some ((x.2.2.1 ++ [IntKind.wrap .u32 (IntKind.wrap .u64 (x.1.2.2.1 + IntKind.wrap .u64 v0))], v1)))))))))))
   (.ite (decide (x.1.2.2.2.1 < (↑(List.length x.1.2.1) : Int)))
    (.get x.1.2.1 x.1.2.2.2.1 (fun v0 =>
     .need (List.length x.2.2.1 = List.length x.2.2.1 ∧ x.2.2.2 = x.2.2.2 ∧ (List.length x.2.2.1 + List.length [IntKind.wrap .u32 (IntKind.wrap .u64 (x.1.2.2.1 + IntKind.wrap .u64 v0))]) * (nat_lit 3 + (1 : Nat)) ≤ (140737488355328 : Nat) ∧ List.length x.2.2.1 + List.length [IntKind.wrap .u32 (IntKind.wrap .u64 (x.1.2.2.1 + IntKind.wrap .u64 v0))] ≤ Go.maxLen) (.and
       (.need (List.length x.2.2.1 + List.length [IntKind.wrap .u32 (IntKind.wrap .u64 (x.1.2.2.1 + IntKind.wrap .u64 v0))] = List.length (x.2.2.1 ++ [IntKind.wrap .u32 (IntKind.wrap .u64 (x.1.2.2.1 + IntKind.wrap .u64 v0))]) ∧ x.2.2.2 = x.2.2.2) (.ret (.again (x.1.1, (x.1.2.1, (Int.fdiv (IntKind.wrap .u64 (x.1.2.2.1 + IntKind.wrap .u64 v0)) ((2 : Int) ^ Min.min (Int.toNat (32 : Int)) (IntKind.bits .u64)), (IntKind.wrap .i64 (x.1.2.2.2.1 + (1 : Int)), ())))) () (some ((x.2.2.1 ++ [IntKind.wrap .u32 (IntKind.wrap .u64 (x.1.2.2.1 + IntKind.wrap .u64 v0))], x.2.2.2))))))
       (.up (List.length x.2.2.1 + List.length [IntKind.wrap .u32 (IntKind.wrap .u64 (x.1.2.2.1 + IntKind.wrap .u64 v0))]) (fun v1 =>
        .need (List.length x.2.2.1 + List.length [IntKind.wrap .u32 (IntKind.wrap .u64 (x.1.2.2.1 + IntKind.wrap .u64 v0))] = List.length (x.2.2.1 ++ [IntKind.wrap .u32 (IntKind.wrap .u64 (x.1.2.2.1 + IntKind.wrap .u64 v0))]) ∧ v1 = v1) (.ret (.again (x.1.1, (x.1.2.1, (Int.fdiv (IntKind.wrap .u64 (x.1.2.2.1 + IntKind.wrap .u64 v0)) ((2 : Int) ^ Min.min (Int.toNat (32 : Int)) (IntKind.bits .u64)), (IntKind.wrap .i64 (x.1.2.2.2.1 + (1 : Int)), ())))) () (some ((x.2.2.1 ++ [IntKind.wrap .u32 (IntKind.wrap .u64 (x.1.2.2.1 + IntKind.wrap .u64 v0))], v1))))))))))
    (.need (List.length x.2.2.1 = List.length x.2.2.1 ∧ x.2.2.2 = x.2.2.2 ∧ (List.length x.2.2.1 + List.length [IntKind.wrap .u32 x.1.2.2.1]) * (nat_lit 3 + (1 : Nat)) ≤ (140737488355328 : Nat) ∧ List.length x.2.2.1 + List.length [IntKind.wrap .u32 x.1.2.2.1] ≤ Go.maxLen) (.and
      (.need (List.length x.2.2.1 + List.length [IntKind.wrap .u32 x.1.2.2.1] = List.length (x.2.2.1 ++ [IntKind.wrap .u32 x.1.2.2.1]) ∧ x.2.2.2 = x.2.2.2) (.ret (.again (x.1.1, (x.1.2.1, (Int.fdiv x.1.2.2.1 ((2 : Int) ^ Min.min (Int.toNat (32 : Int)) (IntKind.bits .u64)), (IntKind.wrap .i64 (x.1.2.2.2.1 + (1 : Int)), ())))) () (some ((x.2.2.1 ++ [IntKind.wrap .u32 x.1.2.2.1], x.2.2.2))))))
      (.up (List.length x.2.2.1 + List.length [IntKind.wrap .u32 x.1.2.2.1]) (fun v0 =>
       .need (List.length x.2.2.1 + List.length [IntKind.wrap .u32 x.1.2.2.1] = List.length (x.2.2.1 ++ [IntKind.wrap .u32 x.1.2.2.1]) ∧ v0 = v0) (.ret (.again (x.1.1, (x.1.2.1, (Int.fdiv x.1.2.2.1 ((2 : Int) ^ Min.min (Int.toNat (32 : Int)) (IntKind.bits .u64)), (IntKind.wrap .i64 (x.1.2.2.2.1 + (1 : Int)), ())))) () (some ((x.2.2.1 ++ [IntKind.wrap .u32 x.1.2.2.1], v0)))))))))))
  (.ite (decide (x.1.2.2.2.1 < (↑(List.length x.1.2.1) : Int)))
   (.ite (decide (x.1.2.2.2.1 < (↑(List.length x.1.1) : Int)))
    (.get x.1.1 x.1.2.2.2.1 (fun v0 =>
     .ite (decide (x.1.2.2.2.1 < (↑(List.length x.1.2.1) : Int)))
      (.get x.1.2.1 x.1.2.2.2.1 (fun v1 =>
       .need (List.length x.2.2.1 = List.length x.2.2.1 ∧ x.2.2.2 = x.2.2.2 ∧ (List.length x.2.2.1 + List.length [IntKind.wrap .u32 (IntKind.wrap .u64 (IntKind.wrap .u64 (x.1.2.2.1 + IntKind.wrap .u64 v0) + IntKind.wrap .u64 v1))]) * (nat_lit 3 + (1 : Nat)) ≤ (140737488355328 : Nat) ∧ List.length x.2.2.1 + List.length [IntKind.wrap .u32 (IntKind.wrap .u64 (IntKind.wrap .u64 (x.1.2.2.1 + IntKind.wrap .u64 v0) + IntKind.wrap .u64 v1))] ≤ Go.maxLen) (.and
         (.need (List.length x.2.2.1 + List.length [IntKind.wrap .u32 (IntKind.wrap .u64 (IntKind.wrap .u64 (x.1.2.2.1 + IntKind.wrap .u64 v0) + IntKind.wrap .u64 v1))] = List.length (x.2.2.1 ++ [IntKind.wrap .u32 (IntKind.wrap .u64 (IntKind.wrap .u64 (x.1.2.2.1 + IntKind.wrap .u64 v0) + IntKind.wrap .u64 v1))]) ∧ x.2.2.2 = x.2.2.2) (.ret (.again (x.1.1, (x.1.2.1, (Int.fdiv (IntKind.wrap .u64 (IntKind.wrap .u64 (x.1.2.2.1 + IntKind.wrap .u64 v0) + IntKind.wrap .u64 v1)) ((2 : Int) ^ Min.min (Int.toNat (32 : Int)) (IntKind.bits .u64)), (IntKind.wrap .i64 (x.1.2.2.2.1 + (1 : Int)), ())))) () (some ((x.2.2.1 ++ [IntKind.wrap .u32 (IntKind.wrap .u64 (IntKind.wrap .u64 (x.1.2.2.1 + IntKind.wrap .u64 v0) + IntKind.wrap .u64 v1))], x.2.2.2))))))
         (.up (List.length x.2.2.1 + List.length [IntKind.wrap .u32 (IntKind.wrap .u64 (IntKind.wrap .u64 (x.1.2.2.1 + IntKind.wrap .u64 v0) + IntKind.wrap .u64 v1))]) (fun v2 =>
          .need (List.length x.2.2.1 + List.length [IntKind.wrap .u32 (IntKind.wrap .u64 (IntKind.wrap .u64 (x.1.2.2.1 + IntKind.wrap .u64 v0) + IntKind.wrap .u64 v1))] = List.length (x.2.2.1 ++ [IntKind.wrap .u32 (IntKind.wrap .u64 (IntKind.wrap .u64 (x.1.2.2.1 + IntKind.wrap .u64 v0) + IntKind.wrap .u64 v1))]) ∧ v2 = v2) (.ret (.again (x.1.1, (x.1.2.1, (Int.fdiv (IntKind.wrap .u64 (IntKind.wrap .u64 (x.1.2.2.1 + IntKind.wrap .u64 v0) + IntKind.wrap .u64 v1)) ((2 : Int) ^ Min.min (Int.toNat (32 : Int)) (IntKind.bits .u64)), (IntKind.wrap .i64 (x.1.2.2.2.1 + (1 : Int)), ())))) () (some ((x.2.2.1 ++ [IntKind.wrap .u32 (IntKind.wrap .u64 (IntKind.wrap .u64 (x.1.2.2.1 + IntKind.wrap .u64 v0) + IntKind.wrap .u64 v1))], v2))))))))))
      (.need (List.length x.2.2.1 = List.length x.2.2.1 ∧ x.2.2.2 = x.2.2.2 ∧ (List.length x.2.2.1 + List.length [IntKind.wrap .u32 (IntKind.wrap .u64 (x.1.2.2.1 + IntKind.wrap .u64 v0))]) * (nat_lit 3 + (1 : Nat)) ≤ (140737488355328 : Nat) ∧ List.length x.2.2.1 + List.length [IntKind.wrap .u32 (IntKind.wrap .u64 (x.1.2.2.1 + IntKind.wrap .u64 v0))] ≤ Go.maxLen) (.and
        (.need (List.length x.2.2.1 + List.length [IntKind.wrap .u32 (IntKind.wrap .u64 (x.1.2.2.1 + IntKind.wrap .u64 v0))] = List.length (x.2.2.1 ++ [IntKind.wrap .u32 (IntKind.wrap .u64 (x.1.2.2.1 + IntKind.wrap .u64 v0))]) ∧ x.2.2.2 = x.2.2.2) (.ret (.again (x.1.1, (x.1.2.1, (Int.fdiv (IntKind.wrap .u64 (x.1.2.2.1 + IntKind.wrap .u64 v0)) ((2 : Int) ^ Min.min (Int.toNat (32 : Int)) (IntKind.bits .u64)), (IntKind.wrap .i64 (x.1.2.2.2.1 + (1 : Int)), ())))) () (some ((x.2.2.1 ++ [IntKind.wrap .u32 (IntKind.wrap .u64 (x.1.2.2.1 + IntKind.wrap .u64 v0))], x.2.2.2))))))
        (.up (List.length x.2.2.1 + List.length [IntKind.wrap .u32 (IntKind.wrap .u64 (x.1.2.2.1 + IntKind.wrap .u64 v0))]) (fun v1 =>
         .need (List.length x.2.2.1 + List.length [IntKind.wrap .u32 (IntKind.wrap .u64 (x.1.2.2.1 + IntKind.wrap .u64 v0))] = List.length (x.2.2.1 ++ [IntKind.wrap .u32 (IntKind.wrap .u64 (x.1.2.2.1 + IntKind.wrap .u64 v0))]) ∧ v1 = v1) (.ret (.again (x.1.1, (x.1.2.1, (Int.fdiv (IntKind.wrap .u64 (x.1.2.2.1 + IntKind.wrap .u64 v0)) ((2 : Int) ^ Min.min (Int.toNat (32 : Int)) (IntKind.bits .u64)), (IntKind.wrap .i64 (x.1.2.2.2.1 + (1 : Int)), ())))) () (some ((x.2.2.1 ++ [IntKind.wrap .u32 (IntKind.wrap .u64 (x.1.2.2.1 + IntKind.wrap .u64 v0))], v1)))))))))))
    (.ite (decide (x.1.2.2.2.1 < (↑(List.length x.1.2.1) : Int)))
     (.get x.1.2.1 x.1.2.2.2.1 (fun v0 =>
      .need (List.length x.2.2.1 = List.length x.2.2.1 ∧ x.2.2.2 = x.2.2.2 ∧ (List.length x.2.2.1 + List.length [IntKind.wrap .u32 (IntKind.wrap .u64 (x.1.2.2.1 + IntKind.wrap .u64 v0))]) * (nat_lit 3 + (1 : Nat)) ≤ (140737488355328 : Nat) ∧ List.length x.2.2.1 + List.length [IntKind.wrap .u32 (IntKind.wrap .u64 (x.1.2.2.1 + IntKind.wrap .u64 v0))] ≤ Go.maxLen) (.and
        (.need (List.length x.2.2.1 + List.length [IntKind.wrap .u32 (IntKind.wrap .u64 (x.1.2.2.1 + IntKind.wrap .u64 v0))] = List.length (x.2.2.1 ++ [IntKind.wrap .u32 (IntKind.wrap .u64 (x.1.2.2.1 + IntKind.wrap .u64 v0))]) ∧ x.2.2.2 = x.2.2.2) (.ret (.again (x.1.1, (x.1.2.1, (Int.fdiv (IntKind.wrap .u64 (x.1.2.2.1 + IntKind.wrap .u64 v0)) ((2 : Int) ^ Min.min (Int.toNat (32 : Int)) (IntKind.bits .u64)), (IntKind.wrap .i64 (x.1.2.2.2.1 + (1 : Int)), ())))) () (some ((x.2.2.1 ++ [IntKind.wrap .u32 (IntKind.wrap .u64 (x.1.2.2.1 + IntKind.wrap .u64 v0))], x.2.2.2))))))
        (.up (List.length x.2.2.1 + List.length [IntKind.wrap .u32 (IntKind.wrap .u64 (x.1.2.2.1 + IntKind.wrap .u64 v0))]) (fun v1 =>
         .need (List.length x.2.2.1 + List.length [IntKind.wrap .u32 (IntKind.wrap .u64 (x.1.2.2.1 + IntKind.wrap .u64 v0))] = List.length (x.2.2.1 ++ [IntKind.wrap .u32 (IntKind.wrap .u64 (x.1.2.2.1 + IntKind.wrap .u64 v0))]) ∧ v1 = v1) (.ret (.again (x.1.1, (x.1.2.1, (Int.fdiv (IntKind.wrap .u64 (x.1.2.2.1 + IntKind.wrap .u64 v0)) ((2 : Int) ^ Min.min (Int.toNat (32 : Int)) (IntKind.bits .u64)), (IntKind.wrap .i64 (x.1.2.2.2.1 + (1 : Int)), ())))) () (some ((x.2.2.1 ++ [IntKind.wrap .u32 (IntKind.wrap .u64 (x.1.2.2.1 + IntKind.wrap .u64 v0))], v1))))))))))
     (.need (List.length x.2.2.1 = List.length x.2.2.1 ∧ x.2.2.2 = x.2.2.2 ∧ (List.length x.2.2.1 + List.length [IntKind.wrap .u32 x.1.2.2.1]) * (nat_lit 3 + (1 : Nat)) ≤ (140737488355328 : Nat) ∧ List.length x.2.2.1 + List.length [IntKind.wrap .u32 x.1.2.2.1] ≤ Go.maxLen) (.and
       (.need (List.length x.2.2.1 + List.length [IntKind.wrap .u32 x.1.2.2.1] = List.length (x.2.2.1 ++ [IntKind.wrap .u32 x.1.2.2.1]) ∧ x.2.2.2 = x.2.2.2) (.ret (.again (x.1.1, (x.1.2.1, (Int.fdiv x.1.2.2.1 ((2 : Int) ^ Min.min (Int.toNat (32 : Int)) (IntKind.bits .u64)), (IntKind.wrap .i64 (x.1.2.2.2.1 + (1 : Int)), ())))) () (some ((x.2.2.1 ++ [IntKind.wrap .u32 x.1.2.2.1], x.2.2.2))))))
       (.up (List.length x.2.2.1 + List.length [IntKind.wrap .u32 x.1.2.2.1]) (fun v0 =>
        .need (List.length x.2.2.1 + List.length [IntKind.wrap .u32 x.1.2.2.1] = List.length (x.2.2.1 ++ [IntKind.wrap .u32 x.1.2.2.1]) ∧ v0 = v0) (.ret (.again (x.1.1, (x.1.2.1, (Int.fdiv x.1.2.2.1 ((2 : Int) ^ Min.min (Int.toNat (32 : Int)) (IntKind.bits .u64)), (IntKind.wrap .i64 (x.1.2.2.2.1 + (1 : Int)), ())))) () (some ((x.2.2.1 ++ [IntKind.wrap .u32 x.1.2.2.1], v0)))))))))))
   (.ite (decide (x.1.2.2.1 > (0 : Int)))
    (.ite (decide (x.1.2.2.2.1 < (↑(List.length x.1.1) : Int)))
     (.get x.1.1 x.1.2.2.2.1 (fun v0 =>
      .ite (decide (x.1.2.2.2.1 < (↑(List.length x.1.2.1) : Int)))
       (.get x.1.2.1 x.1.2.2.2.1 (fun v1 =>
        .need (List.length x.2.2.1 = List.length x.2.2.1 ∧ x.2.2.2 = x.2.2.2 ∧ (List.length x.2.2.1 + List.length [IntKind.wrap .u32 (IntKind.wrap .u64 (IntKind.wrap .u64 (x.1.2.2.1 + IntKind.wrap .u64 v0) + IntKind.wrap .u64 v1))]) * (nat_lit 3 + (1 : Nat)) ≤ (140737488355328 : Nat) ∧ List.length x.2.2.1 + List.length [IntKind.wrap .u32 (IntKind.wrap .u64 (IntKind.wrap .u64 (x.1.2.2.1 + IntKind.wrap .u64 v0) + IntKind.wrap .u64 v1))] ≤ Go.maxLen) (.and
          (.need (List.length x.2.2.1 + List.length [IntKind.wrap .u32 (IntKind.wrap .u64 (IntKind.wrap .u64 (x.1.2.2.1 + IntKind.wrap .u64 v0) + IntKind.wrap .u64 v1))] = List.length (x.2.2.1 ++ [IntKind.wrap .u32 (IntKind.wrap .u64 (IntKind.wrap .u64 (x.1.2.2.1 + IntKind.wrap .u64 v0) + IntKind.wrap .u64 v1))]) ∧ x.2.2.2 = x.2.2.2) (.ret (.again (x.1.1, (x.1.2.1, (Int.fdiv (IntKind.wrap .u64 (IntKind.wrap .u64 (x.1.2.2.1 + IntKind.wrap .u64 v0) + IntKind.wrap .u64 v1)) ((2 : Int) ^ Min.min (Int.toNat (32 : Int)) (IntKind.bits .u64)), (IntKind.wrap .i64 (x.1.2.2.2.1 + (1 : Int)), ())))) () (some ((x.2.2.1 ++ [IntKind.wrap .u32 (IntKind.wrap .u64 (IntKind.wrap .u64 (x.1.2.2.1 + IntKind.wrap .u64 v0) + IntKind.wrap .u64 v1))], x.2.2.2))))))
          (.up (List.length x.2.2.1 + List.length [IntKind.wrap .u32 (IntKind.wrap .u64 (IntKind.wrap .u64 (x.1.2.2.1 + IntKind.wrap .u64 v0) + IntKind.wrap .u64 v1))]) (fun v2 =>
           .need (List.length x.2.2.1 + List.length [IntKind.wrap .u32 (IntKind.wrap .u64 (IntKind.wrap .u64 (x.1.2.2.1 + IntKind.wrap .u64 v0) + IntKind.wrap .u64 v1))] = List.length (x.2.2.1 ++ [IntKind.wrap .u32 (IntKind.wrap .u64 (IntKind.wrap .u64 (x.1.2.2.1 + IntKind.wrap .u64 v0) + IntKind.wrap .u64 v1))]) ∧ v2 = v2) (.ret (.again (x.1.1, (x.1.2.1, (Int.fdiv (IntKind.wrap .u64 (IntKind.wrap .u64 (x.1.2.2.1 + IntKind.wrap .u64 v0) + IntKind.wrap .u64 v1)) ((2 : Int) ^ Min.min (Int.toNat (32 : Int)) (IntKind.bits .u64)), (IntKind.wrap .i64 (x.1.2.2.2.1 + (1 : Int)), ())))) () (some ((x.2.2.1 ++ [IntKind.wrap .u32 (IntKind.wrap .u64 (IntKind.wrap .u64 (x.1.2.2.1 + IntKind.wrap .u64 v0) + IntKind.wrap .u64 v1))], v2))))))))))
       (.need (List.length x.2.2.1 = List.length x.2.2.1 ∧ x.2.2.2 = x.2.2.2 ∧ (List.length x.2.2.1 + List.length [IntKind.wrap .u32 (IntKind.wrap .u64 (x.1.2.2.1 + IntKind.wrap .u64 v0))]) * (nat_lit 3 + (1 : Nat)) ≤ (140737488355328 : Nat) ∧ List.length x.2.2.1 + List.length [IntKind.wrap .u32 (IntKind.wrap .u64 (x.1.2.2.1 + IntKind.wrap .u64 v0))] ≤ Go.maxLen) (.and
         (.need (List.length x.2.2.1 + List.length [IntKind.wrap .u32 (IntKind.wrap .u64 (x.1.2.2.1 + IntKind.wrap .u64 v0))] = List.length (x.2.2.1 ++ [IntKind.wrap .u32 (IntKind.wrap .u64 (x.1.2.2.1 + IntKind.wrap .u64 v0))]) ∧ x.2.2.2 = x.2.2.2) (.ret (.again (x.1.1, (x.1.2.1, (Int.fdiv (IntKind.wrap .u64 (x.1.2.2.1 + IntKind.wrap .u64 v0)) ((2 : Int) ^ Min.min (Int.toNat (32 : Int)) (IntKind.bits .u64)), (IntKind.wrap .i64 (x.1.2.2.2.1 + (1 : Int)), ())))) () (some ((x.2.2.1 ++ [IntKind.wrap .u32 (IntKind.wrap .u64 (x.1.2.2.1 + IntKind.wrap .u64 v0))], x.2.2.2))))))
         (.up (List.length x.2.2.1 + List.length [IntKind.wrap .u32 (IntKind.wrap .u64 (x.1.2.2.1 + IntKind.wrap .u64 v0))]) (fun v1 =>
          .need (List.length x.2.2.1 + List.length [IntKind.wrap .u32 (IntKind.wrap .u64 (x.1.2.2.1 + IntKind.wrap .u64 v0))] = List.length (x.2.2.1 ++ [IntKind.wrap .u32 (IntKind.wrap .u64 (x.1.2.2.1 + IntKind.wrap .u64 v0))]) ∧ v1 = v1) (.ret (.again (x.1.1, (x.1.2.1, (Int.fdiv (IntKind.wrap .u64 (x.1.2.2.1 + IntKind.wrap .u64 v0)) ((2 : Int) ^ Min.min (Int.toNat (32 : Int)) (IntKind.bits .u64)), (IntKind.wrap .i64 (x.1.2.2.2.1 + (1 : Int)), ())))) () (some ((x.2.2.1 ++ [IntKind.wrap .u32 (IntKind.wrap .u64 (x.1.2.2.1 + IntKind.wrap .u64 v0))], v1)))))))))))
     (.ite (decide (x.1.2.2.2.1 < (↑(List.length x.1.2.1) : Int)))
      (.get x.1.2.1 x.1.2.2.2.1 (fun v0 =>
       .need (List.length x.2.2.1 = List.length x.2.2.1 ∧ x.2.2.2 = x.2.2.2 ∧ (List.length x.2.2.1 + List.length [IntKind.wrap .u32 (IntKind.wrap .u64 (x.1.2.2.1 + IntKind.wrap .u64 v0))]) * (nat_lit 3 + (1 : Nat)) ≤ (140737488355328 : Nat) ∧ List.length x.2.2.1 + List.length [IntKind.wrap .u32 (IntKind.wrap .u64 (x.1.2.2.1 + IntKind.wrap .u64 v0))] ≤ Go.maxLen) (.and
         (.need (List.length x.2.2.1 + List.length [IntKind.wrap .u32 (IntKind.wrap .u64 (x.1.2.2.1 + IntKind.wrap .u64 v0))] = List.length (x.2.2.1 ++ [IntKind.wrap .u32 (IntKind.wrap .u64 (x.1.2.2.1 + IntKind.wrap .u64 v0))]) ∧ x.2.2.2 = x.2.2.2) (.ret (.again (x.1.1, (x.1.2.1, (Int.fdiv (IntKind.wrap .u64 (x.1.2.2.1 + IntKind.wrap .u64 v0)) ((2 : Int) ^ Min.min (Int.toNat (32 : Int)) (IntKind.bits .u64)), (IntKind.wrap .i64 (x.1.2.2.2.1 + (1 : Int)), ())))) () (some ((x.2.2.1 ++ [IntKind.wrap .u32 (IntKind.wrap .u64 (x.1.2.2.1 + IntKind.wrap .u64 v0))], x.2.2.2))))))
         (.up (List.length x.2.2.1 + List.length [IntKind.wrap .u32 (IntKind.wrap .u64 (x.1.2.2.1 + IntKind.wrap .u64 v0))]) (fun v1 =>
          .need (List.length x.2.2.1 + List.length [IntKind.wrap .u32 (IntKind.wrap .u64 (x.1.2.2.1 + IntKind.wrap .u64 v0))] = List.length (x.2.2.1 ++ [IntKind.wrap .u32 (IntKind.wrap .u64 (x.1.2.2.1 + IntKind.wrap .u64 v0))]) ∧ v1 = v1) (.ret (.again (x.1.1, (x.1.2.1, (Int.fdiv (IntKind.wrap .u64 (x.1.2.2.1 + IntKind.wrap .u64 v0)) ((2 : Int) ^ Min.min (Int.toNat (32 : Int)) (IntKind.bits .u64)), (IntKind.wrap .i64 (x.1.2.2.2.1 + (1 : Int)), ())))) () (some ((x.2.2.1 ++ [IntKind.wrap .u32 (IntKind.wrap .u64 (x.1.2.2.1 + IntKind.wrap .u64 v0))], v1))))))))))
      (.need (List.length x.2.2.1 = List.length x.2.2.1 ∧ x.2.2.2 = x.2.2.2 ∧ (List.length x.2.2.1 + List.length [IntKind.wrap .u32 x.1.2.2.1]) * (nat_lit 3 + (1 : Nat)) ≤ (140737488355328 : Nat) ∧ List.length x.2.2.1 + List.length [IntKind.wrap .u32 x.1.2.2.1] ≤ Go.maxLen) (.and
        (.need (List.length x.2.2.1 + List.length [IntKind.wrap .u32 x.1.2.2.1] = List.length (x.2.2.1 ++ [IntKind.wrap .u32 x.1.2.2.1]) ∧ x.2.2.2 = x.2.2.2) (.ret (.again (x.1.1, (x.1.2.1, (Int.fdiv x.1.2.2.1 ((2 : Int) ^ Min.min (Int.toNat (32 : Int)) (IntKind.bits .u64)), (IntKind.wrap .i64 (x.1.2.2.2.1 + (1 : Int)), ())))) () (some ((x.2.2.1 ++ [IntKind.wrap .u32 x.1.2.2.1], x.2.2.2))))))
        (.up (List.length x.2.2.1 + List.length [IntKind.wrap .u32 x.1.2.2.1]) (fun v0 =>
         .need (List.length x.2.2.1 + List.length [IntKind.wrap .u32 x.1.2.2.1] = List.length (x.2.2.1 ++ [IntKind.wrap .u32 x.1.2.2.1]) ∧ v0 = v0) (.ret (.again (x.1.1, (x.1.2.1, (Int.fdiv x.1.2.2.1 ((2 : Int) ^ Min.min (Int.toNat (32 : Int)) (IntKind.bits .u64)), (IntKind.wrap .i64 (x.1.2.2.2.1 + (1 : Int)), ())))) () (some ((x.2.2.1 ++ [IntKind.wrap .u32 x.1.2.2.1], v0)))))))))))
    (.need (List.length x.2.2.1 = List.length x.2.2.1 ∧ x.2.2.2 = x.2.2.2) (.ret (.out (Go.Exit.exit (0 : Nat)) [] () (some x.2.2))))))
theorem tr_paddL_eq (x : RSpec.X spAdd × RSpec.Y spAdd × (List (El (RSpec.c spAdd)) × Nat)) : RSpec.round spAdd E25 (fun _ => none) (bodyOf Tryz.f56 0) x.1 x.2.1 (some x.2.2) = tr_paddL x := by kernel_rfl
noncomputable def tr_paddL0 (x : RSpec.X spAdd × RSpec.Y spAdd) : T (RRd spAdd) :=
 .ite (decide (x.1.2.2.2.1 < (↑(List.length x.1.1) : Int)))
  (.ite (decide (x.1.2.2.2.1 < (↑(List.length x.1.1) : Int)))
   (.get x.1.1 x.1.2.2.2.1 (fun v0 =>
    .ite (decide (x.1.2.2.2.1 < (↑(List.length x.1.2.1) : Int)))
     (.get x.1.2.1 x.1.2.2.2.1 (fun v1 =>
      .need (List.length [IntKind.wrap .u32 (IntKind.wrap .u64 (IntKind.wrap .u64 (x.1.2.2.1 + IntKind.wrap .u64 v0) + IntKind.wrap .u64 v1))] * (nat_lit 3 + (1 : Nat)) ≤ (140737488355328 : Nat) ∧ List.length [IntKind.wrap .u32 (IntKind.wrap .u64 (IntKind.wrap .u64 (x.1.2.2.1 + IntKind.wrap .u64 v0) + IntKind.wrap .u64 v1))] ≤ Go.maxLen) (.up (List.length [IntKind.wrap .u32 (IntKind.wrap .u64 (IntKind.wrap .u64 (x.1.2.2.1 + IntKind.wrap .u64 v0) + IntKind.wrap .u64 v1))]) (fun v2 =>
        .need (List.length [IntKind.wrap .u32 (IntKind.wrap .u64 (IntKind.wrap .u64 (x.1.2.2.1 + IntKind.wrap .u64 v0) + IntKind.wrap .u64 v1))] = List.length [IntKind.wrap .u32 (IntKind.wrap .u64 (IntKind.wrap .u64 (x.1.2.2.1 + IntKind.wrap .u64 v0) + IntKind.wrap .u64 v1))] ∧ v2 = v2) (.ret (.again (x.1.1, (x.1.2.1, (Int.fdiv (IntKind.wrap .u64 (IntKind.wrap .u64 (x.1.2.2.1 + IntKind.wrap .u64 v0) + IntKind.wrap .u64 v1)) ((2 : Int) ^ Min.min (Int.toNat (32 : Int)) (IntKind.bits .u64)), (IntKind.wrap .i64 (x.1.2.2.2.1 + (1 : Int)), ())))) () (some (([IntKind.wrap .u32 (IntKind.wrap .u64 (IntKind.wrap .u64 (x.1.2.2.1 + IntKind.wrap .u64 v0) + IntKind.wrap .u64 v1))], v2)))))))))
     (.need (List.length [IntKind.wrap .u32 (IntKind.wrap .u64 (x.1.2.2.1 + IntKind.wrap .u64 v0))] * (nat_lit 3 + (1 : Nat)) ≤ (140737488355328 : Nat) ∧ List.length [IntKind.wrap .u32 (IntKind.wrap .u64 (x.1.2.2.1 + IntKind.wrap .u64 v0))] ≤ Go.maxLen) (.up (List.length [IntKind.wrap .u32 (IntKind.wrap .u64 (x.1.2.2.1 + IntKind.wrap .u64 v0))]) (fun v1 =>
       .need (List.length [IntKind.wrap .u32 (IntKind.wrap .u64 (x.1.2.2.1 + IntKind.wrap .u64 v0))] = List.length [IntKind.wrap .u32 (IntKind.wrap .u64 (x.1.2.2.1 + IntKind.wrap .u64 v0))] ∧ v1 = v1) (.ret (.again (x.1.1, (x.1.2.1, (Int.fdiv (IntKind.wrap .u64 (x.1.2.2.1 + IntKind.wrap .u64 v0)) ((2 : Int) ^ Min.min (Int.toNat (32 : Int)) (IntKind.bits .u64)), (IntKind.wrap .i64 (x.1.2.2.2.1 + (1 : Int)), ())))) () (some (([IntKind.wrap .u32 (IntKind.wrap .u64 (x.1.2.2.1 + IntKind.wrap .u64 v0))], v1))))))))))
   (.ite (decide (x.1.2.2.2.1 < (↑(List.length x.1.2.1) : Int)))
    (.get x.1.2.1 x.1.2.2.2.1 (fun v0 =>
     .need (List.length [IntKind.wrap .u32 (IntKind.wrap .u64 (x.1.2.2.1 + IntKind.wrap .u64 v0))] * (nat_lit 3 + (1 : Nat)) ≤ (140737488355328 : Nat) ∧ List.length [IntKind.wrap .u32 (IntKind.wrap .u64 (x.1.2.2.1 + IntKind.wrap .u64 v0))] ≤ Go.maxLen) (.up (List.length [IntKind.wrap .u32 (IntKind.wrap .u64 (x.1.2.2.1 + IntKind.wrap .u64 v0))]) (fun v1 =>
       .need (List.length [IntKind.wrap .u32 (IntKind.wrap .u64 (x.1.2.2.1 + IntKind.wrap .u64 v0))] = List.length [IntKind.wrap .u32 (IntKind.wrap .u64 (x.1.2.2.1 + IntKind.wrap .u64 v0))] ∧ v1 = v1) (.ret (.again (x.1.1, (x.1.2.1, (Int.fdiv (IntKind.wrap .u64 (x.1.2.2.1 + IntKind.wrap .u64 v0)) ((2 : Int) ^ Min.min (Int.toNat (32 : Int)) (IntKind.bits .u64)), (IntKind.wrap .i64 (x.1.2.2.2.1 + (1 : Int)), ())))) () (some (([IntKind.wrap .u32 (IntKind.wrap .u64 (x.1.2.2.1 + IntKind.wrap .u64 v0))], v1)))))))))
    (.need (List.length [IntKind.wrap .u32 x.1.2.2.1] * (nat_lit 3 + (1 : Nat)) ≤ (140737488355328 : Nat) ∧ List.length [IntKind.wrap .u32 x.1.2.2.1] ≤ Go.maxLen) (.up (List.length [IntKind.wrap .u32 x.1.2.2.1]) (fun v0 =>
      .need (List.length [IntKind.wrap .u32 x.1.2.2.1] = List.length [IntKind.wrap .u32 x.1.2.2.1] ∧ v0 = v0) (.ret (.again (x.1.1, (x.1.2.1, (Int.fdiv x.1.2.2.1 ((2 : Int) ^ Min.min (Int.toNat (32 : Int)) (IntKind.bits .u64)), (IntKind.wrap .i64 (x.1.2.2.2.1 + (1 : Int)), ())))) () (some (([IntKind.wrap .u32 x.1.2.2.1], v0))))))))))
  (.ite (decide (x.1.2.2.2.1 < (↑(List.length x.1.2.1) : Int)))
   (.ite (decide (x.1.2.2.2.1 < (↑(List.length x.1.1) : Int)))
    (.get x.1.1 x.1.2.2.2.1 (fun v0 =>
     .ite (decide (x.1.2.2.2.1 < (↑(List.length x.1.2.1) : Int)))
      (.get x.1.2.1 x.1.2.2.2.1 (fun v1 =>
       .need (List.length [IntKind.wrap .u32 (IntKind.wrap .u64 (IntKind.wrap .u64 (x.1.2.2.1 + IntKind.wrap .u64 v0) + IntKind.wrap .u64 v1))] * (nat_lit 3 + (1 : Nat)) ≤ (140737488355328 : Nat) ∧ List.length [IntKind.wrap .u32 (IntKind.wrap .u64 (IntKind.wrap .u64 (x.1.2.2.1 + IntKind.wrap .u64 v0) + IntKind.wrap .u64 v1))] ≤ Go.maxLen) (.up (List.length [IntKind.wrap .u32 (IntKind.wrap .u64 (IntKind.wrap .u64 (x.1.2.2.1 + IntKind.wrap .u64 v0) + IntKind.wrap .u64 v1))]) (fun v2 =>
         .need (List.length [IntKind.wrap .u32 (IntKind.wrap .u64 (IntKind.wrap .u64 (x.1.2.2.1 + IntKind.wrap .u64 v0) + IntKind.wrap .u64 v1))] = List.length [IntKind.wrap .u32 (IntKind.wrap .u64 (IntKind.wrap .u64 (x.1.2.2.1 + IntKind.wrap .u64 v0) + IntKind.wrap .u64 v1))] ∧ v2 = v2) (.ret (.again (x.1.1, (x.1.2.1, (Int.fdiv (IntKind.wrap .u64 (IntKind.wrap .u64 (x.1.2.2.1 + IntKind.wrap .u64 v0) + IntKind.wrap .u64 v1)) ((2 : Int) ^ Min.min (Int.toNat (32 : Int)) (IntKind.bits .u64)), (IntKind.wrap .i64 (x.1.2.2.2.1 + (1 : Int)), ())))) () (some (([IntKind.wrap .u32 (IntKind.wrap .u64 (IntKind.wrap .u64 (x.1.2.2.1 + IntKind.wrap .u64 v0) + IntKind.wrap .u64 v1))], v2)))))))))
      (.need (List.length [IntKind.wrap .u32 (IntKind.wrap .u64 (x.1.2.2.1 + IntKind.wrap .u64 v0))] * (nat_lit 3 + (1 : Nat)) ≤ (140737488355328 : Nat) ∧ List.length [IntKind.wrap .u32 (IntKind.wrap .u64 (x.1.2.2.1 + IntKind.wrap .u64 v0))] ≤ Go.maxLen) (.up (List.length [IntKind.wrap .u32 (IntKind.wrap .u64 (x.1.2.2.1 + IntKind.wrap .u64 v0))]) (fun v1 =>
        .need (List.length [IntKind.wrap .u32 (IntKind.wrap .u64 (x.1.2.2.1 + IntKind.wrap .u64 v0))] = List.length [IntKind.wrap .u32 (IntKind.wrap .u64 (x.1.2.2.1 + IntKind.wrap .u64 v0))] ∧ v1 = v1) (.ret (.again (x.1.1, (x.1.2.1, (Int.fdiv (IntKind.wrap .u64 (x.1.2.2.1 + IntKind.wrap .u64 v0)) ((2 : Int) ^ Min.min (Int.toNat (32 : Int)) (IntKind.bits .u64)), (IntKind.wrap .i64 (x.1.2.2.2.1 + (1 : Int)), ())))) () (some (([IntKind.wrap .u32 (IntKind.wrap .u64 (x.1.2.2.1 + IntKind.wrap .u64 v0))], v1))))))))))
    (.ite (decide (x.1.2.2.2.1 < (↑(List.length x.1.2.1) : Int)))
     (.get x.1.2.1 x.1.2.2.2.1 (fun v0 =>
      .need (List.length [IntKind.wrap .u32 (IntKind.wrap .u64 (x.1.2.2.1 + IntKind.wrap .u64 v0))] * (nat_lit 3 + (1 : Nat)) ≤ (140737488355328 : Nat) ∧ List.length [IntKind.wrap .u32 (IntKind.wrap .u64 (x.1.2.2.1 + IntKind.wrap .u64 v0))] ≤ Go.maxLen) (.up (List.length [IntKind.wrap .u32 (IntKind.wrap .u64 (x.1.2.2.1 + IntKind.wrap .u64 v0))]) (fun v1 =>
        .need (List.length [IntKind.wrap .u32 (IntKind.wrap .u64 (x.1.2.2.1 + IntKind.wrap .u64 v0))] = List.length [IntKind.wrap .u32 (IntKind.wrap .u64 (x.1.2.2.1 + IntKind.wrap .u64 v0))] ∧ v1 = v1) (.ret (.again (x.1.1, (x.1.2.1, (Int.fdiv (IntKind.wrap .u64 (x.1.2.2.1 + IntKind.wrap .u64 v0)) ((2 : Int) ^ Min.min (Int.toNat (32 : Int)) (IntKind.bits .u64)), (IntKind.wrap .i64 (x.1.2.2.2.1 + (1 : Int)), ())))) () (some (([IntKind.wrap .u32 (IntKind.wrap .u64 (x.1.2.2.1 + IntKind.wrap .u64 v0))], v1)))))))))
     (.need (List.length [IntKind.wrap .u32 x.1.2.2.1] * (nat_lit 3 + (1 : Nat)) ≤ (140737488355328 : Nat) ∧ List.length [IntKind.wrap .u32 x.1.2.2.1] ≤ Go.maxLen) (.up (List.length [IntKind.wrap .u32 x.1.2.2.1]) (fun v0 =>
       .need (List.length [IntKind.wrap .u32 x.1.2.2.1] = List.length [IntKind.wrap .u32 x.1.2.2.1] ∧ v0 = v0) (.ret (.again (x.1.1, (x.1.2.1, (Int.fdiv x.1.2.2.1 ((2 : Int) ^ Min.min (Int.toNat (32 : Int)) (IntKind.bits .u64)), (IntKind.wrap .i64 (x.1.2.2.2.1 + (1 : Int)), ())))) () (some (([IntKind.wrap .u32 x.1.2.2.1], v0))))))))))
   (.ite (decide (x.1.2.2.1 > (0 : Int)))
    (.ite (decide (x.1.2.2.2.1 < (↑(List.length x.1.1) : Int)))
     (.get x.1.1 x.1.2.2.2.1 (fun v0 =>
      .ite (decide (x.1.2.2.2.1 < (↑(List.length x.1.2.1) : Int)))
       (.get x.1.2.1 x.1.2.2.2.1 (fun v1 =>
        .need (List.length [IntKind.wrap .u32 (IntKind.wrap .u64 (IntKind.wrap .u64 (x.1.2.2.1 + IntKind.wrap .u64 v0) + IntKind.wrap .u64 v1))] * (nat_lit 3 + (1 : Nat)) ≤ (140737488355328 : Nat) ∧ List.length [IntKind.wrap .u32 (IntKind.wrap .u64 (IntKind.wrap .u64 (x.1.2.2.1 + IntKind.wrap .u64 v0) + IntKind.wrap .u64 v1))] ≤ Go.maxLen) (.up (List.length [IntKind.wrap .u32 (IntKind.wrap .u64 (IntKind.wrap .u64 (x.1.2.2.1 + IntKind.wrap .u64 v0) + IntKind.wrap .u64 v1))]) (fun v2 =>
          .need (List.length [IntKind.wrap .u32 (IntKind.wrap .u64 (IntKind.wrap .u64 (x.1.2.2.1 + IntKind.wrap .u64 v0) + IntKind.wrap .u64 v1))] = List.length [IntKind.wrap .u32 (IntKind.wrap .u64 (IntKind.wrap .u64 (x.1.2.2.1 + IntKind.wrap .u64 v0) + IntKind.wrap .u64 v1))] ∧ v2 = v2) (.ret (.again (x.1.1, (x.1.2.1, (Int.fdiv (IntKind.wrap .u64 (IntKind.wrap .u64 (x.1.2.2.1 + IntKind.wrap .u64 v0) + IntKind.wrap .u64 v1)) ((2 : Int) ^ Min.min (Int.toNat (32 : Int)) (IntKind.bits .u64)), (IntKind.wrap .i64 (x.1.2.2.2.1 + (1 : Int)), ())))) () (some (([IntKind.wrap .u32 (IntKind.wrap .u64 (IntKind.wrap .u64 (x.1.2.2.1 + IntKind.wrap .u64 v0) + IntKind.wrap .u64 v1))], v2)))))))))
       (.need (List.length [IntKind.wrap .u32 (IntKind.wrap .u64 (x.1.2.2.1 + IntKind.wrap .u64 v0))] * (nat_lit 3 + (1 : Nat)) ≤ (140737488355328 : Nat) ∧ List.length [IntKind.wrap .u32 (IntKind.wrap .u64 (x.1.2.2.1 + IntKind.wrap .u64 v0))] ≤ Go.maxLen) (.up (List.length [IntKind.wrap .u32 (IntKind.wrap .u64 (x.1.2.2.1 + IntKind.wrap .u64 v0))]) (fun v1 =>
         .need (List.length [IntKind.wrap .u32 (IntKind.wrap .u64 (x.1.2.2.1 + IntKind.wrap .u64 v0))] = List.length [IntKind.wrap .u32 (IntKind.wrap .u64 (x.1.2.2.1 + IntKind.wrap .u64 v0))] ∧ v1 = v1) (.ret (.again (x.1.1, (x.1.2.1, (Int.fdiv (IntKind.wrap .u64 (x.1.2.2.1 + IntKind.wrap .u64 v0)) ((2 : Int) ^ Min.min (Int.toNat (32 : Int)) (IntKind.bits .u64)), (IntKind.wrap .i64 (x.1.2.2.2.1 + (1 : Int)), ())))) () (some (([IntKind.wrap .u32 (IntKind.wrap .u64 (x.1.2.2.1 + IntKind.wrap .u64 v0))], v1))))))))))
     (.ite (decide (x.1.2.2.2.1 < (↑(List.length x.1.2.1) : Int)))
      (.get x.1.2.1 x.1.2.2.2.1 (fun v0 =>
       .need (List.length [IntKind.wrap .u32 (IntKind.wrap .u64 (x.1.2.2.1 + IntKind.wrap .u64 v0))] * (nat_lit 3 + (1 : Nat)) ≤ (140737488355328 : Nat) ∧ List.length [IntKind.wrap .u32 (IntKind.wrap .u64 (x.1.2.2.1 + IntKind.wrap .u64 v0))] ≤ Go.maxLen) (.up (List.length [IntKind.wrap .u32 (IntKind.wrap .u64 (x.1.2.2.1 + IntKind.wrap .u64 v0))]) (fun v1 =>
         .need (List.length [IntKind.wrap .u32 (IntKind.wrap .u64 (x.1.2.2.1 + IntKind.wrap .u64 v0))] = List.length [IntKind.wrap .u32 (IntKind.wrap .u64 (x.1.2.2.1 + IntKind.wrap .u64 v0))] ∧ v1 = v1) (.ret (.again (x.1.1, (x.1.2.1, (Int.fdiv (IntKind.wrap .u64 (x.1.2.2.1 + IntKind.wrap .u64 v0)) ((2 : Int) ^ Min.min (Int.toNat (32 : Int)) (IntKind.bits .u64)), (IntKind.wrap .i64 (x.1.2.2.2.1 + (1 : Int)), ())))) () (some (([IntKind.wrap .u32 (IntKind.wrap .u64 (x.1.2.2.1 + IntKind.wrap .u64 v0))], v1)))))))))
      (.need (List.length [IntKind.wrap .u32 x.1.2.2.1] * (nat_lit 3 + (1 : Nat)) ≤ (140737488355328 : Nat) ∧ List.length [IntKind.wrap .u32 x.1.2.2.1] ≤ Go.maxLen) (.up (List.length [IntKind.wrap .u32 x.1.2.2.1]) (fun v0 =>
        .need (List.length [IntKind.wrap .u32 x.1.2.2.1] = List.length [IntKind.wrap .u32 x.1.2.2.1] ∧ v0 = v0) (.ret (.again (x.1.1, (x.1.2.1, (Int.fdiv x.1.2.2.1 ((2 : Int) ^ Min.min (Int.toNat (32 : Int)) (IntKind.bits .u64)), (IntKind.wrap .i64 (x.1.2.2.2.1 + (1 : Int)), ())))) () (some (([IntKind.wrap .u32 x.1.2.2.1], v0))))))))))
    (.need (True) (.ret (.out (Go.Exit.exit (0 : Nat)) [] () none)))))
theorem tr_paddL0_eq (x : RSpec.X spAdd × RSpec.Y spAdd) : RSpec.round spAdd E25 (fun _ => none) (bodyOf Tryz.f56 0) x.1 x.2 none = tr_paddL0 x := by kernel_rfl
noncomputable def tr_psubL (x : RSpec.X spSub × RSpec.Y spSub × (List (El (RSpec.c spSub)) × Nat)) : T (RRd spSub) :=
 .ite (decide (x.1.2.2.2.1 < (↑(List.length x.1.1) : Int)))
  (.get x.1.1 x.1.2.2.2.1 (fun v0 =>
   .ite (decide (x.1.2.2.2.1 < (↑(List.length x.1.2.1) : Int)))
    (.get x.1.2.1 x.1.2.2.2.1 (fun v1 =>
     .ite (decide (IntKind.wrap .i64 (IntKind.wrap .i64 (IntKind.wrap .i64 v0 - x.1.2.2.1) - IntKind.wrap .i64 v1) < (0 : Int)))
      (.need (List.length x.2.2.1 = List.length x.2.2.1 ∧ x.2.2.2 = x.2.2.2 ∧ (List.length x.2.2.1 + List.length [IntKind.wrap .u32 (IntKind.wrap .i64 (IntKind.wrap .i64 (IntKind.wrap .i64 (IntKind.wrap .i64 v0 - x.1.2.2.1) - IntKind.wrap .i64 v1) + (4294967296 : Int)))]) * (nat_lit 3 + (1 : Nat)) ≤ (140737488355328 : Nat) ∧ List.length x.2.2.1 + List.length [IntKind.wrap .u32 (IntKind.wrap .i64 (IntKind.wrap .i64 (IntKind.wrap .i64 (IntKind.wrap .i64 v0 - x.1.2.2.1) - IntKind.wrap .i64 v1) + (4294967296 : Int)))] ≤ Go.maxLen) (.and
        (.need (List.length x.2.2.1 + List.length [IntKind.wrap .u32 (IntKind.wrap .i64 (IntKind.wrap .i64 (IntKind.wrap .i64 (IntKind.wrap .i64 v0 - x.1.2.2.1) - IntKind.wrap .i64 v1) + (4294967296 : Int)))] = List.length (x.2.2.1 ++ [IntKind.wrap .u32 (IntKind.wrap .i64 (IntKind.wrap .i64 (IntKind.wrap .i64 (IntKind.wrap .i64 v0 - x.1.2.2.1) - IntKind.wrap .i64 v1) + (4294967296 : Int)))]) ∧ x.2.2.2 = x.2.2.2) (.ret (.again (x.1.1, (x.1.2.1, ((1 : Int), (IntKind.wrap .i64 (x.1.2.2.2.1 + (1 : Int)), ())))) () (some ((x.2.2.1 ++ [IntKind.wrap .u32 (IntKind.wrap .i64 (IntKind.wrap .i64 (IntKind.wrap .i64 (IntKind.wrap .i64 v0 - x.1.2.2.1) - IntKind.wrap .i64 v1) + (4294967296 : Int)))], x.2.2.2))))))
        (.up (List.length x.2.2.1 + List.length [IntKind.wrap .u32 (IntKind.wrap .i64 (IntKind.wrap .i64 (IntKind.wrap .i64 (IntKind.wrap .i64 v0 - x.1.2.2.1) - IntKind.wrap .i64 v1) + (4294967296 : Int)))]) (fun v2 =>
         .need (List.length x.2.2.1 + List.length [IntKind.wrap .u32 (IntKind.wrap .i64 (IntKind.wrap .i64 (IntKind.wrap .i64 (IntKind.wrap .i64 v0 - x.1.2.2.1) - IntKind.wrap .i64 v1) + (4294967296 : Int)))] = List.length (x.2.2.1 ++ [IntKind.wrap .u32 (IntKind.wrap .i64 (IntKind.wrap .i64 (IntKind.wrap .i64 (IntKind.wrap .i64 v0 - x.1.2.2.1) - IntKind.wrap .i64 v1) + (4294967296 : Int)))]) ∧ v2 = v2) (.ret (.again (x.1.1, (x.1.2.1, ((1 : Int), (IntKind.wrap .i64 (x.1.2.2.2.1 + (1 : Int)), ())))) () (some ((x.2.2.1 ++ [IntKind.wrap .u32 (IntKind.wrap .i64 (IntKind.wrap .i64 (IntKind.wrap .i64 (IntKind.wrap .i64 v0 - x.1.2.2.1) - IntKind.wrap .i64 v1) + (4294967296 : Int)))], v2)))))))))
      (.need (List.length x.2.2.1 = List.length x.2.2.1 ∧ x.2.2.2 = x.2.2.2 ∧ (List.length x.2.2.1 + List.length [IntKind.wrap .u32 (IntKind.wrap .i64 (IntKind.wrap .i64 (IntKind.wrap .i64 v0 - x.1.2.2.1) - IntKind.wrap .i64 v1))]) * (nat_lit 3 + (1 : Nat)) ≤ (140737488355328 : Nat) ∧ List.length x.2.2.1 + List.length [IntKind.wrap .u32 (IntKind.wrap .i64 (IntKind.wrap .i64 (IntKind.wrap .i64 v0 - x.1.2.2.1) - IntKind.wrap .i64 v1))] ≤ Go.maxLen) (.and
        (.need (List.length x.2.2.1 + List.length [IntKind.wrap .u32 (IntKind.wrap .i64 (IntKind.wrap .i64 (IntKind.wrap .i64 v0 - x.1.2.2.1) - IntKind.wrap .i64 v1))] = List.length (x.2.2.1 ++ [IntKind.wrap .u32 (IntKind.wrap .i64 (IntKind.wrap .i64 (IntKind.wrap .i64 v0 - x.1.2.2.1) - IntKind.wrap .i64 v1))]) ∧ x.2.2.2 = x.2.2.2) (.ret (.again (x.1.1, (x.1.2.1, ((0 : Int), (IntKind.wrap .i64 (x.1.2.2.2.1 + (1 : Int)), ())))) () (some ((x.2.2.1 ++ [IntKind.wrap .u32 (IntKind.wrap .i64 (IntKind.wrap .i64 (IntKind.wrap .i64 v0 - x.1.2.2.1) - IntKind.wrap .i64 v1))], x.2.2.2))))))
        (.up (List.length x.2.2.1 + List.length [IntKind.wrap .u32 (IntKind.wrap .i64 (IntKind.wrap .i64 (IntKind.wrap .i64 v0 - x.1.2.2.1) - IntKind.wrap .i64 v1))]) (fun v2 =>
         .need (List.length x.2.2.1 + List.length [IntKind.wrap .u32 (IntKind.wrap .i64 (IntKind.wrap .i64 (IntKind.wrap .i64 v0 - x.1.2.2.1) - IntKind.wrap .i64 v1))] = List.length (x.2.2.1 ++ [IntKind.wrap .u32 (IntKind.wrap .i64 (IntKind.wrap .i64 (IntKind.wrap .i64 v0 - x.1.2.2.1) - IntKind.wrap .i64 v1))]) ∧ v2 = v2) (.ret (.again (x.1.1, (x.1.2.1, ((0 : Int), (IntKind.wrap .i64 (x.1.2.2.2.1 + (1 : Int)), ())))) () (some ((x.2.2.1 ++ [IntKind.wrap .u32 (IntKind.wrap .i64 (IntKind.wrap .i64 (IntKind.wrap .i64 v0 - x.1.2.2.1) - IntKind.wrap .i64 v1))], v2)))))))))))
    (.ite (decide (IntKind.wrap .i64 (IntKind.wrap .i64 v0 - x.1.2.2.1) < (0 : Int)))
     (.need (List.length x.2.2.1 = List.length x.2.2.1 ∧ x.2.2.2 = x.2.2.2 ∧ (List.length x.2.2.1 + List.length [IntKind.wrap .u32 (IntKind.wrap .i64 (IntKind.wrap .i64 (IntKind.wrap .i64 v0 - x.1.2.2.1) + (4294967296 : Int)))]) * (nat_lit 3 + (1 : Nat)) ≤ (140737488355328 : Nat) ∧ List.length x.2.2.1 + List.length [IntKind.wrap .u32 (IntKind.wrap .i64 (IntKind.wrap .i64 (IntKind.wrap .i64 v0 - x.1.2.2.1) + (4294967296 : Int)))] ≤ Go.maxLen) (.and
       (.need (List.length x.2.2.1 + List.length [IntKind.wrap .u32 (IntKind.wrap .i64 (IntKind.wrap .i64 (IntKind.wrap .i64 v0 - x.1.2.2.1) + (4294967296 : Int)))] = List.length (x.2.2.1 ++ [IntKind.wrap .u32 (IntKind.wrap .i64 (IntKind.wrap .i64 (IntKind.wrap .i64 v0 - x.1.2.2.1) + (4294967296 : Int)))]) ∧ x.2.2.2 = x.2.2.2) (.ret (.again (x.1.1, (x.1.2.1, ((1 : Int), (IntKind.wrap .i64 (x.1.2.2.2.1 + (1 : Int)), ())))) () (some ((x.2.2.1 ++ [IntKind.wrap .u32 (IntKind.wrap .i64 (IntKind.wrap .i64 (IntKind.wrap .i64 v0 - x.1.2.2.1) + (4294967296 : Int)))], x.2.2.2))))))
       (.up (List.length x.2.2.1 + List.length [IntKind.wrap .u32 (IntKind.wrap .i64 (IntKind.wrap .i64 (IntKind.wrap .i64 v0 - x.1.2.2.1) + (4294967296 : Int)))]) (fun v1 =>
        .need (List.length x.2.2.1 + List.length [IntKind.wrap .u32 (IntKind.wrap .i64 (IntKind.wrap .i64 (IntKind.wrap .i64 v0 - x.1.2.2.1) + (4294967296 : Int)))] = List.length (x.2.2.1 ++ [IntKind.wrap .u32 (IntKind.wrap .i64 (IntKind.wrap .i64 (IntKind.wrap .i64 v0 - x.1.2.2.1) + (4294967296 : Int)))]) ∧ v1 = v1) (.ret (.again (x.1.1, (x.1.2.1, ((1 : Int), (IntKind.wrap .i64 (x.1.2.2.2.1 + (1 : Int)), ())))) () (some ((x.2.2.1 ++ [IntKind.wrap .u32 (IntKind.wrap .i64 (IntKind.wrap .i64 (IntKind.wrap .i64 v0 - x.1.2.2.1) + (4294967296 : Int)))], v1)))))))))
     (.need (List.length x.2.2.1 = List.length x.2.2.1 ∧ x.2.2.2 = x.2.2.2 ∧ (List.length x.2.2.1 + List.length [IntKind.wrap .u32 (IntKind.wrap .i64 (IntKind.wrap .i64 v0 - x.1.2.2.1))]) * (nat_lit 3 + (1 : Nat)) ≤ (140737488355328 : Nat) ∧ List.length x.2.2.1 + List.length [IntKind.wrap .u32 (IntKind.wrap .i64 (IntKind.wrap .i64 v0 - x.1.2.2.1))] ≤ Go.maxLen) (.and
       (.need (List.length x.2.2.1 + List.length [IntKind.wrap .u32 (IntKind.wrap .i64 (IntKind.wrap .i64 v0 - x.1.2.2.1))] = List.length (x.2.2.1 ++ [IntKind.wrap .u32 (IntKind.wrap .i64 (IntKind.wrap .i64 v0 - x.1.2.2.1))]) ∧ x.2.2.2 = x.2.2.2) (.ret (.again (x.1.1, (x.1.2.1, ((0 : Int), (IntKind.wrap .i64 (x.1.2.2.2.1 + (1 : Int)), ())))) () (some ((x.2.2.1 ++ [IntKind.wrap .u32 (IntKind.wrap .i64 (IntKind.wrap .i64 v0 - x.1.2.2.1))], x.2.2.2))))))
       (.up (List.length x.2.2.1 + List.length [IntKind.wrap .u32 (IntKind.wrap .i64 (IntKind.wrap .i64 v0 - x.1.2.2.1))]) (fun v1 =>
        .need (List.length x.2.2.1 + List.length [IntKind.wrap .u32 (IntKind.wrap .i64 (IntKind.wrap .i64 v0 - x.1.2.2.1))] = List.length (x.2.2.1 ++ [IntKind.wrap .u32 (IntKind.wrap .i64 (IntKind.wrap .i64 v0 - x.1.2.2.1))]) ∧ v1 = v1) (.ret (.again (x.1.1, (x.1.2.1, ((0 : Int), (IntKind.wrap .i64 (x.1.2.2.2.1 + (1 : Int)), ())))) () (some ((x.2.2.1 ++ [IntKind.wrap .u32 (IntKind.wrap .i64 (IntKind.wrap .i64 v0 - x.1.2.2.1))], v1))))))))))))
  (.need (List.length x.2.2.1 = List.length x.2.2.1 ∧ x.2.2.2 = x.2.2.2) (.ret (.out (Go.Exit.exit (0 : Nat)) [] () (some x.2.2))))
theorem tr_psubL_eq (x : RSpec.X spSub × RSpec.Y spSub × (List (El (RSpec.c spSub)) × Nat)) : RSpec.round spSub E25 (fun _ => none) (bodyOf Tryz.f94 0) x.1 x.2.1 (some x.2.2) = tr_psubL x := by kernel_rfl
noncomputable def tr_psubL0 (x : RSpec.X spSub × RSpec.Y spSub) : T (RRd spSub) :=
 .ite (decide (x.1.2.2.2.1 < (↑(List.length x.1.1) : Int)))
  (.get x.1.1 x.1.2.2.2.1 (fun v0 =>
   .ite (decide (x.1.2.2.2.1 < (↑(List.length x.1.2.1) : Int)))
    (.get x.1.2.1 x.1.2.2.2.1 (fun v1 =>
     .ite (decide (IntKind.wrap .i64 (IntKind.wrap .i64 (IntKind.wrap .i64 v0 - x.1.2.2.1) - IntKind.wrap .i64 v1) < (0 : Int)))
      (.need (List.length [IntKind.wrap .u32 (IntKind.wrap .i64 (IntKind.wrap .i64 (IntKind.wrap .i64 (IntKind.wrap .i64 v0 - x.1.2.2.1) - IntKind.wrap .i64 v1) + (4294967296 : Int)))] * (nat_lit 3 + (1 : Nat)) ≤ (140737488355328 : Nat) ∧ List.length [IntKind.wrap .u32 (IntKind.wrap .i64 (IntKind.wrap .i64 (IntKind.wrap .i64 (IntKind.wrap .i64 v0 - x.1.2.2.1) - IntKind.wrap .i64 v1) + (4294967296 : Int)))] ≤ Go.maxLen) (.up (List.length [IntKind.wrap .u32 (IntKind.wrap .i64 (IntKind.wrap .i64 (IntKind.wrap .i64 (IntKind.wrap .i64 v0 - x.1.2.2.1) - IntKind.wrap .i64 v1) + (4294967296 : Int)))]) (fun v2 =>
        .need (List.length [IntKind.wrap .u32 (IntKind.wrap .i64 (IntKind.wrap .i64 (IntKind.wrap .i64 (IntKind.wrap .i64 v0 - x.1.2.2.1) - IntKind.wrap .i64 v1) + (4294967296 : Int)))] = List.length [IntKind.wrap .u32 (IntKind.wrap .i64 (IntKind.wrap .i64 (IntKind.wrap .i64 (IntKind.wrap .i64 v0 - x.1.2.2.1) - IntKind.wrap .i64 v1) + (4294967296 : Int)))] ∧ v2 = v2) (.ret (.again (x.1.1, (x.1.2.1, ((1 : Int), (IntKind.wrap .i64 (x.1.2.2.2.1 + (1 : Int)), ())))) () (some (([IntKind.wrap .u32 (IntKind.wrap .i64 (IntKind.wrap .i64 (IntKind.wrap .i64 (IntKind.wrap .i64 v0 - x.1.2.2.1) - IntKind.wrap .i64 v1) + (4294967296 : Int)))], v2))))))))
      (.need (List.length [IntKind.wrap .u32 (IntKind.wrap .i64 (IntKind.wrap .i64 (IntKind.wrap .i64 v0 - x.1.2.2.1) - IntKind.wrap .i64 v1))] * (nat_lit 3 + (1 : Nat)) ≤ (140737488355328 : Nat) ∧ List.length [IntKind.wrap .u32 (IntKind.wrap .i64 (IntKind.wrap .i64 (IntKind.wrap .i64 v0 - x.1.2.2.1) - IntKind.wrap .i64 v1))] ≤ Go.maxLen) (.up (List.length [IntKind.wrap .u32 (IntKind.wrap .i64 (IntKind.wrap .i64 (IntKind.wrap .i64 v0 - x.1.2.2.1) - IntKind.wrap .i64 v1))]) (fun v2 =>
        .need (List.length [IntKind.wrap .u32 (IntKind.wrap .i64 (IntKind.wrap .i64 (IntKind.wrap .i64 v0 - x.1.2.2.1) - IntKind.wrap .i64 v1))] = List.length [IntKind.wrap .u32 (IntKind.wrap .i64 (IntKind.wrap .i64 (IntKind.wrap .i64 v0 - x.1.2.2.1) - IntKind.wrap .i64 v1))] ∧ v2 = v2) (.ret (.again (x.1.1, (x.1.2.1, ((0 : Int), (IntKind.wrap .i64 (x.1.2.2.2.1 + (1 : Int)), ())))) () (some (([IntKind.wrap .u32 (IntKind.wrap .i64 (IntKind.wrap .i64 (IntKind.wrap .i64 v0 - x.1.2.2.1) - IntKind.wrap .i64 v1))], v2))))))))))
    (.ite (decide (IntKind.wrap .i64 (IntKind.wrap .i64 v0 - x.1.2.2.1) < (0 : Int)))
     (.need (List.length [IntKind.wrap .u32 (IntKind.wrap .i64 (IntKind.wrap .i64 (IntKind.wrap .i64 v0 - x.1.2.2.1) + (4294967296 : Int)))] * (nat_lit 3 + (1 : Nat)) ≤ (140737488355328 : Nat) ∧ List.length [IntKind.wrap .u32 (IntKind.wrap .i64 (IntKind.wrap .i64 (IntKind.wrap .i64 v0 - x.1.2.2.1) + (4294967296 : Int)))] ≤ Go.maxLen) (.up (List.length [IntKind.wrap .u32 (IntKind.wrap .i64 (IntKind.wrap .i64 (IntKind.wrap .i64 v0 - x.1.2.2.1) + (4294967296 : Int)))]) (fun v1 =>
       .need (List.length [IntKind.wrap .u32 (IntKind.wrap .i64 (IntKind.wrap .i64 (IntKind.wrap .i64 v0 - x.1.2.2.1) + (4294967296 : Int)))] = List.length [IntKind.wrap .u32 (IntKind.wrap .i64 (IntKind.wrap .i64 (IntKind.wrap .i64 v0 - x.1.2.2.1) + (4294967296 : Int)))] ∧ v1 = v1) (.ret (.again (x.1.1, (x.1.2.1, ((1 : Int), (IntKind.wrap .i64 (x.1.2.2.2.1 + (1 : Int)), ())))) () (some (([IntKind.wrap .u32 (IntKind.wrap .i64 (IntKind.wrap .i64 (IntKind.wrap .i64 v0 - x.1.2.2.1) + (4294967296 : Int)))], v1))))))))
     (.need (List.length [IntKind.wrap .u32 (IntKind.wrap .i64 (IntKind.wrap .i64 v0 - x.1.2.2.1))] * (nat_lit 3 + (1 : Nat)) ≤ (140737488355328 : Nat) ∧ List.length [IntKind.wrap .u32 (IntKind.wrap .i64 (IntKind.wrap .i64 v0 - x.1.2.2.1))] ≤ Go.maxLen) (.up (List.length [IntKind.wrap .u32 (IntKind.wrap .i64 (IntKind.wrap .i64 v0 - x.1.2.2.1))]) (fun v1 =>
       .need (List.length [IntKind.wrap .u32 (IntKind.wrap .i64 (IntKind.wrap .i64 v0 - x.1.2.2.1))] = List.length [IntKind.wrap .u32 (IntKind.wrap .i64 (IntKind.wrap .i64 v0 - x.1.2.2.1))] ∧ v1 = v1) (.ret (.again (x.1.1, (x.1.2.1, ((0 : Int), (IntKind.wrap .i64 (x.1.2.2.2.1 + (1 : Int)), ())))) () (some (([IntKind.wrap .u32 (IntKind.wrap .i64 (IntKind.wrap .i64 v0 - x.1.2.2.1))], v1)))))))))))
  (.need (True) (.ret (.out (Go.Exit.exit (0 : Nat)) [] () none)))
theorem tr_psubL0_eq (x : RSpec.X spSub × RSpec.Y spSub) : RSpec.round spSub E25 (fun _ => none) (bodyOf Tryz.f94 0) x.1 x.2 none = tr_psubL0 x := by kernel_rfl
noncomputable def tr_pcmpL (x : LSpec.X spCmp × LSpec.Y spCmp) : T (Rd spCmp) :=
 .ite (decide (x.1.2.2.1 ≥ (0 : Int)))
  (.get x.1.1 x.1.2.2.1 (fun v0 =>
   .get x.1.2.1 x.1.2.2.1 (fun v1 =>
    .ite (decide (v0 < v1))
     (.ret (.out (Go.Exit.ret) [(.one (.v (.int .i64 ((-1 : Int)))))] ()))
     (.get x.1.1 x.1.2.2.1 (fun v2 =>
      .get x.1.2.1 x.1.2.2.1 (fun v3 =>
       .ite (decide (v2 > v3))
        (.ret (.out (Go.Exit.ret) [(.one (.v (.int .i64 ((1 : Int)))))] ()))
        (.ret (.again (x.1.1, (x.1.2.1, (IntKind.wrap .i64 (x.1.2.2.1 - (1 : Int)), ()))) ()))))))))
  (.ret (.out (Go.Exit.exit (0 : Nat)) [] ()))
theorem tr_pcmpL_eq (x : LSpec.X spCmp × LSpec.Y spCmp) : LSpec.round spCmp E25 (fun _ => none) (bodyOf Tryz.f70 0) x.1 x.2 = tr_pcmpL x := by kernel_rfl
noncomputable def tr_pbitsL (x : LSpec.X spBits × LSpec.Y spBits) : T (Rd spBits) :=
 .ite (decide (x.1.2.1 > (0 : Int)))
  (.ret (.again (IntKind.wrap .i64 (x.1.1 + (1 : Int)), (Int.fdiv x.1.2.1 ((2 : Int) ^ Min.min (Int.toNat (1 : Int)) (IntKind.bits .u32)), ())) ()))
  (.ret (.out (Go.Exit.exit (0 : Nat)) [(.one (.v (.int .i64 x.1.1)))] ()))
theorem tr_pbitsL_eq (x : LSpec.X spBits × LSpec.Y spBits) : LSpec.round spBits E25 (fun _ => none) (bodyOf Tryz.f92 0) x.1 x.2 = tr_pbitsL x := by kernel_rfl
noncomputable def tr_pshlL (x : RSpec.X spShl × RSpec.Y spShl × (List (El (RSpec.c spShl)) × Nat)) : T (RRd spShl) :=
 .ite (decide (x.1.2.2.1 < (↑(List.length x.1.1) : Int)))
  (.get x.1.1 x.1.2.2.1 (fun v0 =>
   .need ((32 : Int) ≠ (0 : Int)) (.need ((0 : Int) ≤ IntKind.wrap .u64 (Int.tmod x.1.2.1 (32 : Int))) (.need ((32 : Int) ≠ (0 : Int)) (.need ((32 : Int) ≠ (0 : Int)) (.need ((0 : Int) ≤ IntKind.wrap .i64 (x.1.2.2.1 + IntKind.wrap .i64 (Int.tdiv x.1.2.1 (32 : Int))) ∧ IntKind.wrap .i64 (x.1.2.2.1 + IntKind.wrap .i64 (Int.tdiv x.1.2.1 (32 : Int))) < (↑(List.length x.2.2.1) : Int)) (.get x.2.2.1 (IntKind.wrap .i64 (x.1.2.2.1 + IntKind.wrap .i64 (Int.tdiv x.1.2.1 (32 : Int)))) (fun v1 =>
         .need ((0 : Int) ≤ IntKind.wrap .i64 (x.1.2.2.1 + IntKind.wrap .i64 (Int.tdiv x.1.2.1 (32 : Int))) ∧ IntKind.wrap .i64 (x.1.2.2.1 + IntKind.wrap .i64 (Int.tdiv x.1.2.1 (32 : Int))) < (↑(List.length x.2.2.1) : Int)) (.need (IntKind.wrap .i64 (x.1.2.2.1 + IntKind.wrap .i64 (Int.tdiv x.1.2.1 (32 : Int))) < (↑(List.length x.2.2.1) : Int)) (.need ((32 : Int) ≠ (0 : Int)) (.need ((0 : Int) ≤ IntKind.wrap .i64 (IntKind.wrap .i64 (x.1.2.2.1 + IntKind.wrap .i64 (Int.tdiv x.1.2.1 (32 : Int))) + (1 : Int)) ∧ IntKind.wrap .i64 (IntKind.wrap .i64 (x.1.2.2.1 + IntKind.wrap .i64 (Int.tdiv x.1.2.1 (32 : Int))) + (1 : Int)) < (↑(List.length x.2.2.1) : Int)) (.need (IntKind.wrap .i64 (IntKind.wrap .i64 (x.1.2.2.1 + IntKind.wrap .i64 (Int.tdiv x.1.2.1 (32 : Int))) + (1 : Int)) < (↑(List.length (List.set x.2.2.1 (Int.toNat (IntKind.wrap .i64 (x.1.2.2.1 + IntKind.wrap .i64 (Int.tdiv x.1.2.1 (32 : Int))))) (IntKind.wrap .u32 (↑(BitVec.toNat (BitVec.ofInt (IntKind.bits .u32) v1 ||| BitVec.ofInt (IntKind.bits .u32) (IntKind.wrap .u32 (IntKind.wrap .u64 (IntKind.wrap .u64 v0 * (2 : Int) ^ Min.min (Int.toNat (IntKind.wrap .u64 (Int.tmod x.1.2.1 (32 : Int)))) (IntKind.bits .u64)))))) : Int)))) : Int)) (.need (List.length x.2.2.1 = List.length (List.set (List.set x.2.2.1 (Int.toNat (IntKind.wrap .i64 (x.1.2.2.1 + IntKind.wrap .i64 (Int.tdiv x.1.2.1 (32 : Int))))) (IntKind.wrap .u32 (↑(BitVec.toNat (BitVec.ofInt (IntKind.bits .u32) v1 ||| BitVec.ofInt (IntKind.bits .u32) (IntKind.wrap .u32 (IntKind.wrap .u64 (IntKind.wrap .u64 v0 * (2 : Int) ^ Min.min (Int.toNat (IntKind.wrap .u64 (Int.tmod x.1.2.1 (32 : Int)))) (IntKind.bits .u64)))))) : Int))) (Int.toNat (IntKind.wrap .i64 (IntKind.wrap .i64 (x.1.2.2.1 + IntKind.wrap .i64 (Int.tdiv x.1.2.1 (32 : Int))) + (1 : Int)))) (IntKind.wrap .u32 (Int.fdiv (IntKind.wrap .u64 (IntKind.wrap .u64 v0 * (2 : Int) ^ Min.min (Int.toNat (IntKind.wrap .u64 (Int.tmod x.1.2.1 (32 : Int)))) (IntKind.bits .u64))) ((2 : Int) ^ Min.min (Int.toNat (32 : Int)) (IntKind.bits .u64))))) ∧ x.2.2.2 = x.2.2.2) (.ret (.again (x.1.1, (x.1.2.1, (IntKind.wrap .i64 (x.1.2.2.1 + (1 : Int)), ()))) () (some ((List.set (List.set x.2.2.1 (Int.toNat (IntKind.wrap .i64 (x.1.2.2.1 + IntKind.wrap .i64 (Int.tdiv x.1.2.1 (32 : Int))))) (IntKind.wrap .u32 (↑(BitVec.toNat (BitVec.ofInt (IntKind.bits .u32) v1 ||| BitVec.ofInt (IntKind.bits .u32) (IntKind.wrap .u32 (IntKind.wrap .u64 (IntKind.wrap .u64 v0 * (2 : Int) ^ Min.min (Int.toNat (IntKind.wrap .u64 (Int.tmod x.1.2.1 (32 : Int)))) (IntKind.bits .u64)))))) : Int))) (Int.toNat (IntKind.wrap .i64 (IntKind.wrap .i64 (x.1.2.2.1 + IntKind.wrap .i64 (Int.tdiv x.1.2.1 (32 : Int))) + (1 : Int)))) (IntKind.wrap .u32 (Int.fdiv (IntKind.wrap .u64 (IntKind.wrap .u64 v0 * (2 : Int) ^ Min.min (Int.toNat (IntKind.wrap .u64 (Int.tmod x.1.2.1 (32 : Int)))) (IntKind.bits .u64))) ((2 : Int) ^ Min.min (Int.toNat (32 : Int)) (IntKind.bits .u64)))), x.2.2.2))))))))))))))))))
  (.need (List.length x.2.2.1 = List.length x.2.2.1 ∧ x.2.2.2 = x.2.2.2) (.ret (.out (Go.Exit.exit (0 : Nat)) [] () (some x.2.2))))
theorem tr_pshlL_eq (x : RSpec.X spShl × RSpec.Y spShl × (List (El (RSpec.c spShl)) × Nat)) : RSpec.round spShl E25 (fun _ => none) (bodyOf Tryz.f93 0) x.1 x.2.1 (some x.2.2) = tr_pshlL x := by kernel_rfl
noncomputable def tr_ptinyL (x : LSpec.X spTiny × LSpec.Y spTiny) : T (Rd spTiny) :=
 .ite (decide (x.1.1 < (32 : Int)))
  (.need ((0 : Int) ≤ x.1.1 ∧ x.1.1 < (↑(32 : Nat) : Int)) (.need (x.1.1 < (32 : Int)) (.ite ((↑(Pq.wd x.2.1.1.2.1 (Int.toNat x.1.1)) : Int) != (0 : Int))
     (.ret (.out (Go.Exit.ret) [(.one (.v (.int .i64 ((0 : Int))))), (.one (.v (.int .i64 ((0 : Int))))), (.one (.v (.bool (false))))] (x.2.1, ())))
     (.need ((0 : Int) ≤ x.1.1 ∧ x.1.1 < (↑(32 : Nat) : Int)) (.need (x.1.1 < (32 : Int)) (.ite ((↑(Pq.wd x.2.1.2.2.1 (Int.toNat x.1.1)) : Int) != (0 : Int))
        (.ret (.out (Go.Exit.ret) [(.one (.v (.int .i64 ((0 : Int))))), (.one (.v (.int .i64 ((0 : Int))))), (.one (.v (.bool (false))))] (x.2.1, ())))
        (.ret (.again (IntKind.wrap .i64 (x.1.1 + (1 : Int)), ()) (x.2.1, ())))))))))
  (.ret (.out (Go.Exit.exit (0 : Nat)) [] (x.2.1, ())))
theorem tr_ptinyL_eq (x : LSpec.X spTiny × LSpec.Y spTiny) : LSpec.round spTiny E25 (fun _ => none) (bodyOf Tryz.f67 0) x.1 x.2 = tr_ptinyL x := by kernel_rfl
noncomputable def tr_pcommL (x : LSpec.X spComm × LSpec.Y spComm) : T (Rd spComm) :=
 .ite (decide (x.1.2.1 > (0 : Int)))
  (.need (x.1.2.1 ≠ (0 : Int)) (.ret (.again (x.1.2.1, (Int.tmod x.1.1 x.1.2.1, ())) ())))
  (.ret (.out (Go.Exit.exit (0 : Nat)) [(.one (.v (.int .i64 x.1.1)))] ()))
theorem tr_pcommL_eq (x : LSpec.X spComm × LSpec.Y spComm) : LSpec.round spComm E25 (fun _ => none) (bodyOf Tryz.f87 0) x.1 x.2 = tr_pcommL x := by kernel_rfl
end Go.Proofs.YtjijakfcahhioaaGreat
/-
Plain laws: sums, differences, comparing, bits, shifts of rows of words.
-/
set_option linter.unusedSimpArgs false
set_option linter.unusedVariables false
namespace Go.Proofs.YtjijakfcahhioaaGreat
open Go.RowKit Ax
theorem words_nil : Words [] := fun v hv => by cases hv
theorem val_nil : valL [] = 0 := rfl
def adW : List Int → List Int → Int → List Int
  | [], [], c => if 0 < c then [c % 4294967296] else []
  | x :: a, [], c => ((c + x) % 4294967296) :: adW a [] ((c + x) / 4294967296)
  | [], y :: b, c => ((c + y) % 4294967296) :: adW [] b ((c + y) / 4294967296)
  | x :: a, y :: b, c => ((c + x + y) % 4294967296) :: adW a b ((c + x + y) / 4294967296)
theorem cons_val {v : Int} (h : 0 ≤ v) (r : List Int) : (valL (v :: r) : Int) = v + 4294967296 * valL r := by rw [valL]; omega
theorem cons_words {v : Int} {r : List Int} (h : 0 ≤ v ∧ v < 4294967296) (hr : Words r) : Words (v :: r) := fun x hx => by
  rcases List.mem_cons.1 hx with rfl | hx
  · exact h
  · exact hr x hx
theorem tail_words {v : Int} {r : List Int} (h : Words (v :: r)) : Words r := fun x hx => h x (by simp [hx])
theorem adW_spec : ∀ (a b : List Int) (c : Int), Words a → Words b → 0 ≤ c → c < 4294967296 → Words (adW a b c) ∧ (valL (adW a b c) : Int) = valL a + valL b + c ∧ (adW a b c).length ≤ max a.length b.length + 1
  | [], [], c, _, _, h0, h1 => by
    unfold adW
    by_cases h : 0 < c
    · rw [if_pos h]
      exact ⟨cons_words (by omega) words_nil, by rw [cons_val (by omega)]; simp [valL]; omega, by simp⟩
    · rw [if_neg h]
      exact ⟨words_nil, by simp [valL]; omega, by simp⟩
  | x :: a, [], c, ha, hb, h0, h1 => by
    have hx := ha x (by simp)
    obtain ⟨i1, i2, i3⟩ := adW_spec a [] ((c + x) / 4294967296) (tail_words ha) hb (by omega) (by omega)
    rw [adW]
    refine ⟨cons_words (by omega) i1, ?_, by simp at i3 ⊢; omega⟩
    rw [cons_val (by omega), i2, cons_val hx.1, val_nil]
    omega
  | [], y :: b, c, ha, hb, h0, h1 => by
    have hy := hb y (by simp)
    obtain ⟨i1, i2, i3⟩ := adW_spec [] b ((c + y) / 4294967296) ha (tail_words hb) (by omega) (by omega)
    rw [adW]
    refine ⟨cons_words (by omega) i1, ?_, by simp at i3 ⊢; omega⟩
    rw [cons_val (by omega), i2, cons_val hy.1, val_nil]
    omega
  | x :: a, y :: b, c, ha, hb, h0, h1 => by
    have hx := ha x (by simp)
    have hy := hb y (by simp)
    obtain ⟨i1, i2, i3⟩ := adW_spec a b ((c + x + y) / 4294967296) (tail_words ha) (tail_words hb) (by omega) (by omega)
    rw [adW]
    refine ⟨cons_words (by omega) i1, ?_, by simp at i3 ⊢; omega⟩
    rw [cons_val (by omega), i2, cons_val hx.1, cons_val hy.1]
    omega
/-- x less what is borrowed: its word, what is borrowed then -/
def sbD (d : Int) : Int := if d < 0 then d + 4294967296 else d
def sbC (d : Int) : Int := if d < 0 then 1 else 0
def sbW : List Int → List Int → Int → List Int
  | [], _, _ => []
  | x :: a, [], c => sbD (x - c) :: sbW a [] (sbC (x - c))
  | x :: a, y :: b, c => sbD (x - c - y) :: sbW a b (sbC (x - c - y))
theorem sbD_c (d : Int) : sbD d = d + 4294967296 * sbC d := by unfold sbD sbC; split <;> omega
theorem sbC_01 (d : Int) : sbC d = 0 ∨ sbC d = 1 := by unfold sbC; split <;> simp
theorem sbW_spec : ∀ (a b : List Int) (c : Int), Words a → Words b → (c = 0 ∨ c = 1) → b.length ≤ a.length → Words (sbW a b c) ∧ (sbW a b c).length = a.length ∧ ∃ e : Int, (e = 0 ∨ e = 1) ∧ (valL (sbW a b c) : Int) = valL a - valL b - c + Pq.bp a.length * e
  | [], b, c, _, _, hc, hl => by
    have : b = [] := List.length_eq_zero_iff.1 (by simpa using hl)
    subst this
    refine ⟨words_nil, rfl, c, hc, ?_⟩
    rw [List.length_nil, Pq.bp_zero]
    simp [sbW, valL]
    omega
  | x :: a, [], c, ha, hb, hc, hl => by
    have hx := ha x (by simp)
    obtain ⟨i1, i2, e, he, i3⟩ := sbW_spec a [] (sbC (x - c)) (tail_words ha) hb (sbC_01 _) (by simp)
    have h1 := sbD_c (x - c)
    have h2 : 0 ≤ sbD (x - c) ∧ sbD (x - c) < 4294967296 := by unfold sbD; split <;> omega
    rw [sbW]
    refine ⟨cons_words h2 i1, by simp [i2], e, he, ?_⟩
    rw [cons_val h2.1, i3, cons_val hx.1, List.length_cons, Pq.bp_succ]
    have e1 : ((Pq.bp a.length * 4294967296 : Nat) : Int) * e = 4294967296 * ((Pq.bp a.length : Nat) * e) := by rw [Int.natCast_mul, Int.mul_comm ((Pq.bp a.length : Nat) : Int), Int.mul_assoc]; rfl
    rw [e1, h1, val_nil]
    generalize ((Pq.bp a.length : Nat) : Int) * e = q
    omega
  | x :: a, y :: b, c, ha, hb, hc, hl => by
    have hx := ha x (by simp)
    have hy := hb y (by simp)
    obtain ⟨i1, i2, e, he, i3⟩ := sbW_spec a b (sbC (x - c - y)) (tail_words ha) (tail_words hb) (sbC_01 _) (by simpa using hl)
    have h1 := sbD_c (x - c - y)
    have h2 : 0 ≤ sbD (x - c - y) ∧ sbD (x - c - y) < 4294967296 := by unfold sbD; split <;> omega
    rw [sbW]
    refine ⟨cons_words h2 i1, by simp [i2], e, he, ?_⟩
    rw [cons_val h2.1, i3, cons_val hx.1, cons_val hy.1, List.length_cons, Pq.bp_succ]
    have e1 : ((Pq.bp a.length * 4294967296 : Nat) : Int) * e = 4294967296 * ((Pq.bp a.length : Nat) * e) := by rw [Int.natCast_mul, Int.mul_comm ((Pq.bp a.length : Nat) : Int), Int.mul_assoc]; rfl
    rw [e1, h1]
    generalize ((Pq.bp a.length : Nat) : Int) * e = q
    omega
theorem sbW_val {a b : List Int} (ha : Words a) (hb : Words b) (hl : b.length ≤ a.length) (h : valL b ≤ valL a) : valL (sbW a b 0) = valL a - valL b := by
  obtain ⟨h1, h2, e, he, h3⟩ := sbW_spec a b 0 ha hb (.inl rfl) hl
  have hlt := val_words h1
  rw [h2] at hlt
  rcases he with rfl | rfl
  · omega
  · omega
/-- which of two is greater, from the top -/
def cmW (a b : List Int) : Nat → Int
  | 0 => 0
  | n + 1 => if a.getD n 0 < b.getD n 0 then -1 else if a.getD n 0 > b.getD n 0 then 1 else cmW a b n
theorem take_val {a : List Int} {n : Nat} (h : n < a.length) : valL (a.take (n + 1)) = valL (a.take n) + Pq.bp n * (a.getD n 0).toNat := by
  have hp : a[n]? = some (a.getD n 0) := by rw [List.getD_eq_getElem?_getD, List.getElem?_eq_getElem h]; rfl
  have hta : a.take (n + 1) = a.take n ++ [a.getD n 0] := by rw [List.take_add_one, hp]; rfl
  have hlt : (a.take n).length = n := by rw [List.length_take]; omega
  rw [hta, val_app, hlt]
  simp [valL]
theorem take_words {a : List Int} (h : Words a) (n : Nat) : Words (a.take n) := fun v hv => h v (List.mem_of_mem_take hv)
theorem cmW_spec {a b : List Int} (ha : Words a) (hb : Words b) : ∀ n, n ≤ a.length → n ≤ b.length → cmW a b n = Pq.cz (valL (a.take n)) (valL (b.take n))
  | 0, _, _ => by simp [cmW, valL, Pq.cz]
  | n + 1, h1, h2 => by
    have va := val_words (take_words ha n)
    have vb := val_words (take_words hb n)
    rw [List.length_take, Nat.min_eq_left (by omega)] at va vb
    have wa := ha (a.getD n 0) (by rw [List.getD_eq_getElem?_getD, List.getElem?_eq_getElem (by omega : n < a.length)]; exact List.getElem_mem _)
    have wb := hb (b.getD n 0) (by rw [List.getD_eq_getElem?_getD, List.getElem?_eq_getElem (by omega : n < b.length)]; exact List.getElem_mem _)
    rw [cmW, cmW_spec ha hb n (by omega) (by omega), take_val (by omega : n < a.length), take_val (by omega : n < b.length)]
    generalize valL (a.take n) = x at *
    generalize valL (b.take n) = y at *
    generalize a.getD n 0 = u at *
    generalize b.getD n 0 = v at *
    generalize Pq.bp n = p at *
    have key : ∀ s t : Nat, s + 1 ≤ t → p * s + p ≤ p * t := fun s t h => by rw [← Nat.mul_succ]; exact Nat.mul_le_mul_left _ h
    unfold Pq.cz
    by_cases h3 : u < v
    · have := key u.toNat v.toNat (by omega)
      rw [if_pos h3, if_pos (by omega)]
    · by_cases h4 : v < u
      · have := key v.toNat u.toNat (by omega)
        rw [if_neg h3, if_pos h4, if_neg (by omega), if_pos (by omega)]
      · obtain rfl : u = v := by omega
        rw [if_neg h3, if_neg h4]
        by_cases h5 : (x : Int) < y
        · rw [if_pos h5, if_pos (by omega)]
        · by_cases h6 : (y : Int) < x
          · rw [if_neg h5, if_pos h6, if_neg (by omega), if_pos (by omega)]
          · rw [if_neg h5, if_neg h6, if_neg (by omega), if_neg (by omega)]
theorem bitn_half {x : Nat} (h : x ≠ 0) : Pq.bitn x = Pq.bitn (x / 2) + 1 := by
  by_cases h1 : x = 1
  · subst h1; rfl
  · unfold Pq.bitn
    rw [if_neg h, if_neg (by omega), Nat.log2_def, if_pos (by omega)]
theorem bitn_add {s lo w : Nat} (hl : lo < 2 ^ s) (hw : w ≠ 0) : Pq.bitn (lo + 2 ^ s * w) = s + Pq.bitn w := by
  obtain ⟨t, ht⟩ : ∃ t, Pq.bitn w = t + 1 := ⟨Pq.bitn w - 1, by have := Pq.bitn_eq0 (x := w); omega⟩
  have h1 : w < 2 ^ (t + 1) := Pq.bitn_le.1 (by omega)
  have h2 : 2 ^ t ≤ w := Nat.not_lt.1 fun h => by have := Pq.bitn_le.2 h; omega
  rw [ht, ← Nat.add_assoc]
  refine Pq.bitn_of ?_ ?_
  · rw [Nat.pow_add]
    exact Nat.le_trans (Nat.mul_le_mul_left _ h2) (Nat.le_add_left _ _)
  · have h3 : 2 ^ s * w + 2 ^ s ≤ 2 ^ s * 2 ^ (t + 1) := by rw [← Nat.mul_succ]; exact Nat.mul_le_mul_left _ h1
    rw [Nat.add_assoc s t 1, Nat.pow_add]
    omega
theorem bp_pow (k : Nat) : Pq.bp k = 2 ^ (32 * k) := by unfold Pq.bp; rw [Nat.pow_mul]
/-- the row of so many words that tells Q -/
def rw' (L Q : Nat) : List Int := (List.range L).map fun j => ((Pq.wd Q j : Nat) : Int)
theorem rw_len (L Q : Nat) : (rw' L Q).length = L := by simp [rw']
theorem rw_words (L Q : Nat) : Words (rw' L Q) := fun v hv => by
  obtain ⟨j, _, rfl⟩ := List.mem_map.1 hv
  have := Pq.wd_lt Q j
  omega
theorem rw_val {L Q : Nat} (h : Q < Pq.bp L) : valL (rw' L Q) = Q := by unfold rw'; rw [val_range]; exact Nat.mod_eq_of_lt h
theorem rw_get {L Q i : Nat} (h : i < L) : (rw' L Q)[i]? = some ((Pq.wd Q i : Nat) : Int) := by simp [rw', h]
theorem words_inj : ∀ {l k : List Int}, Words l → Words k → l.length = k.length → valL l = valL k → l = k
  | [], [], _, _, _, _ => rfl
  | [], _ :: _, _, _, h, _ => by simp at h
  | _ :: _, [], _, _, h, _ => by simp at h
  | x :: l, y :: k, hl, hk, h, hv => by
    have hx := hl x (by simp)
    have hy := hk y (by simp)
    rw [valL, valL] at hv
    have e1 : valL l = valL k := by omega
    have e2 : x = y := by omega
    rw [e2, words_inj (tail_words hl) (tail_words hk) (by simpa using h) e1]
theorem rw_of {l : List Int} {L Q : Nat} (h : Words l) (hl : l.length = L) (hv : valL l = Q) : l = rw' L Q := by
  have hq : Q < Pq.bp L := by rw [← hv, ← hl]; exact val_words h
  exact words_inj h (rw_words _ _) (by rw [hl, rw_len]) (by rw [hv, rw_val hq])
theorem rw_zero (L : Nat) : List.replicate L 0 = rw' L 0 := rw_of (words_zero L) (by simp) (val_zero L)
/-- one word is put anew -/
theorem rw_set {L Q i : Nat} {v : Int} (hq : Q < Pq.bp L) (hi : i < L) (h0 : 0 ≤ v) (h1 : v < 4294967296) {Q' : Nat} (e : (Q' : Int) = Q + Pq.bp i * (v - (Pq.wd Q i : Nat))) : (rw' L Q).set i v = rw' L Q' := by
  refine rw_of (words_set (rw_words _ _) h0 h1) (by rw [List.length_set, rw_len]) ?_
  have := val_set (rw_words L Q) h0 (rw_get hi)
  rw [rw_val hq] at this
  omega
end Go.Proofs.YtjijakfcahhioaaGreat
/-
The reference: add's loop, sub's loop.
-/
set_option linter.unusedSimpArgs false
set_option linter.unusedVariables false
namespace Go.Proofs.YtjijakfcahhioaaGreat
open Go.RowKit Ax
theorem w_32 (z : Int) : IntKind.u32.wrap z = z % 4294967296 := by rw [IntKind.wrap_u32]
theorem p32_64 (z : Int) : Int.fdiv z ((2 : Int) ^ min (Int.toNat 32) (IntKind.bits .u64)) = z / 4294967296 := by
  have p32 : (2 : Int) ^ min (Int.toNat 32) (IntKind.bits .u64) = 4294967296 := by decide
  rw [p32]
  exact Int.fdiv_eq_ediv_of_nonneg _ (by decide)
def outAdd (x : RSpec.X spAdd) (y : RSpec.Y spAdd) (g : RSpec.G spAdd) : T (Exit × List Av × RSpec.Y spAdd × RSpec.G spAdd) :=
  .need (0 ≤ x.2.2.2.1 ∧ x.2.2.2.1 ≤ (max (List.length x.1) (List.length x.2.1) : Nat) + 1 ∧ (0 < x.2.2.1 → x.2.2.2.1 ≤ (max (List.length x.1) (List.length x.2.1) : Nat)) ∧ List.length x.1 ≤ 1000000 ∧ List.length x.2.1 ≤ 1000000 ∧ Words x.1 ∧ Words x.2.1 ∧ 0 ≤ x.2.2.1 ∧ x.2.2.1 < 4294967296)
    (match g with
    | none => .need (x.2.2.2.1 = 0) (.ite (decide (adW ((x.1 : List Int).drop x.2.2.2.1.toNat) ((x.2.1 : List Int).drop x.2.2.2.1.toNat) x.2.2.1 = [])) (.ret (.exit 0, [], y, none)) (.up 0 fun k => .ret (.exit 0, [], y, some (adW ((x.1 : List Int).drop x.2.2.2.1.toNat) ((x.2.1 : List Int).drop x.2.2.2.1.toNat) x.2.2.1, k))))
    | some r => .need ((r.1.length : Int) = x.2.2.2.1) (.up 0 fun k => .ret (.exit 0, [], y, some ((r.1 : List Int) ++ adW ((x.1 : List Int).drop x.2.2.2.1.toNat) ((x.2.1 : List Int).drop x.2.2.2.1.toNat) x.2.2.1, k))))
theorem row_cases {l : List Int} {i : Int} (h : 0 ≤ i) (hw : Words l) : (i < (l.length : Int) ∧ ∃ u, l[i.toNat]? = some u ∧ l.drop i.toNat = u :: l.drop (i + 1).toNat ∧ 0 ≤ u ∧ u < 4294967296) ∨ (¬ i < (l.length : Int) ∧ l.drop i.toNat = [] ∧ l.drop (i + 1).toNat = []) := by
  by_cases hl : i < (l.length : Int)
  · obtain ⟨u, hu⟩ := elem_at h hl
    exact .inl ⟨hl, u, hu, drop_at h hu, hw u (List.mem_of_getElem? hu)⟩
  · exact .inr ⟨hl, drop_end (by omega), drop_end (by omega)⟩
theorem paddL_core (a b : List Int) (c i : Int) (y : RSpec.Y spAdd) (xs : List Int) (cap : Nat) (Q : Exit × List Av × RSpec.Y spAdd × RSpec.G spAdd → Prop) (h : (outAdd (a, b, c, i, ()) y (some (xs, cap))).wp Q) : (tr_paddL ((a, b, c, i, ()), y, (xs, cap))).wp fun r => match r with
      | .again x' y' g' => (((max (List.length x'.1) (List.length x'.2.1) : Nat) : Int) + 1 - x'.2.2.2.1).toNat < (((max a.length b.length : Nat) : Int) + 1 - i).toNat ∧ (outAdd x' y' g').wp Q
      | .out e avs y' g' => Q (e, avs, y', g') := by
  unfold tr_paddL
  unfold outAdd at h ⊢
  simp only [T.wp] at h ⊢
  dsimp only [El, vts, spAdd] at h ⊢
  obtain ⟨⟨i0, i1, i2, la, lb, wa, wb, c0, c1⟩, hl, hq⟩ := h
  rcases row_cases i0 wa with ⟨ha, u, hu, du, u0, u1⟩ | ⟨ha, du, du'⟩ <;> rcases row_cases i0 wb with ⟨hb, v, hv, dv, v0, v1⟩ | ⟨hb, dv, dv'⟩ <;>
    simp only [ha, hb, decide_true, decide_false, forall_const, reduceCtorEq, and_true, true_and, false_implies, true_implies]
  · rw [IntWalk.i64_in (i + 1) (by omega)]
    rw [du, dv, adW] at hq
    simp only [List.length_append, List.length_cons, List.length_nil, Go.maxLen, List.append_assoc, List.singleton_append, List.cons_append, List.nil_append] at hq ⊢
    refine ⟨u, i0, hu, v, i0, hv, ?_⟩
    rw [w_u64 (z := u) (by omega), w_u64 (z := v) (by omega), w_u64 (z := c + u) (by omega), w_u64 (z := c + u + v) (by omega), w_32, p32_64]
    exact ⟨⟨by omega, by omega⟩, ⟨trivial, by omega, ⟨by omega, by omega, by omega, la, lb, wa, wb, by omega, by omega⟩, by omega, hq⟩, fun k hk => ⟨trivial, by omega, ⟨by omega, by omega, by omega, la, lb, wa, wb, by omega, by omega⟩, by omega, hq⟩⟩
  · rw [IntWalk.i64_in (i + 1) (by omega)]
    rw [du, dv, adW] at hq
    simp only [List.length_append, List.length_cons, List.length_nil, Go.maxLen, List.append_assoc, List.singleton_append, List.cons_append, List.nil_append] at hq ⊢
    refine ⟨u, i0, hu, ?_⟩
    rw [w_u64 (z := u) (by omega), w_u64 (z := c + u) (by omega), w_32, p32_64, dv']
    exact ⟨⟨by omega, by omega⟩, ⟨trivial, by omega, ⟨by omega, by omega, by omega, la, lb, wa, wb, by omega, by omega⟩, by omega, hq⟩, fun k hk => ⟨trivial, by omega, ⟨by omega, by omega, by omega, la, lb, wa, wb, by omega, by omega⟩, by omega, hq⟩⟩
  · rw [IntWalk.i64_in (i + 1) (by omega)]
    rw [du, dv, adW] at hq
    simp only [List.length_append, List.length_cons, List.length_nil, Go.maxLen, List.append_assoc, List.singleton_append, List.cons_append, List.nil_append] at hq ⊢
    refine ⟨v, i0, hv, ?_⟩
    rw [w_u64 (z := v) (by omega), w_u64 (z := c + v) (by omega), w_32, p32_64, du']
    exact ⟨⟨by omega, by omega⟩, ⟨trivial, by omega, ⟨by omega, by omega, by omega, la, lb, wa, wb, by omega, by omega⟩, by omega, hq⟩, fun k hk => ⟨trivial, by omega, ⟨by omega, by omega, by omega, la, lb, wa, wb, by omega, by omega⟩, by omega, hq⟩⟩
  · rw [du, dv, adW] at hq
    refine ⟨fun hc => ?_, fun hc => ?_⟩
    · have hc := of_decide_eq_true hc
      rw [if_pos hc] at hq
      rw [IntWalk.i64_in (i + 1) (by omega), w_32, p32_64, du', dv', show c / 4294967296 = 0 by omega, adW, if_neg (Int.lt_irrefl 0)]
      simp only [List.length_append, List.length_cons, List.length_nil, Go.maxLen, List.append_assoc, List.singleton_append, List.cons_append, List.nil_append, List.append_nil] at hq ⊢
      exact ⟨⟨by omega, by omega⟩, ⟨trivial, by omega, ⟨by omega, by omega, by omega, la, lb, wa, wb, by omega, by omega⟩, by omega, hq⟩, fun k hk => ⟨trivial, by omega, ⟨by omega, by omega, by omega, la, lb, wa, wb, by omega, by omega⟩, by omega, hq⟩⟩
    · have hc := of_decide_eq_false hc
      rw [if_neg hc, List.append_nil] at hq
      exact hq cap (Nat.zero_le _)
theorem paddL_core0 (a b : List Int) (c i : Int) (y : RSpec.Y spAdd) (Q : Exit × List Av × RSpec.Y spAdd × RSpec.G spAdd → Prop) (h : (outAdd (a, b, c, i, ()) y none).wp Q) : (tr_paddL0 ((a, b, c, i, ()), y)).wp fun r => match r with
      | .again x' y' g' => (((max (List.length x'.1) (List.length x'.2.1) : Nat) : Int) + 1 - x'.2.2.2.1).toNat < (((max a.length b.length : Nat) : Int) + 1 - i).toNat ∧ (outAdd x' y' g').wp Q
      | .out e avs y' g' => Q (e, avs, y', g') := by
  unfold tr_paddL0
  unfold outAdd at h ⊢
  simp only [T.wp] at h ⊢
  dsimp only [El, vts, spAdd] at h ⊢
  obtain ⟨⟨i0, i1, i2, la, lb, wa, wb, c0, c1⟩, hi, hz, hq⟩ := h
  rcases row_cases i0 wa with ⟨ha, u, hu, du, u0, u1⟩ | ⟨ha, du, du'⟩ <;> rcases row_cases i0 wb with ⟨hb, v, hv, dv, v0, v1⟩ | ⟨hb, dv, dv'⟩ <;>
    simp only [ha, hb, decide_true, decide_false, forall_const, reduceCtorEq, and_true, true_and, false_implies, true_implies]
  · rw [IntWalk.i64_in (i + 1) (by omega)]
    rw [du, dv, adW] at hq
    simp only [List.length_append, List.length_cons, List.length_nil, Go.maxLen, List.append_assoc, List.singleton_append, List.cons_append, List.nil_append, reduceCtorEq, decide_false, forall_const] at hq ⊢
    refine ⟨u, i0, hu, v, i0, hv, ?_⟩
    rw [w_u64 (z := u) (by omega), w_u64 (z := v) (by omega), w_u64 (z := c + u) (by omega), w_u64 (z := c + u + v) (by omega), w_32, p32_64]
    exact ⟨⟨by omega, by omega⟩, fun k hk => ⟨by omega, ⟨by omega, by omega, by omega, la, lb, wa, wb, by omega, by omega⟩, by omega, hq⟩⟩
  · rw [IntWalk.i64_in (i + 1) (by omega)]
    rw [du, dv, adW] at hq
    simp only [List.length_append, List.length_cons, List.length_nil, Go.maxLen, List.append_assoc, List.singleton_append, List.cons_append, List.nil_append, reduceCtorEq, decide_false, forall_const] at hq ⊢
    refine ⟨u, i0, hu, ?_⟩
    rw [w_u64 (z := u) (by omega), w_u64 (z := c + u) (by omega), w_32, p32_64, dv']
    exact ⟨⟨by omega, by omega⟩, fun k hk => ⟨by omega, ⟨by omega, by omega, by omega, la, lb, wa, wb, by omega, by omega⟩, by omega, hq⟩⟩
  · rw [IntWalk.i64_in (i + 1) (by omega)]
    rw [du, dv, adW] at hq
    simp only [List.length_append, List.length_cons, List.length_nil, Go.maxLen, List.append_assoc, List.singleton_append, List.cons_append, List.nil_append, reduceCtorEq, decide_false, forall_const] at hq ⊢
    refine ⟨v, i0, hv, ?_⟩
    rw [w_u64 (z := v) (by omega), w_u64 (z := c + v) (by omega), w_32, p32_64, du']
    exact ⟨⟨by omega, by omega⟩, fun k hk => ⟨by omega, ⟨by omega, by omega, by omega, la, lb, wa, wb, by omega, by omega⟩, by omega, hq⟩⟩
  · rw [du, dv, adW] at hz hq
    refine ⟨fun hc => ?_, fun hc => ?_⟩
    · have hc := of_decide_eq_true hc
      rw [if_pos hc] at hq
      rw [IntWalk.i64_in (i + 1) (by omega), w_32, p32_64, du', dv', show c / 4294967296 = 0 by omega, adW, if_neg (Int.lt_irrefl 0)]
      simp only [List.length_append, List.length_cons, List.length_nil, Go.maxLen, List.append_assoc, List.singleton_append, List.cons_append, List.nil_append, List.append_nil, reduceCtorEq, decide_false, forall_const] at hq ⊢
      exact ⟨⟨by omega, by omega⟩, fun k hk => ⟨by omega, ⟨by omega, by omega, by omega, la, lb, wa, wb, by omega, by omega⟩, by omega, hq⟩⟩
    · have hc := of_decide_eq_false hc
      rw [if_neg hc] at hz
      exact hz rfl
theorem paddL_ok : LoopOk Tryz.prog 0 (bodyOf Tryz.f56 0) (spAdd.run outAdd) :=
  loopR_ok (E := E25) (L := fun _ => none) mixed 0 (loops_none _ _ _) spAdd (Nat.zero_le _) outAdd (fun x _ _ => (((max (List.length x.1) (List.length x.2.1) : Nat) : Int) + 1 - x.2.2.2.1).toNat) (by
    rintro ⟨a, b, c, i, ⟨⟩⟩ y g Q h
    match g, h with
    | some (xs, cap), h =>
      rw [tr_paddL_eq ((a, b, c, i, ()), y, (xs, cap))]
      exact paddL_core a b c i y xs cap Q h
    | none, h =>
      rw [tr_paddL0_eq ((a, b, c, i, ()), y)]
      exact paddL_core0 a b c i y Q h)
noncomputable def lpAdd : Loops := manyL [(4, spAdd.run outAdd)]
end Go.Proofs.YtjijakfcahhioaaGreat
/-
The reference: sub's loop.
-/
set_option linter.unusedSimpArgs false
set_option linter.unusedVariables false
namespace Go.Proofs.YtjijakfcahhioaaGreat
open Go.RowKit Ax
def outSub (x : RSpec.X spSub) (y : RSpec.Y spSub) (g : RSpec.G spSub) : T (Exit × List Av × RSpec.Y spSub × RSpec.G spSub) :=
  .need (0 ≤ x.2.2.2.1 ∧ x.2.2.2.1 ≤ (List.length x.1 : Int) ∧ List.length x.1 ≤ 1000000 ∧ List.length x.2.1 ≤ 1000000 ∧ Words x.1 ∧ Words x.2.1 ∧ (x.2.2.1 = 0 ∨ x.2.2.1 = 1))
    (match g with
    | none => .need (x.2.2.2.1 = 0) (.ite (decide (sbW ((x.1 : List Int).drop x.2.2.2.1.toNat) ((x.2.1 : List Int).drop x.2.2.2.1.toNat) x.2.2.1 = [])) (.ret (.exit 0, [], y, none)) (.up 0 fun k => .ret (.exit 0, [], y, some (sbW ((x.1 : List Int).drop x.2.2.2.1.toNat) ((x.2.1 : List Int).drop x.2.2.2.1.toNat) x.2.2.1, k))))
    | some r => .need ((r.1.length : Int) = x.2.2.2.1) (.up 0 fun k => .ret (.exit 0, [], y, some ((r.1 : List Int) ++ sbW ((x.1 : List Int).drop x.2.2.2.1.toNat) ((x.2.1 : List Int).drop x.2.2.2.1.toNat) x.2.2.1, k))))
theorem psubL_core (a b : List Int) (c i : Int) (y : RSpec.Y spSub) (xs : List Int) (cap : Nat) (Q : Exit × List Av × RSpec.Y spSub × RSpec.G spSub → Prop) (h : (outSub (a, b, c, i, ()) y (some (xs, cap))).wp Q) : (tr_psubL ((a, b, c, i, ()), y, (xs, cap))).wp fun r => match r with
      | .again x' y' g' => ((List.length x'.1 : Int) - x'.2.2.2.1).toNat < ((a.length : Int) - i).toNat ∧ (outSub x' y' g').wp Q
      | .out e avs y' g' => Q (e, avs, y', g') := by
  unfold tr_psubL
  unfold outSub at h ⊢
  simp only [T.wp] at h ⊢
  dsimp only [El, vts, spSub] at h ⊢
  obtain ⟨⟨i0, i1, la, lb, wa, wb, hc⟩, hl, hq⟩ := h
  have c01 : 0 ≤ c ∧ c ≤ 1 := by omega
  rcases row_cases i0 wa with ⟨ha, u, hu, du, u0, u1⟩ | ⟨ha, du, du'⟩
  · rw [IntWalk.i64_in (i + 1) (by omega)]
    refine ⟨fun _ => ⟨u, i0, hu, ?_⟩, fun h => absurd ha (of_decide_eq_false h)⟩
    rw [IntWalk.i64_in u (by omega), IntWalk.i64_in (u - c) (by omega)]
    rcases row_cases i0 wb with ⟨hb, v, hv, dv, v0, v1⟩ | ⟨hb, dv, dv'⟩
    · refine ⟨fun _ => ⟨v, i0, hv, ?_⟩, fun h => absurd hb (of_decide_eq_false h)⟩
      rw [IntWalk.i64_in v (by omega), IntWalk.i64_in (u - c - v) (by omega)]
      rw [du, dv, sbW] at hq
      refine ⟨fun hd => ?_, fun hd => ?_⟩
      · have hd := of_decide_eq_true hd
        rw [show sbD (u - c - v) = u - c - v + 4294967296 from if_pos hd, show sbC (u - c - v) = 1 from if_pos hd] at hq
        rw [IntWalk.i64_in (u - c - v + 4294967296) (by omega), w_32, show (u - c - v + 4294967296) % 4294967296 = u - c - v + 4294967296 by omega]
        simp only [List.length_append, List.length_cons, List.length_nil, Go.maxLen, List.append_assoc, List.singleton_append, List.cons_append, List.nil_append, true_and, and_true] at hq ⊢
        exact ⟨⟨by omega, by omega⟩, ⟨by omega, ⟨by omega, by omega, la, lb, wa, wb, by simp⟩, by omega, hq⟩, fun k hk => ⟨by omega, ⟨by omega, by omega, la, lb, wa, wb, by simp⟩, by omega, hq⟩⟩
      · have hd := of_decide_eq_false hd
        rw [show sbD (u - c - v) = u - c - v from if_neg hd, show sbC (u - c - v) = 0 from if_neg hd] at hq
        rw [w_32, show (u - c - v) % 4294967296 = u - c - v by omega]
        simp only [List.length_append, List.length_cons, List.length_nil, Go.maxLen, List.append_assoc, List.singleton_append, List.cons_append, List.nil_append, true_and, and_true] at hq ⊢
        exact ⟨⟨by omega, by omega⟩, ⟨by omega, ⟨by omega, by omega, la, lb, wa, wb, by simp⟩, by omega, hq⟩, fun k hk => ⟨by omega, ⟨by omega, by omega, la, lb, wa, wb, by simp⟩, by omega, hq⟩⟩
    · refine ⟨fun h => absurd (of_decide_eq_true h) hb, fun _ => ?_⟩
      rw [du, dv, sbW] at hq
      refine ⟨fun hd => ?_, fun hd => ?_⟩
      · have hd := of_decide_eq_true hd
        rw [show sbD (u - c) = u - c + 4294967296 from if_pos hd, show sbC (u - c) = 1 from if_pos hd] at hq
        rw [IntWalk.i64_in (u - c + 4294967296) (by omega), w_32, show (u - c + 4294967296) % 4294967296 = u - c + 4294967296 by omega, dv']
        simp only [List.length_append, List.length_cons, List.length_nil, Go.maxLen, List.append_assoc, List.singleton_append, List.cons_append, List.nil_append, true_and, and_true] at hq ⊢
        exact ⟨⟨by omega, by omega⟩, ⟨by omega, ⟨by omega, by omega, la, lb, wa, wb, by simp⟩, by omega, hq⟩, fun k hk => ⟨by omega, ⟨by omega, by omega, la, lb, wa, wb, by simp⟩, by omega, hq⟩⟩
      · have hd := of_decide_eq_false hd
        rw [show sbD (u - c) = u - c from if_neg hd, show sbC (u - c) = 0 from if_neg hd] at hq
        rw [w_32, show (u - c) % 4294967296 = u - c by omega, dv']
        simp only [List.length_append, List.length_cons, List.length_nil, Go.maxLen, List.append_assoc, List.singleton_append, List.cons_append, List.nil_append, true_and, and_true] at hq ⊢
        exact ⟨⟨by omega, by omega⟩, ⟨by omega, ⟨by omega, by omega, la, lb, wa, wb, by simp⟩, by omega, hq⟩, fun k hk => ⟨by omega, ⟨by omega, by omega, la, lb, wa, wb, by simp⟩, by omega, hq⟩⟩
  · refine ⟨fun h => absurd (of_decide_eq_true h) ha, fun _ => ⟨⟨trivial, trivial⟩, ?_⟩⟩
    rw [du, sbW, List.append_nil] at hq
    exact hq cap (Nat.zero_le _)
theorem psubL_core0 (a b : List Int) (c i : Int) (y : RSpec.Y spSub) (Q : Exit × List Av × RSpec.Y spSub × RSpec.G spSub → Prop) (h : (outSub (a, b, c, i, ()) y none).wp Q) : (tr_psubL0 ((a, b, c, i, ()), y)).wp fun r => match r with
      | .again x' y' g' => ((List.length x'.1 : Int) - x'.2.2.2.1).toNat < ((a.length : Int) - i).toNat ∧ (outSub x' y' g').wp Q
      | .out e avs y' g' => Q (e, avs, y', g') := by
  unfold tr_psubL0
  unfold outSub at h ⊢
  simp only [T.wp] at h ⊢
  dsimp only [El, vts, spSub] at h ⊢
  obtain ⟨⟨i0, i1, la, lb, wa, wb, hc⟩, hi, hz, hq⟩ := h
  have c01 : 0 ≤ c ∧ c ≤ 1 := by omega
  rcases row_cases i0 wa with ⟨ha, u, hu, du, u0, u1⟩ | ⟨ha, du, du'⟩
  · rw [IntWalk.i64_in (i + 1) (by omega)]
    refine ⟨fun _ => ⟨u, i0, hu, ?_⟩, fun h => absurd ha (of_decide_eq_false h)⟩
    rw [IntWalk.i64_in u (by omega), IntWalk.i64_in (u - c) (by omega)]
    rcases row_cases i0 wb with ⟨hb, v, hv, dv, v0, v1⟩ | ⟨hb, dv, dv'⟩
    · refine ⟨fun _ => ⟨v, i0, hv, ?_⟩, fun h => absurd hb (of_decide_eq_false h)⟩
      rw [IntWalk.i64_in v (by omega), IntWalk.i64_in (u - c - v) (by omega)]
      rw [du, dv, sbW] at hq
      refine ⟨fun hd => ?_, fun hd => ?_⟩
      · have hd := of_decide_eq_true hd
        rw [show sbD (u - c - v) = u - c - v + 4294967296 from if_pos hd, show sbC (u - c - v) = 1 from if_pos hd] at hq
        rw [IntWalk.i64_in (u - c - v + 4294967296) (by omega), w_32, show (u - c - v + 4294967296) % 4294967296 = u - c - v + 4294967296 by omega]
        simp only [List.length_append, List.length_cons, List.length_nil, Go.maxLen, List.append_assoc, List.singleton_append, List.cons_append, List.nil_append, true_and, and_true, reduceCtorEq, decide_false, forall_const] at hq ⊢
        exact ⟨⟨by omega, by omega⟩, fun k hk => ⟨by omega, ⟨by omega, by omega, la, lb, wa, wb, by simp⟩, by omega, hq⟩⟩
      · have hd := of_decide_eq_false hd
        rw [show sbD (u - c - v) = u - c - v from if_neg hd, show sbC (u - c - v) = 0 from if_neg hd] at hq
        rw [w_32, show (u - c - v) % 4294967296 = u - c - v by omega]
        simp only [List.length_append, List.length_cons, List.length_nil, Go.maxLen, List.append_assoc, List.singleton_append, List.cons_append, List.nil_append, true_and, and_true, reduceCtorEq, decide_false, forall_const] at hq ⊢
        exact ⟨⟨by omega, by omega⟩, fun k hk => ⟨by omega, ⟨by omega, by omega, la, lb, wa, wb, by simp⟩, by omega, hq⟩⟩
    · refine ⟨fun h => absurd (of_decide_eq_true h) hb, fun _ => ?_⟩
      rw [du, dv, sbW] at hq
      refine ⟨fun hd => ?_, fun hd => ?_⟩
      · have hd := of_decide_eq_true hd
        rw [show sbD (u - c) = u - c + 4294967296 from if_pos hd, show sbC (u - c) = 1 from if_pos hd] at hq
        rw [IntWalk.i64_in (u - c + 4294967296) (by omega), w_32, show (u - c + 4294967296) % 4294967296 = u - c + 4294967296 by omega, dv']
        simp only [List.length_append, List.length_cons, List.length_nil, Go.maxLen, List.append_assoc, List.singleton_append, List.cons_append, List.nil_append, true_and, and_true, reduceCtorEq, decide_false, forall_const] at hq ⊢
        exact ⟨⟨by omega, by omega⟩, fun k hk => ⟨by omega, ⟨by omega, by omega, la, lb, wa, wb, by simp⟩, by omega, hq⟩⟩
      · have hd := of_decide_eq_false hd
        rw [show sbD (u - c) = u - c from if_neg hd, show sbC (u - c) = 0 from if_neg hd] at hq
        rw [w_32, show (u - c) % 4294967296 = u - c by omega, dv']
        simp only [List.length_append, List.length_cons, List.length_nil, Go.maxLen, List.append_assoc, List.singleton_append, List.cons_append, List.nil_append, true_and, and_true, reduceCtorEq, decide_false, forall_const] at hq ⊢
        exact ⟨⟨by omega, by omega⟩, fun k hk => ⟨by omega, ⟨by omega, by omega, la, lb, wa, wb, by simp⟩, by omega, hq⟩⟩
  · refine ⟨fun h => absurd (of_decide_eq_true h) ha, fun _ => ?_⟩
    rw [du, sbW] at hz
    exact ⟨trivial, hz rfl⟩
theorem psubL_ok : LoopOk Tryz.prog 0 (bodyOf Tryz.f94 0) (spSub.run outSub) :=
  loopR_ok (E := E25) (L := fun _ => none) mixed 0 (loops_none _ _ _) spSub (Nat.zero_le _) outSub (fun x _ _ => ((List.length x.1 : Int) - x.2.2.2.1).toNat) (by
    rintro ⟨a, b, c, i, ⟨⟩⟩ y g Q h
    match g, h with
    | some (xs, cap), h =>
      rw [tr_psubL_eq ((a, b, c, i, ()), y, (xs, cap))]
      exact psubL_core a b c i y xs cap Q h
    | none, h =>
      rw [tr_psubL0_eq ((a, b, c, i, ()), y)]
      exact psubL_core0 a b c i y Q h)
noncomputable def lpSub : Loops := manyL [(4, spSub.run outSub)]
end Go.Proofs.YtjijakfcahhioaaGreat
/-
The reference: the loops of cmp, bits, common, tiny.
-/
set_option linter.unusedSimpArgs false
set_option linter.unusedVariables false
namespace Go.Proofs.YtjijakfcahhioaaGreat
open Go.RowKit Ax
def outCmp (x : LSpec.X spCmp) (y : LSpec.Y spCmp) : T (Exit × List Av × LSpec.Y spCmp) :=
  .need (-1 ≤ x.2.2.1 ∧ x.2.2.1 < (List.length x.1 : Int) ∧ x.2.2.1 < (List.length x.2.1 : Int) ∧ List.length x.1 ≤ 1000000) (.ite (decide (cmW x.1 x.2.1 (x.2.2.1 + 1).toNat = 0)) (.ret (.exit 0, [], ())) (.ret (.ret, [aI .i64 (cmW x.1 x.2.1 (x.2.2.1 + 1).toNat)], ())))
theorem pcmpL_core (a b : List Int) (i : Int) (Q : Exit × List Av × LSpec.Y spCmp → Prop) (h : (outCmp (a, b, i, ()) ()).wp Q) : (tr_pcmpL ((a, b, i, ()), ())).wp fun r => match r with
      | .again x' y' => (x'.2.2.1 + 1).toNat < (i + 1).toNat ∧ (outCmp x' y').wp Q
      | .out e avs y' => Q (e, avs, y') := by
  unfold tr_pcmpL
  unfold outCmp at h ⊢
  simp only [T.wp] at h ⊢
  dsimp only [El, vts, spCmp] at h ⊢
  obtain ⟨⟨i0, i1, i2, la⟩, hz, hq⟩ := h
  refine ⟨fun hge => ?_, fun hlt => ?_⟩
  · have hge := of_decide_eq_true hge
    obtain ⟨u, hu⟩ := elem_at (l := a) (i := i) hge i1
    obtain ⟨v, hv⟩ := elem_at (l := b) (i := i) hge i2
    have eu : a.getD i.toNat 0 = u := by rw [List.getD_eq_getElem?_getD, hu]; rfl
    have ev : b.getD i.toNat 0 = v := by rw [List.getD_eq_getElem?_getD, hv]; rfl
    rw [show (i + 1).toNat = i.toNat + 1 by omega, cmW, eu, ev] at hz hq
    refine ⟨u, hge, hu, v, hge, hv, fun hd => ?_, fun hd => ⟨u, hge, hu, v, hge, hv, fun hd2 => ?_, fun hd2 => ?_⟩⟩
    · have hd := of_decide_eq_true hd
      rw [if_pos hd] at hq
      exact hq rfl
    · have hd := of_decide_eq_false hd
      have hd2 := of_decide_eq_true hd2
      rw [if_neg hd, if_pos hd2] at hq
      exact hq rfl
    · have hd := of_decide_eq_false hd
      have hd2 := of_decide_eq_false hd2
      rw [if_neg hd, if_neg hd2] at hz hq
      rw [IntWalk.i64_in (i - 1) (by omega), show (i - 1 + 1).toNat = i.toNat by omega]
      exact ⟨by omega, ⟨by omega, by omega, by omega, la⟩, hz, hq⟩
  · have hlt := of_decide_eq_false hlt
    rw [show (i + 1).toNat = 0 by omega] at hz
    exact hz rfl
theorem pcmpL_ok : LoopOk Tryz.prog 0 (bodyOf Tryz.f70 0) (spCmp.run outCmp) :=
  loop_ok (E := E25) (L := fun _ => none) mixed 0 (loops_none _ _ _) spCmp (Nat.zero_le _) outCmp (fun x _ => (x.2.2.1 + 1).toNat) (by
    rintro ⟨a, b, i, ⟨⟩⟩ ⟨⟩ Q h
    rw [tr_pcmpL_eq ((a, b, i, ()), ())]
    exact pcmpL_core a b i Q h)
noncomputable def lpCmp : Loops := oneL 6 (spCmp.run outCmp)
def outBits (x : LSpec.X spBits) (y : LSpec.Y spBits) : T (Exit × List Av × LSpec.Y spBits) :=
  .need (0 ≤ x.1 ∧ x.1 + Pq.bitn x.2.1.toNat ≤ 1000000000 ∧ 0 ≤ x.2.1) (.ret (.exit 0, [aI .i64 (x.1 + Pq.bitn x.2.1.toNat)], ()))
theorem pbitsL_core (n x : Int) (Q : Exit × List Av × LSpec.Y spBits → Prop) (h : (outBits (n, x, ()) ()).wp Q) : (tr_pbitsL ((n, x, ()), ())).wp fun r => match r with
      | .again x' y' => x'.2.1.toNat < x.toNat ∧ (outBits x' y').wp Q
      | .out e avs y' => Q (e, avs, y') := by
  unfold tr_pbitsL
  unfold outBits at h ⊢
  simp only [T.wp] at h ⊢
  dsimp only [El, vts, spBits] at h ⊢
  obtain ⟨⟨n0, n1, x0⟩, hq⟩ := h
  refine ⟨fun hgt => ?_, fun hle => ?_⟩
  · have hgt := of_decide_eq_true hgt
    have p1 : (2 : Int) ^ min (Int.toNat 1) (IntKind.bits .u32) = 2 := by decide
    rw [bitn_half (show x.toNat ≠ 0 by omega)] at n1 hq
    rw [p1, Int.fdiv_eq_ediv_of_nonneg _ (by decide), IntWalk.i64_in (n + 1) (by omega), show (x / 2).toNat = x.toNat / 2 by omega]
    rw [show n + ((Pq.bitn (x.toNat / 2) + 1 : Nat) : Int) = n + 1 + Pq.bitn (x.toNat / 2) by omega] at hq
    exact ⟨by omega, ⟨by omega, by omega, by omega⟩, hq⟩
  · have hle := of_decide_eq_false hle
    have h0 : x = 0 := by omega
    subst h0
    rw [show n + ((Pq.bitn (Int.toNat 0) : Nat) : Int) = n by rw [show Pq.bitn (Int.toNat 0) = 0 from rfl]; omega] at hq
    exact hq
theorem pbitsL_ok : LoopOk Tryz.prog 0 (bodyOf Tryz.f92 0) (spBits.run outBits) :=
  loop_ok (E := E25) (L := fun _ => none) mixed 0 (loops_none _ _ _) spBits (Nat.zero_le _) outBits (fun x _ => x.2.1.toNat) (by
    rintro ⟨n, x, ⟨⟩⟩ ⟨⟩ Q h
    rw [tr_pbitsL_eq ((n, x, ()), ())]
    exact pbitsL_core n x Q h)
noncomputable def lpBits : Loops := oneL 5 (spBits.run outBits)
def outComm (x : LSpec.X spComm) (y : LSpec.Y spComm) : T (Exit × List Av × LSpec.Y spComm) :=
  .need (0 ≤ x.1 ∧ 0 ≤ x.2.1) (.ret (.exit 0, [aI .i64 (Nat.gcd x.1.toNat x.2.1.toNat : Nat)], ()))
theorem pcommL_core (a b : Int) (Q : Exit × List Av × LSpec.Y spComm → Prop) (h : (outComm (a, b, ()) ()).wp Q) : (tr_pcommL ((a, b, ()), ())).wp fun r => match r with
      | .again x' y' => x'.2.1.toNat < b.toNat ∧ (outComm x' y').wp Q
      | .out e avs y' => Q (e, avs, y') := by
  unfold tr_pcommL
  unfold outComm at h ⊢
  simp only [T.wp] at h ⊢
  dsimp only [El, vts, spComm] at h ⊢
  obtain ⟨⟨a0, b0⟩, hq⟩ := h
  refine ⟨fun hgt => ?_, fun hle => ?_⟩
  · have hgt := of_decide_eq_true hgt
    have h1 := Int.emod_nonneg a (show b ≠ 0 by omega)
    have h2 := Int.emod_lt_of_pos a hgt
    rw [Int.tmod_eq_emod_of_nonneg a0]
    have e : (a % b).toNat = a.toNat % b.toNat := Int.toNat_emod a0 b0
    rw [Nat.gcd_comm, Nat.gcd_rec, Nat.gcd_comm, ← e] at hq
    exact ⟨by omega, by omega, ⟨b0, h1⟩, hq⟩
  · have hle := of_decide_eq_false hle
    have h0 : b = 0 := by omega
    subst h0
    rw [show Int.toNat 0 = 0 from rfl, Nat.gcd_zero_right, Int.toNat_of_nonneg a0] at hq
    exact hq
theorem pcommL_ok : LoopOk Tryz.prog 0 (bodyOf Tryz.f87 0) (spComm.run outComm) :=
  loop_ok (E := E25) (L := fun _ => none) mixed 0 (loops_none _ _ _) spComm (Nat.zero_le _) outComm (fun x _ => x.2.1.toNat) (by
    rintro ⟨a, b, ⟨⟩⟩ ⟨⟩ Q h
    rw [tr_pcommL_eq ((a, b, ()), ())]
    exact pcommL_core a b Q h)
noncomputable def lpComm : Loops := oneL 2 (spComm.run outComm)
def tz (n d : Nat) : Nat → Bool
  | 0 => true
  | k + 1 => Pq.wd n (31 - k) == 0 && Pq.wd d (31 - k) == 0 && tz n d k
theorem wd_top {n m : Nat} (h : n < Pq.bp (m + 1)) : Pq.wd n m = 0 ↔ n < Pq.bp m := by
  rw [Pq.bp_succ, Nat.mul_comm] at h
  have hp := Pq.bp_pos m
  have h1 : n / Pq.bp m < 4294967296 := (Nat.div_lt_iff_lt_mul hp).2 h
  unfold Pq.wd
  rw [Nat.mod_eq_of_lt h1, Nat.div_eq_zero_iff]
  constructor
  · rintro (h | h)
    · omega
    · exact h
  · exact fun h => .inr h
theorem tz_spec {n d : Nat} (hn : n < Pq.bp 32) (hd : d < Pq.bp 32) : ∀ k, k ≤ 32 → (tz n d k = true ↔ n < Pq.bp (32 - k) ∧ d < Pq.bp (32 - k))
  | 0, _ => by simp [tz, hn, hd]
  | k + 1, hk => by
    have ih := tz_spec hn hd k (by omega)
    have lt : ∀ {x : Nat}, x < Pq.bp (31 - k) → x < Pq.bp (32 - k) := fun {x} h => by
      rw [show 32 - k = (31 - k) + 1 by omega, Pq.bp_succ]
      omega
    rw [tz, Bool.and_eq_true, Bool.and_eq_true, ih, beq_iff_eq, beq_iff_eq, show 32 - (k + 1) = 31 - k by omega]
    constructor
    · rintro ⟨⟨h1, h2⟩, h3, h4⟩
      rw [show 32 - k = (31 - k) + 1 by omega] at h3 h4
      exact ⟨(wd_top h3).1 h1, (wd_top h4).1 h2⟩
    · rintro ⟨h1, h2⟩
      have h3 := lt h1
      have h4 := lt h2
      refine ⟨⟨?_, ?_⟩, h3, h4⟩
      · rw [show 32 - k = (31 - k) + 1 by omega] at h3
        exact (wd_top h3).2 h1
      · rw [show 32 - k = (31 - k) + 1 by omega] at h4
        exact (wd_top h4).2 h2
def outTiny (x : LSpec.X spTiny) (y : LSpec.Y spTiny) : T (Exit × List Av × LSpec.Y spTiny) :=
  .need (0 ≤ x.1 ∧ x.1 ≤ 32) (.ite (tz y.1.1.2.1 y.1.2.2.1 (32 - x.1.toNat)) (.ret (.exit 0, [], y)) (.ret (.ret, [aI .i64 0, aI .i64 0, aB false], y)))
theorem ptinyL_core (i : Int) (f : F) (Q : Exit × List Av × LSpec.Y spTiny → Prop) (h : (outTiny (i, ()) (f, ())).wp Q) : (tr_ptinyL ((i, ()), (f, ()))).wp fun r => match r with
      | .again x' y' => (32 - x'.1).toNat < (32 - i).toNat ∧ (outTiny x' y').wp Q
      | .out e avs y' => Q (e, avs, y') := by
  unfold tr_ptinyL
  unfold outTiny at h ⊢
  simp only [T.wp] at h ⊢
  dsimp only [El, vts, bts, spTiny] at h ⊢
  obtain ⟨⟨i0, i1⟩, hz, hq⟩ := h
  refine ⟨fun hlt => ?_, fun hge => ?_⟩
  · have hlt := of_decide_eq_true hlt
    rw [show 32 - i.toNat = (31 - i.toNat) + 1 by omega, tz, show 31 - (31 - i.toNat) = i.toNat by omega] at hz hq
    rw [IntWalk.i64_in (i + 1) (by omega)]
    refine ⟨⟨by omega, by omega⟩, by omega, fun hne => ?_, fun heq => ⟨⟨by omega, by omega⟩, by omega, fun hne => ?_, fun heq2 => ?_⟩⟩
    · refine hq ?_
      have : Pq.wd f.1.2.1 i.toNat ≠ 0 := fun e => by rw [e] at hne; simp at hne
      simp [this]
    · refine hq ?_
      have : Pq.wd f.2.2.1 i.toNat ≠ 0 := fun e => by rw [e] at hne; simp at hne
      simp [this]
    · have e1 : Pq.wd f.1.2.1 i.toNat = 0 := by simpa using heq
      have e2 : Pq.wd f.2.2.1 i.toNat = 0 := by simpa using heq2
      rw [e1, e2] at hz hq
      simp only [beq_self_eq_true, Bool.true_and] at hz hq
      rw [show 32 - (i + 1).toNat = 31 - i.toNat by omega]
      exact ⟨by omega, ⟨by omega, by omega⟩, hz, hq⟩
  · have hge := of_decide_eq_false hge
    rw [show 32 - i.toNat = 0 by omega] at hz
    exact hz rfl
theorem ptinyL_ok : LoopOk Tryz.prog 0 (bodyOf Tryz.f67 0) (spTiny.run outTiny) :=
  loop_ok (E := E25) (L := fun _ => none) mixed 0 (loops_none _ _ _) spTiny (Nat.zero_le _) outTiny (fun x _ => (32 - x.1).toNat) (by
    rintro ⟨i, ⟨⟩⟩ ⟨f, ⟨⟩⟩ Q h
    rw [tr_ptinyL_eq ((i, ()), (f, ()))]
    exact ptinyL_core i f Q h)
noncomputable def lpTiny : Loops := oneL 2 (spTiny.run outTiny)
end Go.Proofs.YtjijakfcahhioaaGreat
/-
The reference: shl's loop.
-/
set_option linter.unusedSimpArgs false
set_option linter.unusedVariables false
namespace Go.Proofs.YtjijakfcahhioaaGreat
open Go.RowKit Ax
theorem shl_lt {V i k s : Nat} (hV : V < Pq.bp i) (hs : s < 32) : V * 2 ^ s * Pq.bp k / Pq.bp (i + k) < 2 ^ s ∧ V * 2 ^ s * Pq.bp k < Pq.bp (i + k + 1) := by
  have h2 : 2 ^ s ≤ 4294967296 := by
    rw [show 4294967296 = 2 ^ 32 from rfl]; exact Nat.pow_le_pow_right (by decide) (by omega)
  have h1 : V * 2 ^ s < Pq.bp i * 2 ^ s := Nat.mul_lt_mul_of_pos_right hV (Nat.two_pow_pos s)
  refine ⟨?_, ?_⟩
  · rw [Pq.bp_add, Nat.mul_div_mul_right _ _ (Pq.bp_pos k)]
    rw [Nat.div_lt_iff_lt_mul (Pq.bp_pos i), Nat.mul_comm (2 ^ s)]
    exact h1
  · rw [Pq.bp_succ, Pq.bp_add, Nat.mul_right_comm (Pq.bp i)]
    refine Nat.mul_lt_mul_of_pos_right ?_ (Pq.bp_pos k)
    exact Nat.lt_of_lt_of_le h1 (Nat.mul_le_mul_left _ h2)
theorem or_low {t m s : Nat} (hs : s < 32) (ht : t < 2 ^ s) (hm : m < 4294967296) (hd : 2 ^ s ∣ m) : ((BitVec.ofInt (IntKind.bits .u32) (t : Int) ||| BitVec.ofInt (IntKind.bits .u32) (m : Int)).toNat = t + m) ∧ t + m < 4294967296 := by
  have h2 : 2 ^ s ≤ 4294967296 := by
    rw [show 4294967296 = 2 ^ 32 from rfl]; exact Nat.pow_le_pow_right (by decide) (by omega)
  obtain ⟨q, rfl⟩ := hd
  have hp : 4294967296 = 2 ^ s * 2 ^ (32 - s) := by rw [← Nat.pow_add, show s + (32 - s) = 32 by omega]
  have hsum : t + 2 ^ s * q < 4294967296 := by
    have hq : q < 2 ^ (32 - s) := by
      rw [hp] at hm
      exact Nat.lt_of_mul_lt_mul_left hm
    have : 2 ^ s * q + 2 ^ s ≤ 2 ^ s * 2 ^ (32 - s) := by rw [← Nat.mul_succ]; exact Nat.mul_le_mul_left _ hq
    rw [hp]
    omega
  have e1 : (BitVec.ofInt (IntKind.bits .u32) (t : Int)).toNat = t := by
    rw [BitVec.toNat_ofInt]
    show ((t : Int) % 4294967296).toNat = _
    omega
  have e2 : (BitVec.ofInt (IntKind.bits .u32) ((2 ^ s * q : Nat) : Int)).toNat = 2 ^ s * q := by
    rw [BitVec.toNat_ofInt]
    show (((2 ^ s * q : Nat) : Int) % 4294967296).toNat = _
    generalize 2 ^ s * q = z at *
    omega
  refine ⟨?_, hsum⟩
  rw [BitVec.toNat_or, e1, e2, Nat.or_comm, ← Nat.two_pow_add_eq_or_of_lt ht q, Nat.add_comm]
theorem shl_low {u s : Nat} (hs : s < 32) : 2 ^ s ∣ u * 2 ^ s % 4294967296 := by
  have hp : 4294967296 = 2 ^ (32 - s) * 2 ^ s := by rw [← Nat.pow_add, show 32 - s + s = 32 by omega]
  rw [hp, Nat.mul_mod_mul_right]
  exact Nat.dvd_mul_left _ _
theorem shl_step {V i k s u L t : Nat} (hV : V < Pq.bp i) (hs : s < 32) (hu : u < 4294967296) (hL : i + k + 1 < L) (ht : Pq.wd (V * 2 ^ s * Pq.bp k) (i + k) = t) :
    t < 2 ^ s ∧ ((rw' L (V * 2 ^ s * Pq.bp k)).set (i + k) ((t + u * 2 ^ s % 4294967296 : Nat) : Int)).set (i + k + 1) ((u * 2 ^ s / 4294967296 : Nat) : Int) = rw' L ((V + Pq.bp i * u) * 2 ^ s * Pq.bp k) := by
  obtain ⟨h1, h2⟩ := shl_lt (k := k) hV hs
  have h3 : 2 ^ s ≤ 4294967296 := by
    rw [show 4294967296 = 2 ^ 32 from rfl]; exact Nat.pow_le_pow_right (by decide) (by omega)
  have et : V * 2 ^ s * Pq.bp k / Pq.bp (i + k) = t := by
    unfold Pq.wd at ht
    rw [Nat.mod_eq_of_lt (by omega)] at ht
    exact ht
  rw [et] at h1
  refine ⟨h1, ?_⟩
  obtain ⟨o1, o2⟩ := or_low hs h1 (Nat.mod_lt (u * 2 ^ s) (by decide)) (shl_low (u := u) hs)
  have hbL : Pq.bp (i + k + 1) ≤ Pq.bp L := Pq.bp_mono (by omega)
  have hx : u * 2 ^ s / 4294967296 < 4294967296 := by
    rw [Nat.div_lt_iff_lt_mul (by decide)]
    exact Nat.mul_lt_mul_of_lt_of_le hu h3 (by decide)
  have edm := Nat.mod_add_div (u * 2 ^ s) 4294967296
  have eQ : (V + Pq.bp i * u) * 2 ^ s * Pq.bp k = V * 2 ^ s * Pq.bp k + Pq.bp (i + k) * (u * 2 ^ s) := by
    rw [Nat.add_mul, Nat.add_mul, Pq.bp_add]
    congr 1
    simp only [Nat.mul_assoc, Nat.mul_comm, Nat.mul_left_comm]
  rw [eQ]
  have hQb : V * 2 ^ s * Pq.bp k < Pq.bp (i + k) * (t + 1) := by
    rw [← et]; exact Nat.lt_mul_div_succ _ (Pq.bp_pos _)
  generalize V * 2 ^ s * Pq.bp k = Q at *
  generalize u * 2 ^ s = x at *
  have hb := Pq.bp_succ (i + k)
  have r1 : (rw' L Q).set (i + k) ((t + x % 4294967296 : Nat) : Int) = rw' L (Q + Pq.bp (i + k) * (x % 4294967296)) := by
    refine rw_set (by omega) (by omega) (by omega) (by omega) ?_
    rw [ht]
    simp only [Int.natCast_add, Int.natCast_mul]
    congr 1
    rw [Int.add_comm, Int.add_sub_cancel]
  have hQ1 : Q + Pq.bp (i + k) * (x % 4294967296) < Pq.bp (i + k + 1) := by
    rw [hb]
    have : Pq.bp (i + k) * (t + 1) + Pq.bp (i + k) * (x % 4294967296) ≤ Pq.bp (i + k) * 4294967296 := by
      rw [← Nat.mul_add]; exact Nat.mul_le_mul_left _ (by omega)
    omega
  rw [r1]
  refine rw_set (by omega) (by omega) (by omega) (by omega) ?_
  rw [Pq.wd_top hQ1 (Nat.le_refl _), hb]
  have e1 : (x : Int) = (x % 4294967296 : Nat) + 4294967296 * (x / 4294967296 : Nat) := by omega
  generalize x % 4294967296 = lo at *
  generalize x / 4294967296 = hi at *
  simp only [Int.natCast_add, Int.natCast_mul, e1, Int.mul_add, Int.sub_zero, Int.ofNat_zero, Int.natCast_zero, Int.mul_assoc]
  rw [Int.add_assoc]
  rfl
def outShl (x : RSpec.X spShl) (y : RSpec.Y spShl) (g : RSpec.G spShl) : T (Exit × List Av × RSpec.Y spShl × RSpec.G spShl) :=
  match g with
  | none => .fail
  | some r => .need (0 ≤ x.2.2.1 ∧ x.2.2.1 ≤ (List.length x.1 : Int) ∧ List.length x.1 ≤ 1000000 ∧ 0 ≤ x.2.1 ∧ x.2.1 ≤ 100000000 ∧ Words x.1 ∧ (r.1 : List Int) = rw' (List.length x.1 + x.2.1.toNat / 32 + 1) (valL ((x.1 : List Int).take x.2.2.1.toNat) * 2 ^ (x.2.1.toNat % 32) * Pq.bp (x.2.1.toNat / 32)))
      (.ret (.exit 0, [], y, some (rw' (List.length x.1 + x.2.1.toNat / 32 + 1) (valL x.1 * 2 ^ (x.2.1.toNat % 32) * Pq.bp (x.2.1.toNat / 32)), r.2)))
theorem pshlL_core (a : List Int) (n i : Int) (y : RSpec.Y spShl) (xs : List Int) (cap : Nat) (Q : Exit × List Av × RSpec.Y spShl × RSpec.G spShl → Prop) (h : (outShl (a, n, i, ()) y (some (xs, cap))).wp Q) : (tr_pshlL ((a, n, i, ()), y, (xs, cap))).wp fun r => match r with
      | .again x' y' g' => ((List.length x'.1 : Int) - x'.2.2.1).toNat < ((a.length : Int) - i).toNat ∧ (outShl x' y' g').wp Q
      | .out e avs y' g' => Q (e, avs, y', g') := by
  unfold tr_pshlL
  unfold outShl at h ⊢
  simp only [T.wp] at h ⊢
  dsimp only [El, vts, spShl] at h ⊢
  obtain ⟨⟨i0, i1, la, n0, n1, wa, hx⟩, hq⟩ := h
  subst hx
  refine ⟨fun hlt => ?_, fun hge => ?_⟩
  · have hlt := of_decide_eq_true hlt
    obtain ⟨u, hu⟩ := elem_at (l := a) (i := i) i0 hlt
    obtain ⟨u0, u1⟩ := wa u (List.mem_of_getElem? hu)
    have eu : a.getD i.toNat 0 = u := by rw [List.getD_eq_getElem?_getD, hu]; rfl
    have hV := val_words (take_words wa i.toNat)
    rw [List.length_take, Nat.min_eq_left (by omega)] at hV
    have et := take_val (a := a) (n := i.toNat) (by omega)
    rw [eu] at et
    obtain ⟨st1, st2⟩ := shl_step (V := valL (a.take i.toNat)) (i := i.toNat) (k := n.toNat / 32) (s := n.toNat % 32) (u := u.toNat) (L := a.length + n.toNat / 32 + 1) hV (by omega) (by omega) (by omega) rfl
    have e1 : IntKind.i64.wrap (i + IntKind.i64.wrap (Int.tdiv n 32)) = i + ((n.toNat / 32 : Nat) : Int) := by
      rw [Int.tdiv_eq_ediv_of_nonneg n0, IntWalk.i64_in (n / 32) (by omega), IntWalk.i64_in _ (by omega)]; omega
    have e2 : IntKind.u64.wrap (Int.tmod n 32) = ((n.toNat % 32 : Nat) : Int) := by
      rw [Int.tmod_eq_emod_of_nonneg n0, w_u64 (by omega)]; omega
    have e3 : min (Int.toNat ((n.toNat % 32 : Nat) : Int)) (IntKind.bits .u64) = n.toNat % 32 := by
      show min (Int.toNat ((n.toNat % 32 : Nat) : Int)) 64 = n.toNat % 32
      omega
    have hs2 : 2 ^ (n.toNat % 32) ≤ 2147483648 := by
      rw [show 2147483648 = 2 ^ 31 from rfl]; exact Nat.pow_le_pow_right (by decide) (by omega)
    have hm : u.toNat * 2 ^ (n.toNat % 32) ≤ 4294967296 * 2147483648 := Nat.mul_le_mul (by omega) hs2
    have e4 : IntKind.u64.wrap (u * 2 ^ (n.toNat % 32)) = ((u.toNat * 2 ^ (n.toNat % 32) : Nat) : Int) := by
      have : u * 2 ^ (n.toNat % 32) = ((u.toNat * 2 ^ (n.toNat % 32) : Nat) : Int) := by
        rw [Int.natCast_mul, Int.toNat_of_nonneg u0, Int.natCast_pow]; rfl
      rw [this, w_u64 (by omega)]
    have e5 : IntKind.i64.wrap (i + ((n.toNat / 32 : Nat) : Int) + 1) = i + ((n.toNat / 32 : Nat) : Int) + 1 := IntWalk.i64_in _ (by omega)
    have e6 : IntKind.i64.wrap (i + 1) = i + 1 := IntWalk.i64_in _ (by omega)
    have e7 : (i + ((n.toNat / 32 : Nat) : Int)).toNat = i.toNat + n.toNat / 32 := by omega
    have e8 : (i + ((n.toNat / 32 : Nat) : Int) + 1).toNat = i.toNat + n.toNat / 32 + 1 := by omega
    obtain ⟨o1, o2⟩ := or_low (m := u.toNat * 2 ^ (n.toNat % 32) % 4294967296) (by omega) st1 (Nat.mod_lt _ (by decide)) (shl_low (by omega))
    have e9 : IntKind.u32.wrap ((u.toNat * 2 ^ (n.toNat % 32) : Nat) : Int) = ((u.toNat * 2 ^ (n.toNat % 32) % 4294967296 : Nat) : Int) := by rw [w_32]; omega
    have e10 : IntKind.u32.wrap (((u.toNat * 2 ^ (n.toNat % 32) : Nat) : Int) / 4294967296) = ((u.toNat * 2 ^ (n.toNat % 32) / 4294967296 : Nat) : Int) := by rw [w_32]; omega
    refine ⟨u, i0, hu, ?_⟩
    simp only [e1, e2, e3, e5, e6, e7, e8, w_u64 (show 0 ≤ u ∧ u < 18446744073709551616 by omega), e4, p32_64, e9, e10, rw_len, List.length_set]
    refine ⟨by decide, by omega, by decide, by decide, ⟨by omega, by omega⟩, _, by omega, rw_get (by omega), ?_⟩
    have e11 : ∀ z : Nat, z < 4294967296 → IntKind.u32.wrap (z : Int) = z := fun z hz => by rw [w_32]; omega
    rw [o1, e11 _ o2, st2]
    refine ⟨⟨by omega, by omega⟩, by omega, by decide, ⟨by omega, by omega⟩, by omega, ⟨trivial, trivial⟩, by omega, ⟨by omega, by omega, la, n0, n1, wa, ?_⟩, hq⟩
    rw [show (i + 1).toNat = i.toNat + 1 by omega, et]
  · have hge := of_decide_eq_false hge
    rw [show i.toNat = a.length by omega, List.take_length]
    exact ⟨⟨trivial, trivial⟩, hq⟩
theorem pshlL_ok : LoopOk Tryz.prog 0 (bodyOf Tryz.f93 0) (spShl.run outShl) :=
  loopR_ok (E := E25) (L := fun _ => none) mixed 0 (loops_none _ _ _) spShl (Nat.zero_le _) outShl (fun x _ _ => ((List.length x.1 : Int) - x.2.2.1).toNat) (by
    rintro ⟨a, n, i, ⟨⟩⟩ y g Q h
    match g, h with
    | some (xs, cap), h =>
      rw [tr_pshlL_eq ((a, n, i, ()), y, (xs, cap))]
      exact pshlL_core a n i y xs cap Q h
    | none, h => exact h.elim)
noncomputable def lpShl : Loops := manyL [(5, spShl.run outShl)]
noncomputable def E25a : Env Tryz.prog := E25.fz [(12, [5])]
noncomputable def E25s : Env Tryz.prog := E25.fz [(13, [5])]
noncomputable def E25h : Env Tryz.prog := E25.fz [(10, [5])]
end Go.Proofs.YtjijakfcahhioaaGreat
/-
The reference: trees of add, sub, cmp, bits, shl, common.
-/
set_option linter.unusedSimpArgs false
set_option linter.unusedVariables false
namespace Go.Proofs.YtjijakfcahhioaaGreat
open Go.RowKit Ax
noncomputable def tr_padd (x : Els [(false, .sl (.int .u32)), (false, .sl (.int .u32))]) : T Av :=
 .need (True) (.need ((0 : El (Cd.int .i64)) ≤ (0 : Int) ∧ (0 : Int) ≤ (↑(Max.max (List.length (x.1)) (List.length x.2.1)) : El (Cd.int .i64)) + (1 : El (Cd.int .i64)) ∧ ((0 : El (Cd.int .u64)) < (0 : Int) → (0 : Int) ≤ (↑(Max.max (List.length (x.1)) (List.length x.2.1)) : El (Cd.int .i64))) ∧ List.length (x.1) ≤ (1000000 : Nat) ∧ List.length x.2.1 ≤ (1000000 : Nat) ∧ Words (x.1) ∧ Words x.2.1 ∧ (0 : El (Cd.int .u64)) ≤ (0 : Int) ∧ (0 : Int) < (4294967296 : El (Cd.int .u64))) (.need ((0 : Int) = (0 : El (Cd.int .i64))) (.ite (decide (adW (List.drop (Int.toNat (0 : Int)) (x.1)) (List.drop (Int.toNat (0 : Int)) x.2.1) (0 : Int) = []))
     (.need (lenOk (List.length ([] : List Int))) (.ret (.one (.ds (Cd.int .u32) (trimmed [])))))
     (.up ((0 : Nat)) (fun v0 =>
      .need (List.length (adW (List.drop (Int.toNat (0 : Int)) (x.1)) (List.drop (Int.toNat (0 : Int)) x.2.1) (0 : Int)) ≤ List.length (adW (List.drop (Int.toNat (0 : Int)) (x.1)) (List.drop (Int.toNat (0 : Int)) x.2.1) (0 : Int))) (.need (lenOk (List.length (List.take (List.length (adW (List.drop (Int.toNat (0 : Int)) (x.1)) (List.drop (Int.toNat (0 : Int)) x.2.1) (0 : Int))) (adW (List.drop (Int.toNat (0 : Int)) (x.1)) (List.drop (Int.toNat (0 : Int)) x.2.1) (0 : Int))))) (.ret (.one (.ds (Cd.int .u32) (trimmed (List.take (List.length (adW (List.drop (Int.toNat (0 : Int)) (x.1)) (List.drop (Int.toNat (0 : Int)) x.2.1) (0 : Int))) (adW (List.drop (Int.toNat (0 : Int)) (x.1)) (List.drop (Int.toNat (0 : Int)) x.2.1) (0 : Int)))))))))))))
theorem tr_padd_eq (x : Els [(false, .sl (.int .u32)), (false, .sl (.int .u32))]) : fnP E25a lpAdd Tryz.f56 (encs [(false, .sl (.int .u32)), (false, .sl (.int .u32))] x) = tr_padd x := by kernel_rfl
noncomputable def tr_psub (x : Els [(false, .sl (.int .u32)), (false, .sl (.int .u32))]) : T Av :=
 .need (True) (.need ((0 : El (Cd.int .i64)) ≤ (0 : Int) ∧ (0 : Int) ≤ (↑(List.length (x.1)) : Int) ∧ List.length (x.1) ≤ (1000000 : Nat) ∧ List.length x.2.1 ≤ (1000000 : Nat) ∧ Words (x.1) ∧ Words x.2.1 ∧ ((0 : Int) = (0 : El (Cd.int .i64)) ∨ (0 : Int) = (1 : El (Cd.int .i64)))) (.need ((0 : Int) = (0 : El (Cd.int .i64))) (.ite (decide (sbW (List.drop (Int.toNat (0 : Int)) (x.1)) (List.drop (Int.toNat (0 : Int)) x.2.1) (0 : Int) = []))
     (.need (lenOk (List.length ([] : List Int))) (.ret (.one (.ds (Cd.int .u32) (trimmed [])))))
     (.up ((0 : Nat)) (fun v0 =>
      .need (List.length (sbW (List.drop (Int.toNat (0 : Int)) (x.1)) (List.drop (Int.toNat (0 : Int)) x.2.1) (0 : Int)) ≤ List.length (sbW (List.drop (Int.toNat (0 : Int)) (x.1)) (List.drop (Int.toNat (0 : Int)) x.2.1) (0 : Int))) (.need (lenOk (List.length (List.take (List.length (sbW (List.drop (Int.toNat (0 : Int)) (x.1)) (List.drop (Int.toNat (0 : Int)) x.2.1) (0 : Int))) (sbW (List.drop (Int.toNat (0 : Int)) (x.1)) (List.drop (Int.toNat (0 : Int)) x.2.1) (0 : Int))))) (.ret (.one (.ds (Cd.int .u32) (trimmed (List.take (List.length (sbW (List.drop (Int.toNat (0 : Int)) (x.1)) (List.drop (Int.toNat (0 : Int)) x.2.1) (0 : Int))) (sbW (List.drop (Int.toNat (0 : Int)) (x.1)) (List.drop (Int.toNat (0 : Int)) x.2.1) (0 : Int)))))))))))))
theorem tr_psub_eq (x : Els [(false, .sl (.int .u32)), (false, .sl (.int .u32))]) : fnP E25s lpSub Tryz.f94 (encs [(false, .sl (.int .u32)), (false, .sl (.int .u32))] x) = tr_psub x := by kernel_rfl
noncomputable def tr_pcmp (x : Els [(false, .sl (.int .u32)), (false, .sl (.int .u32))]) : T Av :=
 .ite ((↑(List.length (x.1)) : Int) != (↑(List.length x.2.1) : Int))
  (.ite (decide ((↑(List.length (x.1)) : Int) < (↑(List.length x.2.1) : Int)))
   (.ret (.one (.v (.int .i64 ((-1 : Int))))))
   (.ret (.one (.v (.int .i64 ((1 : Int)))))))
  (.need ((-1 : El (Cd.int .i64)) ≤ IntKind.wrap .i64 ((↑(List.length (x.1)) : Int) - (1 : Int)) ∧ IntKind.wrap .i64 ((↑(List.length (x.1)) : Int) - (1 : Int)) < (↑(List.length (x.1)) : Int) ∧ IntKind.wrap .i64 ((↑(List.length (x.1)) : Int) - (1 : Int)) < (↑(List.length x.2.1) : Int) ∧ List.length (x.1) ≤ (1000000 : Nat)) (.ite (decide (cmW (x.1) x.2.1 (Int.toNat (IntKind.wrap .i64 ((↑(List.length (x.1)) : Int) - (1 : Int)) + (1 : El (Cd.int .i64)))) = (0 : Int)))
    (.ret (.one (.v (.int .i64 ((0 : Int))))))
    (.ret (.one (.v (.int .i64 (cmW (x.1) x.2.1 (Int.toNat (IntKind.wrap .i64 ((↑(List.length (x.1)) : Int) - (1 : Int)) + (1 : El (Cd.int .i64)))))))))))
theorem tr_pcmp_eq (x : Els [(false, .sl (.int .u32)), (false, .sl (.int .u32))]) : fnP E25 lpCmp Tryz.f70 (encs [(false, .sl (.int .u32)), (false, .sl (.int .u32))] x) = tr_pcmp x := by kernel_rfl
noncomputable def tr_pbits (x : Els [(false, .sl (.int .u32))]) : T Av :=
 .ite ((↑(List.length (x.1)) : Int) == (0 : Int))
  (.ret (.one (.v (.int .i64 ((0 : Int))))))
  (.get (x.1) (IntKind.wrap .i64 ((↑(List.length (x.1)) : Int) - (1 : Int))) (fun v0 =>
   .need ((0 : El (Cd.int .i64)) ≤ IntKind.wrap .i64 ((32 : Int) * IntKind.wrap .i64 ((↑(List.length (x.1)) : Int) - (1 : Int))) ∧ IntKind.wrap .i64 ((32 : Int) * IntKind.wrap .i64 ((↑(List.length (x.1)) : Int) - (1 : Int))) + (↑(Pq.bitn (Int.toNat v0)) : El (Cd.int .i64)) ≤ (1000000000 : El (Cd.int .i64)) ∧ (0 : El (Cd.int .u32)) ≤ v0) (.ret (.one (.v (.int .i64 (IntKind.wrap .i64 ((32 : Int) * IntKind.wrap .i64 ((↑(List.length (x.1)) : Int) - (1 : Int))) + (↑(Pq.bitn (Int.toNat v0)) : Int))))))))
theorem tr_pbits_eq (x : Els [(false, .sl (.int .u32))]) : fnP E25 lpBits Tryz.f92 (encs [(false, .sl (.int .u32))] x) = tr_pbits x := by kernel_rfl
noncomputable def tr_pshl (x : Els [(false, .sl (.int .u32)), (false, .int .i64)]) : T Av :=
 .ite ((↑(List.length (x.1)) : Int) == (0 : Int))
  (.ret (.one (.v (Go.Value.slice Option.none (0 : Nat) (0 : Nat)))))
  (.need ((32 : Int) ≠ (0 : Int)) (.need ((0 : Int) ≤ IntKind.wrap .i64 (IntKind.wrap .i64 ((↑(List.length (x.1)) : Int) + IntKind.wrap .i64 (Int.tdiv x.2.1 (32 : Int))) + (1 : Int)) ∧ IntKind.wrap .i64 (IntKind.wrap .i64 ((↑(List.length (x.1)) : Int) + IntKind.wrap .i64 (Int.tdiv x.2.1 (32 : Int))) + (1 : Int)) = IntKind.wrap .i64 (IntKind.wrap .i64 ((↑(List.length (x.1)) : Int) + IntKind.wrap .i64 (Int.tdiv x.2.1 (32 : Int))) + (1 : Int)) ∧ (nat_lit 3 + (1 : Nat)) * Int.toNat (IntKind.wrap .i64 (IntKind.wrap .i64 ((↑(List.length (x.1)) : Int) + IntKind.wrap .i64 (Int.tdiv x.2.1 (32 : Int))) + (1 : Int))) ≤ (281474976710656 : Nat) ∧ Int.toNat (IntKind.wrap .i64 (IntKind.wrap .i64 ((↑(List.length (x.1)) : Int) + IntKind.wrap .i64 (Int.tdiv x.2.1 (32 : Int))) + (1 : Int))) ≤ Go.maxLen) (.need (Int.toNat (IntKind.wrap .i64 (IntKind.wrap .i64 ((↑(List.length (x.1)) : Int) + IntKind.wrap .i64 (Int.tdiv x.2.1 (32 : Int))) + (1 : Int))) = List.length (List.replicate (Int.toNat (IntKind.wrap .i64 (IntKind.wrap .i64 ((↑(List.length (x.1)) : Int) + IntKind.wrap .i64 (Int.tdiv x.2.1 (32 : Int))) + (1 : Int)))) (0 : Int)) ∧ Int.toNat (IntKind.wrap .i64 (IntKind.wrap .i64 ((↑(List.length (x.1)) : Int) + IntKind.wrap .i64 (Int.tdiv x.2.1 (32 : Int))) + (1 : Int))) = Int.toNat (IntKind.wrap .i64 (IntKind.wrap .i64 ((↑(List.length (x.1)) : Int) + IntKind.wrap .i64 (Int.tdiv x.2.1 (32 : Int))) + (1 : Int)))) (.need ((0 : El (Cd.int .i64)) ≤ (0 : Int) ∧ (0 : Int) ≤ (↑(List.length (x.1)) : Int) ∧ List.length (x.1) ≤ (1000000 : Nat) ∧ (0 : El (Cd.int .i64)) ≤ x.2.1 ∧ x.2.1 ≤ (100000000 : El (Cd.int .i64)) ∧ Words (x.1) ∧ List.replicate (Int.toNat (IntKind.wrap .i64 (IntKind.wrap .i64 ((↑(List.length (x.1)) : Int) + IntKind.wrap .i64 (Int.tdiv x.2.1 (32 : Int))) + (1 : Int)))) (0 : Int) = rw' (List.length (x.1) + Int.toNat x.2.1 / (32 : Nat) + (1 : Nat)) (valL (List.take (Int.toNat (0 : Int)) (x.1)) * (2 : Nat) ^ (Int.toNat x.2.1 % (32 : Nat)) * Pq.bp (Int.toNat x.2.1 / (32 : Nat)))) (.need (List.length (rw' (List.length (x.1) + Int.toNat x.2.1 / (32 : Nat) + (1 : Nat)) (valL (x.1) * (2 : Nat) ^ (Int.toNat x.2.1 % (32 : Nat)) * Pq.bp (Int.toNat x.2.1 / (32 : Nat)))) ≤ List.length (rw' (List.length (x.1) + Int.toNat x.2.1 / (32 : Nat) + (1 : Nat)) (valL (x.1) * (2 : Nat) ^ (Int.toNat x.2.1 % (32 : Nat)) * Pq.bp (Int.toNat x.2.1 / (32 : Nat))))) (.need (lenOk (List.length (List.take (List.length (rw' (List.length (x.1) + Int.toNat x.2.1 / (32 : Nat) + (1 : Nat)) (valL (x.1) * (2 : Nat) ^ (Int.toNat x.2.1 % (32 : Nat)) * Pq.bp (Int.toNat x.2.1 / (32 : Nat))))) (rw' (List.length (x.1) + Int.toNat x.2.1 / (32 : Nat) + (1 : Nat)) (valL (x.1) * (2 : Nat) ^ (Int.toNat x.2.1 % (32 : Nat)) * Pq.bp (Int.toNat x.2.1 / (32 : Nat))))))) (.ret (.one (.ds (Cd.int .u32) (trimmed (List.take (List.length (rw' (List.length (x.1) + Int.toNat x.2.1 / (32 : Nat) + (1 : Nat)) (valL (x.1) * (2 : Nat) ^ (Int.toNat x.2.1 % (32 : Nat)) * Pq.bp (Int.toNat x.2.1 / (32 : Nat))))) (rw' (List.length (x.1) + Int.toNat x.2.1 / (32 : Nat) + (1 : Nat)) (valL (x.1) * (2 : Nat) ^ (Int.toNat x.2.1 % (32 : Nat)) * Pq.bp (Int.toNat x.2.1 / (32 : Nat)))))))))))))))
theorem tr_pshl_eq (x : Els [(false, .sl (.int .u32)), (false, .int .i64)]) : fnP E25h lpShl Tryz.f93 (encs [(false, .sl (.int .u32)), (false, .int .i64)] x) = tr_pshl x := by kernel_rfl
noncomputable def tr_pcommon (x : Els [(false, .int .i64), (false, .int .i64)]) : T Av :=
 .lt (if IntKind.wrap .i64 ((0 : Int) - x.1) > x.1 then IntKind.wrap .i64 ((0 : Int) - x.1) else x.1) (fun v0 =>
  .lt (if IntKind.wrap .i64 ((0 : Int) - x.2.1) > x.2.1 then IntKind.wrap .i64 ((0 : Int) - x.2.1) else x.2.1) (fun v1 =>
   .need ((0 : El (Cd.int .i64)) ≤ v0 ∧ (0 : El (Cd.int .i64)) ≤ v1) (.ret (.one (.v (.int .i64 ((↑(Nat.gcd (Int.toNat v0) (Int.toNat v1)) : Int))))))))
theorem tr_pcommon_eq (x : Els [(false, .int .i64), (false, .int .i64)]) : fnP E25 lpComm Tryz.f87 (encs [(false, .int .i64), (false, .int .i64)] x) = tr_pcommon x := by kernel_rfl
end Go.Proofs.YtjijakfcahhioaaGreat
/-
The reference: add, sub, cmp, bits, shl, common.
-/
set_option linter.unusedSimpArgs false
set_option linter.unusedVariables false
namespace Go.Proofs.YtjijakfcahhioaaGreat
open Go.RowKit Ax
theorem trimmed_nil : trimmed ([] : List Int) = [] := rfl
noncomputable def con_padd : Con Tryz.prog := ⟨56, [], _, cf_padd, val_con (E := E25a) (L := lpAdd) mixed Tryz.func56 (many_loops (by kernel_rfl) (by simp) (fun i p hp => by
    match i, hp with
    | 0, hp => cases hp; exact paddL_ok
    | i + 1, hp => simp at hp)) [(false, .sl (.int .u32)), (false, .sl (.int .u32))] (fun x => List.length x.1 ≤ 1000000 ∧ List.length x.2.1 ≤ 1000000 ∧ Words x.1 ∧ Words x.2.1) (fun x => .one (.ds (.int .u32) (mg (valL x.1 + valL x.2.1)))) fun x hx => by
  rw [tr_padd_eq]
  obtain ⟨a, b, u⟩ := x
  revert a b
  intro (a : List Int) (b : List Int) (hx : a.length ≤ 1000000 ∧ b.length ≤ 1000000 ∧ Words a ∧ Words b)
  obtain ⟨l1, l2, wa, wb⟩ := hx
  unfold tr_padd
  simp only [T.wp]
  dsimp only [El]
  obtain ⟨h1, h2, h3⟩ := adW_spec a b 0 wa wb (by omega) (by omega)
  simp only [Int.toNat_zero, List.drop_zero, List.take_length]
  have e : valL (adW a b 0) = valL a + valL b := by omega
  refine ⟨trivial, ⟨by omega, by omega, by omega, l1, l2, wa, wb, by omega, by omega⟩, trivial, fun hz => ⟨by unfold lenOk; simp, ?_⟩, fun _ k _ => ⟨Nat.le_refl _, by unfold lenOk; omega, ?_⟩⟩
  · have hz := of_decide_eq_true hz
    rw [hz] at e
    rw [← e, val_nil, mg_zero]; rfl
  · rw [trimmed_mg h1, e]⟩
noncomputable def con_psub : Con Tryz.prog := ⟨94, [], _, cf_psub, val_con (E := E25s) (L := lpSub) mixed Tryz.func94 (many_loops (by kernel_rfl) (by simp) (fun i p hp => by
    match i, hp with
    | 0, hp => cases hp; exact psubL_ok
    | i + 1, hp => simp at hp)) [(false, .sl (.int .u32)), (false, .sl (.int .u32))] (fun x => (x.1 : List Int) = mg (valL x.1) ∧ (x.2.1 : List Int) = mg (valL x.2.1) ∧ List.length x.1 ≤ 1000000 ∧ valL x.2.1 ≤ valL x.1) (fun x => .one (.ds (.int .u32) (mg (valL x.1 - valL x.2.1)))) fun x hx => by
  rw [tr_psub_eq]
  obtain ⟨a, b, u⟩ := x
  revert a b
  intro (a : List Int) (b : List Int) (hx : a = mg (valL a) ∧ b = mg (valL b) ∧ a.length ≤ 1000000 ∧ valL b ≤ valL a)
  obtain ⟨ma, mb, l1, hle⟩ := hx
  have wa : Words a := by rw [ma]; exact mg_words _
  have wb : Words b := by rw [mb]; exact mg_words _
  have l2 : b.length ≤ a.length := by
    have h := mg_len.1 (Nat.lt_of_le_of_lt hle (val_words wa))
    rw [← mb] at h
    exact h
  unfold tr_psub
  simp only [T.wp]
  dsimp only [El]
  obtain ⟨h1, h2, -⟩ := sbW_spec a b 0 wa wb (.inl rfl) l2
  have e := sbW_val wa wb l2 hle
  simp only [Int.toNat_zero, List.drop_zero, List.take_length]
  refine ⟨trivial, ⟨by omega, by omega, l1, by omega, wa, wb, by simp⟩, trivial, fun hz => ⟨by unfold lenOk; simp, ?_⟩, fun _ k _ => ⟨Nat.le_refl _, by unfold lenOk; omega, ?_⟩⟩
  · have hz := of_decide_eq_true hz
    rw [hz] at e
    rw [← e, val_nil, mg_zero]; rfl
  · rw [trimmed_mg h1, e]⟩
theorem mg_lt_len {a b : Nat} (h : (mg a).length < (mg b).length) : a < b := by
  have h1 : a < Pq.bp (mg a).length := mg_len.2 (Nat.le_refl _)
  have h2 : ¬ b < Pq.bp (mg a).length := fun h' => by have := mg_len.1 h'; omega
  omega
noncomputable def con_pcmp : Con Tryz.prog := ⟨70, [], _, cf_pcmp, val_con (E := E25) (L := lpCmp) mixed Tryz.func70 (one_loop pcmpL_ok (by kernel_rfl)) [(false, .sl (.int .u32)), (false, .sl (.int .u32))] (fun x => (x.1 : List Int) = mg (valL x.1) ∧ (x.2.1 : List Int) = mg (valL x.2.1) ∧ List.length x.1 ≤ 1000000 ∧ List.length x.2.1 ≤ 1000000) (fun x => aI .i64 (Pq.cz (valL x.1) (valL x.2.1))) fun x hx => by
  rw [tr_pcmp_eq]
  obtain ⟨a, b, u⟩ := x
  revert a b
  intro (a : List Int) (b : List Int) (hx : a = mg (valL a) ∧ b = mg (valL b) ∧ a.length ≤ 1000000 ∧ b.length ≤ 1000000)
  obtain ⟨ma, mb, l1, l2⟩ := hx
  have wa : Words a := by rw [ma]; exact mg_words _
  have wb : Words b := by rw [mb]; exact mg_words _
  unfold tr_pcmp
  simp only [T.wp]
  dsimp only [El]
  have e1 : IntKind.i64.wrap ((a.length : Int) - 1) = (a.length : Int) - 1 := IntWalk.i64_in _ (by omega)
  rw [e1, show ((a.length : Int) - 1 + 1).toNat = a.length by omega]
  have hab : a.length < b.length → valL a < valL b := fun h => mg_lt_len (by rw [← ma, ← mb]; exact h)
  have hba : b.length < a.length → valL b < valL a := fun h => mg_lt_len (by rw [← ma, ← mb]; exact h)
  refine ⟨fun hne => ⟨fun hlt => ?_, fun hge => ?_⟩, fun heq => ?_⟩
  · have hlt := of_decide_eq_true hlt
    rw [Pq.cz_lt (by have := hab (by omega); omega)]; rfl
  · have hge := of_decide_eq_false hge
    have hne : (a.length : Int) ≠ b.length := by simpa using hne
    rw [Pq.cz_gt (by have := hba (by omega); omega)]; rfl
  · have heq : a.length = b.length := by have h : (a.length : Int) = b.length := by simpa using heq
                                         omega
    have hs := cmW_spec wa wb a.length (Nat.le_refl _) (by omega)
    rw [List.take_length, show b.take a.length = b by rw [heq, List.take_length]] at hs
    rw [hs]
    refine ⟨⟨by omega, by omega, by omega, l1⟩, fun hz => ?_, fun _ => rfl⟩
    rw [of_decide_eq_true hz]; rfl⟩
noncomputable def con_pbits : Con Tryz.prog := ⟨92, [], _, cf_pbits, val_con (E := E25) (L := lpBits) mixed Tryz.func92 (one_loop pbitsL_ok (by kernel_rfl)) [(false, .sl (.int .u32))] (fun x => (x.1 : List Int) = mg (valL x.1) ∧ List.length x.1 ≤ 1000000) (fun x => aI .i64 (Pq.bitn (valL x.1))) fun x hx => by
  rw [tr_pbits_eq]
  obtain ⟨a, u⟩ := x
  revert a
  intro (a : List Int) (hx : a = mg (valL a) ∧ a.length ≤ 1000000)
  obtain ⟨ma, l1⟩ := hx
  have wa : Words a := by rw [ma]; exact mg_words _
  unfold tr_pbits
  simp only [T.wp]
  dsimp only [El]
  refine ⟨fun h0 => ?_, fun h0 => ?_⟩
  · have h0 : a = [] := List.length_eq_zero_iff.1 (by simpa using h0)
    subst h0; rfl
  · have h0 : a.length ≠ 0 := by simpa using h0
    have e1 : IntKind.i64.wrap ((a.length : Int) - 1) = (a.length : Int) - 1 := IntWalk.i64_in _ (by omega)
    have e2 : IntKind.i64.wrap (32 * ((a.length : Int) - 1)) = 32 * ((a.length : Int) - 1) := IntWalk.i64_in _ (by omega)
    obtain ⟨u, hu⟩ := elem_at (l := a) (i := (a.length : Int) - 1) (by omega) (by omega)
    obtain ⟨u0, u1⟩ := wa u (List.mem_of_getElem? hu)
    have eu : a.getD (a.length - 1) 0 = u := by rw [List.getD_eq_getElem?_getD, show a.length - 1 = ((a.length : Int) - 1).toNat by omega, hu]; rfl
    have et := take_val (a := a) (n := a.length - 1) (by omega)
    rw [show a.length - 1 + 1 = a.length by omega, List.take_length, eu] at et
    have hV := val_words (take_words wa (a.length - 1))
    rw [List.length_take, Nat.min_eq_left (by omega)] at hV
    have hu0 : u.toNat ≠ 0 := fun hz => by
      rw [hz, Nat.mul_zero, Nat.add_zero] at et
      rw [← et] at hV
      have := mg_len.1 hV
      rw [← ma] at this
      omega
    have eb : Pq.bitn (valL a) = 32 * (a.length - 1) + Pq.bitn u.toNat := by
      rw [et, bp_pow]
      rw [bp_pow] at hV
      exact bitn_add hV hu0
    have hb : Pq.bitn u.toNat ≤ 32 := Pq.bitn_le.2 (by show u.toNat < 4294967296; omega)
    rw [e1, e2]
    refine ⟨u, by omega, hu, ⟨by omega, by omega, u0⟩, ?_⟩
    rw [eb, show ((32 * (a.length - 1) + Pq.bitn u.toNat : Nat) : Int) = 32 * ((a.length : Int) - 1) + Pq.bitn u.toNat by omega]; rfl⟩
noncomputable def con_pshl : Con Tryz.prog := ⟨93, [], _, cf_pshl, val_con (E := E25h) (L := lpShl) mixed Tryz.func93 (many_loops (by kernel_rfl) (by simp) (fun i p hp => by
    match i, hp with
    | 0, hp => cases hp; exact pshlL_ok
    | i + 1, hp => simp at hp)) [(false, .sl (.int .u32)), (false, .int .i64)] (fun x => Words x.1 ∧ 0 < List.length x.1 ∧ List.length x.1 ≤ 1000000 ∧ 0 ≤ x.2.1 ∧ x.2.1 ≤ 100000000) (fun x => .one (.ds (.int .u32) (mg (valL x.1 * 2 ^ x.2.1.toNat)))) fun x hx => by
  rw [tr_pshl_eq]
  obtain ⟨a, n, u⟩ := x
  revert a n
  intro (a : List Int) (n : Int) (hx : Words a ∧ 0 < a.length ∧ a.length ≤ 1000000 ∧ 0 ≤ n ∧ n ≤ 100000000)
  obtain ⟨wa, l0, l1, n0, n1⟩ := hx
  unfold tr_pshl
  simp only [T.wp]
  dsimp only [El]
  have e1 : IntKind.i64.wrap (IntKind.i64.wrap ((a.length : Int) + IntKind.i64.wrap (Int.tdiv n 32)) + 1) = ((a.length + n.toNat / 32 + 1 : Nat) : Int) := by
    rw [Int.tdiv_eq_ediv_of_nonneg n0, IntWalk.i64_in (n / 32) (by omega), IntWalk.i64_in ((a.length : Int) + n / 32) (by omega), IntWalk.i64_in _ (by omega)]; omega
  have etk : ∀ Q, List.take (a.length + n.toNat / 32 + 1) (rw' (a.length + n.toNat / 32 + 1) Q) = rw' (a.length + n.toNat / 32 + 1) Q := fun Q => List.take_of_length_le (by rw [rw_len]; exact Nat.le_refl _)
  simp only [e1, Int.toNat_natCast, List.length_replicate, Int.toNat_zero, List.take_zero, rw_len, etk]
  have ev : valL a * 2 ^ (n.toNat % 32) * Pq.bp (n.toNat / 32) = valL a * 2 ^ n.toNat := by
    rw [bp_pow, Nat.mul_assoc, ← Nat.pow_add, show n.toNat % 32 + 32 * (n.toNat / 32) = n.toNat by omega]
  have hb : valL a * 2 ^ n.toNat < Pq.bp (a.length + n.toNat / 32 + 1) := by
    have h1 := val_words wa
    rw [← ev]
    have h2 := (shl_lt (i := a.length) (k := n.toNat / 32) (s := n.toNat % 32) h1 (by omega)).2
    exact h2
  rw [show valL [] = 0 from rfl, Nat.zero_mul, Nat.zero_mul, rw_zero, ev]
  refine ⟨fun h => by simp at h; subst h; simp at l0, fun _ => ⟨by decide, ⟨by omega, trivial, by omega, by unfold Go.maxLen; omega⟩, ⟨trivial, trivial⟩, ⟨by omega, by omega, l1, n0, n1, wa, rfl⟩, Nat.le_refl _, by unfold lenOk; omega, ?_⟩⟩
  rw [trimmed_mg (rw_words _ _), rw_val hb]⟩
noncomputable def con_pcommon : Con Tryz.prog := ⟨87, [], _, cf_pcommon, val_con (E := E25) (L := lpComm) mixed Tryz.func87 (one_loop pcommL_ok (by kernel_rfl)) [(false, .int .i64), (false, .int .i64)] (fun x => -9223372036854775808 < x.1 ∧ x.1 < 9223372036854775808 ∧ -9223372036854775808 < x.2.1 ∧ x.2.1 < 9223372036854775808) (fun x => aI .i64 (Nat.gcd x.1.natAbs x.2.1.natAbs : Nat)) fun x hx => by
  rw [tr_pcommon_eq]
  obtain ⟨a, b, u⟩ := x
  revert a b
  intro (a : Int) (b : Int) (hx : -9223372036854775808 < a ∧ a < 9223372036854775808 ∧ -9223372036854775808 < b ∧ b < 9223372036854775808)
  obtain ⟨a0, a1, b0, b1⟩ := hx
  unfold tr_pcommon
  simp only [T.wp]
  dsimp only [El]
  rw [IntWalk.i64_in (0 - a) (by omega), IntWalk.i64_in (0 - b) (by omega)]
  have ea : (if 0 - a > a then 0 - a else a) = (a.natAbs : Int) := by split <;> omega
  have eb : (if 0 - b > b then 0 - b else b) = (b.natAbs : Int) := by split <;> omega
  rw [ea, eb]
  exact ⟨⟨by omega, by omega⟩, rfl⟩⟩
end Go.Proofs.YtjijakfcahhioaaGreat
/-
The reference: neg; the inner loop of mul; the loop of tenth.
-/
set_option linter.unusedSimpArgs false
set_option linter.unusedVariables false
namespace Go.Proofs.YtjijakfcahhioaaGreat
open Go.RowKit Ax
noncomputable def tr_pneg (x : Els [(true, cW)]) : T Av :=
 .ite x.1.1
  (.ret (.one (.v (.bool (decide ((↑(List.length (mg x.1.2.1)) : Int) > (0 : Int)))))))
  (.ret (.one (.v (.bool (false)))))
theorem tr_pneg_eq (x : Els [(true, cW)]) : fnP E25 (fun _ => none) Tryz.f49 (encs [(true, cW)] x) = tr_pneg x := by kernel_rfl
noncomputable def tr_pmulI (x : RSpec.X spMulI × RSpec.Y spMulI × (List (El (RSpec.c spMulI)) × Nat)) : T (RRd spMulI) :=
 .ite (decide (x.1.2.2.2.2.1 < (↑(List.length x.1.2.1) : Int)))
  (.get x.1.1 x.1.2.2.1 (fun v0 =>
   .get x.1.2.1 x.1.2.2.2.2.1 (fun v1 =>
    .need ((0 : Int) ≤ IntKind.wrap .i64 (x.1.2.2.1 + x.1.2.2.2.2.1) ∧ IntKind.wrap .i64 (x.1.2.2.1 + x.1.2.2.2.2.1) < (↑(List.length x.2.2.1) : Int)) (.get x.2.2.1 (IntKind.wrap .i64 (x.1.2.2.1 + x.1.2.2.2.2.1)) (fun v2 =>
      .need ((0 : Int) ≤ IntKind.wrap .i64 (x.1.2.2.1 + x.1.2.2.2.2.1) ∧ IntKind.wrap .i64 (x.1.2.2.1 + x.1.2.2.2.2.1) < (↑(List.length x.2.2.1) : Int)) (.need (IntKind.wrap .i64 (x.1.2.2.1 + x.1.2.2.2.2.1) < (↑(List.length x.2.2.1) : Int)) (.need (List.length x.2.2.1 = List.length (List.set x.2.2.1 (Int.toNat (IntKind.wrap .i64 (x.1.2.2.1 + x.1.2.2.2.2.1))) (IntKind.wrap .u32 (IntKind.wrap .u64 (IntKind.wrap .u64 (x.1.2.2.2.1 + IntKind.wrap .u64 (IntKind.wrap .u64 v0 * IntKind.wrap .u64 v1)) + IntKind.wrap .u64 v2)))) ∧ x.2.2.2 = x.2.2.2) (.ret (.again (x.1.1, (x.1.2.1, (x.1.2.2.1, (Int.fdiv (IntKind.wrap .u64 (IntKind.wrap .u64 (x.1.2.2.2.1 + IntKind.wrap .u64 (IntKind.wrap .u64 v0 * IntKind.wrap .u64 v1)) + IntKind.wrap .u64 v2)) ((2 : Int) ^ Min.min (Int.toNat (32 : Int)) (IntKind.bits .u64)), (IntKind.wrap .i64 (x.1.2.2.2.2.1 + (1 : Int)), ()))))) () (some ((List.set x.2.2.1 (Int.toNat (IntKind.wrap .i64 (x.1.2.2.1 + x.1.2.2.2.2.1))) (IntKind.wrap .u32 (IntKind.wrap .u64 (IntKind.wrap .u64 (x.1.2.2.2.1 + IntKind.wrap .u64 (IntKind.wrap .u64 v0 * IntKind.wrap .u64 v1)) + IntKind.wrap .u64 v2))), x.2.2.2))))))))))))
  (.need (List.length x.2.2.1 = List.length x.2.2.1 ∧ x.2.2.2 = x.2.2.2) (.ret (.out (Go.Exit.exit (2 : Nat)) [(.one (.ds (Cd.int .u32) x.1.1)), (.one (.ds (Cd.int .u32) x.1.2.1)), (.one (.v (.int .i64 x.1.2.2.1))), (.one (.v (.int .u64 x.1.2.2.2.1)))] () (some x.2.2))))
theorem tr_pmulI_eq (x : RSpec.X spMulI × RSpec.Y spMulI × (List (El (RSpec.c spMulI)) × Nat)) : RSpec.round spMulI E25 (fun _ => none) (innerOf (bodyOf Tryz.f50 0) 0) x.1 x.2.1 (some x.2.2) = tr_pmulI x := by kernel_rfl
noncomputable def tr_ptenL (x : RSpec.X spTen × RSpec.Y spTen × (List (El (RSpec.c spTen)) × Nat)) : T (RRd spTen) :=
 .ite (decide (x.1.2.2.1 ≥ (0 : Int)))
  (.get x.1.1 x.1.2.2.1 (fun v0 =>
   .need ((10 : Int) ≠ (0 : Int)) (.need ((10 : Int) ≠ (0 : Int)) (.need ((0 : Int) ≤ x.1.2.2.1 ∧ x.1.2.2.1 < (↑(List.length x.2.2.1) : Int)) (.need (x.1.2.2.1 < (↑(List.length x.2.2.1) : Int)) (.need (List.length x.2.2.1 = List.length (List.set x.2.2.1 (Int.toNat x.1.2.2.1) (IntKind.wrap .u32 (IntKind.wrap .u64 (Int.tdiv (IntKind.wrap .u64 (↑(BitVec.toNat (BitVec.ofInt (IntKind.bits .u64) (IntKind.wrap .u64 (x.1.2.1 * (2 : Int) ^ Min.min (Int.toNat (32 : Int)) (IntKind.bits .u64))) ||| BitVec.ofInt (IntKind.bits .u64) (IntKind.wrap .u64 v0))) : Int)) (10 : Int))))) ∧ x.2.2.2 = x.2.2.2) (.ret (.again (x.1.1, (Int.tmod (IntKind.wrap .u64 (↑(BitVec.toNat (BitVec.ofInt (IntKind.bits .u64) (IntKind.wrap .u64 (x.1.2.1 * (2 : Int) ^ Min.min (Int.toNat (32 : Int)) (IntKind.bits .u64))) ||| BitVec.ofInt (IntKind.bits .u64) (IntKind.wrap .u64 v0))) : Int)) (10 : Int), (IntKind.wrap .i64 (x.1.2.2.1 - (1 : Int)), ()))) () (some ((List.set x.2.2.1 (Int.toNat x.1.2.2.1) (IntKind.wrap .u32 (IntKind.wrap .u64 (Int.tdiv (IntKind.wrap .u64 (↑(BitVec.toNat (BitVec.ofInt (IntKind.bits .u64) (IntKind.wrap .u64 (x.1.2.1 * (2 : Int) ^ Min.min (Int.toNat (32 : Int)) (IntKind.bits .u64))) ||| BitVec.ofInt (IntKind.bits .u64) (IntKind.wrap .u64 v0))) : Int)) (10 : Int)))), x.2.2.2)))))))))))
  (.need (List.length x.2.2.1 = List.length x.2.2.1 ∧ x.2.2.2 = x.2.2.2) (.ret (.out (Go.Exit.exit (0 : Nat)) [(.one (.v (.int .u64 x.1.2.1)))] () (some x.2.2))))
theorem tr_ptenL_eq (x : RSpec.X spTen × RSpec.Y spTen × (List (El (RSpec.c spTen)) × Nat)) : RSpec.round spTen E25 (fun _ => none) (bodyOf Tryz.f97 0) x.1 x.2.1 (some x.2.2) = tr_ptenL x := by kernel_rfl
end Go.Proofs.YtjijakfcahhioaaGreat
/-
The reference: neg; the loops of mul (within), tenth.
-/
set_option linter.unusedSimpArgs false
set_option linter.unusedVariables false
namespace Go.Proofs.YtjijakfcahhioaaGreat
open Go.RowKit Ax
noncomputable def con_pneg : Con Tryz.prog := ⟨49, [], _, cf_pneg, tot_con (E := E25) mixed Tryz.func49 no_loops [(true, cW)] (fun x => aB (x.1.1 && decide (x.1.2.1 ≠ 0))) fun x => by
  rw [tr_pneg_eq]
  obtain ⟨⟨b, a⟩, u⟩ := x
  revert b a
  intro (b : Bool) (a : Amt)
  unfold tr_pneg
  simp only [T.wp]
  refine ⟨fun h => ?_, fun h => ?_⟩
  · have h : b = true := h
    subst h
    have : decide (((mg a.1).length : Int) > 0) = decide (a.1 ≠ 0) := by
      rw [decide_eq_decide]
      constructor
      · intro hl h0; rw [h0, mg_zero] at hl; simp at hl
      · intro h0
        rcases Nat.eq_zero_or_pos (mg a.1).length with h' | h'
        · exact absurd (mg_nil.1 (List.length_eq_zero_iff.1 h')) h0
        · omega
    rw [this]; rfl
  · have h : b = false := h
    subst h; rfl⟩
def outMulI (x : RSpec.X spMulI) (y : RSpec.Y spMulI) (g : RSpec.G spMulI) : T (Exit × List Av × RSpec.Y spMulI × RSpec.G spMulI) :=
  match g with
  | none => .fail
  | some r => .need (0 ≤ x.2.2.2.2.1 ∧ x.2.2.2.2.1 ≤ x.2.1.length ∧ 0 ≤ x.2.2.1 ∧ x.2.2.1 < x.1.length ∧ x.2.2.1 + x.2.1.length < r.1.length ∧ lenOk r.1.length ∧ Words x.1 ∧ Words x.2.1 ∧ Words r.1 ∧ 0 ≤ x.2.2.2.1 ∧ x.2.2.2.1 < 4294967296)
      (.lt (inW ((x.1 : List Int).getD x.2.2.1.toNat 0) ((x.2.1 : List Int).drop x.2.2.2.2.1.toNat) (x.2.2.1.toNat + x.2.2.2.2.1.toNat) x.2.2.2.1 r.1) fun o =>
        .ret (.exit 2, [.one (.ds (.int .u32) x.1), .one (.ds (.int .u32) x.2.1), aI .i64 x.2.2.1, aI .u64 o.1], y, some (o.2, r.2)))
theorem pmulI_core (a b : List Int) (i c k : Int) (y : RSpec.Y spMulI) (xs : List Int) (cap : Nat) (Q : Exit × List Av × RSpec.Y spMulI × RSpec.G spMulI → Prop) (h : (outMulI (a, b, i, c, k, ()) y (some (xs, cap))).wp Q) : (tr_pmulI ((a, b, i, c, k, ()), y, (xs, cap))).wp fun r => match r with
      | .again x' y' g' => (x'.2.1.length - x'.2.2.2.2.1).toNat < (b.length - k).toNat ∧ (outMulI x' y' g').wp Q
      | .out e avs y' g' => Q (e, avs, y', g') := by
  unfold tr_pmulI
  unfold outMulI at h ⊢
  simp only [T.wp] at h ⊢
  dsimp only [El, vts, spMulI] at h ⊢
  obtain ⟨⟨k0, k1, i0, i1, hl, hlen, ha, hb, hx, c0, c1⟩, hq⟩ := h
  unfold lenOk at hlen
  refine ⟨fun hlt => ?_, fun hge => ?_⟩
  · have hlt := of_decide_eq_true hlt
    obtain ⟨u, hu⟩ := elem_at (l := a) i0 i1
    obtain ⟨v, hv⟩ := elem_at (l := b) k0 hlt
    obtain ⟨w, hw⟩ := elem_at (l := xs) (i := i + k) (by omega) (by omega)
    have hd := drop_at k0 hv
    obtain ⟨u0, u1⟩ := ha u (List.mem_of_getElem? hu)
    obtain ⟨v0, v1⟩ := hb v (List.mem_of_getElem? hv)
    obtain ⟨o0, o1⟩ := hx w (List.mem_of_getElem? hw)
    have hm0 : 0 ≤ u * v := Int.mul_nonneg u0 v0
    have hm1 : u * v ≤ 4294967295 * 4294967295 := Int.mul_le_mul (by omega) (by omega) v0 (by omega)
    have eu : a.getD i.toNat 0 = u := by rw [List.getD_eq_getElem?_getD, hu]; rfl
    have ew : xs.getD (i.toNat + k.toNat) 0 = w := by rw [List.getD_eq_getElem?_getD, show i.toNat + k.toNat = (i + k).toNat by omega, hw]; rfl
    have e1 : IntKind.i64.wrap (i + k) = i + k := IntWalk.i64_in _ (by omega)
    have e2 : IntKind.i64.wrap (k + 1) = k + 1 := IntWalk.i64_in _ (by omega)
    have e3 : IntKind.u64.wrap (IntKind.u64.wrap (c + IntKind.u64.wrap (IntKind.u64.wrap u * IntKind.u64.wrap v)) + IntKind.u64.wrap w) = c + u * v + w := by
      rw [w_u64 (z := u) (by omega), w_u64 (z := v) (by omega), w_u64 (z := u * v) (by omega), w_u64 (z := w) (by omega), w_u64 (z := c + u * v) (by omega), w_u64 (by omega)]
    have p32 : (2 : Int) ^ min (Int.toNat 32) (IntKind.bits .u64) = 4294967296 := by decide
    have e4 : IntKind.u32.wrap (c + u * v + w) = (c + u * v + w) % 4294967296 := by rw [IntKind.wrap_u32]
    have e5 : Int.fdiv (c + u * v + w) 4294967296 = (c + u * v + w) / 4294967296 := Int.fdiv_eq_ediv_of_nonneg _ (by decide)
    rw [hd, inW, eu, ew] at hq
    refine ⟨u, i0, hu, v, k0, hv, ?_⟩
    rw [e1]
    refine ⟨⟨by omega, by omega⟩, w, by omega, hw, ⟨by omega, by omega⟩, by omega, ?_⟩
    rw [e3, p32, e4, e5, e2]
    refine ⟨⟨by rw [List.length_set], trivial⟩, by omega, ⟨by omega, by omega, i0, i1, by rw [List.length_set]; exact hl, by rw [List.length_set]; exact hlen, ha, hb, words_set hx (by omega) (by omega), by omega, by omega⟩, ?_⟩
    rw [show (i + k).toNat = i.toNat + k.toNat by omega, show (k + 1).toNat = k.toNat + 1 by omega, ← Nat.add_assoc, eu]
    rw [show (k + 1).toNat = k.toNat + 1 by omega] at hq
    exact hq
  · have hge := of_decide_eq_false hge
    rw [drop_end (by omega), inW] at hq
    exact ⟨⟨trivial, trivial⟩, hq⟩
theorem pmulI_ok (n : Nat) (hn : n ≤ 1) : LoopOk Tryz.prog n (innerOf (bodyOf Tryz.f50 0) 0) (spMulI.run outMulI) :=
  loopR_ok (E := E25) (L := fun _ => none) mixed n (loops_none _ _ _) spMulI hn outMulI (fun x _ _ => ((List.length x.2.1 : Int) - x.2.2.2.2.1).toNat) (by
    rintro ⟨a, b, i, c, k, ⟨⟩⟩ y g Q h
    match g, h with
    | some (xs, cap), h =>
      rw [tr_pmulI_eq ((a, b, i, c, k, ()), y, (xs, cap))]
      exact pmulI_core a b i c k y xs cap Q h
    | none, h => exact h.elim)
noncomputable def lpMulI : Loops := manyL [(7, spMulI.run outMulI)]
def outTen (x : RSpec.X spTen) (y : RSpec.Y spTen) (g : RSpec.G spTen) : T (Exit × List Av × RSpec.Y spTen × RSpec.G spTen) :=
  match g with
  | none => .fail
  | some r => .need (-1 ≤ x.2.2.1 ∧ x.2.2.1 < x.1.length ∧ r.1.length = x.1.length ∧ lenOk r.1.length ∧ Words x.1 ∧ Words r.1 ∧ 0 ≤ x.2.1 ∧ x.2.1 < 10)
      (.lt (tenW x.1 (x.2.2.1 + 1).toNat x.2.1 r.1) fun o => .ret (.exit 0, [aI .u64 o.1], y, some (o.2, r.2)))
theorem ptenL_core (a : List Int) (r i : Int) (y : RSpec.Y spTen) (xs : List Int) (cap : Nat) (Q : Exit × List Av × RSpec.Y spTen × RSpec.G spTen → Prop) (h : (outTen (a, r, i, ()) y (some (xs, cap))).wp Q) : (tr_ptenL ((a, r, i, ()), y, (xs, cap))).wp fun r => match r with
      | .again x' y' g' => (x'.2.2.1 + 1).toNat < (i + 1).toNat ∧ (outTen x' y' g').wp Q
      | .out e avs y' g' => Q (e, avs, y', g') := by
  unfold tr_ptenL
  unfold outTen at h ⊢
  simp only [T.wp] at h ⊢
  dsimp only [El, vts, spTen] at h ⊢
  obtain ⟨⟨k0, k1, hl, hlen, ha, hx, r0, r1⟩, hq⟩ := h
  unfold lenOk at hlen
  refine ⟨fun hge => ?_, fun hlt => ?_⟩
  · have hge := of_decide_eq_true hge
    obtain ⟨u, hu⟩ := elem_at (l := a) (i := i) hge k1
    obtain ⟨u0, u1⟩ := ha u (List.mem_of_getElem? hu)
    have eu : a.getD i.toNat 0 = u := by rw [List.getD_eq_getElem?_getD, hu]; rfl
    have p32 : (2 : Int) ^ min (Int.toNat 32) (IntKind.bits .u64) = 4294967296 := by decide
    have e1 : IntKind.i64.wrap (i - 1) = i - 1 := IntWalk.i64_in _ (by omega)
    rw [show (i + 1).toNat = i.toNat + 1 by omega, tenW, eu] at hq
    refine ⟨u, hge, hu, by decide, by decide, ⟨by omega, by omega⟩, by omega, ?_⟩
    rw [p32, w_u64 (z := r * 4294967296) (by omega), w_u64 (z := u) (by omega), or_64 (by omega) (by omega), w_u64 (z := r * 4294967296 + u) (by omega), Int.tdiv_eq_ediv_of_nonneg (by omega), Int.tmod_eq_emod_of_nonneg (by omega), w_u64 (z := (r * 4294967296 + u) / 10) (by omega), e1]
    have e2 : IntKind.u32.wrap ((r * 4294967296 + u) / 10) = (r * 4294967296 + u) / 10 := by rw [IntKind.wrap_u32]; omega
    rw [e2]
    refine ⟨⟨by rw [List.length_set], trivial⟩, by omega, ⟨by omega, by omega, by rw [List.length_set]; exact hl, by rw [List.length_set]; exact hlen, ha, words_set hx (by omega) (by omega), by omega, by omega⟩, ?_⟩
    rw [show (i - 1 + 1).toNat = i.toNat by omega]
    exact hq
  · have hlt := of_decide_eq_false hlt
    rw [show (i + 1).toNat = 0 by omega, tenW] at hq
    exact ⟨⟨trivial, trivial⟩, hq⟩
theorem ptenL_ok : LoopOk Tryz.prog 0 (bodyOf Tryz.f97 0) (spTen.run outTen) :=
  loopR_ok (E := E25) (L := fun _ => none) mixed 0 (loops_none _ _ _) spTen (Nat.zero_le _) outTen (fun x _ _ => (x.2.2.1 + 1).toNat) (by
    rintro ⟨a, r, i, ⟨⟩⟩ y g Q h
    match g, h with
    | some (xs, cap), h =>
      rw [tr_ptenL_eq ((a, r, i, ()), y, (xs, cap))]
      exact ptenL_core a r i y xs cap Q h
    | none, h => exact h.elim)
noncomputable def lpTen : Loops := manyL [(4, spTen.run outTen)]
noncomputable def E26 : Env Tryz.prog := E25.add [con_pneg]
noncomputable def E26t : Env Tryz.prog := E26.fz [(8, [4])]
end Go.Proofs.YtjijakfcahhioaaGreat
/-
The reference: mul's outer loop, tenth's run.
-/
set_option linter.unusedSimpArgs false
set_option linter.unusedVariables false
namespace Go.Proofs.YtjijakfcahhioaaGreat
open Go.RowKit Ax
noncomputable def tr_pmulO (x : RSpec.X spMulO × RSpec.Y spMulO × (List (El (RSpec.c spMulO)) × Nat)) : T (RRd spMulO) :=
 .ite (decide (x.1.2.2.1 < (↑(List.length x.1.1) : Int)))
  (.need (List.length x.2.2.1 = List.length x.2.2.1 ∧ x.2.2.2 = x.2.2.2) (.need ((0 : El (Cd.int .i64)) ≤ (0 : Int) ∧ (0 : Int) ≤ (↑(List.length x.1.2.1) : El (Cd.int .i64)) ∧ (0 : El (Cd.int .i64)) ≤ x.1.2.2.1 ∧ x.1.2.2.1 < (↑(List.length x.1.1) : El (Cd.int .i64)) ∧ x.1.2.2.1 + (↑(List.length x.1.2.1) : El (Cd.int .i64)) < (↑(List.length x.2.2.1) : El (Cd.int .i64)) ∧ lenOk (List.length x.2.2.1) ∧ Words x.1.1 ∧ Words x.1.2.1 ∧ Words x.2.2.1 ∧ (0 : El (Cd.int .u64)) ≤ (0 : Int) ∧ (0 : Int) < (4294967296 : El (Cd.int .u64))) (.lt (inW (List.getD x.1.1 (Int.toNat x.1.2.2.1) (0 : El (Cd.int .u32))) (List.drop (Int.toNat (0 : Int)) x.1.2.1) (Int.toNat x.1.2.2.1 + Int.toNat (0 : Int)) (0 : Int) x.2.2.1) (fun v0 =>
     .need ((0 : Int) ≤ IntKind.wrap .i64 (x.1.2.2.1 + (↑(List.length x.1.2.1) : Int)) ∧ IntKind.wrap .i64 (x.1.2.2.1 + (↑(List.length x.1.2.1) : Int)) < (↑(List.length v0.2) : Int)) (.need (IntKind.wrap .i64 (x.1.2.2.1 + (↑(List.length x.1.2.1) : Int)) < (↑(List.length v0.2) : Int)) (.need (List.length v0.2 = List.length (List.set v0.2 (Int.toNat (IntKind.wrap .i64 (x.1.2.2.1 + (↑(List.length x.1.2.1) : Int)))) (IntKind.wrap .u32 v0.1)) ∧ x.2.2.2 = x.2.2.2) (.ret (.again (x.1.1, (x.1.2.1, (IntKind.wrap .i64 (x.1.2.2.1 + (1 : Int)), ()))) () (some ((List.set v0.2 (Int.toNat (IntKind.wrap .i64 (x.1.2.2.1 + (↑(List.length x.1.2.1) : Int)))) (IntKind.wrap .u32 v0.1), x.2.2.2)))))))))))
  (.need (List.length x.2.2.1 = List.length x.2.2.1 ∧ x.2.2.2 = x.2.2.2) (.ret (.out (Go.Exit.exit (0 : Nat)) [] () (some x.2.2))))
theorem tr_pmulO_eq (x : RSpec.X spMulO × RSpec.Y spMulO × (List (El (RSpec.c spMulO)) × Nat)) : RSpec.round spMulO E26 lpMulI (bodyOf Tryz.f50 0) x.1 x.2.1 (some x.2.2) = tr_pmulO x := by kernel_rfl
noncomputable def tr_ptenth (x : Els [(false, .sl (.int .u32))]) : T Av :=
 .need ((0 : Int) ≤ (↑(List.length (x.1)) : Int) ∧ (↑(List.length (x.1)) : Int) = (↑(List.length (x.1)) : Int) ∧ (nat_lit 3 + (1 : Nat)) * Int.toNat (↑(List.length (x.1)) : Int) ≤ (281474976710656 : Nat) ∧ Int.toNat (↑(List.length (x.1)) : Int) ≤ Go.maxLen) (.need (Int.toNat (↑(List.length (x.1)) : Int) = List.length (List.replicate (Int.toNat (↑(List.length (x.1)) : Int)) (0 : Int)) ∧ Int.toNat (↑(List.length (x.1)) : Int) = Int.toNat (↑(List.length (x.1)) : Int)) (.need ((-1 : El (Cd.int .i64)) ≤ IntKind.wrap .i64 ((↑(List.length (x.1)) : Int) - (1 : Int)) ∧ IntKind.wrap .i64 ((↑(List.length (x.1)) : Int) - (1 : Int)) < (↑(List.length (x.1)) : El (Cd.int .i64)) ∧ List.length (List.replicate (Int.toNat (↑(List.length (x.1)) : Int)) (0 : Int)) = List.length (x.1) ∧ lenOk (List.length (List.replicate (Int.toNat (↑(List.length (x.1)) : Int)) (0 : Int))) ∧ Words (x.1) ∧ Words (List.replicate (Int.toNat (↑(List.length (x.1)) : Int)) (0 : Int)) ∧ (0 : El (Cd.int .u64)) ≤ (0 : Int) ∧ (0 : Int) < (10 : El (Cd.int .u64))) (.lt (tenW (x.1) (Int.toNat (IntKind.wrap .i64 ((↑(List.length (x.1)) : Int) - (1 : Int)) + (1 : El (Cd.int .i64)))) (0 : Int) (List.replicate (Int.toNat (↑(List.length (x.1)) : Int)) (0 : Int))) (fun v0 =>
     .need (List.length v0.2 ≤ List.length v0.2) (.need (lenOk (List.length (List.take (List.length v0.2) v0.2))) (.ret (.tup [(.one (.ds (Cd.int .u32) (trimmed (List.take (List.length v0.2) v0.2)))), (.one (.v (.int .u32 (IntKind.wrap .u32 v0.1))))])))))))
theorem tr_ptenth_eq (x : Els [(false, .sl (.int .u32))]) : fnP E26t lpTen Tryz.f97 (encs [(false, .sl (.int .u32))] x) = tr_ptenth x := by kernel_rfl
end Go.Proofs.YtjijakfcahhioaaGreat
/-
The reference: mul's outer loop, tenth.
-/
set_option linter.unusedSimpArgs false
set_option linter.unusedVariables false
namespace Go.Proofs.YtjijakfcahhioaaGreat
open Go.RowKit Ax
def outMulO (x : RSpec.X spMulO) (y : RSpec.Y spMulO) (g : RSpec.G spMulO) : T (Exit × List Av × RSpec.Y spMulO × RSpec.G spMulO) :=
  match g with
  | none => .fail
  | some r => .need (0 ≤ x.2.2.1 ∧ x.2.2.1 ≤ x.1.length ∧ r.1.length = x.1.length + x.2.1.length ∧ lenOk r.1.length ∧ Words x.1 ∧ Words x.2.1 ∧ Words r.1 ∧ ∀ j, x.2.2.1.toNat + x.2.1.length ≤ j → j < r.1.length → (r.1 : List Int)[j]? = some 0)
      (.lt (mulW x.2.1 ((x.1 : List Int).drop x.2.2.1.toNat) x.2.2.1.toNat r.1) fun o => .ret (.exit 0, [], y, some (o, r.2)))
theorem pmulO_core (a b : List Int) (i : Int) (y : RSpec.Y spMulO) (xs : List Int) (cap : Nat) (Q : Exit × List Av × RSpec.Y spMulO × RSpec.G spMulO → Prop) (h : (outMulO (a, b, i, ()) y (some (xs, cap))).wp Q) : (tr_pmulO ((a, b, i, ()), y, (xs, cap))).wp fun r => match r with
      | .again x' y' g' => (x'.1.length - x'.2.2.1).toNat < (a.length - i).toNat ∧ (outMulO x' y' g').wp Q
      | .out e avs y' g' => Q (e, avs, y', g') := by
  unfold tr_pmulO
  unfold outMulO at h ⊢
  simp only [T.wp] at h ⊢
  dsimp only [El, vts, spMulO] at h ⊢
  obtain ⟨⟨i0, i1, hl, hlen, ha, hb, hx, hz⟩, hq⟩ := h
  have hlen' := hlen
  unfold lenOk at hlen
  refine ⟨fun hlt => ?_, fun hge => ?_⟩
  · have hlt := of_decide_eq_true hlt
    obtain ⟨u, hu⟩ := elem_at (l := a) i0 hlt
    have hd := drop_at i0 hu
    have eu : a.getD i.toNat 0 = u := by rw [List.getD_eq_getElem?_getD, hu]; rfl
    have hu2 := ha u (List.mem_of_getElem? hu)
    obtain ⟨r1, r2, r3, r4⟩ := mulW_round (n := a.length - i.toNat - 1) hu2 hb hx (by omega) hz
    obtain ⟨s1, s2, s3, s4, s5, s6⟩ := inW_spec hu2 b i.toNat 0 xs hb hx (by omega) (by omega) (by omega)
    rw [hd, mulW] at hq
    rw [eu, Int.toNat_zero, List.drop_zero, Nat.add_zero]
    have e1 : IntKind.i64.wrap (i + (b.length : Int)) = i + b.length := IntWalk.i64_in _ (by omega)
    have e2 : IntKind.i64.wrap (i + 1) = i + 1 := IntWalk.i64_in _ (by omega)
    have e3 : IntKind.u32.wrap (inW u b i.toNat 0 xs).1 = (inW u b i.toNat 0 xs).1 := by rw [IntKind.wrap_u32]; omega
    rw [e1, e2, e3, show (i + (b.length : Int)).toNat = i.toNat + b.length by omega]
    have e4 : (i + 1).toNat = i.toNat + 1 := by omega
    refine ⟨⟨trivial, trivial⟩, ⟨by omega, by omega, i0, by omega, by omega, hlen', ha, hb, hx, by omega, by omega⟩, ⟨by omega, by omega⟩, by omega, ⟨by rw [List.length_set], trivial⟩, by omega, ⟨by omega, by omega, by rw [r2]; exact hl, by rw [r2]; exact hlen', ha, hb, r1, ?_⟩, ?_⟩
    · intro j hj hjl
      rw [e4] at hj
      rw [r2] at hjl
      exact r3 j hj hjl
    · rw [e4]
      rw [e4] at hq
      exact hq
  · have hge := of_decide_eq_false hge
    rw [drop_end (by omega), mulW] at hq
    exact ⟨⟨trivial, trivial⟩, hq⟩
theorem pmulO_ok : LoopOk Tryz.prog 0 (bodyOf Tryz.f50 0) (spMulO.run outMulO) :=
  loopR_ok (E := E26) (L := lpMulI) mixed 0 (inner_one (by kernel_rfl) (pmulI_ok 0 (by decide))) spMulO (Nat.zero_le _) outMulO (fun x _ _ => ((List.length x.1 : Int) - x.2.2.1).toNat) (by
    rintro ⟨a, b, i, ⟨⟩⟩ y g Q h
    match g, h with
    | some (xs, cap), h =>
      rw [tr_pmulO_eq ((a, b, i, ()), y, (xs, cap))]
      exact pmulO_core a b i y xs cap Q h
    | none, h => exact h.elim)
noncomputable def lpMul : Loops := manyL [(3, spMulO.run outMulO)]
noncomputable def con_ptenth : Con Tryz.prog := ⟨97, [], _, cf_ptenth, val_con (E := E26t) (L := lpTen) mixed Tryz.func97 (many_loops (by kernel_rfl) (by simp) (fun i p hp => by
    match i, hp with
    | 0, hp => cases hp; exact ptenL_ok
    | i + 1, hp => simp at hp)) [(false, .sl (.int .u32))] (fun x => List.length x.1 ≤ 1000000 ∧ Words x.1) (fun x => .tup [.one (.ds (.int .u32) (mg (valL x.1 / 10))), aI .u32 ((valL x.1 % 10 : Nat) : Int)]) fun x hx => by
  rw [tr_ptenth_eq]
  obtain ⟨l, u⟩ := x
  revert l
  intro (l : List Int) (hx : l.length ≤ 1000000 ∧ Words l)
  unfold tr_ptenth
  simp only [T.wp]
  dsimp only [El]
  have e1 : IntKind.i64.wrap ((l.length : Int) - 1) = (l.length : Int) - 1 := IntWalk.i64_in _ (by omega)
  simp only [e1, Int.toNat_natCast, List.length_replicate, Go.maxLen]
  rw [show ((l.length : Int) - 1 + 1).toNat = l.length by omega]
  obtain ⟨h1, h2, h3, h4, h5⟩ := tenW_spec hx.2 l.length 0 (List.replicate l.length 0) (Nat.le_refl _) (by simp) (words_zero _) (by omega) (by omega) (fun j hj => by simp [hj])
  rw [List.take_length, val_zero] at h5
  have ht : List.take (tenW l l.length 0 (List.replicate l.length 0)).2.length (tenW l l.length 0 (List.replicate l.length 0)).2 = (tenW l l.length 0 (List.replicate l.length 0)).2 := List.take_length
  generalize tenW l l.length 0 (List.replicate l.length 0) = o at *
  refine ⟨⟨by omega, trivial, by omega, by omega⟩, ⟨trivial, trivial⟩, ⟨by omega, by omega, trivial, by unfold lenOk; omega, hx.2, words_zero _, by omega, by omega⟩, Nat.le_refl _, by rw [ht]; unfold lenOk; omega, ?_⟩
  have e2 : valL o.2 = valL l / 10 := by omega
  have e3 : IntKind.u32.wrap o.1 = ((valL l % 10 : Nat) : Int) := by rw [IntKind.wrap_u32]; omega
  rw [ht, trimmed_mg h1, e2, e3]
  rfl⟩
noncomputable def E27 : Env Tryz.prog := E26.add [con_ptenth]
noncomputable def E27m : Env Tryz.prog := E27.fz [(13, [5])]
end Go.Proofs.YtjijakfcahhioaaGreat
/-
The reference: mul's run; text's loop.
-/
set_option linter.unusedSimpArgs false
set_option linter.unusedVariables false
namespace Go.Proofs.YtjijakfcahhioaaGreat
open Go.RowKit Ax
noncomputable def tr_pmul (x : Els [(false, .sl (.int .u32)), (false, .sl (.int .u32))]) : T Av :=
 .need ((0 : Int) ≤ IntKind.wrap .i64 ((↑(List.length (x.1)) : Int) + (↑(List.length x.2.1) : Int)) ∧ IntKind.wrap .i64 ((↑(List.length (x.1)) : Int) + (↑(List.length x.2.1) : Int)) = IntKind.wrap .i64 ((↑(List.length (x.1)) : Int) + (↑(List.length x.2.1) : Int)) ∧ (nat_lit 3 + (1 : Nat)) * Int.toNat (IntKind.wrap .i64 ((↑(List.length (x.1)) : Int) + (↑(List.length x.2.1) : Int))) ≤ (281474976710656 : Nat) ∧ Int.toNat (IntKind.wrap .i64 ((↑(List.length (x.1)) : Int) + (↑(List.length x.2.1) : Int))) ≤ Go.maxLen) (.need (Int.toNat (IntKind.wrap .i64 ((↑(List.length (x.1)) : Int) + (↑(List.length x.2.1) : Int))) = List.length (List.replicate (Int.toNat (IntKind.wrap .i64 ((↑(List.length (x.1)) : Int) + (↑(List.length x.2.1) : Int)))) (0 : Int)) ∧ Int.toNat (IntKind.wrap .i64 ((↑(List.length (x.1)) : Int) + (↑(List.length x.2.1) : Int))) = Int.toNat (IntKind.wrap .i64 ((↑(List.length (x.1)) : Int) + (↑(List.length x.2.1) : Int)))) (.need ((0 : El (Cd.int .i64)) ≤ (0 : Int) ∧ (0 : Int) ≤ (↑(List.length (x.1)) : El (Cd.int .i64)) ∧ List.length (List.replicate (Int.toNat (IntKind.wrap .i64 ((↑(List.length (x.1)) : Int) + (↑(List.length x.2.1) : Int)))) (0 : Int)) = List.length (x.1) + List.length x.2.1 ∧ lenOk (List.length (List.replicate (Int.toNat (IntKind.wrap .i64 ((↑(List.length (x.1)) : Int) + (↑(List.length x.2.1) : Int)))) (0 : Int))) ∧ Words (x.1) ∧ Words x.2.1 ∧ Words (List.replicate (Int.toNat (IntKind.wrap .i64 ((↑(List.length (x.1)) : Int) + (↑(List.length x.2.1) : Int)))) (0 : Int)) ∧ ∀ (j : Nat), Int.toNat (0 : Int) + List.length x.2.1 ≤ j → j < List.length (List.replicate (Int.toNat (IntKind.wrap .i64 ((↑(List.length (x.1)) : Int) + (↑(List.length x.2.1) : Int)))) (0 : Int)) → (List.replicate (Int.toNat (IntKind.wrap .i64 ((↑(List.length (x.1)) : Int) + (↑(List.length x.2.1) : Int)))) (0 : Int))[j]? = Option.some (0 : El (RSpec.c spMulO))) (.lt (mulW x.2.1 (List.drop (Int.toNat (0 : Int)) (x.1)) (Int.toNat (0 : Int)) (List.replicate (Int.toNat (IntKind.wrap .i64 ((↑(List.length (x.1)) : Int) + (↑(List.length x.2.1) : Int)))) (0 : Int))) (fun v0 =>
     .need (List.length v0 ≤ List.length v0) (.need (lenOk (List.length (List.take (List.length v0) v0))) (.ret (.one (.ds (Cd.int .u32) (trimmed (List.take (List.length v0) v0))))))))))
theorem tr_pmul_eq (x : Els [(false, .sl (.int .u32)), (false, .sl (.int .u32))]) : fnP E27m lpMul Tryz.f50 (encs [(false, .sl (.int .u32)), (false, .sl (.int .u32))] x) = tr_pmul x := by kernel_rfl
noncomputable def tr_ptextL (x : LSpec.X spPtext × LSpec.Y spPtext) : T (Rd spPtext) :=
 .ite (decide ((↑(List.length x.1.1) : Int) > (0 : Int)))
  (.need (List.length x.1.1 ≤ (1000000 : Nat) ∧ Words x.1.1) (.need ((↑(ByteArray.size (bytesOf [IntKind.wrap .u8 (IntKind.wrap .u32 ((48 : Int) + (↑(valL x.1.1 % (10 : Nat)) : Int)))]) + ByteArray.size x.1.2.1) : Int) ≤ IntKind.max .i64) (.lt (bytesOf [IntKind.wrap .u8 (IntKind.wrap .u32 ((48 : Int) + (↑(valL x.1.1 % (10 : Nat)) : Int)))] ++ x.1.2.1) (fun v0 =>
     .ret (.again (mg (valL x.1.1 / (10 : Nat)), (v0, ())) ())))))
  (.ret (.out (Go.Exit.exit (0 : Nat)) [(.one (.v (.string x.1.2.1)))] ()))
theorem tr_ptextL_eq (x : LSpec.X spPtext × LSpec.Y spPtext) : LSpec.round spPtext E27 (fun _ => none) (bodyOf Tryz.f62 0) x.1 x.2 = tr_ptextL x := by kernel_rfl
end Go.Proofs.YtjijakfcahhioaaGreat
/-
The reference: mul; text's loop.
-/
set_option linter.unusedSimpArgs false
set_option linter.unusedVariables false
namespace Go.Proofs.YtjijakfcahhioaaGreat
open Go.RowKit Ax
noncomputable def con_pmul : Con Tryz.prog := ⟨50, [], _, cf_pmul, val_con (E := E27m) (L := lpMul) mixed Tryz.func50 (many_loops (by kernel_rfl) (by simp) (fun i p hp => by
    match i, hp with
    | 0, hp => cases hp; exact pmulO_ok
    | i + 1, hp => simp at hp)) [(false, .sl (.int .u32)), (false, .sl (.int .u32))] (fun x => List.length x.1 ≤ 1000000 ∧ List.length x.2.1 ≤ 1000000 ∧ Words x.1 ∧ Words x.2.1) (fun x => .one (.ds (.int .u32) (mg (valL x.1 * valL x.2.1)))) fun x hx => by
  rw [tr_pmul_eq]
  obtain ⟨a, b, u⟩ := x
  revert a b
  intro (a : List Int) (b : List Int) (hx : a.length ≤ 1000000 ∧ b.length ≤ 1000000 ∧ Words a ∧ Words b)
  obtain ⟨l1, l2, wa, wb⟩ := hx
  unfold tr_pmul
  simp only [T.wp]
  dsimp only [El]
  have e1 : IntKind.i64.wrap ((a.length : Int) + b.length) = ((a.length + b.length : Nat) : Int) := by rw [IntWalk.i64_in _ (by omega)]; omega
  simp only [e1, Int.toNat_natCast, List.length_replicate, Go.maxLen, Int.toNat_zero, List.drop_zero]
  obtain ⟨h1, h2, h3⟩ := mulW_spec wb a 0 (List.replicate (a.length + b.length) 0) wa (words_zero _) (by simp) (fun j hj hjl => by simp at hjl; simp [hjl])
  rw [val_zero, Pq.bp_zero] at h3
  have ht : List.take (mulW b a 0 (List.replicate (a.length + b.length) 0)).length (mulW b a 0 (List.replicate (a.length + b.length) 0)) = mulW b a 0 (List.replicate (a.length + b.length) 0) := List.take_length
  rw [List.length_replicate] at h2
  have hz : ∀ j, 0 + b.length ≤ j → j < a.length + b.length → (List.replicate (a.length + b.length) (0 : Int))[j]? = some 0 := fun j _ hj => by simp [hj]
  generalize mulW b a 0 (List.replicate (a.length + b.length) 0) = o at *
  refine ⟨⟨by omega, trivial, by omega, by omega⟩, ⟨trivial, trivial⟩, ⟨by omega, by omega, trivial, by unfold lenOk; omega, wa, wb, words_zero _, hz⟩, Nat.le_refl _, by rw [ht]; unfold lenOk; omega, ?_⟩
  have e2 : valL o = valL a * valL b := by
    have : (valL o : Int) = ((valL a * valL b : Nat) : Int) := by rw [h3, Int.natCast_mul]; omega
    omega
  rw [ht, trimmed_mg h1, e2]⟩
noncomputable def E28 : Env Tryz.prog := E27.add [con_pmul]
/-- a number's digits, as a text -/
def dgt (x : Nat) : ByteArray := bytesOf (dg x).reverse
theorem bytesOf_app (a b : List Int) : bytesOf (a ++ b) = bytesOf a ++ bytesOf b := by
  have : (bytesOf (a ++ b)).data = (bytesOf a ++ bytesOf b).data := by
    rw [ByteArray.data_append]
    unfold bytesOf
    simp
  exact ByteArray.ext this
theorem dgt_step {x : Nat} (h : x ≠ 0) (s : ByteArray) : dgt x ++ s = dgt (x / 10) ++ (bytesOf [48 + ((x % 10 : Nat) : Int)] ++ s) := by
  unfold dgt
  rw [dg_pos h, List.reverse_cons, bytesOf_app, ByteArray.append_assoc]
theorem dgt_zero (s : ByteArray) : dgt 0 ++ s = s := by
  unfold dgt
  rw [dg_zero]
  exact ByteArray.ext (by rw [ByteArray.data_append]; show (#[] : Array UInt8) ++ s.data = s.data; simp)
def outPtext (x : LSpec.X spPtext) (y : LSpec.Y spPtext) : T (Exit × List Av × LSpec.Y spPtext) :=
  .need ((x.1 : List Int) = mg (valL x.1) ∧ List.length x.1 ≤ 1000 ∧ (dg (valL x.1)).length + ByteArray.size x.2.1 ≤ 1000000) (.ret (.exit 0, [.one (.v (.string (dgt (valL x.1) ++ x.2.1)))], ()))
theorem ptextL_core (m : List Int) (s : ByteArray) (Q : Exit × List Av × LSpec.Y spPtext → Prop) (h : (outPtext (m, s, ()) ()).wp Q) : (tr_ptextL ((m, s, ()), ())).wp fun r => match r with
      | .again x' y' => valL x'.1 < valL m ∧ (outPtext x' y').wp Q
      | .out e avs y' => Q (e, avs, y') := by
  unfold tr_ptextL
  unfold outPtext at h ⊢
  simp only [T.wp] at h ⊢
  dsimp only [El, vts, spPtext] at h ⊢
  obtain ⟨⟨hm, hl, hs⟩, hq⟩ := h
  have hw : Words m := by rw [hm]; exact mg_words _
  refine ⟨fun hgt => ?_, fun hle => ?_⟩
  · have hgt := of_decide_eq_true hgt
    have h0 : valL m ≠ 0 := fun h0 => by rw [h0, mg_zero] at hm; rw [hm] at hgt; simp at hgt
    have e1 : IntKind.u8.wrap (IntKind.u32.wrap ((48 : Int) + ((valL m % 10 : Nat) : Int))) = 48 + ((valL m % 10 : Nat) : Int) := by
      rw [IntWalk.u32_in _ (by omega), IntWalk.u8_in _ (by omega)]
    have hlt : valL m / 10 < valL m := Nat.div_lt_self (by omega) (by omega)
    have hml : (mg (valL m / 10)).length ≤ 1000 := by
      refine mg_len.1 (Nat.lt_trans hlt ?_)
      rw [mg_len, ← hm]; exact hl
    rw [dg_pos h0, List.length_cons] at hs
    rw [dgt_step h0] at hq
    have eb : (bytesOf [48 + ((valL m % 10 : Nat) : Int)]).size = 1 := rfl
    rw [e1, val_mg]
    refine ⟨⟨by omega, hw⟩, ?_, hlt, ⟨rfl, hml, by rw [ByteArray.size_append, eb]; omega⟩, hq⟩
    rw [eb]
    show ((_ : Nat) : Int) ≤ 9223372036854775807
    omega
  · have hle := of_decide_eq_false hle
    have h0 : m = [] := List.length_eq_zero_iff.1 (by omega)
    subst h0
    rw [show valL [] = 0 from rfl, dgt_zero] at hq
    exact hq
theorem ptextL_ok : LoopOk Tryz.prog 0 (bodyOf Tryz.f62 0) (spPtext.run outPtext) :=
  loop_ok (E := E27) (L := fun _ => none) mixed 0 (loops_none _ _ _) spPtext (Nat.zero_le _) outPtext (fun x _ => valL x.1) (by
    rintro ⟨m, s, ⟨⟩⟩ ⟨⟩ Q h
    rw [tr_ptextL_eq ((m, s, ()), ())]
    exact ptextL_core m s Q h)
noncomputable def lpPtext : Loops := oneL 4 (spPtext.run outPtext)
end Go.Proofs.YtjijakfcahhioaaGreat
/-
The reference: text, Mul: their runs.
-/
set_option linter.unusedSimpArgs false
set_option linter.unusedVariables false
namespace Go.Proofs.YtjijakfcahhioaaGreat
open Go.RowKit Ax
noncomputable def tr_ptext (x : Els [(false, .sl (.int .u32))]) : T Av :=
 .ite ((↑(List.length (x.1)) : Int) == (0 : Int))
  (.ret (.one (.v (.string ({ data := #[(48 : UInt8)] })))))
  (.need (x.1 = mg (valL (x.1)) ∧ List.length (x.1) ≤ (1000 : Nat) ∧ List.length (dg (valL (x.1))) + ByteArray.size { data := #[] } ≤ (1000000 : Nat)) (.ret (.one (.v (.string (dgt (valL (x.1)) ++ { data := #[] }))))))
theorem tr_ptext_eq (x : Els [(false, .sl (.int .u32))]) : fnP E28 lpPtext Tryz.f62 (encs [(false, .sl (.int .u32))] x) = tr_ptext x := by kernel_rfl
noncomputable def tr_pMul (x : Els [(true, cW), (true, cW)]) : T Av :=
 .need (List.length (mg x.1.2.1) ≤ (1000000 : Nat) ∧ List.length (mg x.2.1.2.1) ≤ (1000000 : Nat) ∧ Words (mg x.1.2.1) ∧ Words (mg x.2.1.2.1)) (.need (lenOk (List.length (mg (valL (mg x.1.2.1) * valL (mg x.2.1.2.1)))) ∧ Words (mg (valL (mg x.1.2.1) * valL (mg x.2.1.2.1)))) (.ite (decide (List.length (trimmed (mg (valL (mg x.1.2.1) * valL (mg x.2.1.2.1)))) ≤ (32 : Nat)))
    (.lt (pW (!(x.1.1 && decide (x.1.2.1 ≠ (0 : Nat))) == (x.2.1.1 && decide (x.2.1.2.1 ≠ (0 : Nat)))) (trimmed (mg (valL (mg x.1.2.1) * valL (mg x.2.1.2.1))))) (fun v0 =>
     .ret (.tup [(.agg [.v (.bool v0.1), .w v0.2]), (.one (.v (.bool (true))))])))
    (.ret (.tup [(.agg [.v (.bool w0.1), .w w0.2]), (.one (.v (.bool (false))))]))))
theorem tr_pMul_eq (x : Els [(true, cW), (true, cW)]) : fnP E28 (fun _ => none) Tryz.f40 (encs [(true, cW), (true, cW)] x) = tr_pMul x := by kernel_rfl
end Go.Proofs.YtjijakfcahhioaaGreat
/-
The reference: text, Mul.
-/
set_option linter.unusedSimpArgs false
set_option linter.unusedVariables false
namespace Go.Proofs.YtjijakfcahhioaaGreat
open Go.RowKit Ax
theorem dgt_end (s : ByteArray) : s ++ (⟨#[]⟩ : ByteArray) = s := ByteArray.ext (by rw [ByteArray.data_append]; show s.data ++ (#[] : Array UInt8) = s.data; simp)
def ptx (x : Nat) : ByteArray := if x = 0 then ⟨#[48]⟩ else dgt x
noncomputable def con_ptext : Con Tryz.prog := ⟨62, [], _, cf_ptext, val_con (E := E28) (L := lpPtext) mixed Tryz.func62 (one_loop ptextL_ok (by kernel_rfl)) [(false, .sl (.int .u32))] (fun x => (x.1 : List Int) = mg (valL x.1) ∧ valL x.1 < 2 ^ 1024) (fun x => .one (.v (.string (ptx (valL x.1))))) fun x hx => by
  rw [tr_ptext_eq]
  obtain ⟨l, u⟩ := x
  revert l
  intro (l : List Int) (hx : l = mg (valL l) ∧ valL l < 2 ^ 1024)
  unfold tr_ptext
  simp only [T.wp]
  dsimp only [El]
  obtain ⟨hm, hb⟩ := hx
  have hlen := dg_len hb
  have hb' := Nat.lt_of_lt_of_le hb (bp_ge (k := 1024) 1024 rfl (Nat.le_refl _))
  have hml := mg_len.1 hb'
  rw [← hm] at hml
  have e0 : ByteArray.size (⟨#[]⟩ : ByteArray) = 0 := rfl
  refine ⟨fun h => ?_, fun h => ⟨⟨hm, by omega, by rw [e0]; omega⟩, ?_⟩⟩
  · have h0 : l = [] := List.length_eq_zero_iff.1 (by simp at h; rw [h]; rfl)
    subst h0; rfl
  · rw [dgt_end]
    unfold ptx
    rw [if_neg]
    intro h0
    rw [h0, mg_zero] at hm
    subst hm
    simp at h⟩
theorem trimmed_self (x : Nat) : trimmed (mg x) = mg x := by rw [trimmed_mg (mg_words x), val_mg]
theorem zv_mul (a b : W) : zW a * zW b = Pq.zv (!((a.1 && decide (a.2.1 ≠ 0)) == (b.1 && decide (b.2.1 ≠ 0)))) (a.2.1 * b.2.1) := by
  obtain ⟨s, x, hx⟩ := a
  obtain ⟨t, y, hy⟩ := b
  show Pq.zv s x * Pq.zv t y = Pq.zv (!((s && decide (x ≠ 0)) == (t && decide (y ≠ 0)))) (x * y)
  by_cases h0 : x = 0
  · subst h0
    cases s <;> cases t <;> cases decide (y ≠ 0) <;> simp [Pq.zv]
  · by_cases h1 : y = 0
    · subst h1
      cases s <;> cases t <;> cases decide (x ≠ 0) <;> simp [Pq.zv]
    · rw [decide_eq_true (show x ≠ 0 from h0), decide_eq_true (show y ≠ 0 from h1)]
      cases s <;> cases t <;> simp [Pq.zv, Int.neg_mul, Int.mul_neg]
theorem wOf_zv {n : Bool} {x : Nat} (h : x < Pq.bp 32) : wOf (Pq.zv n x) = (n && decide (x ≠ 0), ⟨x, h⟩) := by
  have ha : (Pq.zv n x).natAbs = x := Pq.zv_abs n x
  unfold wOf
  rw [dif_pos (by rw [ha]; exact h)]
  refine Prod.ext ?_ (Subtype.ext ha)
  cases n with
  | false => simp [Pq.zv]
  | true =>
    simp only [Pq.zv, if_true, Bool.true_and]
    rw [decide_eq_decide]
    omega
noncomputable def con_pMul : Con Tryz.prog := ⟨40, [], _, cf_pMul, tot_con (E := E28) mixed Tryz.func40 no_loops [(true, cW), (true, cW)] (fun x => rW (zW x.1 * zW x.2.1)) fun x => by
  rw [tr_pMul_eq]
  obtain ⟨a, b, u⟩ := x
  revert a b
  intro (a : W) (b : W)
  unfold tr_pMul
  simp only [T.wp]
  try dsimp only [El]
  simp only [val_mg, trimmed_self]
  have la := mg_len.1 a.2.2
  have lb := mg_len.1 b.2.2
  have lab : (mg (a.2.1 * b.2.1)).length ≤ 64 := by
    refine mg_len.1 ?_
    have e : Pq.bp 64 = Pq.bp 32 * Pq.bp 32 := by unfold Pq.bp; rw [← Nat.pow_add]
    rw [e]; exact Nat.mul_lt_mul'' a.2.2 b.2.2
  refine ⟨⟨by omega, by omega, mg_words _, mg_words _⟩, ⟨by unfold lenOk; omega, mg_words _⟩, fun h => ?_, fun h => ?_⟩
  · have hb := mg_len.2 (of_decide_eq_true h)
    rw [pW_mg hb]
    unfold rW
    rw [zv_mul, wOf_zv hb]
    have hf : Pq.fits (Pq.zv (!((a.1 && decide (a.2.1 ≠ 0)) == (b.1 && decide (b.2.1 ≠ 0)))) (a.2.1 * b.2.1)) = true := by
      unfold Pq.fits
      rw [Pq.zv_abs]; exact decide_eq_true hb
    rw [hf]; rfl
  · have hb : ¬ a.2.1 * b.2.1 < Pq.bp 32 := fun h' => of_decide_eq_false h (mg_len.1 h')
    have hn : ¬ (zW a * zW b).natAbs < Pq.bp 32 := by rw [zv_mul, Pq.zv_abs]; exact hb
    unfold rW
    have e1 : wOf (zW a * zW b) = w0 := by unfold wOf; rw [dif_neg hn]
    have e2 : Pq.fits (zW a * zW b) = false := by unfold Pq.fits; exact decide_eq_false hn
    rw [e1, e2]; rfl⟩
noncomputable def E29 : Env Tryz.prog := E28.add [con_ptext, con_pMul]
end Go.Proofs.YtjijakfcahhioaaGreat
/-
Contracts for calls that are known to succeed, or to fail: no fork.
-/
set_option linter.unusedSimpArgs false
set_option linter.unusedVariables false
namespace Ax
open Go Go.RowKit
theorem must_con {P : Program} {f : FuncId} {ts : List (Bool × Cd)} {pre : Els ts → Prop} {row : Bool} {c : Cd} {b : Els ts → Bool} {F d : Els ts → El c}
    (h : ConOk P f [] (pureRun' ts fun x => .need (pre x) (ansT row c (b x) (F x) (d x)))) : ConOk P f [] (pureRun' ts fun x => .need (pre x ∧ b x = true) (.lt (F x) fun g => .ret (.tup [encA row c g, .one (.kb true)]))) := by
  refine con_weaken h fun args m Q hq => ?_
  unfold pureRun' at hq ⊢
  split at hq
  · rw [T.wp_bind] at hq ⊢
    obtain ⟨⟨hp, hb⟩, hq⟩ := hq
    refine ⟨hp, fun _ => ⟨_, hq, fun _ _ _ _ h => h⟩, fun e => by rw [hb] at e; cases e⟩
  · exact hq.elim
theorem must_con0 {P : Program} {f : FuncId} {ts : List (Bool × Cd)} {row : Bool} {c : Cd} {b : Els ts → Bool} {F d : Els ts → El c}
    (h : ConOk P f [] (pureRun' ts fun x => ansT row c (b x) (F x) (d x))) : ConOk P f [] (pureRun' ts fun x => .need (b x = true) (.lt (F x) fun g => .ret (.tup [encA row c g, .one (.kb true)]))) := by
  refine con_weaken h fun args m Q hq => ?_
  unfold pureRun' at hq ⊢
  split at hq
  · rw [T.wp_bind] at hq ⊢
    obtain ⟨hb, hq⟩ := hq
    refine ⟨fun _ => ⟨_, hq, fun _ _ _ _ h => h⟩, fun e => by rw [hb] at e; cases e⟩
  · exact hq.elim
theorem fail_con0 {P : Program} {f : FuncId} {ts : List (Bool × Cd)} {row : Bool} {c : Cd} {b : Els ts → Bool} {F d : Els ts → El c}
    (h : ConOk P f [] (pureRun' ts fun x => ansT row c (b x) (F x) (d x))) : ConOk P f [] (pureRun' ts fun x => .need (b x = false) (.ret (.tup [encA row c (d x), .one (.kb false)]))) := by
  refine con_weaken h fun args m Q hq => ?_
  unfold pureRun' at hq ⊢
  split at hq
  · rw [T.wp_bind] at hq ⊢
    obtain ⟨hb, hq⟩ := hq
    refine ⟨fun e => (by rw [hb] at e; cases e), fun _ => ⟨_, hq, fun _ _ _ _ h => h⟩⟩
  · exact hq.elim
end Ax
/-
What known needs: its calls are known to succeed.
-/
set_option linter.unusedSimpArgs false
set_option linter.unusedVariables false
namespace Go.Proofs.YtjijakfcahhioaaGreat
open Go.RowKit Ax
noncomputable def m_rof : Con Tryz.prog := ⟨27, [], _, cf_rof, must_con con_rof.ok⟩
noncomputable def m_radd : Con Tryz.prog := ⟨7, [], _, cf_radd, must_con0 con_radd.ok⟩
noncomputable def m_rcmp : Con Tryz.prog := ⟨5, [], _, cf_rcmp, must_con0 con_rcmp.ok⟩
noncomputable def m_rdecimal : Con Tryz.prog := ⟨17, [], _, cf_rdecimal, must_con0 con_rdecimal.ok⟩
noncomputable def m_rparse : Con Tryz.prog := ⟨28, [], _, cf_rparse, must_con con_rparse.ok⟩
noncomputable def m_rleast : Con Tryz.prog := ⟨30, [], _, cf_rleast, must_con con_rleast.ok⟩
noncomputable def m_rsum : Con Tryz.prog := ⟨31, [], _, cf_rsum, must_con con_rsum.ok⟩
noncomputable def m_rfloor : Con Tryz.prog := ⟨15, [], _, cf_rfloor, must_con0 con_rfloor.ok⟩
noncomputable def m_rdiv0 : Con Tryz.prog := ⟨13, [], _, cf_rdiv, fail_con0 con_rdiv.ok⟩
noncomputable def EK : Env Tryz.prog := ⟨m_rof :: m_radd :: m_rcmp :: m_rdecimal :: m_rparse :: m_rleast :: m_rsum :: m_rfloor :: m_rdiv0 :: E23.con, E23.zero, E23.cod, fun _ => true, 0, fun _ => []⟩
end Go.Proofs.YtjijakfcahhioaaGreat
/-
known.
-/
set_option linter.unusedSimpArgs false
set_option linter.unusedVariables false
namespace Go.Proofs.YtjijakfcahhioaaGreat
open Go.RowKit Ax
noncomputable def tr_known (x : Els []) : T Av :=
 .need ((in64 (1 : Int) ∧ in64 (2 : Int)) ∧ decide ((2 : Int) ≠ (0 : El (Cd.int .i64))) = true) (.lt (rOf (Rat.divInt (1 : Int) (2 : Int))) (fun v0 =>
   .need ((in64 (-2 : Int) ∧ in64 (-6 : Int)) ∧ decide ((-6 : Int) ≠ (0 : El (Cd.int .i64))) = true) (.lt (rOf (Rat.divInt (-2 : Int) (-6 : Int))) (fun v1 =>
     .need (both v0 v1 = true) (.lt (rOf (qF v0 + qF v1)) (fun v2 =>
       .need (both v0 v1 = true) (.lt (cq (qF v0) (qF v1)) (fun v3 =>
         .need (safeF (500 : Int) v2 = true) (.lt (decS (qdec v2 (clampD (2 : Int))) (clampD (2 : Int)) (zW v2.1)) (fun v4 =>
           .need (lenOk (ByteArray.size { data := #[(53 : UInt8), (47 : UInt8), (54 : UInt8)] }) ∧ Option.isSome (pR { data := #[(53 : UInt8), (47 : UInt8), (54 : UInt8)] }) = true) (.lt (Option.getD (pR { data := #[(53 : UInt8), (47 : UInt8), (54 : UInt8)] }) (w0, w0)) (fun v5 =>
             .need (in64 (0 : Int)) (.need ((both v0 (wOf (0 : Int), wOf (1 : Int)) && decide (qF (wOf (0 : Int), wOf (1 : Int)) ≠ (0 : Rat))) = false) (.need (lenOk (List.length [v0, v1]) ∧ (leastF [v0, v1]).1 = true) (.lt (leastF [v0, v1]).2 (fun v6 =>
                 .need (lenOk (List.length [v0, v0]) ∧ (sumF [v0, v0]).1 = true) (.lt (sumF [v0, v0]).2 (fun v7 =>
                   .need (in64 (-3 : Int)) (.need (okF (wOf (-3 : Int), wOf (1 : Int)) = true) (.lt (wOf (Rat.floor (qF (wOf (-3 : Int), wOf (1 : Int))))) (fun v8 =>
                      .need ((ByteArray.toList (ftxt v2) == ByteArray.toList { data := #[(53 : UInt8), (47 : UInt8), (54 : UInt8)] }) = true) (.need ((v3 == (1 : Int)) = true) (.need ((ByteArray.toList v4 == ByteArray.toList { data := #[(48 : UInt8), (46 : UInt8), (56 : UInt8), (51 : UInt8)] }) = true) (.need ((v5.1.1 == v2.1.1 && (v5.1.2.1 == v2.1.2.1 && true) && (v5.2.1 == v2.2.1 && (v5.2.2.1 == v2.2.2.1 && true) && true)) = true) (.need ((!false) = true) (.need ((v6.1.1 == v1.1.1 && (v6.1.2.1 == v1.1.2.1 && true) && (v6.2.1 == v1.2.1 && (v6.2.2.1 == v1.2.2.1 && true) && true)) = true) (.need (in64 (1 : Int)) (.need ((v7.1.1 == (wOf (1 : Int)).1 && (v7.1.2.1 == (wOf (1 : Int)).2.1 && true) && (v7.2.1 == (wOf (1 : Int)).1 && (v7.2.2.1 == (wOf (1 : Int)).2.1 && true) && true)) = true) (.need (in64 (-3 : Int)) (.need ((v8.1 == (wOf (-3 : Int)).1 && (v8.2.1 == (wOf (-3 : Int)).2.1 && true)) = true) (.need (okF v2 = true) (.need (safeF (3 : Int) v2 = true) (.need ((!safeF (2 : Int) v2) = true) (.need ((Pq.cz (zW v2.1) (0 : Int) == (1 : Int)) = true) (.ret (.one (.v (.bool (!okF (w0, w0))))))))))))))))))))))))))))))))))))))))
theorem tr_known_eq (x : Els []) : fnP EK (fun _ => none) Tryz.f4 (encs [] x) = tr_known x := by kernel_rfl
end Go.Proofs.YtjijakfcahhioaaGreat
/-
known tells true.
-/
set_option linter.unusedSimpArgs false
set_option linter.unusedVariables false
namespace Go.Proofs.YtjijakfcahhioaaGreat
open Go.RowKit Ax
theorem known_wp : (tr_known ()).wp fun av => av = .one (.v (.bool true)) := by
  unfold tr_known
  simp only [T.wp]
  and_intros
  all_goals first
    | (show _ = true; kernel_rfl)
    | (show _ = false; kernel_rfl)
    | (unfold lenOk; decide)
    | omega
    | kernel_rfl
theorem kb_con {P : Program} {f : FuncId} {ts : List (Bool × Cd)} (h : ConOk P f [] (pureRun' ts fun _ => .ret (aB true))) : ConOk P f [] (pureRun' ts fun _ => .ret (.one (.kb true))) := by
  intro w φ σ m args vs Q hmem hlen hargs hrun
  unfold pureRun' at hrun
  split at hrun
  · rename_i x hx
    have h1 := h w φ σ m args vs (fun r => r = (aB true, m)) hmem hlen hargs (by
      unfold pureRun'
      rw [hx]
      rfl)
    refine h1.mono fun e w' hr => ?_
    obtain ⟨v, av, m', σ', rfl, hq, h2, h3, h4, h5, h6⟩ := hr
    cases hq
    have hv : v = .bool true := val_of h5 rfl
    subst hv
    exact ⟨_, .one (.kb true), m, σ', rfl, hrun, h2, h3, h4, .one rfl (.kb .nil), h6⟩
  · exact hrun.elim
noncomputable def con_known : Con Tryz.prog := ⟨4, [], _, cf_known, kb_con (tot_con (E := EK) mixed Tryz.func4 no_loops [] (fun _ => aB true) fun x => by
  rw [tr_known_eq]
  exact known_wp)⟩
noncomputable def E24 : Env Tryz.prog := ⟨con_known :: E23.con, E23.zero, E23.cod, E23.sure, E23.base, E23.frz⟩
noncomputable def EL : Env Tryz.prog := ⟨con_known :: EK.con, EK.zero, EK.cod, fun _ => false, 0, fun _ => []⟩
end Go.Proofs.YtjijakfcahhioaaGreat
/-
The reference: Text; RatioTextBack: their runs.
-/
set_option linter.unusedSimpArgs false
set_option linter.unusedVariables false
namespace Go.Proofs.YtjijakfcahhioaaGreat
open Go.RowKit Ax
noncomputable def tr_pText (x : Els [(true, cW)]) : T Av :=
 .ite (x.1.1 && decide (x.1.2.1 ≠ (0 : Nat)))
  (.need (mg x.1.2.1 = mg (valL (mg x.1.2.1)) ∧ valL (mg x.1.2.1) < (2 : Nat) ^ (1024 : Nat)) (.need ((↑(ByteArray.size { data := #[(45 : UInt8)] } + ByteArray.size (ptx (valL (mg x.1.2.1)))) : Int) ≤ IntKind.max .i64) (.lt ({ data := #[(45 : UInt8)] } ++ ptx (valL (mg x.1.2.1))) (fun v0 =>
     .ret (.one (.v (.string (v0))))))))
  (.need (mg x.1.2.1 = mg (valL (mg x.1.2.1)) ∧ valL (mg x.1.2.1) < (2 : Nat) ^ (1024 : Nat)) (.ret (.one (.v (.string (ptx (valL (mg x.1.2.1))))))))
theorem tr_pText_eq (x : Els [(true, cW)]) : fnP E29 (fun _ => none) Tryz.f72 (encs [(true, cW)] x) = tr_pText x := by kernel_rfl
end Go.Proofs.YtjijakfcahhioaaGreat
/-
The reference: Text.
-/
set_option linter.unusedSimpArgs false
set_option linter.unusedVariables false
namespace Go.Proofs.YtjijakfcahhioaaGreat
open Go.RowKit Ax
theorem txt_ptx (b : Bool) (a : Amt) : txt (b, a) = if (b && decide (a.1 ≠ 0)) = true then ⟨#[45]⟩ ++ ptx a.1 else ptx a.1 := by
  unfold txt ptx
  by_cases h : a.1 = 0
  · simp [h]
  · rw [decide_eq_true h, Bool.and_true]
    cases b with
    | false =>
      simp only [h, if_false, Bool.false_eq_true, List.append_nil]
      rfl
    | true =>
      simp only [h, if_false, if_true]
      rw [List.reverse_append, List.reverse_cons, List.reverse_nil, List.nil_append, bytesOf_app]
      rfl
theorem amt_lt (a : Amt) : a.1 < 2 ^ 1024 := bp_le 1024 rfl a.2
noncomputable def con_pText : Con Tryz.prog := ⟨72, [], _, cf_pText, tot_con (E := E29) mixed Tryz.func72 no_loops [(true, cW)] (fun x => .one (.v (.string (txt x.1)))) fun x => by
  rw [tr_pText_eq]
  obtain ⟨⟨b, a⟩, u⟩ := x
  revert b a
  intro (b : Bool) (a : Amt)
  unfold tr_pText
  simp only [T.wp, val_mg]
  try dsimp only [El]
  rw [txt_ptx]
  have hs : ByteArray.size (ptx a.1) ≤ 1024 := by
    unfold ptx
    split
    · show 1 ≤ 1024; omega
    · unfold dgt
      rw [bytesOf_size, List.length_reverse]
      exact dg_amt a
  refine ⟨fun h => ⟨⟨trivial, amt_lt a⟩, ?_, ?_⟩, fun h => ⟨⟨trivial, amt_lt a⟩, ?_⟩⟩
  · have : ByteArray.size (⟨#[45]⟩ : ByteArray) = 1 := rfl
    rw [this]
    show ((_ : Nat) : Int) ≤ 9223372036854775807
    omega
  · rw [if_pos h]
  · rw [if_neg (by rw [h]; simp)]⟩
noncomputable def E30 : Env Tryz.prog := E29.add [con_known, con_pText]
end Go.Proofs.YtjijakfcahhioaaGreat
/-
The reference: what is known of amounts.
-/
set_option linter.unusedSimpArgs false
set_option linter.unusedVariables false
namespace Go.Proofs.YtjijakfcahhioaaGreat
open Go.RowKit Ax
noncomputable def E31 : Env Tryz.prog := E30.add [con_padd, con_psub, con_pcmp, con_pbits, con_pshl, con_pcommon]
noncomputable def E31d : Env Tryz.prog := E31.fz [(13, [7])]
end Go.Proofs.YtjijakfcahhioaaGreat
/-
The reference: trees of divmod's loop.
-/
set_option linter.unusedSimpArgs false
set_option linter.unusedVariables false
namespace Go.Proofs.YtjijakfcahhioaaGreat
open Go.RowKit Ax
noncomputable def tr_pdivL (x : RSpec.X spDiv × RSpec.Y spDiv × (List (El (RSpec.c spDiv)) × Nat)) : T (RRd spDiv) :=
 .ite (decide (x.1.2.2.1 ≥ (0 : Int)))
  (.need (Words x.1.1 ∧ (0 : Nat) < List.length x.1.1 ∧ List.length x.1.1 ≤ (1000000 : Nat) ∧ (0 : El (Cd.int .i64)) ≤ x.1.2.2.1 ∧ x.1.2.2.1 ≤ (100000000 : El (Cd.int .i64))) (.need (x.1.2.1 = mg (valL x.1.2.1) ∧ mg (valL x.1.1 * (2 : Nat) ^ Int.toNat x.1.2.2.1) = mg (valL (mg (valL x.1.1 * (2 : Nat) ^ Int.toNat x.1.2.2.1))) ∧ List.length x.1.2.1 ≤ (1000000 : Nat) ∧ List.length (mg (valL x.1.1 * (2 : Nat) ^ Int.toNat x.1.2.2.1)) ≤ (1000000 : Nat)) (.ite (decide (Pq.cz (↑(valL x.1.2.1) : Int) (↑(valL (mg (valL x.1.1 * (2 : Nat) ^ Int.toNat x.1.2.2.1))) : Int) ≥ (0 : Int)))
     (.need (x.1.2.1 = mg (valL x.1.2.1) ∧ mg (valL x.1.1 * (2 : Nat) ^ Int.toNat x.1.2.2.1) = mg (valL (mg (valL x.1.1 * (2 : Nat) ^ Int.toNat x.1.2.2.1))) ∧ List.length x.1.2.1 ≤ (1000000 : Nat) ∧ valL (mg (valL x.1.1 * (2 : Nat) ^ Int.toNat x.1.2.2.1)) ≤ valL x.1.2.1) (.need ((32 : Int) ≠ (0 : Int)) (.need ((32 : Int) ≠ (0 : Int)) (.need ((0 : Int) ≤ IntKind.wrap .i64 (Int.tdiv x.1.2.2.1 (32 : Int)) ∧ IntKind.wrap .i64 (Int.tdiv x.1.2.2.1 (32 : Int)) < (↑(List.length x.2.2.1) : Int)) (.get x.2.2.1 (IntKind.wrap .i64 (Int.tdiv x.1.2.2.1 (32 : Int))) (fun v0 =>
          .need ((32 : Int) ≠ (0 : Int)) (.need ((0 : Int) ≤ IntKind.wrap .u64 (Int.tmod x.1.2.2.1 (32 : Int))) (.need ((0 : Int) ≤ IntKind.wrap .i64 (Int.tdiv x.1.2.2.1 (32 : Int)) ∧ IntKind.wrap .i64 (Int.tdiv x.1.2.2.1 (32 : Int)) < (↑(List.length x.2.2.1) : Int)) (.need (IntKind.wrap .i64 (Int.tdiv x.1.2.2.1 (32 : Int)) < (↑(List.length x.2.2.1) : Int)) (.need (List.length x.2.2.1 = List.length (List.set x.2.2.1 (Int.toNat (IntKind.wrap .i64 (Int.tdiv x.1.2.2.1 (32 : Int)))) (IntKind.wrap .u32 (↑(BitVec.toNat (BitVec.ofInt (IntKind.bits .u32) v0 ||| BitVec.ofInt (IntKind.bits .u32) (IntKind.wrap .u32 ((1 : Int) * (2 : Int) ^ Min.min (Int.toNat (IntKind.wrap .u64 (Int.tmod x.1.2.2.1 (32 : Int)))) (IntKind.bits .u32))))) : Int))) ∧ x.2.2.2 = x.2.2.2) (.ret (.again (x.1.1, (mg (valL x.1.2.1 - valL (mg (valL x.1.1 * (2 : Nat) ^ Int.toNat x.1.2.2.1))), (IntKind.wrap .i64 (x.1.2.2.1 - (1 : Int)), ()))) () (some ((List.set x.2.2.1 (Int.toNat (IntKind.wrap .i64 (Int.tdiv x.1.2.2.1 (32 : Int)))) (IntKind.wrap .u32 (↑(BitVec.toNat (BitVec.ofInt (IntKind.bits .u32) v0 ||| BitVec.ofInt (IntKind.bits .u32) (IntKind.wrap .u32 ((1 : Int) * (2 : Int) ^ Min.min (Int.toNat (IntKind.wrap .u64 (Int.tmod x.1.2.2.1 (32 : Int)))) (IntKind.bits .u32))))) : Int)), x.2.2.2)))))))))))))))
     (.need (List.length x.2.2.1 = List.length x.2.2.1 ∧ x.2.2.2 = x.2.2.2) (.ret (.again (x.1.1, (x.1.2.1, (IntKind.wrap .i64 (x.1.2.2.1 - (1 : Int)), ()))) () (some x.2.2)))))))
  (.need (List.length x.2.2.1 = List.length x.2.2.1 ∧ x.2.2.2 = x.2.2.2) (.ret (.out (Go.Exit.exit (0 : Nat)) [(.one (.ds (Cd.int .u32) x.1.2.1))] () (some x.2.2))))
theorem tr_pdivL_eq (x : RSpec.X spDiv × RSpec.Y spDiv × (List (El (RSpec.c spDiv)) × Nat)) : RSpec.round spDiv E31 (fun _ => none) (bodyOf Tryz.f55 0) x.1 x.2.1 (some x.2.2) = tr_pdivL x := by kernel_rfl
end Go.Proofs.YtjijakfcahhioaaGreat
/-
The reference: divmod's loop.
-/
set_option linter.unusedSimpArgs false
set_option linter.unusedVariables false
namespace Go.Proofs.YtjijakfcahhioaaGreat
open Go.RowKit Ax
theorem div_step {Q m L w : Nat} (hd : 2 ^ (m + 1) ∣ Q) (hq : Q < Pq.bp L) (hm : m < 32 * L) (hw : Pq.wd Q (m / 32) = w) :
    ((BitVec.ofInt (IntKind.bits .u32) (w : Int) ||| BitVec.ofInt (IntKind.bits .u32) ((2 ^ (m % 32) : Nat) : Int)).toNat = w + 2 ^ (m % 32)) ∧ w + 2 ^ (m % 32) < 4294967296 ∧ 2 ^ (m % 32) < 4294967296 ∧ (rw' L Q).set (m / 32) ((w + 2 ^ (m % 32) : Nat) : Int) = rw' L (Q + 2 ^ m) := by
  have hs : m % 32 < 32 := Nat.mod_lt _ (by decide)
  have hmm : m = m % 32 + 32 * (m / 32) := (Nat.mod_add_div m 32).symm
  have e2 : 2 ^ m = 2 ^ (m % 32) * Pq.bp (m / 32) := by
    rw [bp_pow, ← Nat.pow_add, ← hmm]
  have hwl : w < 4294967296 := by rw [← hw]; exact Pq.wd_lt _ _
  have hwd : 2 ^ (m % 32 + 1) ∣ w := by
    obtain ⟨t, ht⟩ := hd
    have e3 : Q = (2 ^ (m % 32 + 1) * t) * Pq.bp (m / 32) := by
      rw [ht, Nat.pow_succ, e2, Nat.pow_succ]
      simp only [Nat.mul_assoc, Nat.mul_comm, Nat.mul_left_comm]
    have hp : 4294967296 = 2 ^ (m % 32 + 1) * 2 ^ (31 - m % 32) := by rw [← Nat.pow_add, show m % 32 + 1 + (31 - m % 32) = 32 by omega]
    have : w = 2 ^ (m % 32 + 1) * (t % 2 ^ (31 - m % 32)) := by
      rw [← hw]
      unfold Pq.wd
      rw [e3, Nat.mul_div_cancel _ (Pq.bp_pos _), hp, Nat.mul_mod_mul_left]
    rw [this]
    exact Nat.dvd_mul_right _ _
  have hps := Nat.two_pow_pos (m % 32)
  have es : 2 ^ (m % 32 + 1) = 2 * 2 ^ (m % 32) := by rw [Nat.pow_succ, Nat.mul_comm]
  have hs31 : 2 ^ (m % 32) ≤ 2147483648 := by
    rw [show 2147483648 = 2 ^ 31 from rfl]; exact Nat.pow_le_pow_right (by decide) (by omega)
  have hsum : w + 2 ^ (m % 32) < 4294967296 := by
    obtain ⟨q, hq⟩ := hwd
    have hp : 4294967296 = 2 ^ (m % 32 + 1) * 2 ^ (31 - m % 32) := by rw [← Nat.pow_add, show m % 32 + 1 + (31 - m % 32) = 32 by omega]
    rw [hq, hp] at hwl
    have hql := Nat.lt_of_mul_lt_mul_left hwl
    have : 2 ^ (m % 32 + 1) * q + 2 ^ (m % 32 + 1) ≤ 2 ^ (m % 32 + 1) * 2 ^ (31 - m % 32) := by rw [← Nat.mul_succ]; exact Nat.mul_le_mul_left _ hql
    rw [hq, hp]
    omega
  refine ⟨?_, hsum, by omega, ?_⟩
  · obtain ⟨q, hq⟩ := hwd
    have c1 : (BitVec.ofInt (IntKind.bits .u32) (w : Int)).toNat = w := by
      rw [BitVec.toNat_ofInt]
      show ((w : Int) % 4294967296).toNat = _
      omega
    have c2 : (BitVec.ofInt (IntKind.bits .u32) ((2 ^ (m % 32) : Nat) : Int)).toNat = 2 ^ (m % 32) := by
      rw [BitVec.toNat_ofInt]
      show (((2 ^ (m % 32) : Nat) : Int) % 4294967296).toNat = _
      generalize 2 ^ (m % 32) = z at *
      omega
    rw [BitVec.toNat_or, c1, c2, hq, ← Nat.two_pow_add_eq_or_of_lt (by omega) q]
  · refine rw_set hq (by omega) (by omega) (by omega) ?_
    rw [hw, e2]
    have : ((w + 2 ^ (m % 32) : Nat) : Int) - (w : Int) = ((2 ^ (m % 32) : Nat) : Int) := by omega
    rw [this, Int.natCast_add, Int.natCast_mul (2 ^ (m % 32)), Int.mul_comm]
def outDiv (x : RSpec.X spDiv) (y : RSpec.Y spDiv) (g : RSpec.G spDiv) : T (Exit × List Av × RSpec.Y spDiv × RSpec.G spDiv) :=
  match g with
  | none => .fail
  | some r => .need (-1 ≤ x.2.2.1 ∧ x.2.2.1 < 32 * (List.length r.1 : Int) ∧ x.2.2.1 ≤ 10000000 ∧ Words x.1 ∧ 0 < List.length x.1 ∧ List.length x.1 ≤ 500000 ∧ (x.2.1 : List Int) = mg (valL x.2.1) ∧ List.length x.2.1 ≤ 1000000 ∧ valL x.2.1 < valL x.1 * 2 ^ (x.2.2.1 + 1).toNat ∧ 2 ^ (x.2.2.1 + 1).toNat ∣ valL r.1 ∧ valL r.1 + valL x.2.1 / valL x.1 < Pq.bp (List.length r.1) ∧ Words r.1)
      (.ret (.exit 0, [.one (.ds (.int .u32) (mg (valL x.2.1 % valL x.1)))], y, some (rw' (List.length r.1) (valL r.1 + valL x.2.1 / valL x.1), r.2)))
theorem pdivL_core (b r : List Int) (i : Int) (y : RSpec.Y spDiv) (xs : List Int) (cap : Nat) (Q : Exit × List Av × RSpec.Y spDiv × RSpec.G spDiv → Prop) (h : (outDiv (b, r, i, ()) y (some (xs, cap))).wp Q) : (tr_pdivL ((b, r, i, ()), y, (xs, cap))).wp fun r' => match r' with
      | .again x' y' g' => (x'.2.2.1 + 1).toNat < (i + 1).toNat ∧ (outDiv x' y' g').wp Q
      | .out e avs y' g' => Q (e, avs, y', g') := by
  unfold tr_pdivL
  unfold outDiv at h ⊢
  simp only [T.wp] at h ⊢
  dsimp only [El, vts, spDiv] at h ⊢
  obtain ⟨⟨i0, iL, i1, wb, lb0, lb, mr, lr, hlt, hd, hfit, wx⟩, hq⟩ := h
  obtain ⟨L, hL⟩ : ∃ L, xs.length = L := ⟨_, rfl⟩
  obtain ⟨V, hV⟩ : ∃ V, valL xs = V := ⟨_, rfl⟩
  have hxs : xs = rw' L V := rw_of wx hL hV
  rw [hL] at iL hfit hq
  rw [hV] at hd hfit hq
  have hVL : V < Pq.bp L := Nat.lt_of_le_of_lt (Nat.le_add_right _ _) hfit
  have rv : ∀ {q : Nat}, q < Pq.bp L → valL (rw' L q) = q := fun h => rw_val h
  subst hxs
  have hB : 0 < valL b := Nat.pos_of_ne_zero fun h0 => by rw [h0, Nat.zero_mul] at hlt; omega
  refine ⟨fun hge => ?_, fun hge => ?_⟩
  · have hge := of_decide_eq_true hge
    obtain ⟨m, hm⟩ : ∃ m : Nat, i = m := ⟨i.toNat, by omega⟩
    subst hm
    rw [show ((m : Int) + 1).toNat = m + 1 by omega] at hlt hd
    have e1 : IntKind.i64.wrap ((m : Int) - 1) = (m : Int) - 1 := IntWalk.i64_in _ (by omega)
    have e2 : ((m : Int) - 1 + 1).toNat = m := by omega
    have e3 : IntKind.i64.wrap (Int.tdiv (m : Int) 32) = ((m / 32 : Nat) : Int) := by
      rw [Int.tdiv_eq_ediv_of_nonneg (by omega), IntWalk.i64_in _ (by omega)]; omega
    have e4 : IntKind.u64.wrap (Int.tmod (m : Int) 32) = ((m % 32 : Nat) : Int) := by
      rw [Int.tmod_eq_emod_of_nonneg (by omega), w_u64 (by omega)]; omega
    have e5 : min (m % 32) (IntKind.bits .u32) = m % 32 := by
      show min (m % 32) 32 = m % 32
      omega
    obtain ⟨o1, o2, o3, o4⟩ := div_step hd hVL (by omega) rfl
    have e6 : ∀ z : Nat, z < 4294967296 → IntKind.u32.wrap (z : Int) = z := fun z hz => by rw [w_32]; omega
    have e7 : IntKind.u32.wrap (1 * 2 ^ (m % 32)) = ((2 ^ (m % 32) : Nat) : Int) := by
      rw [Int.one_mul]
      have : (2 : Int) ^ (m % 32) = ((2 ^ (m % 32) : Nat) : Int) := by rw [Int.natCast_pow]; rfl
      rw [this, e6 _ o3]
    have hsl : (mg (valL b * 2 ^ m)).length ≤ 1000000 := by
      have hb := val_words wb
      have h2 := (shl_lt (i := b.length) (k := m / 32) (s := m % 32) hb (by omega)).2
      rw [bp_pow (m / 32), Nat.mul_assoc, ← Nat.pow_add, show m % 32 + 32 * (m / 32) = m by omega] at h2
      have := mg_len.1 h2
      omega
    have hcz : decide (Pq.cz (valL r) (valL b * 2 ^ m : Nat) ≥ 0) = decide (valL b * 2 ^ m ≤ valL r) := by
      rw [decide_eq_decide]
      unfold Pq.cz
      split
      · omega
      · split <;> omega
    simp only [Int.toNat_natCast, val_mg, hcz, e1, e2, e3, e4, e5, e7, rw_len, List.length_set]
    refine ⟨⟨wb, lb0, by omega, by omega, by omega⟩, ⟨mr, trivial, lr, hsl⟩, fun hle => ?_, fun hgt => ?_⟩
    · have hle := of_decide_eq_true hle
      refine ⟨⟨mr, trivial, lr, hle⟩, by decide, by decide, ⟨by omega, by omega⟩, _, by omega, rw_get (by omega), by decide, by omega, ⟨by omega, by omega⟩, by omega, ⟨trivial, trivial⟩, ?_⟩
      rw [o1, e6 _ o2, o4]
      have hdiv : valL r / valL b = 2 ^ m + (valL r - valL b * 2 ^ m) / valL b := by
        conv => lhs; rw [show valL r = (valL r - valL b * 2 ^ m) + valL b * 2 ^ m by omega]
        rw [Nat.add_mul_div_left _ _ hB, Nat.add_comm]
      have hmod : valL r % valL b = (valL r - valL b * 2 ^ m) % valL b := by
        conv => lhs; rw [show valL r = (valL r - valL b * 2 ^ m) + valL b * 2 ^ m by omega]
        rw [Nat.add_mul_mod_self_left]
      have hV2 : V + 2 ^ m < Pq.bp L := by
        rw [hdiv, ← Nat.add_assoc] at hfit
        exact Nat.lt_of_le_of_lt (Nat.le_add_right _ _) hfit
      rw [rv hV2]
      rw [hdiv] at hfit hq
      rw [hmod, ← Nat.add_assoc] at hq
      have hle2 : valL r - valL b * 2 ^ m ≤ valL r := Nat.sub_le _ _
      have hml : (mg (valL r - valL b * 2 ^ m)).length ≤ 1000000 := by
        refine mg_len.1 (Nat.lt_of_le_of_lt hle2 ?_)
        rw [mg_len, ← mr]; exact lr
      rw [Nat.pow_succ, Nat.mul_comm (2 ^ m) 2, Nat.mul_left_comm] at hlt
      refine ⟨by omega, ⟨by omega, by omega, by omega, wb, lb0, lb, trivial, hml, by omega, ?_, by rw [Nat.add_assoc]; exact hfit, rw_words _ _⟩, hq⟩
      refine Nat.dvd_add ?_ (Nat.dvd_refl _)
      exact Nat.dvd_trans ⟨2, by rw [Nat.pow_succ]⟩ hd
    · have hgt := of_decide_eq_false hgt
      rw [rv hVL]
      refine ⟨⟨trivial, trivial⟩, by omega, ⟨by omega, by omega, by omega, wb, lb0, lb, mr, lr, by omega, ?_, hfit, rw_words _ _⟩, hq⟩
      exact Nat.dvd_trans ⟨2, by rw [Nat.pow_succ]⟩ hd
  · have hge := of_decide_eq_false hge
    rw [show (i + 1).toNat = 0 by omega, Nat.pow_zero, Nat.mul_one] at hlt
    rw [Nat.div_eq_of_lt hlt, Nat.mod_eq_of_lt hlt, Nat.add_zero, ← mr] at hq
    exact ⟨⟨trivial, trivial⟩, hq⟩
theorem pdivL_ok : LoopOk Tryz.prog 0 (bodyOf Tryz.f55 0) (spDiv.run outDiv) :=
  loopR_ok (E := E31) (L := fun _ => none) mixed 0 (loops_none _ _ _) spDiv (Nat.zero_le _) outDiv (fun x _ _ => (x.2.2.1 + 1).toNat) (by
    rintro ⟨b, r, i, ⟨⟩⟩ y g Q h
    match g, h with
    | some (xs, cap), h =>
      rw [tr_pdivL_eq ((b, r, i, ()), y, (xs, cap))]
      exact pdivL_core b r i y xs cap Q h
    | none, h => exact h.elim)
noncomputable def lpDiv : Loops := manyL [(7, spDiv.run outDiv)]
end Go.Proofs.YtjijakfcahhioaaGreat
/-
The reference: divmod's tree, gcd's loop.
-/
set_option linter.unusedSimpArgs false
set_option linter.unusedVariables false
namespace Go.Proofs.YtjijakfcahhioaaGreat
open Go.RowKit Ax
noncomputable def tr_pdivmod (x : Els [(false, .sl (.int .u32)), (false, .sl (.int .u32))]) : T Av :=
 .need (x.1 = mg (valL (x.1)) ∧ List.length (x.1) ≤ (1000000 : Nat)) (.need (x.2.1 = mg (valL x.2.1) ∧ List.length x.2.1 ≤ (1000000 : Nat)) (.ite (decide (IntKind.wrap .i64 ((↑(Pq.bitn (valL (x.1))) : Int) - (↑(Pq.bitn (valL x.2.1)) : Int)) < (0 : Int)))
    (.ret (.tup [(.one (.v (Go.Value.slice Option.none (0 : Nat) (0 : Nat)))), (.one (.ds (Cd.int .u32) (x.1)))]))
    (.need ((32 : Int) ≠ (0 : Int)) (.need ((0 : Int) ≤ IntKind.wrap .i64 (IntKind.wrap .i64 (Int.tdiv (IntKind.wrap .i64 ((↑(Pq.bitn (valL (x.1))) : Int) - (↑(Pq.bitn (valL x.2.1)) : Int))) (32 : Int)) + (1 : Int)) ∧ IntKind.wrap .i64 (IntKind.wrap .i64 (Int.tdiv (IntKind.wrap .i64 ((↑(Pq.bitn (valL (x.1))) : Int) - (↑(Pq.bitn (valL x.2.1)) : Int))) (32 : Int)) + (1 : Int)) = IntKind.wrap .i64 (IntKind.wrap .i64 (Int.tdiv (IntKind.wrap .i64 ((↑(Pq.bitn (valL (x.1))) : Int) - (↑(Pq.bitn (valL x.2.1)) : Int))) (32 : Int)) + (1 : Int)) ∧ (nat_lit 3 + (1 : Nat)) * Int.toNat (IntKind.wrap .i64 (IntKind.wrap .i64 (Int.tdiv (IntKind.wrap .i64 ((↑(Pq.bitn (valL (x.1))) : Int) - (↑(Pq.bitn (valL x.2.1)) : Int))) (32 : Int)) + (1 : Int))) ≤ (281474976710656 : Nat) ∧ Int.toNat (IntKind.wrap .i64 (IntKind.wrap .i64 (Int.tdiv (IntKind.wrap .i64 ((↑(Pq.bitn (valL (x.1))) : Int) - (↑(Pq.bitn (valL x.2.1)) : Int))) (32 : Int)) + (1 : Int))) ≤ Go.maxLen) (.need (Int.toNat (IntKind.wrap .i64 (IntKind.wrap .i64 (Int.tdiv (IntKind.wrap .i64 ((↑(Pq.bitn (valL (x.1))) : Int) - (↑(Pq.bitn (valL x.2.1)) : Int))) (32 : Int)) + (1 : Int))) = List.length (List.replicate (Int.toNat (IntKind.wrap .i64 (IntKind.wrap .i64 (Int.tdiv (IntKind.wrap .i64 ((↑(Pq.bitn (valL (x.1))) : Int) - (↑(Pq.bitn (valL x.2.1)) : Int))) (32 : Int)) + (1 : Int)))) (0 : Int)) ∧ Int.toNat (IntKind.wrap .i64 (IntKind.wrap .i64 (Int.tdiv (IntKind.wrap .i64 ((↑(Pq.bitn (valL (x.1))) : Int) - (↑(Pq.bitn (valL x.2.1)) : Int))) (32 : Int)) + (1 : Int))) = Int.toNat (IntKind.wrap .i64 (IntKind.wrap .i64 (Int.tdiv (IntKind.wrap .i64 ((↑(Pq.bitn (valL (x.1))) : Int) - (↑(Pq.bitn (valL x.2.1)) : Int))) (32 : Int)) + (1 : Int)))) (.need ((-1 : El (Cd.int .i64)) ≤ IntKind.wrap .i64 ((↑(Pq.bitn (valL (x.1))) : Int) - (↑(Pq.bitn (valL x.2.1)) : Int)) ∧ IntKind.wrap .i64 ((↑(Pq.bitn (valL (x.1))) : Int) - (↑(Pq.bitn (valL x.2.1)) : Int)) < (32 : El (Cd.int .i64)) * (↑(List.length (List.replicate (Int.toNat (IntKind.wrap .i64 (IntKind.wrap .i64 (Int.tdiv (IntKind.wrap .i64 ((↑(Pq.bitn (valL (x.1))) : Int) - (↑(Pq.bitn (valL x.2.1)) : Int))) (32 : Int)) + (1 : Int)))) (0 : Int))) : Int) ∧ IntKind.wrap .i64 ((↑(Pq.bitn (valL (x.1))) : Int) - (↑(Pq.bitn (valL x.2.1)) : Int)) ≤ (10000000 : El (Cd.int .i64)) ∧ Words x.2.1 ∧ (0 : Nat) < List.length x.2.1 ∧ List.length x.2.1 ≤ (500000 : Nat) ∧ x.1 = mg (valL (x.1)) ∧ List.length (x.1) ≤ (1000000 : Nat) ∧ valL (x.1) < valL x.2.1 * (2 : Nat) ^ Int.toNat (IntKind.wrap .i64 ((↑(Pq.bitn (valL (x.1))) : Int) - (↑(Pq.bitn (valL x.2.1)) : Int)) + (1 : El (Cd.int .i64))) ∧ (2 : Nat) ^ Int.toNat (IntKind.wrap .i64 ((↑(Pq.bitn (valL (x.1))) : Int) - (↑(Pq.bitn (valL x.2.1)) : Int)) + (1 : El (Cd.int .i64))) ∣ valL (List.replicate (Int.toNat (IntKind.wrap .i64 (IntKind.wrap .i64 (Int.tdiv (IntKind.wrap .i64 ((↑(Pq.bitn (valL (x.1))) : Int) - (↑(Pq.bitn (valL x.2.1)) : Int))) (32 : Int)) + (1 : Int)))) (0 : Int)) ∧ valL (List.replicate (Int.toNat (IntKind.wrap .i64 (IntKind.wrap .i64 (Int.tdiv (IntKind.wrap .i64 ((↑(Pq.bitn (valL (x.1))) : Int) - (↑(Pq.bitn (valL x.2.1)) : Int))) (32 : Int)) + (1 : Int)))) (0 : Int)) + valL (x.1) / valL x.2.1 < Pq.bp (List.length (List.replicate (Int.toNat (IntKind.wrap .i64 (IntKind.wrap .i64 (Int.tdiv (IntKind.wrap .i64 ((↑(Pq.bitn (valL (x.1))) : Int) - (↑(Pq.bitn (valL x.2.1)) : Int))) (32 : Int)) + (1 : Int)))) (0 : Int))) ∧ Words (List.replicate (Int.toNat (IntKind.wrap .i64 (IntKind.wrap .i64 (Int.tdiv (IntKind.wrap .i64 ((↑(Pq.bitn (valL (x.1))) : Int) - (↑(Pq.bitn (valL x.2.1)) : Int))) (32 : Int)) + (1 : Int)))) (0 : Int))) (.need (List.length (rw' (List.length (List.replicate (Int.toNat (IntKind.wrap .i64 (IntKind.wrap .i64 (Int.tdiv (IntKind.wrap .i64 ((↑(Pq.bitn (valL (x.1))) : Int) - (↑(Pq.bitn (valL x.2.1)) : Int))) (32 : Int)) + (1 : Int)))) (0 : Int))) (valL (List.replicate (Int.toNat (IntKind.wrap .i64 (IntKind.wrap .i64 (Int.tdiv (IntKind.wrap .i64 ((↑(Pq.bitn (valL (x.1))) : Int) - (↑(Pq.bitn (valL x.2.1)) : Int))) (32 : Int)) + (1 : Int)))) (0 : Int)) + valL (x.1) / valL x.2.1)) ≤ List.length (rw' (List.length (List.replicate (Int.toNat (IntKind.wrap .i64 (IntKind.wrap .i64 (Int.tdiv (IntKind.wrap .i64 ((↑(Pq.bitn (valL (x.1))) : Int) - (↑(Pq.bitn (valL x.2.1)) : Int))) (32 : Int)) + (1 : Int)))) (0 : Int))) (valL (List.replicate (Int.toNat (IntKind.wrap .i64 (IntKind.wrap .i64 (Int.tdiv (IntKind.wrap .i64 ((↑(Pq.bitn (valL (x.1))) : Int) - (↑(Pq.bitn (valL x.2.1)) : Int))) (32 : Int)) + (1 : Int)))) (0 : Int)) + valL (x.1) / valL x.2.1))) (.need (lenOk (List.length (List.take (List.length (rw' (List.length (List.replicate (Int.toNat (IntKind.wrap .i64 (IntKind.wrap .i64 (Int.tdiv (IntKind.wrap .i64 ((↑(Pq.bitn (valL (x.1))) : Int) - (↑(Pq.bitn (valL x.2.1)) : Int))) (32 : Int)) + (1 : Int)))) (0 : Int))) (valL (List.replicate (Int.toNat (IntKind.wrap .i64 (IntKind.wrap .i64 (Int.tdiv (IntKind.wrap .i64 ((↑(Pq.bitn (valL (x.1))) : Int) - (↑(Pq.bitn (valL x.2.1)) : Int))) (32 : Int)) + (1 : Int)))) (0 : Int)) + valL (x.1) / valL x.2.1))) (rw' (List.length (List.replicate (Int.toNat (IntKind.wrap .i64 (IntKind.wrap .i64 (Int.tdiv (IntKind.wrap .i64 ((↑(Pq.bitn (valL (x.1))) : Int) - (↑(Pq.bitn (valL x.2.1)) : Int))) (32 : Int)) + (1 : Int)))) (0 : Int))) (valL (List.replicate (Int.toNat (IntKind.wrap .i64 (IntKind.wrap .i64 (Int.tdiv (IntKind.wrap .i64 ((↑(Pq.bitn (valL (x.1))) : Int) - (↑(Pq.bitn (valL x.2.1)) : Int))) (32 : Int)) + (1 : Int)))) (0 : Int)) + valL (x.1) / valL x.2.1))))) (.ret (.tup [(.one (.ds (Cd.int .u32) (trimmed (List.take (List.length (rw' (List.length (List.replicate (Int.toNat (IntKind.wrap .i64 (IntKind.wrap .i64 (Int.tdiv (IntKind.wrap .i64 ((↑(Pq.bitn (valL (x.1))) : Int) - (↑(Pq.bitn (valL x.2.1)) : Int))) (32 : Int)) + (1 : Int)))) (0 : Int))) (valL (List.replicate (Int.toNat (IntKind.wrap .i64 (IntKind.wrap .i64 (Int.tdiv (IntKind.wrap .i64 ((↑(Pq.bitn (valL (x.1))) : Int) - (↑(Pq.bitn (valL x.2.1)) : Int))) (32 : Int)) + (1 : Int)))) (0 : Int)) + valL (x.1) / valL x.2.1))) (rw' (List.length (List.replicate (Int.toNat (IntKind.wrap .i64 (IntKind.wrap .i64 (Int.tdiv (IntKind.wrap .i64 ((↑(Pq.bitn (valL (x.1))) : Int) - (↑(Pq.bitn (valL x.2.1)) : Int))) (32 : Int)) + (1 : Int)))) (0 : Int))) (valL (List.replicate (Int.toNat (IntKind.wrap .i64 (IntKind.wrap .i64 (Int.tdiv (IntKind.wrap .i64 ((↑(Pq.bitn (valL (x.1))) : Int) - (↑(Pq.bitn (valL x.2.1)) : Int))) (32 : Int)) + (1 : Int)))) (0 : Int)) + valL (x.1) / valL x.2.1)))))), (.one (.ds (Cd.int .u32) (mg (valL (x.1) % valL x.2.1))))]))))))))))
theorem tr_pdivmod_eq (x : Els [(false, .sl (.int .u32)), (false, .sl (.int .u32))]) : fnP E31d lpDiv Tryz.f55 (encs [(false, .sl (.int .u32)), (false, .sl (.int .u32))] x) = tr_pdivmod x := by kernel_rfl
end Go.Proofs.YtjijakfcahhioaaGreat
/-
The reference: divmod.
-/
set_option linter.unusedSimpArgs false
set_option linter.unusedVariables false
namespace Go.Proofs.YtjijakfcahhioaaGreat
open Go.RowKit Ax
/-- a contract of a value that tells no more than what is come to -/
theorem val_con_w {P : Program} {E : Env P} {L : Loops} {f : FuncId} {fn : Func} (hm : P.follows .mixedOrders = true) (hf : P.funcs[f]? = some fn) (hL : ∀ c, fn.body = some c → LoopsOk P 0 L c) (ts : List (Bool × Cd)) (pre : Els ts → Prop) (F : Els ts → Av)
    (h : ∀ x, pre x → (fnP E L fn (encs ts x)).wp (fun a => ∀ w R σ v, AvIs w R σ a v → AvIs w R σ (F x) v)) : ConOk P f [] (pureRun' ts fun x => .need (pre x) (.ret (F x))) := by
  refine con_weaken (con_ok (E := E) (L := L) hm hf hL ts (fun x => fnP E L fn (encs ts x)) (fun x Q h => h)) fun args m Q hq => ?_
  unfold pureRun' at hq ⊢
  split at hq
  · rw [T.wp_bind] at hq ⊢
    exact T.wp_mono (fun a ha => ⟨_, hq.2, ha⟩) (h _ hq.1)
  · exact hq.elim
theorem nil_av2 {w : World} {R : Nat → Prop} {σ : List Nat} {c : Cd} {a : Av} {v : Value} (h : AvIs w R σ (.tup [.one (.v (.slice none 0 0)), a]) v) : AvIs w R σ (.tup [.one (.ds c []), a]) v := by
  cases h with
  | tup us hl hi =>
    refine .tup us hl fun i x u hx hu => ?_
    match i, hx with
    | 0, rfl =>
      have := hi 0 _ u rfl hu
      rw [val_of this rfl]
      exact .one rfl (.dn .nil)
    | i + 1, hx => exact hi (i + 1) x u hx hu
theorem bitn_lt (x : Nat) : x < 2 ^ Pq.bitn x := Pq.bitn_le.1 (Nat.le_refl _)
theorem bitn_ge {x : Nat} (h : x ≠ 0) : 2 ^ (Pq.bitn x - 1) ≤ x := Nat.not_lt.1 fun h' => by
  have := Pq.bitn_le.2 h'
  have h0 : Pq.bitn x ≠ 0 := fun e => h (Pq.bitn_eq0.1 e)
  omega
theorem bitn_mg {x n : Nat} (h : (mg x).length ≤ n) : Pq.bitn x ≤ 32 * n := by
  have := mg_len.2 h
  rw [bp_pow] at this
  exact Pq.bitn_le.2 this
noncomputable def con_pdivmod : Con Tryz.prog := ⟨55, [], _, cf_pdivmod, val_con_w (E := E31d) (L := lpDiv) mixed Tryz.func55 (many_loops (by kernel_rfl) (by simp) (fun i p hp => by
    match i, hp with
    | 0, hp => cases hp; exact pdivL_ok
    | i + 1, hp => simp at hp)) [(false, .sl (.int .u32)), (false, .sl (.int .u32))] (fun x => (x.1 : List Int) = mg (valL x.1) ∧ (x.2.1 : List Int) = mg (valL x.2.1) ∧ List.length x.1 ≤ 100000 ∧ List.length x.2.1 ≤ 100000 ∧ valL x.2.1 ≠ 0) (fun x => .tup [.one (.ds (.int .u32) (mg (valL x.1 / valL x.2.1))), .one (.ds (.int .u32) (mg (valL x.1 % valL x.2.1)))]) fun x hx => by
  rw [tr_pdivmod_eq]
  obtain ⟨a, b, u⟩ := x
  revert a b
  intro (a : List Int) (b : List Int) (hx : a = mg (valL a) ∧ b = mg (valL b) ∧ a.length ≤ 100000 ∧ b.length ≤ 100000 ∧ valL b ≠ 0)
  obtain ⟨ma, mb, la, lb, hb⟩ := hx
  have wb : Words b := by rw [mb]; exact mg_words _
  have la' : (mg (valL a)).length ≤ 100000 := by rw [← ma]; exact la
  have lb' : (mg (valL b)).length ≤ 100000 := by rw [← mb]; exact lb
  have lb0 : 0 < b.length := Nat.pos_of_ne_zero fun h0 => hb (by
    have : b = [] := List.length_eq_zero_iff.1 h0
    rw [this]; rfl)
  have ba := bitn_mg la'
  have bb := bitn_mg lb'
  have a1 := bitn_lt (valL a)
  have b1 := bitn_ge hb
  have bb0 : Pq.bitn (valL b) ≠ 0 := fun e => hb (Pq.bitn_eq0.1 e)
  unfold tr_pdivmod
  simp only [T.wp]
  dsimp only [El]
  rw [IntWalk.i64_in ((Pq.bitn (valL a) : Int) - Pq.bitn (valL b)) (by omega)]
  refine ⟨⟨ma, by omega⟩, ⟨mb, by omega⟩, fun hlt => ?_, fun hge => ?_⟩
  · have hlt := of_decide_eq_true hlt
    have hab : valL a < valL b := by
      refine Nat.lt_of_lt_of_le a1 (Nat.le_trans (Nat.pow_le_pow_right (by decide) ?_) b1)
      omega
    rw [Nat.div_eq_of_lt hab, Nat.mod_eq_of_lt hab, mg_zero, ← ma]
    exact fun w R σ v hv => nil_av2 hv
  · have hge := of_decide_eq_false hge
    obtain ⟨n, hn⟩ : ∃ n : Nat, (Pq.bitn (valL a) : Int) - Pq.bitn (valL b) = n := ⟨Pq.bitn (valL a) - Pq.bitn (valL b), by omega⟩
    simp only [hn]
    have e1 : IntKind.i64.wrap (IntKind.i64.wrap (Int.tdiv (n : Int) 32) + 1) = ((n / 32 + 1 : Nat) : Int) := by
      rw [Int.tdiv_eq_ediv_of_nonneg (by omega), IntWalk.i64_in ((n : Int) / 32) (by omega), IntWalk.i64_in _ (by omega)]; omega
    have etk : ∀ Q, List.take (n / 32 + 1) (rw' (n / 32 + 1) Q) = rw' (n / 32 + 1) Q := fun Q => List.take_of_length_le (by rw [rw_len]; exact Nat.le_refl _)
    have e2 : ((n : Int) + 1).toNat = n + 1 := by omega
    simp only [e1, Int.toNat_natCast, List.length_replicate, rw_len, etk, val_zero, Nat.zero_add, e2]
    have hlt : valL a < valL b * 2 ^ (n + 1) := by
      refine Nat.lt_of_lt_of_le a1 (Nat.le_trans ?_ (Nat.mul_le_mul_right _ b1))
      rw [← Nat.pow_add]
      exact Nat.pow_le_pow_right (by decide) (by omega)
    have hq : valL a / valL b < Pq.bp (n / 32 + 1) := by
      refine Nat.lt_of_lt_of_le ((Nat.div_lt_iff_lt_mul (Nat.pos_of_ne_zero hb)).2 (by rw [Nat.mul_comm]; exact hlt)) ?_
      rw [bp_pow]
      exact Nat.pow_le_pow_right (by decide) (by omega)
    refine ⟨by decide, ⟨by omega, trivial, by omega, by unfold Go.maxLen; omega⟩, ⟨trivial, trivial⟩, ⟨by omega, by omega, by omega, wb, lb0, by omega, ma, by omega, hlt, ⟨0, by simp⟩, hq, words_zero _⟩, Nat.le_refl _, by unfold lenOk; omega, ?_⟩
    rw [trimmed_mg (rw_words _ _), rw_val hq]
    exact fun w R σ v hv => hv⟩
noncomputable def E32 : Env Tryz.prog := E31.add [con_pdivmod]
end Go.Proofs.YtjijakfcahhioaaGreat
/-
The reference: gcd's loop; tiny's tree.
-/
set_option linter.unusedSimpArgs false
set_option linter.unusedVariables false
namespace Go.Proofs.YtjijakfcahhioaaGreat
open Go.RowKit Ax
noncomputable def tr_pgcdL (x : LSpec.X spGcd × LSpec.Y spGcd) : T (Rd spGcd) :=
 .ite (decide ((↑(List.length x.1.2.1) : Int) > (0 : Int)))
  (.need (x.1.1 = mg (valL x.1.1) ∧ x.1.2.1 = mg (valL x.1.2.1) ∧ List.length x.1.1 ≤ (100000 : Nat) ∧ List.length x.1.2.1 ≤ (100000 : Nat) ∧ valL x.1.2.1 ≠ (0 : Nat)) (.ret (.again (x.1.2.1, (mg (valL x.1.1 % valL x.1.2.1), ())) ())))
  (.ret (.out (Go.Exit.exit (0 : Nat)) [(.one (.ds (Cd.int .u32) x.1.1))] ()))
theorem tr_pgcdL_eq (x : LSpec.X spGcd × LSpec.Y spGcd) : LSpec.round spGcd E32 (fun _ => none) (bodyOf Tryz.f71 0) x.1 x.2 = tr_pgcdL x := by kernel_rfl
noncomputable def tr_ptiny (x : Els [(true, cF)]) : T Av :=
 .need ((0 : El (Cd.int .i64)) ≤ (1 : Int) ∧ (1 : Int) ≤ (32 : El (Cd.int .i64))) (.ite (tz x.1.1.2.1 x.1.2.2.1 ((32 : Nat) - Int.toNat (1 : Int)))
   (.need ((0 : Int) ≤ (0 : Int) ∧ (0 : Int) < (↑(32 : Nat) : Int)) (.need ((0 : Int) < (32 : Int)) (.need ((0 : Int) ≤ (0 : Int) ∧ (0 : Int) < (↑(32 : Nat) : Int)) (.need ((0 : Int) < (32 : Int)) (.ite (decide (IntKind.wrap .i64 (↑(Pq.wd x.1.1.2.1 (Int.toNat (0 : Int))) : Int) ≥ (2147483648 : Int)))
        (.ret (.tup [(.one (.v (.int .i64 ((0 : Int))))), (.one (.v (.int .i64 ((0 : Int))))), (.one (.v (.bool (false))))]))
        (.ite (decide (IntKind.wrap .i64 (↑(Pq.wd x.1.2.2.1 (Int.toNat (0 : Int))) : Int) ≥ (2147483648 : Int)))
         (.ret (.tup [(.one (.v (.int .i64 ((0 : Int))))), (.one (.v (.int .i64 ((0 : Int))))), (.one (.v (.bool (false))))]))
         (.ite (IntKind.wrap .i64 (↑(Pq.wd x.1.2.2.1 (Int.toNat (0 : Int))) : Int) == (0 : Int))
          (.ret (.tup [(.one (.v (.int .i64 ((0 : Int))))), (.one (.v (.int .i64 ((0 : Int))))), (.one (.v (.bool (false))))]))
          (.ite x.1.2.1
           (.ret (.tup [(.one (.v (.int .i64 ((0 : Int))))), (.one (.v (.int .i64 ((0 : Int))))), (.one (.v (.bool (false))))]))
           (.ite x.1.1.1
            (.ite (IntKind.wrap .i64 (↑(Pq.wd x.1.1.2.1 (Int.toNat (0 : Int))) : Int) == (0 : Int))
             (.ret (.tup [(.one (.v (.int .i64 ((0 : Int))))), (.one (.v (.int .i64 ((0 : Int))))), (.one (.v (.bool (false))))]))
             (.need ((-9223372036854775808 : El (Cd.int .i64)) < IntKind.wrap .i64 (↑(Pq.wd x.1.1.2.1 (Int.toNat (0 : Int))) : Int) ∧ IntKind.wrap .i64 (↑(Pq.wd x.1.1.2.1 (Int.toNat (0 : Int))) : Int) < (9223372036854775808 : El (Cd.int .i64)) ∧ (-9223372036854775808 : El (Cd.int .i64)) < IntKind.wrap .i64 (↑(Pq.wd x.1.2.2.1 (Int.toNat (0 : Int))) : Int) ∧ IntKind.wrap .i64 (↑(Pq.wd x.1.2.2.1 (Int.toNat (0 : Int))) : Int) < (9223372036854775808 : El (Cd.int .i64))) (.ite ((↑(Nat.gcd (Int.natAbs (IntKind.wrap .i64 (↑(Pq.wd x.1.1.2.1 (Int.toNat (0 : Int))) : Int))) (Int.natAbs (IntKind.wrap .i64 (↑(Pq.wd x.1.2.2.1 (Int.toNat (0 : Int))) : Int)))) : Int) != (1 : Int))
               (.ret (.tup [(.one (.v (.int .i64 ((0 : Int))))), (.one (.v (.int .i64 ((0 : Int))))), (.one (.v (.bool (false))))]))
               (.ite x.1.1.1
                (.ret (.tup [(.one (.v (.int .i64 (IntKind.wrap .i64 ((0 : Int) - IntKind.wrap .i64 (↑(Pq.wd x.1.1.2.1 (Int.toNat (0 : Int))) : Int)))))), (.one (.v (.int .i64 (IntKind.wrap .i64 (↑(Pq.wd x.1.2.2.1 (Int.toNat (0 : Int))) : Int))))), (.one (.v (.bool (true))))]))
                (.ret (.tup [(.one (.v (.int .i64 (IntKind.wrap .i64 (↑(Pq.wd x.1.1.2.1 (Int.toNat (0 : Int))) : Int))))), (.one (.v (.int .i64 (IntKind.wrap .i64 (↑(Pq.wd x.1.2.2.1 (Int.toNat (0 : Int))) : Int))))), (.one (.v (.bool (true))))]))))))
            (.need ((-9223372036854775808 : El (Cd.int .i64)) < IntKind.wrap .i64 (↑(Pq.wd x.1.1.2.1 (Int.toNat (0 : Int))) : Int) ∧ IntKind.wrap .i64 (↑(Pq.wd x.1.1.2.1 (Int.toNat (0 : Int))) : Int) < (9223372036854775808 : El (Cd.int .i64)) ∧ (-9223372036854775808 : El (Cd.int .i64)) < IntKind.wrap .i64 (↑(Pq.wd x.1.2.2.1 (Int.toNat (0 : Int))) : Int) ∧ IntKind.wrap .i64 (↑(Pq.wd x.1.2.2.1 (Int.toNat (0 : Int))) : Int) < (9223372036854775808 : El (Cd.int .i64))) (.ite ((↑(Nat.gcd (Int.natAbs (IntKind.wrap .i64 (↑(Pq.wd x.1.1.2.1 (Int.toNat (0 : Int))) : Int))) (Int.natAbs (IntKind.wrap .i64 (↑(Pq.wd x.1.2.2.1 (Int.toNat (0 : Int))) : Int)))) : Int) != (1 : Int))
              (.ret (.tup [(.one (.v (.int .i64 ((0 : Int))))), (.one (.v (.int .i64 ((0 : Int))))), (.one (.v (.bool (false))))]))
              (.ite x.1.1.1
               (.ret (.tup [(.one (.v (.int .i64 (IntKind.wrap .i64 ((0 : Int) - IntKind.wrap .i64 (↑(Pq.wd x.1.1.2.1 (Int.toNat (0 : Int))) : Int)))))), (.one (.v (.int .i64 (IntKind.wrap .i64 (↑(Pq.wd x.1.2.2.1 (Int.toNat (0 : Int))) : Int))))), (.one (.v (.bool (true))))]))
               (.ret (.tup [(.one (.v (.int .i64 (IntKind.wrap .i64 (↑(Pq.wd x.1.1.2.1 (Int.toNat (0 : Int))) : Int))))), (.one (.v (.int .i64 (IntKind.wrap .i64 (↑(Pq.wd x.1.2.2.1 (Int.toNat (0 : Int))) : Int))))), (.one (.v (.bool (true))))]))))))))))))))
   (.ret (.tup [(.one (.v (.int .i64 ((0 : Int))))), (.one (.v (.int .i64 ((0 : Int))))), (.one (.v (.bool (false))))])))
theorem tr_ptiny_eq (x : Els [(true, cF)]) : fnP E32 lpTiny Tryz.f67 (encs [(true, cF)] x) = tr_ptiny x := by kernel_rfl
end Go.Proofs.YtjijakfcahhioaaGreat
/-
The reference: gcd, tiny.
-/
set_option linter.unusedSimpArgs false
set_option linter.unusedVariables false
namespace Go.Proofs.YtjijakfcahhioaaGreat
open Go.RowKit Ax
/-- what is told of a value goes for another telling of it -/
def Tells (a b : Av) : Prop := ∀ w R σ v, AvIs w R σ a v → AvIs w R σ b v
theorem tells_refl (a : Av) : Tells a a := fun _ _ _ _ h => h
theorem tells_any (a : Av) : Tells a .any := fun _ _ _ _ _ => .any
theorem tells_kb {b : Bool} : Tells (.one (.v (.bool b))) (.one (.kb b)) := fun w R σ v h => by
  rw [val_of h rfl]; exact .one rfl (.kb .nil)
theorem tells_tup {l k : List Av} (hl : l.length = k.length) (h : ∀ (i : Nat) (a b : Av), l[i]? = some a → k[i]? = some b → Tells a b) : Tells (.tup l) (.tup k) := fun w R σ v hv => by
  cases hv with
  | tup us hl2 hi =>
    refine .tup us (by omega) fun i x u hx hu => ?_
    have hlt : i < k.length := (List.getElem?_eq_some_iff.1 hx).1
    have ha : l[i]? = some (l[i]'(by omega)) := List.getElem?_eq_getElem _
    exact h i _ x ha hx _ _ _ _ (hi i _ u ha hu)
theorem fork_con {P : Program} {E : Env P} {L : Loops} {f : FuncId} {fn : Func} (hm : P.follows .mixedOrders = true) (hf : P.funcs[f]? = some fn) (hL : ∀ c, fn.body = some c → LoopsOk P 0 L c) (ts : List (Bool × Cd)) (b : Els ts → Bool) (F D : Els ts → Av)
    (h : ∀ x, (fnP E L fn (encs ts x)).wp (fun a => (b x = true → Tells a (F x)) ∧ (b x = false → Tells a (D x)))) : ConOk P f [] (pureRun' ts fun x => .ite (b x) (.ret (F x)) (.ret (D x))) := by
  refine con_weaken (con_ok (E := E) (L := L) hm hf hL ts (fun x => fnP E L fn (encs ts x)) (fun x Q h => h)) fun args m Q hq => ?_
  unfold pureRun' at hq ⊢
  split at hq
  · rw [T.wp_bind] at hq ⊢
    refine T.wp_mono (fun a ha => ?_) (h _)
    rename_i x _
    cases hb : b x with
    | true => exact ⟨_, hq.1 hb, ha.1 hb⟩
    | false => exact ⟨_, hq.2 hb, ha.2 hb⟩
  · exact hq.elim
def outGcd (x : LSpec.X spGcd) (y : LSpec.Y spGcd) : T (Exit × List Av × LSpec.Y spGcd) :=
  .need ((x.1 : List Int) = mg (valL x.1) ∧ (x.2.1 : List Int) = mg (valL x.2.1) ∧ List.length x.1 ≤ 100000 ∧ List.length x.2.1 ≤ 100000) (.ret (.exit 0, [.one (.ds (.int .u32) (mg (Nat.gcd (valL x.1) (valL x.2.1))))], ()))
theorem pgcdL_core (a b : List Int) (Q : Exit × List Av × LSpec.Y spGcd → Prop) (h : (outGcd (a, b, ()) ()).wp Q) : (tr_pgcdL ((a, b, ()), ())).wp fun r => match r with
      | .again x' y' => valL x'.2.1 < valL b ∧ (outGcd x' y').wp Q
      | .out e avs y' => Q (e, avs, y') := by
  unfold tr_pgcdL
  unfold outGcd at h ⊢
  simp only [T.wp] at h ⊢
  dsimp only [El, vts, spGcd] at h ⊢
  obtain ⟨⟨ma, mb, la, lb⟩, hq⟩ := h
  refine ⟨fun hgt => ?_, fun hle => ?_⟩
  · have hgt := of_decide_eq_true hgt
    have h0 : valL b ≠ 0 := fun h0 => by rw [h0, mg_zero] at mb; rw [mb] at hgt; simp at hgt
    have hlt : valL a % valL b < valL b := Nat.mod_lt _ (Nat.pos_of_ne_zero h0)
    rw [Nat.gcd_comm, Nat.gcd_rec, Nat.gcd_comm] at hq
    rw [val_mg]
    refine ⟨⟨ma, mb, la, lb, h0⟩, hlt, ⟨mb, rfl, lb, ?_⟩, hq⟩
    refine mg_len.1 (Nat.lt_trans hlt ?_)
    rw [mg_len, ← mb]; exact lb
  · have hle := of_decide_eq_false hle
    have h0 : b = [] := List.length_eq_zero_iff.1 (by omega)
    subst h0
    rw [val_nil, Nat.gcd_zero_right, ← ma] at hq
    exact hq
theorem pgcdL_ok : LoopOk Tryz.prog 0 (bodyOf Tryz.f71 0) (spGcd.run outGcd) :=
  loop_ok (E := E32) (L := fun _ => none) mixed 0 (loops_none _ _ _) spGcd (Nat.zero_le _) outGcd (fun x _ => valL x.2.1) (by
    rintro ⟨a, b, ⟨⟩⟩ ⟨⟩ Q h
    rw [tr_pgcdL_eq ((a, b, ()), ())]
    exact pgcdL_core a b Q h)
noncomputable def lpGcd : Loops := oneL 2 (spGcd.run outGcd)
/-- a fraction of words of 31 bits in lowest terms -/
def TyF (x : F) : Prop := x.1.2.1 < 2147483648 ∧ x.2.2.1 < 2147483648 ∧ x.2.1 = false ∧ x.2.2.1 ≠ 0 ∧ ¬ (x.1.1 = true ∧ x.1.2.1 = 0) ∧ Nat.gcd x.1.2.1 x.2.2.1 = 1
instance (x : F) : Decidable (TyF x) := by unfold TyF; infer_instance
def tyB (x : F) : Bool := decide (TyF x)
theorem ty_leaf {x : F} {a : Av} (h : ¬ TyF x) : (tyB x = true → Tells (.tup [aI .i64 0, aI .i64 0, aB false]) a) ∧ (tyB x = false → Tells (.tup [aI .i64 0, aI .i64 0, aB false]) (.tup [.any, .any, .one (.kb false)])) := by
  refine ⟨fun h' => absurd (of_decide_eq_true h') h, fun _ => tells_tup rfl fun i a b ha hb => ?_⟩
  match i, ha, hb with
  | 0, _, rfl => exact tells_any _
  | 1, _, rfl => exact tells_any _
  | 2, rfl, rfl => exact tells_kb
theorem ty_yes {x : F} (h : TyF x) {p q : Int} (hp : p = zW x.1) (hq : q = zW x.2) : (tyB x = true → Tells (.tup [aI .i64 p, aI .i64 q, aB true]) (.tup [aI .i64 (zW x.1), aI .i64 (zW x.2), .one (.kb true)])) ∧ (tyB x = false → Tells (.tup [aI .i64 p, aI .i64 q, aB true]) (.tup [.any, .any, .one (.kb false)])) := by
  subst hp hq
  refine ⟨fun _ => tells_tup rfl fun i a b ha hb => ?_, fun h' => absurd h (of_decide_eq_false h')⟩
  match i, ha, hb with
  | 0, rfl, rfl => exact tells_refl _
  | 1, rfl, rfl => exact tells_refl _
  | 2, rfl, rfl => exact tells_kb
noncomputable def con_ptiny : Con Tryz.prog := ⟨67, [], _, cf_ptiny, fork_con (E := E32) (L := lpTiny) mixed Tryz.func67 (one_loop ptinyL_ok (by kernel_rfl)) [(true, cF)] (fun x => tyB x.1) (fun x => .tup [aI .i64 (zW x.1.1), aI .i64 (zW x.1.2), .one (.kb true)]) (fun x => .tup [.any, .any, .one (.kb false)]) fun x => by
  rw [tr_ptiny_eq]
  obtain ⟨⟨⟨s, n⟩, ⟨t, d⟩⟩, u⟩ := x
  revert s n t d
  intro (s : Bool) (n : Amt) (t : Bool) (d : Amt)
  have ets := tz_spec n.2 d.2 31 (by decide)
  rw [show Pq.bp (32 - 31) = 4294967296 from rfl] at ets
  unfold tr_ptiny
  simp only [T.wp]
  refine ⟨by decide, fun htz => ?_, fun htz => ty_leaf fun h => ?_⟩
  · have htz := ets.1 htz
    have e0 : Pq.wd n.1 (Int.toNat 0) = n.1 := Pq.wd_small htz.1
    have e1 : Pq.wd d.1 (Int.toNat 0) = d.1 := Pq.wd_small htz.2
    have w0 : IntKind.i64.wrap ((n.1 : Nat) : Int) = n.1 := IntWalk.i64_in _ (by omega)
    have w1 : IntKind.i64.wrap ((d.1 : Nat) : Int) = d.1 := IntWalk.i64_in _ (by omega)
    simp only [e0, e1, w0, w1]
    have w2 : n.1 < 2147483648 → IntKind.i64.wrap (0 - ((n.1 : Nat) : Int)) = - n.1 := fun h => by rw [IntWalk.i64_in _ (by omega)]; omega
    have eg : ∀ a b : Nat, Nat.gcd (Int.natAbs (a : Int)) (Int.natAbs (b : Int)) = Nat.gcd a b := fun a b => by rw [Int.natAbs_natCast, Int.natAbs_natCast]
    simp only [eg]
    have bnd : decide ((n.1 : Int) ≥ 2147483648) = false → decide ((d.1 : Int) ≥ 2147483648) = false → (-9223372036854775808 : Int) < (n.1 : Int) ∧ (n.1 : Int) < 9223372036854775808 ∧ (-9223372036854775808 : Int) < (d.1 : Int) ∧ (d.1 : Int) < 9223372036854775808 := fun h1 h2 => by
      have h1 := of_decide_eq_false h1
      have h2 := of_decide_eq_false h2
      omega
    refine ⟨by decide, by decide, by decide, by decide, fun h1 => ty_leaf fun h => ?_, fun h1 => ⟨fun h2 => ty_leaf fun h => ?_, fun h2 => ⟨fun h3 => ty_leaf fun h => ?_, fun h3 => ⟨fun h4 => ty_leaf fun h => ?_, fun h4 => ⟨fun h5 => ⟨fun h6 => ty_leaf fun h => ?_, fun h6 => ⟨bnd h1 h2, fun h7 => ty_leaf fun h => ?_, fun h7 => ⟨fun h8 => ?_, fun h8 => ?_⟩⟩⟩, fun h5 => ⟨bnd h1 h2, fun h7 => ty_leaf fun h => ?_, fun h7 => ⟨fun h8 => ?_, fun h8 => ?_⟩⟩⟩⟩⟩⟩⟩
    · have h1 := of_decide_eq_true h1
      have g1 : n.1 < 2147483648 := h.1
      omega
    · have h2 := of_decide_eq_true h2
      have g1 : d.1 < 2147483648 := h.2.1
      omega
    · exact h.2.2.2.1 (by simpa using h3)
    · have := h.2.2.1
      dsimp only at this
      rw [this] at h4; cases h4
    · exact h.2.2.2.2.1 ⟨h5, by simpa using h6⟩
    · have := h.2.2.2.2.2
      dsimp only at this
      rw [this] at h7
      simp at h7
    · have h1 := of_decide_eq_false h1
      have h2 := of_decide_eq_false h2
      have h4 : t = false := h4
      have h5 : s = true := h5
      subst h4 h5
      have g6 : n.1 ≠ 0 := by simpa using h6
      have g7 : ¬ ((Nat.gcd n.1 d.1 : Nat) : Int) ≠ 1 := by simpa using h7
      have g8 : Nat.gcd n.1 d.1 = 1 := by omega
      have hT : TyF ((true, n), (false, d)) := ⟨by show n.1 < _; omega, by show d.1 < _; omega, rfl, by simpa using h3, fun h => g6 h.2, g8⟩
      exact ty_yes hT (by rw [w2 (by omega)]; rfl) rfl
    · have h5 : s = true := h5
      rw [h5] at h8; cases h8
    · have := h.2.2.2.2.2
      dsimp only at this
      rw [this] at h7
      simp at h7
    · have h5 : s = false := h5
      rw [h5] at h8; cases h8
    · have h1 := of_decide_eq_false h1
      have h2 := of_decide_eq_false h2
      have h4 : t = false := h4
      have h5 : s = false := h5
      subst h4 h5
      have g7 : ¬ ((Nat.gcd n.1 d.1 : Nat) : Int) ≠ 1 := by simpa using h7
      have g8 : Nat.gcd n.1 d.1 = 1 := by omega
      have hT : TyF ((false, n), (false, d)) := ⟨by show n.1 < _; omega, by show d.1 < _; omega, rfl, by simpa using h3, fun h => Bool.noConfusion h.1, g8⟩
      exact ty_yes hT rfl rfl
  · have g1 : n.1 < 2147483648 := h.1
    have g2 : d.1 < 2147483648 := h.2.1
    have : tz n.1 d.1 31 = true := ets.2 ⟨by omega, by omega⟩
    rw [show (32 - Int.toNat 1) = 31 from rfl] at htz
    rw [this] at htz; cases htz⟩
noncomputable def E33 : Env Tryz.prog := E32.add [con_ptiny]
end Go.Proofs.YtjijakfcahhioaaGreat
/-
The reference: trees of gcd, Is, Bits, Cmp, Sign, sum, tinies.
-/
set_option linter.unusedSimpArgs false
set_option linter.unusedVariables false
namespace Go.Proofs.YtjijakfcahhioaaGreat
open Go.RowKit Ax
theorem cf_pIs (xs : Array Value) (w : World) : (callFunc 68 xs).run Tryz.prog w = .ok (.enter 68 xs) w := by kernel_rfl
theorem cf_pBits (xs : Array Value) (w : World) : (callFunc 69 xs).run Tryz.prog w = .ok (.enter 69 xs) w := by kernel_rfl
theorem cf_pCmp (xs : Array Value) (w : World) : (callFunc 41 xs).run Tryz.prog w = .ok (.enter 41 xs) w := by kernel_rfl
theorem cf_pSign (xs : Array Value) (w : World) : (callFunc 24 xs).run Tryz.prog w = .ok (.enter 24 xs) w := by kernel_rfl
theorem cf_psum (xs : Array Value) (w : World) : (callFunc 86 xs).run Tryz.prog w = .ok (.enter 86 xs) w := by kernel_rfl
theorem cf_ptinies (xs : Array Value) (w : World) : (callFunc 38 xs).run Tryz.prog w = .ok (.enter 38 xs) w := by kernel_rfl
theorem cf_pquick (xs : Array Value) (w : World) : (callFunc 47 xs).run Tryz.prog w = .ok (.enter 47 xs) w := by kernel_rfl
theorem cf_prat (xs : Array Value) (w : World) : (callFunc 48 xs).run Tryz.prog w = .ok (.enter 48 xs) w := by kernel_rfl
theorem cf_pIsRat (xs : Array Value) (w : World) : (callFunc 20 xs).run Tryz.prog w = .ok (.enter 20 xs) w := by kernel_rfl
theorem cf_pSafe (xs : Array Value) (w : World) : (callFunc 22 xs).run Tryz.prog w = .ok (.enter 22 xs) w := by kernel_rfl
theorem cf_pboth (xs : Array Value) (w : World) : (callFunc 39 xs).run Tryz.prog w = .ok (.enter 39 xs) w := by kernel_rfl
theorem cf_pCmpRat (xs : Array Value) (w : World) : (callFunc 6 xs).run Tryz.prog w = .ok (.enter 6 xs) w := by kernel_rfl
theorem cf_pplus (xs : Array Value) (w : World) : (callFunc 45 xs).run Tryz.prog w = .ok (.enter 45 xs) w := by kernel_rfl
theorem cf_pAddRat (xs : Array Value) (w : World) : (callFunc 8 xs).run Tryz.prog w = .ok (.enter 8 xs) w := by kernel_rfl
theorem cf_pSubRat (xs : Array Value) (w : World) : (callFunc 10 xs).run Tryz.prog w = .ok (.enter 10 xs) w := by kernel_rfl
theorem cf_pMulRat (xs : Array Value) (w : World) : (callFunc 12 xs).run Tryz.prog w = .ok (.enter 12 xs) w := by kernel_rfl
theorem cf_pDivRat (xs : Array Value) (w : World) : (callFunc 14 xs).run Tryz.prog w = .ok (.enter 14 xs) w := by kernel_rfl
theorem cf_pFloor (xs : Array Value) (w : World) : (callFunc 16 xs).run Tryz.prog w = .ok (.enter 16 xs) w := by kernel_rfl
theorem cf_pTextRat (xs : Array Value) (w : World) : (callFunc 26 xs).run Tryz.prog w = .ok (.enter 26 xs) w := by kernel_rfl
theorem cf_pDecimal (xs : Array Value) (w : World) : (callFunc 18 xs).run Tryz.prog w = .ok (.enter 18 xs) w := by kernel_rfl
noncomputable def tr_pgcd (x : Els [(false, .sl (.int .u32)), (false, .sl (.int .u32))]) : T Av :=
 .need (x.1 = mg (valL (x.1)) ∧ x.2.1 = mg (valL x.2.1) ∧ List.length (x.1) ≤ (100000 : Nat) ∧ List.length x.2.1 ≤ (100000 : Nat)) (.ret (.one (.ds (Cd.int .u32) (mg (Nat.gcd (valL (x.1)) (valL x.2.1))))))
theorem tr_pgcd_eq (x : Els [(false, .sl (.int .u32)), (false, .sl (.int .u32))]) : fnP E33 lpGcd Tryz.f71 (encs [(false, .sl (.int .u32)), (false, .sl (.int .u32))] x) = tr_pgcd x := by kernel_rfl
noncomputable def tr_pIs (x : Els [(true, cW)]) : T Av :=
 .ite (!x.1.1)
  (.ret (.one (.v (.bool (true)))))
  (.ret (.one (.v (.bool (decide ((↑(List.length (mg x.1.2.1)) : Int) > (0 : Int)))))))
theorem tr_pIs_eq (x : Els [(true, cW)]) : fnP E33 (fun _ => none) Tryz.f68 (encs [(true, cW)] x) = tr_pIs x := by kernel_rfl
noncomputable def tr_pBits (x : Els [(true, cW)]) : T Av :=
 .need (mg x.1.2.1 = mg (valL (mg x.1.2.1)) ∧ List.length (mg x.1.2.1) ≤ (1000000 : Nat)) (.ret (.one (.v (.int .i64 ((↑(Pq.bitn (valL (mg x.1.2.1))) : Int))))))
theorem tr_pBits_eq (x : Els [(true, cW)]) : fnP E33 (fun _ => none) Tryz.f69 (encs [(true, cW)] x) = tr_pBits x := by kernel_rfl
noncomputable def tr_pCmp (x : Els [(true, cW), (true, cW)]) : T Av :=
 .ite (x.1.1 && decide (x.1.2.1 ≠ (0 : Nat)))
  (.ite (!(x.2.1.1 && decide (x.2.1.2.1 ≠ (0 : Nat))))
   (.ret (.one (.v (.int .i64 ((-1 : Int))))))
   (.ite (!(x.1.1 && decide (x.1.2.1 ≠ (0 : Nat))))
    (.ite (x.2.1.1 && decide (x.2.1.2.1 ≠ (0 : Nat)))
     (.ret (.one (.v (.int .i64 ((1 : Int))))))
     (.ite (x.1.1 && decide (x.1.2.1 ≠ (0 : Nat)))
      (.need (mg x.2.1.2.1 = mg (valL (mg x.2.1.2.1)) ∧ mg x.1.2.1 = mg (valL (mg x.1.2.1)) ∧ List.length (mg x.2.1.2.1) ≤ (1000000 : Nat) ∧ List.length (mg x.1.2.1) ≤ (1000000 : Nat)) (.ret (.one (.v (.int .i64 (Pq.cz (↑(valL (mg x.2.1.2.1)) : Int) (↑(valL (mg x.1.2.1)) : Int)))))))
      (.need (mg x.1.2.1 = mg (valL (mg x.1.2.1)) ∧ mg x.2.1.2.1 = mg (valL (mg x.2.1.2.1)) ∧ List.length (mg x.1.2.1) ≤ (1000000 : Nat) ∧ List.length (mg x.2.1.2.1) ≤ (1000000 : Nat)) (.ret (.one (.v (.int .i64 (Pq.cz (↑(valL (mg x.1.2.1)) : Int) (↑(valL (mg x.2.1.2.1)) : Int)))))))))
    (.ite (x.1.1 && decide (x.1.2.1 ≠ (0 : Nat)))
     (.need (mg x.2.1.2.1 = mg (valL (mg x.2.1.2.1)) ∧ mg x.1.2.1 = mg (valL (mg x.1.2.1)) ∧ List.length (mg x.2.1.2.1) ≤ (1000000 : Nat) ∧ List.length (mg x.1.2.1) ≤ (1000000 : Nat)) (.ret (.one (.v (.int .i64 (Pq.cz (↑(valL (mg x.2.1.2.1)) : Int) (↑(valL (mg x.1.2.1)) : Int)))))))
     (.need (mg x.1.2.1 = mg (valL (mg x.1.2.1)) ∧ mg x.2.1.2.1 = mg (valL (mg x.2.1.2.1)) ∧ List.length (mg x.1.2.1) ≤ (1000000 : Nat) ∧ List.length (mg x.2.1.2.1) ≤ (1000000 : Nat)) (.ret (.one (.v (.int .i64 (Pq.cz (↑(valL (mg x.1.2.1)) : Int) (↑(valL (mg x.2.1.2.1)) : Int))))))))))
  (.ite (!(x.1.1 && decide (x.1.2.1 ≠ (0 : Nat))))
   (.ite (x.2.1.1 && decide (x.2.1.2.1 ≠ (0 : Nat)))
    (.ret (.one (.v (.int .i64 ((1 : Int))))))
    (.ite (x.1.1 && decide (x.1.2.1 ≠ (0 : Nat)))
     (.need (mg x.2.1.2.1 = mg (valL (mg x.2.1.2.1)) ∧ mg x.1.2.1 = mg (valL (mg x.1.2.1)) ∧ List.length (mg x.2.1.2.1) ≤ (1000000 : Nat) ∧ List.length (mg x.1.2.1) ≤ (1000000 : Nat)) (.ret (.one (.v (.int .i64 (Pq.cz (↑(valL (mg x.2.1.2.1)) : Int) (↑(valL (mg x.1.2.1)) : Int)))))))
     (.need (mg x.1.2.1 = mg (valL (mg x.1.2.1)) ∧ mg x.2.1.2.1 = mg (valL (mg x.2.1.2.1)) ∧ List.length (mg x.1.2.1) ≤ (1000000 : Nat) ∧ List.length (mg x.2.1.2.1) ≤ (1000000 : Nat)) (.ret (.one (.v (.int .i64 (Pq.cz (↑(valL (mg x.1.2.1)) : Int) (↑(valL (mg x.2.1.2.1)) : Int)))))))))
   (.ite (x.1.1 && decide (x.1.2.1 ≠ (0 : Nat)))
    (.need (mg x.2.1.2.1 = mg (valL (mg x.2.1.2.1)) ∧ mg x.1.2.1 = mg (valL (mg x.1.2.1)) ∧ List.length (mg x.2.1.2.1) ≤ (1000000 : Nat) ∧ List.length (mg x.1.2.1) ≤ (1000000 : Nat)) (.ret (.one (.v (.int .i64 (Pq.cz (↑(valL (mg x.2.1.2.1)) : Int) (↑(valL (mg x.1.2.1)) : Int)))))))
    (.need (mg x.1.2.1 = mg (valL (mg x.1.2.1)) ∧ mg x.2.1.2.1 = mg (valL (mg x.2.1.2.1)) ∧ List.length (mg x.1.2.1) ≤ (1000000 : Nat) ∧ List.length (mg x.2.1.2.1) ≤ (1000000 : Nat)) (.ret (.one (.v (.int .i64 (Pq.cz (↑(valL (mg x.1.2.1)) : Int) (↑(valL (mg x.2.1.2.1)) : Int)))))))))
theorem tr_pCmp_eq (x : Els [(true, cW), (true, cW)]) : fnP E33 (fun _ => none) Tryz.f41 (encs [(true, cW), (true, cW)] x) = tr_pCmp x := by kernel_rfl
noncomputable def tr_pSign (x : Els [(true, cF)]) : T Av :=
 .ite ((↑(List.length (mg x.1.1.2.1)) : Int) == (0 : Int))
  (.ret (.one (.v (.int .i64 ((0 : Int))))))
  (.ite x.1.1.1
   (.ret (.one (.v (.int .i64 ((-1 : Int))))))
   (.ret (.one (.v (.int .i64 ((1 : Int)))))))
theorem tr_pSign_eq (x : Els [(true, cF)]) : fnP E33 (fun _ => none) Tryz.f24 (encs [(true, cF)] x) = tr_pSign x := by kernel_rfl
noncomputable def tr_psum (x : Els [(false, .bool), (false, .sl (.int .u32)), (false, .bool), (false, .sl (.int .u32))]) : T Av :=
 .ite (x.1 == x.2.2.1)
  (.need (List.length x.2.1 ≤ (1000000 : Nat) ∧ List.length x.2.2.2.1 ≤ (1000000 : Nat) ∧ Words x.2.1 ∧ Words x.2.2.2.1) (.ret (.tup [(.one (.v (.bool (x.1)))), (.one (.ds (Cd.int .u32) (mg (valL x.2.1 + valL x.2.2.2.1))))])))
  (.need (x.2.1 = mg (valL x.2.1) ∧ x.2.2.2.1 = mg (valL x.2.2.2.1) ∧ List.length x.2.1 ≤ (1000000 : Nat) ∧ List.length x.2.2.2.1 ≤ (1000000 : Nat)) (.ite (decide (Pq.cz (↑(valL x.2.1) : Int) (↑(valL x.2.2.2.1) : Int) ≥ (0 : Int)))
    (.need (x.2.1 = mg (valL x.2.1) ∧ x.2.2.2.1 = mg (valL x.2.2.2.1) ∧ List.length x.2.1 ≤ (1000000 : Nat) ∧ valL x.2.2.2.1 ≤ valL x.2.1) (.ret (.tup [(.one (.v (.bool (x.1)))), (.one (.ds (Cd.int .u32) (mg (valL x.2.1 - valL x.2.2.2.1))))])))
    (.need (x.2.2.2.1 = mg (valL x.2.2.2.1) ∧ x.2.1 = mg (valL x.2.1) ∧ List.length x.2.2.2.1 ≤ (1000000 : Nat) ∧ valL x.2.1 ≤ valL x.2.2.2.1) (.ret (.tup [(.one (.v (.bool x.2.2.1))), (.one (.ds (Cd.int .u32) (mg (valL x.2.2.2.1 - valL x.2.1))))])))))
theorem tr_psum_eq (x : Els [(false, .bool), (false, .sl (.int .u32)), (false, .bool), (false, .sl (.int .u32))]) : fnP E33 (fun _ => none) Tryz.f86 (encs [(false, .bool), (false, .sl (.int .u32)), (false, .bool), (false, .sl (.int .u32))] x) = tr_psum x := by kernel_rfl
noncomputable def tr_ptinies (x : Els [(true, cF), (true, cF)]) : T Av :=
 .ite (tyB (x.1))
  (.ite (tyB x.2.1)
   (.ret (.tup [(.one (.v (.int .i64 (zW x.1.1)))), (.one (.v (.int .i64 (zW x.1.2)))), (.one (.v (.int .i64 (zW x.2.1.1)))), (.one (.v (.int .i64 (zW x.2.1.2)))), (.one (.v (.bool (true))))]))
   (.ret (.tup [(.one (.v (.int .i64 (zW x.1.1)))), (.one (.v (.int .i64 (zW x.1.2)))), .any, .any, (.one (.v (.bool (false))))])))
  (.ite (tyB x.2.1)
   (.ret (.tup [.any, .any, (.one (.v (.int .i64 (zW x.2.1.1)))), (.one (.v (.int .i64 (zW x.2.1.2)))), (.one (.v (.bool (false))))]))
   (.ret (.tup [.any, .any, .any, .any, (.one (.v (.bool (false))))])))
theorem tr_ptinies_eq (x : Els [(true, cF), (true, cF)]) : fnP E33 (fun _ => none) Tryz.f38 (encs [(true, cF), (true, cF)] x) = tr_ptinies x := by kernel_rfl
end Go.Proofs.YtjijakfcahhioaaGreat
/-
The reference: gcd, Is, Bits, Cmp, Sign, sum, tinies.
-/
set_option linter.unusedSimpArgs false
set_option linter.unusedVariables false
namespace Go.Proofs.YtjijakfcahhioaaGreat
open Go.RowKit Ax
noncomputable def con_pgcd : Con Tryz.prog := ⟨71, [], _, cf_pgcd, val_con (E := E33) (L := lpGcd) mixed Tryz.func71 (one_loop pgcdL_ok (by kernel_rfl)) [(false, .sl (.int .u32)), (false, .sl (.int .u32))] (fun x => (x.1 : List Int) = mg (valL x.1) ∧ (x.2.1 : List Int) = mg (valL x.2.1) ∧ List.length x.1 ≤ 100000 ∧ List.length x.2.1 ≤ 100000) (fun x => .one (.ds (.int .u32) (mg (Nat.gcd (valL x.1) (valL x.2.1))))) fun x hx => by
  rw [tr_pgcd_eq]
  exact ⟨hx, rfl⟩⟩
theorem mg_pos_iff (x : Nat) : decide (((mg x).length : Int) > 0) = decide (x ≠ 0) := by
  rw [decide_eq_decide]
  constructor
  · intro hl h0; rw [h0, mg_zero] at hl; simp at hl
  · intro h0
    rcases Nat.eq_zero_or_pos (mg x).length with h' | h'
    · exact absurd (mg_nil.1 (List.length_eq_zero_iff.1 h')) h0
    · omega
theorem mg_w (w : W) : (mg w.2.1).length ≤ 32 := mg_len.1 w.2.2
noncomputable def con_pIs : Con Tryz.prog := ⟨68, [], _, cf_pIs, tot_con (E := E33) mixed Tryz.func68 no_loops [(true, cW)] (fun x => aB (isW x.1)) fun x => by
  rw [tr_pIs_eq]
  obtain ⟨⟨s, n⟩, u⟩ := x
  revert s n
  intro (s : Bool) (n : Amt)
  unfold tr_pIs
  simp only [T.wp]
  rw [mg_pos_iff]
  cases s with
  | false => exact ⟨fun _ => rfl, fun h => Bool.noConfusion h⟩
  | true =>
    refine ⟨fun h => Bool.noConfusion h, fun _ => ?_⟩
    have : isW ((true, n) : W) = decide (n.1 ≠ 0) := by
      rw [Bool.eq_iff_iff, isW_iff]
      simp
    rw [this]; rfl⟩
noncomputable def con_pBits : Con Tryz.prog := ⟨69, [], _, cf_pBits, tot_con (E := E33) mixed Tryz.func69 no_loops [(true, cW)] (fun x => aI .i64 (Pq.bitn x.1.2.1)) fun x => by
  rw [tr_pBits_eq]
  obtain ⟨w, u⟩ := x
  revert w
  intro (w : W)
  unfold tr_pBits
  simp only [T.wp]
  have := mg_w w
  refine ⟨⟨by rw [val_mg], by omega⟩, ?_⟩
  rw [val_mg]; rfl⟩
noncomputable def con_pCmp : Con Tryz.prog := ⟨41, [], _, cf_pCmp, tot_con (E := E33) mixed Tryz.func41 no_loops [(true, cW), (true, cW)] (fun x => aI .i64 (Pq.cz (zW x.1) (zW x.2.1))) fun x => by
  rw [tr_pCmp_eq]
  obtain ⟨a, b, u⟩ := x
  revert a b
  intro (a : W) (b : W)
  have la := mg_w a
  have lb := mg_w b
  unfold tr_pCmp
  simp only [T.wp]
  simp only [val_mg]
  have ez : ∀ w : W, zW w = if (w.1 && decide (w.2.1 ≠ 0)) = true then -(w.2.1 : Int) else w.2.1 := fun w => by
    obtain ⟨s, n, hn⟩ := w
    show Pq.zv s n = if (s && decide (n ≠ 0)) = true then -(n : Int) else n
    unfold Pq.zv
    cases s with
    | false => simp
    | true =>
      by_cases h0 : n = 0
      · subst h0; simp
      · simp [h0]
  have hp : ∀ w : W, (w.1 && decide (w.2.1 ≠ 0)) = true → 0 < w.2.1 := fun w h => by
    rw [Bool.and_eq_true] at h
    have := of_decide_eq_true h.2
    omega
  have ea := ez a
  have eb := ez b
  have pa := hp a
  have pb := hp b
  generalize (a.1 && decide (a.2.1 ≠ 0)) = p at *
  generalize (b.1 && decide (b.2.1 ≠ 0)) = q at *
  have key : ∀ c : Int, Pq.cz (zW a) (zW b) = c → Av.one (.v (.int .i64 c)) = aI .i64 (Pq.cz (zW a) (zW b)) := fun c h => by rw [h]; rfl
  have na : mg a.2.1 = mg a.2.1 := rfl
  cases p <;> cases q <;> simp only [Bool.not_true, Bool.not_false, reduceCtorEq, forall_const, false_implies, true_and, and_true, if_true, if_false, Bool.false_eq_true] at *
  · refine ⟨⟨by omega, by omega⟩, key _ ?_⟩
    rw [ea, eb]
  · refine key _ (Pq.cz_gt ?_)
    rw [ea, eb]; omega
  · refine key _ (Pq.cz_lt ?_)
    rw [ea, eb]; omega
  · refine ⟨⟨by omega, by omega⟩, key _ ?_⟩
    rw [ea, eb]
    unfold Pq.cz
    split <;> split <;> (try split) <;> omega⟩
noncomputable def con_pSign : Con Tryz.prog := ⟨24, [], _, cf_pSign, tot_con (E := E33) mixed Tryz.func24 no_loops [(true, cF)] (fun x => aI .i64 (Pq.cz (zW x.1.1) 0)) fun x => by
  rw [tr_pSign_eq]
  obtain ⟨⟨⟨s, n⟩, d⟩, u⟩ := x
  revert s n d
  intro (d : W) (s : Bool) (n : Amt)
  unfold tr_pSign
  simp only [T.wp]
  have e : zW ((s, n) : W) = Pq.zv s n.1 := rfl
  have el : ((((mg n.1).length : Int) == 0) = true) ↔ n.1 = 0 := by
    rw [beq_iff_eq]
    constructor
    · intro h
      exact mg_nil.1 (List.length_eq_zero_iff.1 (by omega))
    · intro h; rw [h, mg_zero]; rfl
  refine ⟨fun h => ?_, fun h => ⟨fun hs => ?_, fun hs => ?_⟩⟩
  · have h := el.1 h
    rw [e, h]
    cases s <;> rfl
  · have h0 : n.1 ≠ 0 := fun h' => by rw [el.2 h'] at h; cases h
    have hs : s = true := hs
    subst hs
    rw [e, Pq.cz_lt (by simp [Pq.zv]; omega)]; rfl
  · have h0 : n.1 ≠ 0 := fun h' => by rw [el.2 h'] at h; cases h
    have hs : s = false := hs
    subst hs
    rw [e, Pq.cz_gt (by simp [Pq.zv]; omega)]; rfl⟩
/-- a sum of amounts with signs -/
def sS (x : Bool) (a : Nat) (y : Bool) (b : Nat) : Bool × Nat := if x = y then (x, a + b) else if b ≤ a then (x, a - b) else (y, b - a)
theorem sS_zv (x : Bool) (a : Nat) (y : Bool) (b : Nat) : Pq.zv (sS x a y b).1 (sS x a y b).2 = Pq.zv x a + Pq.zv y b := by
  unfold sS
  cases x <;> cases y <;> simp [Pq.zv]
  · split <;> simp <;> omega
  · split <;> simp <;> omega
  · omega
noncomputable def con_psum : Con Tryz.prog := ⟨86, [], _, cf_psum, val_con (E := E33) mixed Tryz.func86 no_loops [(false, .bool), (false, .sl (.int .u32)), (false, .bool), (false, .sl (.int .u32))] (fun x => (x.2.1 : List Int) = mg (valL x.2.1) ∧ (x.2.2.2.1 : List Int) = mg (valL x.2.2.2.1) ∧ List.length x.2.1 ≤ 1000000 ∧ List.length x.2.2.2.1 ≤ 1000000) (fun x => .tup [aB (sS x.1 (valL x.2.1) x.2.2.1 (valL x.2.2.2.1)).1, .one (.ds (.int .u32) (mg (sS x.1 (valL x.2.1) x.2.2.1 (valL x.2.2.2.1)).2))]) fun x hx => by
  rw [tr_psum_eq]
  obtain ⟨s, a, t, b, u⟩ := x
  revert s a t b
  intro (s : Bool) (a : List Int) (t : Bool) (b : List Int) (hx : a = mg (valL a) ∧ b = mg (valL b) ∧ a.length ≤ 1000000 ∧ b.length ≤ 1000000)
  obtain ⟨ma, mb, la, lb⟩ := hx
  have wa : Words a := by rw [ma]; exact mg_words _
  have wb : Words b := by rw [mb]; exact mg_words _
  unfold tr_psum
  simp only [T.wp]
  have hcz : decide (Pq.cz (valL a) (valL b) ≥ 0) = decide (valL b ≤ valL a) := by
    rw [decide_eq_decide]
    unfold Pq.cz
    split
    · omega
    · split <;> omega
  rw [hcz]
  refine ⟨fun h => ⟨⟨la, lb, wa, wb⟩, ?_⟩, fun h => ⟨⟨ma, mb, la, lb⟩, fun hle => ⟨⟨ma, mb, la, of_decide_eq_true hle⟩, ?_⟩, fun hle => ⟨⟨mb, ma, lb, by have := of_decide_eq_false hle; omega⟩, ?_⟩⟩⟩
  · have h : s = t := by simpa using h
    unfold sS
    rw [if_pos h]; rfl
  · have h : ¬ s = t := by simpa using h
    unfold sS
    rw [if_neg h, if_pos (of_decide_eq_true hle)]; rfl
  · have h : ¬ s = t := by simpa using h
    unfold sS
    rw [if_neg h, if_neg (of_decide_eq_false hle)]; rfl⟩
noncomputable def con_ptinies : Con Tryz.prog := ⟨38, [], _, cf_ptinies, fork_con (E := E33) mixed Tryz.func38 no_loops [(true, cF), (true, cF)] (fun x => tyB x.1 && tyB x.2.1) (fun x => .tup [aI .i64 (zW x.1.1), aI .i64 (zW x.1.2), aI .i64 (zW x.2.1.1), aI .i64 (zW x.2.1.2), .one (.kb true)]) (fun x => .tup [.any, .any, .any, .any, .one (.kb false)]) fun x => by
  rw [tr_ptinies_eq]
  obtain ⟨a, b, u⟩ := x
  revert a b
  intro (a : F) (b : F)
  unfold tr_ptinies
  simp only [T.wp]
  have yes : Tells (.tup [aI .i64 (zW a.1), aI .i64 (zW a.2), aI .i64 (zW b.1), aI .i64 (zW b.2), aB true]) (.tup [aI .i64 (zW a.1), aI .i64 (zW a.2), aI .i64 (zW b.1), aI .i64 (zW b.2), .one (.kb true)]) := tells_tup rfl fun i p q hp hq => by
    match i, hp, hq with
    | 0, rfl, rfl => exact tells_refl _
    | 1, rfl, rfl => exact tells_refl _
    | 2, rfl, rfl => exact tells_refl _
    | 3, rfl, rfl => exact tells_refl _
    | 4, rfl, rfl => exact tells_kb
  have no : ∀ p q r s : Av, Tells (.tup [p, q, r, s, aB false]) (.tup [.any, .any, .any, .any, .one (.kb false)]) := fun p q r s => tells_tup rfl fun i x y hp hq => by
    match i, hp, hq with
    | 0, _, rfl => exact tells_any _
    | 1, _, rfl => exact tells_any _
    | 2, _, rfl => exact tells_any _
    | 3, _, rfl => exact tells_any _
    | 4, rfl, rfl => exact tells_kb
  refine ⟨fun ha => ⟨fun hb => ⟨fun _ => yes, fun h => ?_⟩, fun hb => ⟨fun h => ?_, fun _ => no _ _ _ _⟩⟩, fun ha => ⟨fun hb => ⟨fun h => ?_, fun _ => no _ _ _ _⟩, fun hb => ⟨fun h => ?_, fun _ => no _ _ _ _⟩⟩⟩
  · rw [ha, hb] at h; cases h
  · rw [ha, hb] at h; cases h
  · rw [ha] at h; cases h
  · rw [ha] at h; cases h⟩
noncomputable def E34 : Env Tryz.prog := E33.add [con_pgcd, con_pIs, con_pBits, con_pCmp, con_pSign, con_psum, con_ptinies]
end Go.Proofs.YtjijakfcahhioaaGreat
/-
The reference: trees of quick, rat, IsRat.
-/
set_option linter.unusedSimpArgs false
set_option linter.unusedVariables false
namespace Go.Proofs.YtjijakfcahhioaaGreat
open Go.RowKit Ax
noncomputable def tr_pquick (x : Els [(false, .int .i64), (false, .int .i64)]) : T Av :=
 .need ((-9223372036854775808 : El (Cd.int .i64)) < x.1 ∧ x.1 < (9223372036854775808 : El (Cd.int .i64)) ∧ (-9223372036854775808 : El (Cd.int .i64)) < x.2.1 ∧ x.2.1 < (9223372036854775808 : El (Cd.int .i64))) (.need ((↑(Nat.gcd (Int.natAbs (x.1)) (Int.natAbs x.2.1)) : Int) ≠ (0 : Int)) (.need ((↑(Nat.gcd (Int.natAbs (x.1)) (Int.natAbs x.2.1)) : Int) ≠ (0 : Int)) (.need (in64 (IntKind.wrap .i64 (Int.tdiv (x.1) (↑(Nat.gcd (Int.natAbs (x.1)) (Int.natAbs x.2.1)) : Int)))) (.need (in64 (IntKind.wrap .i64 (Int.tdiv x.2.1 (↑(Nat.gcd (Int.natAbs (x.1)) (Int.natAbs x.2.1)) : Int)))) (.ret (.agg [.v (.bool (wOf (IntKind.wrap .i64 (Int.tdiv (x.1) (↑(Nat.gcd (Int.natAbs (x.1)) (Int.natAbs x.2.1)) : Int)))).1), .w (wOf (IntKind.wrap .i64 (Int.tdiv (x.1) (↑(Nat.gcd (Int.natAbs (x.1)) (Int.natAbs x.2.1)) : Int)))).2, .v (.bool (wOf (IntKind.wrap .i64 (Int.tdiv x.2.1 (↑(Nat.gcd (Int.natAbs (x.1)) (Int.natAbs x.2.1)) : Int)))).1), .w (wOf (IntKind.wrap .i64 (Int.tdiv x.2.1 (↑(Nat.gcd (Int.natAbs (x.1)) (Int.natAbs x.2.1)) : Int)))).2]))))))
theorem tr_pquick_eq (x : Els [(false, .int .i64), (false, .int .i64)]) : fnP E34 (fun _ => none) Tryz.f47 (encs [(false, .int .i64), (false, .int .i64)] x) = tr_pquick x := by kernel_rfl
noncomputable def tr_prat (x : Els [(false, .bool), (false, .sl (.int .u32)), (false, .sl (.int .u32))]) : T Av :=
 .need (x.2.1 = mg (valL x.2.1) ∧ x.2.2.1 = mg (valL x.2.2.1) ∧ List.length x.2.1 ≤ (100000 : Nat) ∧ List.length x.2.2.1 ≤ (100000 : Nat)) (.need (x.2.1 = mg (valL x.2.1) ∧ mg (Nat.gcd (valL x.2.1) (valL x.2.2.1)) = mg (valL (mg (Nat.gcd (valL x.2.1) (valL x.2.2.1)))) ∧ List.length x.2.1 ≤ (100000 : Nat) ∧ List.length (mg (Nat.gcd (valL x.2.1) (valL x.2.2.1))) ≤ (100000 : Nat) ∧ valL (mg (Nat.gcd (valL x.2.1) (valL x.2.2.1))) ≠ (0 : Nat)) (.need (x.2.2.1 = mg (valL x.2.2.1) ∧ mg (Nat.gcd (valL x.2.1) (valL x.2.2.1)) = mg (valL (mg (Nat.gcd (valL x.2.1) (valL x.2.2.1)))) ∧ List.length x.2.2.1 ≤ (100000 : Nat) ∧ List.length (mg (Nat.gcd (valL x.2.1) (valL x.2.2.1))) ≤ (100000 : Nat) ∧ valL (mg (Nat.gcd (valL x.2.1) (valL x.2.2.1))) ≠ (0 : Nat)) (.need (lenOk (List.length (mg (valL x.2.1 / valL (mg (Nat.gcd (valL x.2.1) (valL x.2.2.1)))))) ∧ Words (mg (valL x.2.1 / valL (mg (Nat.gcd (valL x.2.1) (valL x.2.2.1)))))) (.ite (decide (List.length (trimmed (mg (valL x.2.1 / valL (mg (Nat.gcd (valL x.2.1) (valL x.2.2.1)))))) ≤ (32 : Nat)))
      (.lt (pW (x.1) (trimmed (mg (valL x.2.1 / valL (mg (Nat.gcd (valL x.2.1) (valL x.2.2.1))))))) (fun v0 =>
       .need (lenOk (List.length (mg (valL x.2.2.1 / valL (mg (Nat.gcd (valL x.2.1) (valL x.2.2.1)))))) ∧ Words (mg (valL x.2.2.1 / valL (mg (Nat.gcd (valL x.2.1) (valL x.2.2.1)))))) (.ite (decide (List.length (trimmed (mg (valL x.2.2.1 / valL (mg (Nat.gcd (valL x.2.1) (valL x.2.2.1)))))) ≤ (32 : Nat)))
         (.lt (pW false (trimmed (mg (valL x.2.2.1 / valL (mg (Nat.gcd (valL x.2.1) (valL x.2.2.1))))))) (fun v1 =>
          .ret (.tup [(.agg [.v (.bool v0.1), .w v0.2, .v (.bool v1.1), .w v1.2]), (.one (.v (.bool (true))))])))
         (.ret (.tup [(.agg [.v (.bool v0.1), .w v0.2, .v (.bool w0.1), .w w0.2]), (.one (.v (.bool (false))))])))))
      (.need (lenOk (List.length (mg (valL x.2.2.1 / valL (mg (Nat.gcd (valL x.2.1) (valL x.2.2.1)))))) ∧ Words (mg (valL x.2.2.1 / valL (mg (Nat.gcd (valL x.2.1) (valL x.2.2.1)))))) (.ite (decide (List.length (trimmed (mg (valL x.2.2.1 / valL (mg (Nat.gcd (valL x.2.1) (valL x.2.2.1)))))) ≤ (32 : Nat)))
        (.lt (pW false (trimmed (mg (valL x.2.2.1 / valL (mg (Nat.gcd (valL x.2.1) (valL x.2.2.1))))))) (fun v0 =>
         .ret (.tup [(.agg [.v (.bool w0.1), .w w0.2, .v (.bool v0.1), .w v0.2]), (.one (.v (.bool (false))))])))
        (.ret (.tup [(.agg [.v (.bool w0.1), .w w0.2, .v (.bool w0.1), .w w0.2]), (.one (.v (.bool (false))))]))))))))
theorem tr_prat_eq (x : Els [(false, .bool), (false, .sl (.int .u32)), (false, .sl (.int .u32))]) : fnP E34 (fun _ => none) Tryz.f48 (encs [(false, .bool), (false, .sl (.int .u32)), (false, .sl (.int .u32))] x) = tr_prat x := by kernel_rfl
noncomputable def tr_pIsRat (x : Els [(true, cF)]) : T Av :=
 .ite (tyB (x.1))
  (.ret (.one (.v (.bool (true)))))
  (.ite (isW x.1.1)
   (.ite (isW x.1.2)
    (.ite (!x.1.2.1)
     (.ite (decide ((↑(Pq.bitn x.1.2.2.1) : Int) > (0 : Int)))
      (.and
       (.and
        (dup (.need (mg x.1.1.2.1 = mg (valL (mg x.1.1.2.1)) ∧ mg x.1.2.2.1 = mg (valL (mg x.1.2.2.1)) ∧ List.length (mg x.1.1.2.1) ≤ (100000 : Nat) ∧ List.length (mg x.1.2.2.1) ≤ (100000 : Nat)) (.need (mg (Nat.gcd (valL (mg x.1.1.2.1)) (valL (mg x.1.2.2.1))) = mg (valL (mg (Nat.gcd (valL (mg x.1.1.2.1)) (valL (mg x.1.2.2.1))))) ∧ [(1 : Int)] = mg (valL [(1 : Int)]) ∧ List.length (mg (Nat.gcd (valL (mg x.1.1.2.1)) (valL (mg x.1.2.2.1)))) ≤ (1000000 : Nat) ∧ List.length [(1 : Int)] ≤ (1000000 : Nat)) (.ret (.one (.v (.bool (Pq.cz (↑(valL (mg (Nat.gcd (valL (mg x.1.1.2.1)) (valL (mg x.1.2.2.1))))) : Int) (↑(valL [(1 : Int)]) : Int) == (0 : Int)))))))))
        (.need (mg x.1.1.2.1 = mg (valL (mg x.1.1.2.1)) ∧ mg x.1.2.2.1 = mg (valL (mg x.1.2.2.1)) ∧ List.length (mg x.1.1.2.1) ≤ (100000 : Nat) ∧ List.length (mg x.1.2.2.1) ≤ (100000 : Nat)) (.need (mg (Nat.gcd (valL (mg x.1.1.2.1)) (valL (mg x.1.2.2.1))) = mg (valL (mg (Nat.gcd (valL (mg x.1.1.2.1)) (valL (mg x.1.2.2.1))))) ∧ [(1 : Int)] = mg (valL [(1 : Int)]) ∧ List.length (mg (Nat.gcd (valL (mg x.1.1.2.1)) (valL (mg x.1.2.2.1)))) ≤ (1000000 : Nat) ∧ List.length [(1 : Int)] ≤ (1000000 : Nat)) (.ret (.one (.v (.bool (Pq.cz (↑(valL (mg (Nat.gcd (valL (mg x.1.1.2.1)) (valL (mg x.1.2.2.1))))) : Int) (↑(valL [(1 : Int)]) : Int) == (0 : Int)))))))))
       (.need (mg x.1.1.2.1 = mg (valL (mg x.1.1.2.1)) ∧ mg x.1.2.2.1 = mg (valL (mg x.1.2.2.1)) ∧ List.length (mg x.1.1.2.1) ≤ (100000 : Nat) ∧ List.length (mg x.1.2.2.1) ≤ (100000 : Nat)) (.need (mg (Nat.gcd (valL (mg x.1.1.2.1)) (valL (mg x.1.2.2.1))) = mg (valL (mg (Nat.gcd (valL (mg x.1.1.2.1)) (valL (mg x.1.2.2.1))))) ∧ [(1 : Int)] = mg (valL [(1 : Int)]) ∧ List.length (mg (Nat.gcd (valL (mg x.1.1.2.1)) (valL (mg x.1.2.2.1)))) ≤ (1000000 : Nat) ∧ List.length [(1 : Int)] ≤ (1000000 : Nat)) (.ret (.one (.v (.bool (Pq.cz (↑(valL (mg (Nat.gcd (valL (mg x.1.1.2.1)) (valL (mg x.1.2.2.1))))) : Int) (↑(valL [(1 : Int)]) : Int) == (0 : Int)))))))))
      (.and
       (.and
        (dup (.ret (.one (.v (.bool (false))))))
        (.ret (.one (.v (.bool (false))))))
       (.ret (.one (.v (.bool (false)))))))
     (.and
      (.and
       (dup (.ret (.one (.v (.bool (false))))))
       (.ret (.one (.v (.bool (false))))))
      (.ret (.one (.v (.bool (false)))))))
    (.and
     (.and
      (dup (.ret (.one (.v (.bool (false))))))
      (.ret (.one (.v (.bool (false))))))
     (.ret (.one (.v (.bool (false)))))))
   (.and
    (.and
     (dup (.ret (.one (.v (.bool (false))))))
     (.ret (.one (.v (.bool (false))))))
    (.ret (.one (.v (.bool (false)))))))
theorem tr_pIsRat_eq (x : Els [(true, cF)]) : fnP E34 (fun _ => none) Tryz.f20 (encs [(true, cF)] x) = tr_pIsRat x := by kernel_rfl
end Go.Proofs.YtjijakfcahhioaaGreat
/-
The reference: quick, rat, IsRat.
-/
set_option linter.unusedSimpArgs false
set_option linter.unusedVariables false
namespace Go.Proofs.YtjijakfcahhioaaGreat
open Go.RowKit Ax
theorem tdiv_b {a g : Int} (ha : -9223372036854775808 < a ∧ a < 9223372036854775808) : -9223372036854775808 < a.tdiv g ∧ a.tdiv g < 9223372036854775808 := by
  have h1 : (a.tdiv g).natAbs ≤ a.natAbs := by rw [Int.natAbs_tdiv]; exact Nat.div_le_self _ _
  omega
noncomputable def con_pquick : Con Tryz.prog := ⟨47, [], _, cf_pquick, val_con (E := E34) mixed Tryz.func47 no_loops [(false, .int .i64), (false, .int .i64)] (fun x => -9223372036854775808 < x.1 ∧ x.1 < 9223372036854775808 ∧ 0 < x.2.1 ∧ x.2.1 < 9223372036854775808) (fun x => .agg (ck cF (rOf (Rat.divInt x.1 x.2.1)))) fun x hx => by
  rw [tr_pquick_eq]
  obtain ⟨n, d, u⟩ := x
  revert n d
  intro (n : Int) (d : Int) (hx : -9223372036854775808 < n ∧ n < 9223372036854775808 ∧ 0 < d ∧ d < 9223372036854775808)
  obtain ⟨n0, n1, d0, d1⟩ := hx
  unfold tr_pquick
  simp only [T.wp]
  have hg : ((Nat.gcd n.natAbs d.natAbs : Nat) : Int) ≠ 0 := by
    have : 0 < Nat.gcd n.natAbs d.natAbs := Nat.gcd_pos_of_pos_right _ (by omega)
    omega
  have b1 := tdiv_b (a := n) (g := ((Nat.gcd n.natAbs d.natAbs : Nat) : Int)) ⟨n0, n1⟩
  have b2 := tdiv_b (a := d) (g := ((Nat.gcd n.natAbs d.natAbs : Nat) : Int)) ⟨by omega, d1⟩
  rw [IntWalk.i64_in (n.tdiv _) (by omega), IntWalk.i64_in (d.tdiv _) (by omega), rOf_div d0]
  exact ⟨⟨n0, n1, by show (-9223372036854775808 : Int) < d; omega, d1⟩, hg, hg, ⟨by omega, by omega⟩, ⟨by omega, by omega⟩, rfl⟩⟩
theorem zv_tdiv (n : Bool) (a g : Nat) : (Pq.zv n a).tdiv (g : Int) = Pq.zv n (a / g) := by
  unfold Pq.zv
  cases n with
  | false => simp [Int.ofNat_tdiv]
  | true => simp [Int.neg_tdiv, Int.ofNat_tdiv]
noncomputable def con_prat : Con Tryz.prog := ⟨48, [], _, cf_prat, val_con (E := E34) mixed Tryz.func48 no_loops [(false, .bool), (false, .sl (.int .u32)), (false, .sl (.int .u32))] (fun x => (x.2.1 : List Int) = mg (valL x.2.1) ∧ (x.2.2.1 : List Int) = mg (valL x.2.2.1) ∧ valL x.2.1 < Pq.bp 32 ∧ valL x.2.2.1 < Pq.bp 32 ∧ valL x.2.2.1 ≠ 0) (fun x => .tup [.agg (ck cF (rOf (Rat.divInt (Pq.zv x.1 (valL x.2.1)) (valL x.2.2.1 : Nat)))), aB true]) fun x hx => by
  rw [tr_prat_eq]
  obtain ⟨n, a, d, u⟩ := x
  revert n a d
  intro (n : Bool) (a : List Int) (d : List Int) (hx : a = mg (valL a) ∧ d = mg (valL d) ∧ valL a < Pq.bp 32 ∧ valL d < Pq.bp 32 ∧ valL d ≠ 0)
  obtain ⟨ma, md, la, ld, d0⟩ := hx
  have la' := mg_len.1 la
  have ld' := mg_len.1 ld
  rw [← ma] at la'
  rw [← md] at ld'
  unfold tr_prat
  simp only [T.wp]
  simp only [val_mg, trimmed_self]
  have hg : Nat.gcd (valL a) (valL d) ≠ 0 := fun h => by
    have : 0 < Nat.gcd (valL a) (valL d) := Nat.gcd_pos_of_pos_right _ (by omega)
    omega
  have lg : (mg (Nat.gcd (valL a) (valL d))).length ≤ 32 := mg_len.1 (Nat.lt_of_le_of_lt (Nat.gcd_le_right _ (by omega)) ld)
  have lp : valL a / Nat.gcd (valL a) (valL d) < Pq.bp 32 := Nat.lt_of_le_of_lt (Nat.div_le_self _ _) la
  have lq : valL d / Nat.gcd (valL a) (valL d) < Pq.bp 32 := Nat.lt_of_le_of_lt (Nat.div_le_self _ _) ld
  have lp' := mg_len.1 lp
  have lq' := mg_len.1 lq
  have fin : rOf (Rat.divInt (Pq.zv n (valL a)) (valL d : Nat)) = (wOf (Pq.zv n (valL a / Nat.gcd (valL a) (valL d))), wOf (Pq.zv false (valL d / Nat.gcd (valL a) (valL d)))) := by
    rw [rOf_div (by omega), Pq.zv_abs, Int.natAbs_natCast, zv_tdiv, ← Int.ofNat_tdiv]
    rfl
  refine ⟨⟨ma, md, by omega, by omega⟩, ⟨ma, trivial, by omega, by omega, hg⟩, ⟨md, trivial, by omega, by omega, hg⟩, ⟨by unfold lenOk; omega, mg_words _⟩, fun h1 => ⟨⟨by unfold lenOk; omega, mg_words _⟩, fun h2 => ?_, fun h2 => ?_⟩, fun h1 => ?_⟩
  · rw [pW_mg lp, pW_mg lq, fin, wOf_zv lp, wOf_zv lq]; rfl
  · exact absurd lq' (of_decide_eq_false h2)
  · exact absurd lp' (of_decide_eq_false h1)⟩
theorem ty_ok {x : F} (h : tyB x = true) : OkF x := by
  obtain ⟨h1, h2, h3, h4, h5, h6⟩ := of_decide_eq_true h
  have e : zW x.2 = x.2.2.1 := by
    unfold zW Pq.zv
    rw [h3]; rfl
  refine ⟨h5, by rw [e]; omega, ?_⟩
  unfold zW
  rw [Pq.zv_abs, Pq.zv_abs]
  exact h6
noncomputable def con_pIsRat : Con Tryz.prog := ⟨20, [], _, cf_pIsRat, tot_con (E := E34) mixed Tryz.func20 no_loops [(true, cF)] (fun x => aB (okF x.1)) fun x => by
  rw [tr_pIsRat_eq]
  obtain ⟨f, u⟩ := x
  revert f
  intro (f : F)
  unfold tr_pIsRat
  simp only [T.wp, dup_wp]
  have la := mg_w f.1
  have lb := mg_w f.2
  simp only [val_mg]
  have e1 : valL [(1 : Int)] = 1 := rfl
  have e2 : mg 1 = [1] := by rw [mg_pos (by decide), show 1 / 4294967296 = 0 from rfl, mg_zero]; rfl
  have eok : okF f = (isW f.1 && !f.2.1 && decide (f.2.2.1 ≠ 0) && decide (Nat.gcd f.1.2.1 f.2.2.1 = 1)) := by
    unfold okF
    rw [Bool.eq_iff_iff, decide_eq_true_iff]
    unfold OkF
    simp only [Bool.and_eq_true, decide_eq_true_iff, isW_iff, Bool.not_eq_true']
    have ez : 0 < zW f.2 ↔ f.2.1 = false ∧ f.2.2.1 ≠ 0 := by
      unfold zW Pq.zv
      cases f.2.1 with
      | false => simp; omega
      | true => simp
    have eg : Nat.gcd (zW f.1).natAbs (zW f.2).natAbs = Nat.gcd f.1.2.1 f.2.2.1 := by
      unfold zW
      rw [Pq.zv_abs, Pq.zv_abs]
    rw [ez, eg]
    constructor
    · rintro ⟨h1, ⟨h2, h3⟩, h4⟩; exact ⟨⟨⟨h1, h2⟩, h3⟩, h4⟩
    · rintro ⟨⟨⟨h1, h2⟩, h3⟩, h4⟩; exact ⟨h1, ⟨h2, h3⟩, h4⟩
  have hgb : Nat.gcd f.1.2.1 f.2.2.1 < Pq.bp 32 := by
    rcases Nat.eq_zero_or_pos f.2.2.1 with h | h
    · rw [h, Nat.gcd_zero_right]; exact f.1.2.2
    · exact Nat.lt_of_le_of_lt (Nat.gcd_le_right _ h) f.2.2.2
  have lg := mg_len.1 hgb
  rw [e1, e2]
  have ecz : (Pq.cz ((Nat.gcd f.1.2.1 f.2.2.1 : Nat) : Int) ((1 : Nat) : Int) == 0) = decide (Nat.gcd f.1.2.1 f.2.2.1 = 1) := by
    rw [Bool.eq_iff_iff, beq_iff_eq, decide_eq_true_iff, cz_eq]
    omega
  rw [ecz]
  have ebn : decide ((Pq.bitn f.2.2.1 : Int) > 0) = decide (f.2.2.1 ≠ 0) := by
    rw [decide_eq_decide]
    have := Pq.bitn_eq0 (x := f.2.2.1)
    omega
  rw [ebn]
  have g1 : List.length [(1 : Int)] ≤ 1000000 := by decide
  have no : ∀ b : Bool, b = false → okF f = b → Av.one (Ck.v (.bool false)) = aB (okF f) := fun b hb h => by rw [h, hb]; rfl
  refine ⟨fun h => ?_, fun _ => ⟨fun h1 => ⟨fun h2 => ⟨fun h3 => ⟨fun h4 => ?_, fun h4 => ?_⟩, fun h3 => ?_⟩, fun h2 => ?_⟩, fun h1 => ?_⟩⟩
  · have : okF f = true := decide_eq_true (ty_ok h)
    rw [this]; rfl
  · have e : okF f = decide (Nat.gcd f.1.2.1 f.2.2.1 = 1) := by rw [eok, h1, h3, h4]; simp
    rw [e]
    simp only [and_self, true_and]
    exact ⟨⟨by omega, by omega⟩, ⟨by omega, g1⟩, rfl⟩
  · have e : okF f = false := by rw [eok, h4]; simp
    rw [e]
    exact ⟨⟨rfl, rfl⟩, rfl⟩
  · have e : okF f = false := by rw [eok, h3]; simp
    rw [e]
    exact ⟨⟨rfl, rfl⟩, rfl⟩
  · have e : okF f = false := by
      cases hq : okF f with
      | false => rfl
      | true =>
        have := isW_pos (of_decide_eq_true hq).2.1
        rw [h2] at this; cases this
    rw [e]
    exact ⟨⟨rfl, rfl⟩, rfl⟩
  · have e : okF f = false := by rw [eok, h1]; simp
    rw [e]
    exact ⟨⟨rfl, rfl⟩, rfl⟩⟩
noncomputable def E35 : Env Tryz.prog := E34.add [con_pquick, con_prat, con_pIsRat]
end Go.Proofs.YtjijakfcahhioaaGreat
/-
The reference: trees of Safe, Floor, TextRat.
-/
set_option linter.unusedSimpArgs false
set_option linter.unusedVariables false
namespace Go.Proofs.YtjijakfcahhioaaGreat
open Go.RowKit Ax
noncomputable def tr_pSafe (x : Els [(true, cF), (false, .int .i64)]) : T Av :=
 .ite (decide ((↑(Pq.bitn x.1.1.2.1) : Int) ≤ x.2.1))
  (.ite (decide ((↑(Pq.bitn x.1.2.2.1) : Int) ≤ x.2.1))
   (.ret (.one (.v (.bool (okF (x.1))))))
   (.ret (.one (.v (.bool (false))))))
  (.ret (.one (.v (.bool (false)))))
theorem tr_pSafe_eq (x : Els [(true, cF), (false, .int .i64)]) : fnP E35 (fun _ => none) Tryz.f22 (encs [(true, cF), (false, .int .i64)] x) = tr_pSafe x := by kernel_rfl
noncomputable def tr_pFloor (x : Els [(true, cF)]) : T Av :=
 .ite (!okF (x.1))
  (.ret (.tup [(.agg [.v (.bool w0.1), .w w0.2]), (.one (.v (.bool (false))))]))
  (.need (mg x.1.1.2.1 = mg (valL (mg x.1.1.2.1)) ∧ mg x.1.2.2.1 = mg (valL (mg x.1.2.2.1)) ∧ List.length (mg x.1.1.2.1) ≤ (100000 : Nat) ∧ List.length (mg x.1.2.2.1) ≤ (100000 : Nat) ∧ valL (mg x.1.2.2.1) ≠ (0 : Nat)) (.ite (x.1.1.1 && decide (x.1.1.2.1 ≠ (0 : Nat)))
    (.ite (decide ((↑(List.length (mg (valL (mg x.1.1.2.1) % valL (mg x.1.2.2.1)))) : Int) > (0 : Int)))
     (.need (List.length (mg (valL (mg x.1.1.2.1) / valL (mg x.1.2.2.1))) ≤ (1000000 : Nat) ∧ List.length [(1 : Int)] ≤ (1000000 : Nat) ∧ Words (mg (valL (mg x.1.1.2.1) / valL (mg x.1.2.2.1))) ∧ Words [(1 : Int)]) (.need (lenOk (List.length (mg (valL (mg (valL (mg x.1.1.2.1) / valL (mg x.1.2.2.1))) + valL [(1 : Int)]))) ∧ Words (mg (valL (mg (valL (mg x.1.1.2.1) / valL (mg x.1.2.2.1))) + valL [(1 : Int)]))) (.ite (decide (List.length (trimmed (mg (valL (mg (valL (mg x.1.1.2.1) / valL (mg x.1.2.2.1))) + valL [(1 : Int)]))) ≤ (32 : Nat)))
        (.lt (pW (x.1.1.1 && decide (x.1.1.2.1 ≠ (0 : Nat))) (trimmed (mg (valL (mg (valL (mg x.1.1.2.1) / valL (mg x.1.2.2.1))) + valL [(1 : Int)])))) (fun v0 =>
         .ret (.tup [(.agg [.v (.bool v0.1), .w v0.2]), (.one (.v (.bool (true))))])))
        (.ret (.tup [(.agg [.v (.bool w0.1), .w w0.2]), (.one (.v (.bool (false))))])))))
     (.need (lenOk (List.length (mg (valL (mg x.1.1.2.1) / valL (mg x.1.2.2.1)))) ∧ Words (mg (valL (mg x.1.1.2.1) / valL (mg x.1.2.2.1)))) (.ite (decide (List.length (trimmed (mg (valL (mg x.1.1.2.1) / valL (mg x.1.2.2.1)))) ≤ (32 : Nat)))
       (.lt (pW (x.1.1.1 && decide (x.1.1.2.1 ≠ (0 : Nat))) (trimmed (mg (valL (mg x.1.1.2.1) / valL (mg x.1.2.2.1))))) (fun v0 =>
        .ret (.tup [(.agg [.v (.bool v0.1), .w v0.2]), (.one (.v (.bool (true))))])))
       (.ret (.tup [(.agg [.v (.bool w0.1), .w w0.2]), (.one (.v (.bool (false))))])))))
    (.need (lenOk (List.length (mg (valL (mg x.1.1.2.1) / valL (mg x.1.2.2.1)))) ∧ Words (mg (valL (mg x.1.1.2.1) / valL (mg x.1.2.2.1)))) (.ite (decide (List.length (trimmed (mg (valL (mg x.1.1.2.1) / valL (mg x.1.2.2.1)))) ≤ (32 : Nat)))
      (.lt (pW (x.1.1.1 && decide (x.1.1.2.1 ≠ (0 : Nat))) (trimmed (mg (valL (mg x.1.1.2.1) / valL (mg x.1.2.2.1))))) (fun v0 =>
       .ret (.tup [(.agg [.v (.bool v0.1), .w v0.2]), (.one (.v (.bool (true))))])))
      (.ret (.tup [(.agg [.v (.bool w0.1), .w w0.2]), (.one (.v (.bool (false))))]))))))
theorem tr_pFloor_eq (x : Els [(true, cF)]) : fnP E35 (fun _ => none) Tryz.f16 (encs [(true, cF)] x) = tr_pFloor x := by kernel_rfl
noncomputable def tr_pTextRat (x : Els [(true, cF)]) : T Av :=
 .ite (!okF (x.1))
  (.ret (.one (.v (.string ({ data := #[] })))))
  (.need (mg x.1.2.2.1 = mg (valL (mg x.1.2.2.1)) ∧ [(1 : Int)] = mg (valL [(1 : Int)]) ∧ List.length (mg x.1.2.2.1) ≤ (1000000 : Nat) ∧ List.length [(1 : Int)] ≤ (1000000 : Nat)) (.ite (Pq.cz (↑(valL (mg x.1.2.2.1)) : Int) (↑(valL [(1 : Int)]) : Int) == (0 : Int))
    (.ret (.one (.v (.string (txt x.1.1)))))
    (.need ((↑(ByteArray.size (txt x.1.1) + ByteArray.size { data := #[(47 : UInt8)] }) : Int) ≤ IntKind.max .i64) (.lt (txt x.1.1 ++ { data := #[(47 : UInt8)] }) (fun v0 =>
      .need ((↑(ByteArray.size v0 + ByteArray.size (txt x.1.2)) : Int) ≤ IntKind.max .i64) (.lt (v0 ++ txt x.1.2) (fun v1 =>
        .ret (.one (.v (.string (v1)))))))))))
theorem tr_pTextRat_eq (x : Els [(true, cF)]) : fnP E35 (fun _ => none) Tryz.f26 (encs [(true, cF)] x) = tr_pTextRat x := by kernel_rfl
end Go.Proofs.YtjijakfcahhioaaGreat
/-
The reference: Safe, Floor, TextRat.
-/
set_option linter.unusedSimpArgs false
set_option linter.unusedVariables false
namespace Go.Proofs.YtjijakfcahhioaaGreat
open Go.RowKit Ax
noncomputable def con_pSafe : Con Tryz.prog := ⟨22, [], _, cf_pSafe, tot_con (E := E35) mixed Tryz.func22 no_loops [(true, cF), (false, .int .i64)] (fun x => aB (safeF x.2.1 x.1)) fun x => by
  rw [tr_pSafe_eq]
  obtain ⟨f, b, u⟩ := x
  revert f b
  intro (f : F) (b : Int)
  unfold tr_pSafe
  simp only [T.wp]
  have e1 : (zW f.1).natAbs = f.1.2.1 := Pq.zv_abs _ _
  have e2 : (zW f.2).natAbs = f.2.2.1 := Pq.zv_abs _ _
  have e : safeF b f = (decide ((Pq.bitn f.1.2.1 : Int) ≤ b) && decide ((Pq.bitn f.2.2.1 : Int) ≤ b) && okF f) := by
    unfold safeF okF
    rw [Bool.eq_iff_iff, decide_eq_true_iff]
    unfold SafeF
    simp only [Bool.and_eq_true, decide_eq_true_iff, e1, e2]
    exact ⟨fun h => ⟨⟨h.1, h.2.1⟩, h.2.2⟩, fun h => ⟨h.1.1, h.1.2, h.2⟩⟩
  rw [e]
  refine ⟨fun h => ⟨fun h2 => ?_, fun h2 => ?_⟩, fun h => ?_⟩
  · rw [h, h2]; rfl
  · rw [h, h2]; rfl
  · rw [h]; rfl⟩
theorem fl_neg {N D : Nat} (hD : 0 < D) : (-(N : Int)) / (D : Int) = -(((if N % D = 0 then N / D else N / D + 1 : Nat)) : Int) := by
  have h := Nat.div_add_mod N D
  have hl := Nat.mod_lt N hD
  generalize N / D = q at *
  generalize N % D = r at *
  have hz : (D : Int) * q + r = N := by rw [← h]; simp
  by_cases h0 : r = 0
  · rw [if_pos h0]
    refine ((Int.ediv_emod_unique (by omega : 0 < (D : Int)) (a := -(N : Int)) (r := 0) (q := -(q : Int))).2 ⟨?_, by omega, by omega⟩).1
    rw [Int.mul_neg]; omega
  · rw [if_neg h0]
    refine ((Int.ediv_emod_unique (by omega : 0 < (D : Int)) (a := -(N : Int)) (r := (D : Int) - r) (q := -((q + 1 : Nat) : Int))).2 ⟨?_, by omega, by omega⟩).1
    rw [Int.mul_neg, Int.natCast_add, Int.mul_add]; omega
noncomputable def con_pFloor : Con Tryz.prog := ⟨16, [], _, cf_pFloor, tot_con (E := E35) mixed Tryz.func16 no_loops [(true, cF)] (fun x => ansA true cW (okF x.1) (wOf (qF x.1).floor) w0) fun x => by
  rw [tr_pFloor_eq]
  obtain ⟨f, u⟩ := x
  revert f
  intro (f : F)
  unfold tr_pFloor
  simp only [T.wp]
  refine ⟨fun h => ?_, fun h => ?_⟩
  · rw [show okF f = false from by simpa using h]; rfl
  · have hok : OkF f := of_decide_eq_true (show okF f = true from by simpa using h)
    rw [show okF f = true from by simpa using h]
    obtain ⟨e1, e2⟩ := rat_parts hok
    have hpos := hok.2.1
    have hfl : (qF f).floor = zW f.1 / zW f.2 := by rw [Rat.floor_def, e1, e2]
    have eD : zW f.2 = (f.2.2.1 : Int) := by
      have : f.2.1 = false := by
        cases hs : f.2.1 with
        | false => rfl
        | true => unfold zW Pq.zv at hpos; rw [hs] at hpos; simp at hpos; omega
      unfold zW Pq.zv
      rw [this]; rfl
    have hD : 0 < f.2.2.1 := by omega
    have la := mg_w f.1
    have lb := mg_w f.2
    simp only [val_mg, trimmed_self, mg_pos_iff]
    have e3 : valL [(1 : Int)] = 1 := rfl
    have ew1 : Words [(1 : Int)] := fun v hv => by rw [List.mem_singleton] at hv; omega
    simp only [e3]
    have eN : zW f.1 = if (f.1.1 && decide (f.1.2.1 ≠ 0)) = true then -(f.1.2.1 : Int) else f.1.2.1 := by
      unfold zW Pq.zv
      cases f.1.1 with
      | false => simp
      | true =>
        by_cases h0 : f.1.2.1 = 0
        · rw [h0]; simp
        · simp [h0]
    have lq : f.1.2.1 / f.2.2.1 < Pq.bp 32 := Nat.lt_of_le_of_lt (Nat.div_le_self _ _) f.1.2.2
    have lq' := mg_len.1 lq
    have yes : ∀ (s : Bool) (q : Nat) (hq : q < Pq.bp 32), Pq.zv s q = (qF f).floor → Av.tup [.agg [.v (.bool (pW s (mg q)).1), .w (pW s (mg q)).2], .one (.v (.bool true))] = ansA true cW true (wOf (qF f).floor) w0 := fun s q hq e => by
      rw [pW_mg hq, ← e, wOf_zv hq]; rfl
    refine ⟨⟨trivial, trivial, by omega, by omega, by omega⟩, fun hn => ?_, fun hn => ?_⟩
    · rw [hn] at eN ⊢
      rw [if_pos rfl] at eN
      rw [eN, eD, fl_neg hD] at hfl
      refine ⟨fun hr => ?_, fun hr => ?_⟩
      · have hr : f.1.2.1 % f.2.2.1 ≠ 0 := of_decide_eq_true hr
        rw [if_neg hr] at hfl
        have lq2 : f.1.2.1 / f.2.2.1 + 1 < Pq.bp 32 := by
          have h1 := Int.natAbs_ediv_le_natAbs (-(f.1.2.1 : Int)) (f.2.2.1 : Int)
          rw [fl_neg hD, if_neg hr] at h1
          have := f.1.2.2
          omega
        have lq2' := mg_len.1 lq2
        refine ⟨⟨by omega, by decide, mg_words _, ew1⟩, ⟨by unfold lenOk; omega, mg_words _⟩, fun _ => ?_, fun hl => absurd lq2' (of_decide_eq_false hl)⟩
        exact yes true _ lq2 (by rw [hfl]; rfl)
      · have hr : ¬ f.1.2.1 % f.2.2.1 ≠ 0 := of_decide_eq_false hr
        rw [if_pos (by omega)] at hfl
        refine ⟨⟨by unfold lenOk; omega, mg_words _⟩, fun _ => ?_, fun hl => absurd lq' (of_decide_eq_false hl)⟩
        exact yes true _ lq (by rw [hfl]; rfl)
    · rw [hn] at eN ⊢
      rw [if_neg (by decide)] at eN
      rw [eN, eD] at hfl
      refine ⟨⟨by unfold lenOk; omega, mg_words _⟩, fun _ => ?_, fun hl => absurd lq' (of_decide_eq_false hl)⟩
      exact yes false _ lq (by rw [hfl]; rfl)⟩
noncomputable def con_pTextRat : Con Tryz.prog := ⟨26, [], _, cf_pTextRat, tot_con (E := E35) mixed Tryz.func26 no_loops [(true, cF)] (fun x => .one (.v (.string (ftxt x.1)))) fun x => by
  rw [tr_pTextRat_eq]
  obtain ⟨f, u⟩ := x
  revert f
  intro (f : F)
  unfold tr_pTextRat
  simp only [T.wp]
  have h1 := txt_size f.1
  have h2 := txt_size f.2
  have lb := mg_w f.2
  simp only [val_mg]
  have e1 : valL [(1 : Int)] = 1 := rfl
  have e2 : mg 1 = [1] := by rw [mg_pos (by decide), show 1 / 4294967296 = 0 from rfl, mg_zero]; rfl
  rw [e1, e2]
  unfold ftxt
  refine ⟨fun h => ?_, fun h => ⟨⟨trivial, rfl, by omega, by decide⟩, fun hd => ?_, fun hd => ⟨?_, ?_, ?_⟩⟩⟩
  · rw [if_neg (by simpa using h)]
  · have hok : OkF f := of_decide_eq_true (show okF f = true from by simpa using h)
    have hpos := hok.2.1
    have hd := (cz_eq _ _).1 (beq_iff_eq.1 hd)
    have : zW f.2 = 1 := by
      have h3 : (zW f.2).natAbs = f.2.2.1 := Pq.zv_abs _ _
      omega
    rw [if_pos (by simpa using h), if_pos this]
  · have : (ByteArray.size ⟨#[(47 : UInt8)]⟩) = 1 := rfl
    rw [this]
    show ((_ : Nat) : Int) ≤ 9223372036854775807
    omega
  · have : (ByteArray.size ⟨#[(47 : UInt8)]⟩) = 1 := rfl
    rw [ByteArray.size_append, this]
    show ((_ : Nat) : Int) ≤ 9223372036854775807
    omega
  · have hne : zW f.2 ≠ 1 := fun h3 => by
      have h4 : (zW f.2).natAbs = f.2.2.1 := Pq.zv_abs _ _
      rw [(cz_eq ((f.2.2.1 : Nat) : Int) ((1 : Nat) : Int)).2 (by omega)] at hd
      cases hd
    rw [if_pos (by simpa using h), if_neg hne]⟩
noncomputable def E36 : Env Tryz.prog := E35.add [con_pSafe, con_pFloor, con_pTextRat]
end Go.Proofs.YtjijakfcahhioaaGreat
