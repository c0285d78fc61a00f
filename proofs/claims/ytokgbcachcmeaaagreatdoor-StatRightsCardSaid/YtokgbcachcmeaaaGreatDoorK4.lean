import Derived.Test.YtokgbcachcmeaaaGreatDoorK3
set_option linter.unusedSimpArgs false
set_option linter.unusedVariables false
namespace Pq
open Go Go.RowKit
theorem WL_cell {P : Program} {ops : Array Oper} {Q : Exit → Act → World → Prop} {rest : List Oper} {o : Oper} {a : Act} {w : World} (p : Addr) (v : Value) (hc : w.cell? p = some v) (hw : Region.wanted o (yielded ops a.tmps) = true) (ty : TypeId) (x : Operand) (ho : o.op = .load ty x)
    (hx : a.eval x = .pointer (some p)) (d : TypeDesc) (hu : P.underlying ty = some d) (hd : d.isRow = false) (h : WL P ops Q rest (a.put o.dst v) w) : WL P ops Q (o :: rest) a w := ⟨wpL_cell p v hc hw ty x ho hx d hu hd h.out⟩
def smk (n : Bool) (x : Nat) (m : Bool) (y : Nat) : Prop := x < 1073741824 ∧ y < 1073741824 ∧ 0 < zv m y ∧ ¬ (x = 0 ∧ n = true) ∧ Nat.gcd x y = 1
instance (n : Bool) (x : Nat) (m : Bool) (y : Nat) : Decidable (smk n x m y) := by unfold smk; infer_instance
def smv (n : Bool) (x : Nat) (m : Bool) (y : Nat) : Value := .tuple #[.agg #[.int .i64 (if smk n x m y then zv n x else 0), .int .i64 (if smk n x m y then zv m y else 0)], .bool (decide (smk n x m y))]
theorem smv_no {n : Bool} {x : Nat} {m : Bool} {y : Nat} (h : ¬ smk n x m y) : smv n x m y = .tuple #[.agg #[.int .i64 0, .int .i64 0], .bool false] := by unfold smv; simp [h]
theorem smv_ok {n : Bool} {x : Nat} {m : Bool} {y : Nat} (h : smk n x m y) : smv n x m y = .tuple #[.agg #[.int .i64 (zv n x), .int .i64 (zv m y)], .bool true] := by unfold smv; simp [h]
end Pq
namespace Go.Proofs.YtokgbcachcmeaaaGreatDoor
open Go.RowKit
theorem cf_smallof (xs : Array Value) (w : World) : (callFunc 63 xs).run Tryz.prog w = .ok (.enter 63 xs) w := by kernel_rfl
theorem u_small : Tryz.prog.underlying 72 = some (.struct ((match Tryz.prog.underlying 72 with | some (.struct fs) => fs | _ => #[]))) := by kernel_rfl
theorem built_small (a d : Int) : Tryz.prog.built 72 [(0, .int .i64 a), (1, .int .i64 d)] = some #[.int .i64 a, .int .i64 d] := by kernel_rfl
theorem built_small0 : Tryz.prog.built 72 [] = some #[.int .i64 0, .int .i64 0] := by kernel_rfl
theorem al_small (w : World) : (Instr.alloc 72 true (.tuple #[])).run Tryz.prog w = .ok (.pointer (some ⟨w.heap.size, 0, none⟩)) (w.alloc (.cells #[.int .i64 0, .int .i64 0] 72)) := by kernel_rfl
theorem s_small (a d : Int) : (Tryz.prog.info? 72).map (·.size) = some (#[Value.int .i64 a, Value.int .i64 d]).size := by kernel_rfl
theorem small_one (a d : Int) : #[Value.int .i64 a, Value.int .i64 d].all (·.oneCell') = true := by simp [Value.oneCell']

set_option maxRecDepth 100000 in
set_option maxHeartbeats 1000000 in
theorem smallof_any (b o : Nat) (n : Bool) (x : Nat) (m : Bool) (y : Nat) (w : World) (hx : x < Pq.bp 32) (hy : y < Pq.bp 32) (hb : w.rangeAt b o (Pq.fl n x m y)) :
    Calls Tryz.prog 63 #[.pointer (some ⟨b, o, none⟩)] w (Pq.Ret w (Pq.smv n x m y)) := by
  obtain ⟨g, hg⟩ : ∃ g, g = w.heap.size := ⟨_, rfl⟩
  have HG := Lib.hid hg; clear hg
  obtain ⟨res, hr⟩ : ∃ res, res = Pq.smv n x m y := ⟨_, rfl⟩
  rw [← hr]
  have HRE := Lib.hid hr; clear hr
  have hf := Pq.range_frac hb
  have HN := Lib.hid hf.1; have HD := Lib.hid hf.2
  have HX := Lib.hid hx; have HY := Lib.hid hy
  clear hf hb hx hy
  have hq0 := Pq.wd_lt x 0
  have hq1 := Pq.wd_lt y 0
  obtain ⟨a, ha⟩ : ∃ a, a = Pq.zv n (Pq.wd x 0) := ⟨_, rfl⟩
  obtain ⟨d, hd⟩ : ∃ d, d = Pq.zv m (Pq.wd y 0) := ⟨_, rfl⟩
  have ha1 : a.natAbs < 4294967296 := by rw [ha, Pq.zv_abs]; exact hq0
  have hd1 : d.natAbs < 4294967296 := by rw [hd, Pq.zv_abs]; exact hq1
  obtain ⟨o1, ho1⟩ : ∃ o1, o1 = decide (x < 1073741824) := ⟨_, rfl⟩
  obtain ⟨o2, ho2⟩ : ∃ o2, o2 = decide (y < 1073741824) := ⟨_, rfl⟩
  have HA := Lib.hid ha; have HDD := Lib.hid hd; have HO1 := Lib.hid ho1; have HO2 := Lib.hid ho2
  obtain ⟨G, hG⟩ : ∃ G, G = Nat.gcd a.natAbs d.natAbs := ⟨_, rfl⟩
  have HGE := Lib.hid hG
  clear ha hd ho1 ho2 hG hq0 hq1
  go_enter Tryz.func63, Tryz.ntmps63
  go_upto_region 0 with fail
  go_upto_region 0 with fail
  apply wp_region_lit
  refine Pq.wpL_alloc g HG.out.symm (by rfl) _ rfl _ al_small ?_
  simp only [Act.put, List.setIfInBounds_toArray, List.set_cons_zero, List.set_cons_succ]
  refine Pq.wpL_step (by rfl) ?_
  apply Exists.intro
  apply Exists.intro
  refine ⟨?_, ?_⟩
  · go_simp; first | done | with_reducible rfl | exact ⟨rfl, rfl⟩
  simp only [Act.put, List.setIfInBounds_toArray, List.set_cons_zero, List.set_cons_succ]
  refine Pq.wpL_nil ?_
  go_upto_region 1 with fail
  go_upto_region 1 with fail
  apply wp_region_lit
  iterate 3
    refine Pq.wpL_step (by rfl) ?_
    apply Exists.intro
    apply Exists.intro
    refine ⟨?_, ?_⟩
    · go_simp; first | done | with_reducible rfl | exact ⟨rfl, rfl⟩
    simp only [Act.put, List.setIfInBounds_toArray, List.set_cons_zero, List.set_cons_succ]
  refine Pq.wpL_ret (by rfl) cf_little (little_any b o n x _ HX.out (Pq.al_range HN.out _)) rfl rfl ?_; intro w1 hb1; rw [← HA.out, ← HO1.out]
  simp only [Act.put, List.setIfInBounds_toArray, List.set_cons_zero, List.set_cons_succ]
  iterate 5
    refine Pq.wpL_step (by rfl) ?_
    apply Exists.intro
    apply Exists.intro
    refine ⟨?_, ?_⟩
    · go_simp; first | done | with_reducible rfl | exact ⟨rfl, rfl⟩
    simp only [Act.put, List.setIfInBounds_toArray, List.set_cons_zero, List.set_cons_succ]
  refine Pq.wpL_nil ?_
  go_upto_region 2 with fail
  go_upto_region 2 with fail
  apply wp_region_lit
  iterate 3
    refine Pq.wpL_step (by rfl) ?_
    apply Exists.intro
    apply Exists.intro
    refine ⟨?_, ?_⟩
    · go_simp; first | done | with_reducible rfl | exact ⟨rfl, rfl⟩
    simp only [Act.put, List.setIfInBounds_toArray, List.set_cons_zero, List.set_cons_succ]
  refine Pq.wpL_ret (by rfl) cf_little (little_any b (o + 33) m y _ HY.out (Pq.range_in (Pq.al_range HD.out _) hb1)) rfl rfl ?_; intro w2 hb2; rw [← HDD.out, ← HO2.out]
  simp only [Act.put, List.setIfInBounds_toArray, List.set_cons_zero, List.set_cons_succ]
  iterate 5
    refine Pq.wpL_step (by rfl) ?_
    apply Exists.intro
    apply Exists.intro
    refine ⟨?_, ?_⟩
    · go_simp; first | done | with_reducible rfl | exact ⟨rfl, rfl⟩
    simp only [Act.put, List.setIfInBounds_toArray, List.set_cons_zero, List.set_cons_succ]
  refine Pq.wpL_nil ?_
  have K := Pq.below_next (Pq.below_next (Pq.below_alloc (Below.refl _ w) (Nat.le_refl _) (.cells #[.int .i64 0, .int .i64 0] 72)) (Nat.le_refl _) hb1) (Nat.le_refl _) hb2
  have HB := Lib.hid K
  have HG0 := Lib.hid (Pq.keep_block (Pq.keep_block (Pq.al_block w (.cells #[.int .i64 0, .int .i64 0] 72) g HG.out) hb1) hb2)
  have CN := Lib.hid (Pq.range_cons HN.out).1
  clear hb1 hb2
  cases o1
  · have HRES : Hid (res = .tuple #[.agg #[.int .i64 0, .int .i64 0], .bool false]) := Lib.hid (by rw [HRE.out, Pq.smv_no (fun h => by have h9 := HO1.out; simp [h.1] at h9)])
    go_upto_region 3 with fail
    go_upto_region 3 with fail
    apply Pq.wp_region_guard
    iterate 3
      refine Pq.WL_step (by rfl) ?_
      apply Exists.intro
      apply Exists.intro
      refine ⟨?_, ?_⟩
      · go_simp; first | done | with_reducible rfl | exact ⟨rfl, rfl⟩
      simp only [Act.put, List.setIfInBounds_toArray, List.set_cons_zero, List.set_cons_succ]
    refine Pq.WL_skip (by kernel_rfl) ?_
    simp only [Act.put, List.setIfInBounds_toArray, List.set_cons_zero, List.set_cons_succ]
    refine Pq.WL_skip (by kernel_rfl) ?_
    simp only [Act.put, List.setIfInBounds_toArray, List.set_cons_zero, List.set_cons_succ]
    iterate 2
      refine Pq.WL_step (by rfl) ?_
      apply Exists.intro
      apply Exists.intro
      refine ⟨?_, ?_⟩
      · go_simp; first | done | with_reducible rfl | exact ⟨rfl, rfl⟩
      simp only [Act.put, List.setIfInBounds_toArray, List.set_cons_zero, List.set_cons_succ]
    refine Pq.WL_skip (by kernel_rfl) ?_
    simp only [Act.put, List.setIfInBounds_toArray, List.set_cons_zero, List.set_cons_succ]
    refine Pq.WL_skip (by kernel_rfl) ?_
    simp only [Act.put, List.setIfInBounds_toArray, List.set_cons_zero, List.set_cons_succ]
    iterate 2
      refine Pq.WL_step (by rfl) ?_
      apply Exists.intro
      apply Exists.intro
      refine ⟨?_, ?_⟩
      · go_simp; first | done | with_reducible rfl | exact ⟨rfl, rfl⟩
      simp only [Act.put, List.setIfInBounds_toArray, List.set_cons_zero, List.set_cons_succ]
    refine Pq.WL_skip (by kernel_rfl) ?_
    simp only [Act.put, List.setIfInBounds_toArray, List.set_cons_zero, List.set_cons_succ]
    refine Pq.WL_skip (by kernel_rfl) ?_
    simp only [Act.put, List.setIfInBounds_toArray, List.set_cons_zero, List.set_cons_succ]
    refine Pq.WL_skip (by kernel_rfl) ?_
    simp only [Act.put, List.setIfInBounds_toArray, List.set_cons_zero, List.set_cons_succ]
    refine Pq.WL_skip (by kernel_rfl) ?_
    simp only [Act.put, List.setIfInBounds_toArray, List.set_cons_zero, List.set_cons_succ]
    refine Pq.WL_skip (by kernel_rfl) ?_
    simp only [Act.put, List.setIfInBounds_toArray, List.set_cons_zero, List.set_cons_succ]
    refine Pq.WL_skip (by kernel_rfl) ?_
    simp only [Act.put, List.setIfInBounds_toArray, List.set_cons_zero, List.set_cons_succ]
    refine Pq.WL_skip (by kernel_rfl) ?_
    simp only [Act.put, List.setIfInBounds_toArray, List.set_cons_zero, List.set_cons_succ]
    refine Pq.WL_skip (by kernel_rfl) ?_
    simp only [Act.put, List.setIfInBounds_toArray, List.set_cons_zero, List.set_cons_succ]
    refine Pq.WL_skip (by kernel_rfl) ?_
    simp only [Act.put, List.setIfInBounds_toArray, List.set_cons_zero, List.set_cons_succ]
    iterate 2
      refine Pq.WL_step (by rfl) ?_
      apply Exists.intro
      apply Exists.intro
      refine ⟨?_, ?_⟩
      · go_simp; first | done | with_reducible rfl | exact ⟨rfl, rfl⟩
      simp only [Act.put, List.setIfInBounds_toArray, List.set_cons_zero, List.set_cons_succ]
    refine Pq.WL_skip (by kernel_rfl) ?_
    simp only [Act.put, List.setIfInBounds_toArray, List.set_cons_zero, List.set_cons_succ]
    refine Pq.WL_skip (by kernel_rfl) ?_
    simp only [Act.put, List.setIfInBounds_toArray, List.set_cons_zero, List.set_cons_succ]
    refine Pq.WL_skip (by kernel_rfl) ?_
    simp only [Act.put, List.setIfInBounds_toArray, List.set_cons_zero, List.set_cons_succ]
    refine Pq.WL_skip (by kernel_rfl) ?_
    simp only [Act.put, List.setIfInBounds_toArray, List.set_cons_zero, List.set_cons_succ]
    refine Pq.WL_step (by rfl) ?_
    apply Exists.intro
    apply Exists.intro
    refine ⟨?_, ?_⟩
    · go_simp; first | done | with_reducible rfl | exact ⟨rfl, rfl⟩
    simp only [Act.put, List.setIfInBounds_toArray, List.set_cons_zero, List.set_cons_succ]
    refine Pq.WL_nil ?_
    go_upto_region 4 with fail
    go_upto_region 4 with fail
    apply wp_region_lit
    refine Pq.wpL_build (by rfl) _ [] rfl [] rfl _ built_small0 ?_
    simp only [Act.put, List.setIfInBounds_toArray, List.set_cons_zero, List.set_cons_succ]
    refine Pq.wpL_store (by rfl) 72 _ _ rfl g #[.int .i64 0, .int .i64 0] rfl rfl 72 #[.int .i64 0, .int .i64 0] HG0.out (s_small _ _) rfl (small_one _ _) ?_
    try simp only [Act.put, List.setIfInBounds_toArray, List.set_cons_zero, List.set_cons_succ]
    refine Pq.wpL_step (by rfl) ?_
    apply Exists.intro
    apply Exists.intro
    refine ⟨?_, ?_⟩
    · go_simp; first | done | with_reducible rfl | exact ⟨rfl, rfl⟩
    simp only [Act.put, List.setIfInBounds_toArray, List.set_cons_zero, List.set_cons_succ]
    refine Pq.wpL_nil ?_
    go_wp2
    refine Pq.ret_cell_tmp rfl g _ _ _ _ _ rfl rfl (Pq.setRow_at HG0.out) u_small rfl (s_small _ _) rfl ⟨by rw [HRES.out]; rfl, Pq.below_setRow HB.out (by rw [HG.out]; exact Nat.le_refl _)⟩
  · have hx1 : x < 1073741824 := of_decide_eq_true HO1.out.symm
    cases o2
    · have HRES : Hid (res = .tuple #[.agg #[.int .i64 0, .int .i64 0], .bool false]) := Lib.hid (by rw [HRE.out, Pq.smv_no (fun h => by have h9 := HO2.out; simp [h.2.1] at h9)])
      go_upto_region 3 with fail
      go_upto_region 3 with fail
      apply Pq.wp_region_guard
      iterate 7
        refine Pq.WL_step (by rfl) ?_
        apply Exists.intro
        apply Exists.intro
        refine ⟨?_, ?_⟩
        · go_simp; first | done | with_reducible rfl | exact ⟨rfl, rfl⟩
        simp only [Act.put, List.setIfInBounds_toArray, List.set_cons_zero, List.set_cons_succ]
      refine Pq.WL_skip (by kernel_rfl) ?_
      simp only [Act.put, List.setIfInBounds_toArray, List.set_cons_zero, List.set_cons_succ]
      refine Pq.WL_skip (by kernel_rfl) ?_
      simp only [Act.put, List.setIfInBounds_toArray, List.set_cons_zero, List.set_cons_succ]
      iterate 2
        refine Pq.WL_step (by rfl) ?_
        apply Exists.intro
        apply Exists.intro
        refine ⟨?_, ?_⟩
        · go_simp; first | done | with_reducible rfl | exact ⟨rfl, rfl⟩
        simp only [Act.put, List.setIfInBounds_toArray, List.set_cons_zero, List.set_cons_succ]
      refine Pq.WL_skip (by kernel_rfl) ?_
      simp only [Act.put, List.setIfInBounds_toArray, List.set_cons_zero, List.set_cons_succ]
      refine Pq.WL_skip (by kernel_rfl) ?_
      simp only [Act.put, List.setIfInBounds_toArray, List.set_cons_zero, List.set_cons_succ]
      refine Pq.WL_skip (by kernel_rfl) ?_
      simp only [Act.put, List.setIfInBounds_toArray, List.set_cons_zero, List.set_cons_succ]
      refine Pq.WL_skip (by kernel_rfl) ?_
      simp only [Act.put, List.setIfInBounds_toArray, List.set_cons_zero, List.set_cons_succ]
      refine Pq.WL_skip (by kernel_rfl) ?_
      simp only [Act.put, List.setIfInBounds_toArray, List.set_cons_zero, List.set_cons_succ]
      refine Pq.WL_skip (by kernel_rfl) ?_
      simp only [Act.put, List.setIfInBounds_toArray, List.set_cons_zero, List.set_cons_succ]
      refine Pq.WL_skip (by kernel_rfl) ?_
      simp only [Act.put, List.setIfInBounds_toArray, List.set_cons_zero, List.set_cons_succ]
      refine Pq.WL_skip (by kernel_rfl) ?_
      simp only [Act.put, List.setIfInBounds_toArray, List.set_cons_zero, List.set_cons_succ]
      refine Pq.WL_skip (by kernel_rfl) ?_
      simp only [Act.put, List.setIfInBounds_toArray, List.set_cons_zero, List.set_cons_succ]
      iterate 2
        refine Pq.WL_step (by rfl) ?_
        apply Exists.intro
        apply Exists.intro
        refine ⟨?_, ?_⟩
        · go_simp; first | done | with_reducible rfl | exact ⟨rfl, rfl⟩
        simp only [Act.put, List.setIfInBounds_toArray, List.set_cons_zero, List.set_cons_succ]
      refine Pq.WL_skip (by kernel_rfl) ?_
      simp only [Act.put, List.setIfInBounds_toArray, List.set_cons_zero, List.set_cons_succ]
      refine Pq.WL_skip (by kernel_rfl) ?_
      simp only [Act.put, List.setIfInBounds_toArray, List.set_cons_zero, List.set_cons_succ]
      refine Pq.WL_skip (by kernel_rfl) ?_
      simp only [Act.put, List.setIfInBounds_toArray, List.set_cons_zero, List.set_cons_succ]
      refine Pq.WL_skip (by kernel_rfl) ?_
      simp only [Act.put, List.setIfInBounds_toArray, List.set_cons_zero, List.set_cons_succ]
      refine Pq.WL_step (by rfl) ?_
      apply Exists.intro
      apply Exists.intro
      refine ⟨?_, ?_⟩
      · go_simp; first | done | with_reducible rfl | exact ⟨rfl, rfl⟩
      simp only [Act.put, List.setIfInBounds_toArray, List.set_cons_zero, List.set_cons_succ]
      refine Pq.WL_nil ?_
      go_upto_region 4 with fail
      go_upto_region 4 with fail
      apply wp_region_lit
      refine Pq.wpL_build (by rfl) _ [] rfl [] rfl _ built_small0 ?_
      simp only [Act.put, List.setIfInBounds_toArray, List.set_cons_zero, List.set_cons_succ]
      refine Pq.wpL_store (by rfl) 72 _ _ rfl g #[.int .i64 0, .int .i64 0] rfl rfl 72 #[.int .i64 0, .int .i64 0] HG0.out (s_small _ _) rfl (small_one _ _) ?_
      try simp only [Act.put, List.setIfInBounds_toArray, List.set_cons_zero, List.set_cons_succ]
      refine Pq.wpL_step (by rfl) ?_
      apply Exists.intro
      apply Exists.intro
      refine ⟨?_, ?_⟩
      · go_simp; first | done | with_reducible rfl | exact ⟨rfl, rfl⟩
      simp only [Act.put, List.setIfInBounds_toArray, List.set_cons_zero, List.set_cons_succ]
      refine Pq.wpL_nil ?_
      go_wp2
      refine Pq.ret_cell_tmp rfl g _ _ _ _ _ rfl rfl (Pq.setRow_at HG0.out) u_small rfl (s_small _ _) rfl ⟨by rw [HRES.out]; rfl, Pq.below_setRow HB.out (by rw [HG.out]; exact Nat.le_refl _)⟩
    · have hy1 : y < 1073741824 := of_decide_eq_true HO2.out.symm
      have HAZ : Hid (a = Pq.zv n x) := Lib.hid (by rw [HA.out, Pq.wd_small (by omega)])
      have HDZ : Hid (d = Pq.zv m y) := Lib.hid (by rw [HDD.out, Pq.wd_small (by omega)])
      have HGX : Hid (G = Nat.gcd x y) := Lib.hid (by rw [HGE.out, HAZ.out, HDZ.out, Pq.zv_abs, Pq.zv_abs])
      have HX1 := Lib.hid hx1; have HY1 := Lib.hid hy1
      clear hx1 hy1
      by_cases hd0 : d ≤ 0
      · have hdd : decide (d ≤ 0) = true := decide_eq_true hd0
        have HRES : Hid (res = .tuple #[.agg #[.int .i64 0, .int .i64 0], .bool false]) := Lib.hid (by rw [HRE.out, Pq.smv_no (fun h => by have h9 := h.2.2.1; rw [← HDZ.out] at h9; omega)])
        clear hd0
        go_upto_region 3 with fail
        go_upto_region 3 with fail
        apply Pq.wp_region_guard
        iterate 11
          refine Pq.WL_step (by rfl) ?_
          apply Exists.intro
          apply Exists.intro
          refine ⟨?_, ?_⟩
          · go_simp; first | done | with_reducible rfl | exact ⟨rfl, rfl⟩
          simp only [Act.put, List.setIfInBounds_toArray, List.set_cons_zero, List.set_cons_succ]
        refine Pq.WL_skip (by kernel_rfl) ?_
        simp only [Act.put, List.setIfInBounds_toArray, List.set_cons_zero, List.set_cons_succ]
        refine Pq.WL_skip (by kernel_rfl) ?_
        simp only [Act.put, List.setIfInBounds_toArray, List.set_cons_zero, List.set_cons_succ]
        refine Pq.WL_skip (by kernel_rfl) ?_
        simp only [Act.put, List.setIfInBounds_toArray, List.set_cons_zero, List.set_cons_succ]
        refine Pq.WL_skip (by kernel_rfl) ?_
        simp only [Act.put, List.setIfInBounds_toArray, List.set_cons_zero, List.set_cons_succ]
        refine Pq.WL_skip (by kernel_rfl) ?_
        simp only [Act.put, List.setIfInBounds_toArray, List.set_cons_zero, List.set_cons_succ]
        refine Pq.WL_skip (by kernel_rfl) ?_
        simp only [Act.put, List.setIfInBounds_toArray, List.set_cons_zero, List.set_cons_succ]
        refine Pq.WL_skip (by kernel_rfl) ?_
        simp only [Act.put, List.setIfInBounds_toArray, List.set_cons_zero, List.set_cons_succ]
        refine Pq.WL_skip (by kernel_rfl) ?_
        simp only [Act.put, List.setIfInBounds_toArray, List.set_cons_zero, List.set_cons_succ]
        refine Pq.WL_skip (by kernel_rfl) ?_
        simp only [Act.put, List.setIfInBounds_toArray, List.set_cons_zero, List.set_cons_succ]
        iterate 2
          refine Pq.WL_step (by rfl) ?_
          apply Exists.intro
          apply Exists.intro
          refine ⟨?_, ?_⟩
          · go_simp; first | done | with_reducible rfl | exact ⟨rfl, rfl⟩
          simp only [Act.put, List.setIfInBounds_toArray, List.set_cons_zero, List.set_cons_succ]
        refine Pq.WL_skip (by kernel_rfl) ?_
        simp only [Act.put, List.setIfInBounds_toArray, List.set_cons_zero, List.set_cons_succ]
        refine Pq.WL_skip (by kernel_rfl) ?_
        simp only [Act.put, List.setIfInBounds_toArray, List.set_cons_zero, List.set_cons_succ]
        refine Pq.WL_skip (by kernel_rfl) ?_
        simp only [Act.put, List.setIfInBounds_toArray, List.set_cons_zero, List.set_cons_succ]
        refine Pq.WL_skip (by kernel_rfl) ?_
        simp only [Act.put, List.setIfInBounds_toArray, List.set_cons_zero, List.set_cons_succ]
        refine Pq.WL_step (by rfl) ?_
        apply Exists.intro
        apply Exists.intro
        refine ⟨?_, ?_⟩
        · go_simp; first | done | with_reducible rfl | exact ⟨rfl, rfl⟩
        simp only [Act.put, List.setIfInBounds_toArray, List.set_cons_zero, List.set_cons_succ]
        refine Pq.WL_nil ?_
        go_upto_region 4 with fail
        go_upto_region 4 with fail
        apply wp_region_lit
        refine Pq.wpL_build (by rfl) _ [] rfl [] rfl _ built_small0 ?_
        simp only [Act.put, List.setIfInBounds_toArray, List.set_cons_zero, List.set_cons_succ]
        refine Pq.wpL_store (by rfl) 72 _ _ rfl g #[.int .i64 0, .int .i64 0] rfl rfl 72 #[.int .i64 0, .int .i64 0] HG0.out (s_small _ _) rfl (small_one _ _) ?_
        try simp only [Act.put, List.setIfInBounds_toArray, List.set_cons_zero, List.set_cons_succ]
        refine Pq.wpL_step (by rfl) ?_
        apply Exists.intro
        apply Exists.intro
        refine ⟨?_, ?_⟩
        · go_simp; first | done | with_reducible rfl | exact ⟨rfl, rfl⟩
        simp only [Act.put, List.setIfInBounds_toArray, List.set_cons_zero, List.set_cons_succ]
        refine Pq.wpL_nil ?_
        go_wp2
        refine Pq.ret_cell_tmp rfl g _ _ _ _ _ rfl rfl (Pq.setRow_at HG0.out) u_small rfl (s_small _ _) rfl ⟨by rw [HRES.out]; rfl, Pq.below_setRow HB.out (by rw [HG.out]; exact Nat.le_refl _)⟩
      · have hdd : decide (d ≤ 0) = false := decide_eq_false hd0
        have HDP := Lib.hid hd0
        clear hd0
        by_cases ha0 : a = 0
        · have hx0 : x = 0 := by have h9 := Pq.zv_abs n x; rw [← HAZ.out, ha0] at h9; omega
          have HX0 := Lib.hid hx0
          have hab : (a == 0) = true := by rw [ha0]; rfl
          clear hx0 ha0
          cases n
          · by_cases hg1 : G = 1
            · have hge : ((G : Int) == 1) = true := by rw [hg1]; rfl
              have HRES : Hid (res = .tuple #[.agg #[.int .i64 a, .int .i64 d], .bool true]) := Lib.hid (by rw [HRE.out, Pq.smv_ok ⟨HX1.out, HY1.out, by rw [← HDZ.out]; have := HDP.out; omega, (fun h => by simp at h), by rw [← HGX.out]; exact hg1⟩, HAZ.out, HDZ.out])
              clear hg1
              go_upto_region 3 with fail
              go_upto_region 3 with fail
              apply Pq.wp_region_guard
              iterate 18
                refine Pq.WL_step (by rfl) ?_
                apply Exists.intro
                apply Exists.intro
                refine ⟨?_, ?_⟩
                · go_simp; first | done | with_reducible rfl | exact ⟨rfl, rfl⟩
                simp only [Act.put, List.setIfInBounds_toArray, List.set_cons_zero, List.set_cons_succ]
              refine Pq.WL_cell ⟨b, o, none⟩ _ (Pq.cell_in CN.out K) (by rfl) _ _ rfl rfl _ u_bool rfl ?_
              simp only [Act.put, List.setIfInBounds_toArray, List.set_cons_zero, List.set_cons_succ]
              iterate 5
                refine Pq.WL_step (by rfl) ?_
                apply Exists.intro
                apply Exists.intro
                refine ⟨?_, ?_⟩
                · go_simp; first | done | with_reducible rfl | exact ⟨rfl, rfl⟩
                simp only [Act.put, List.setIfInBounds_toArray, List.set_cons_zero, List.set_cons_succ]
              refine Pq.WL_ret (by rfl) cf_common (common_any a d _ (by omega) (by omega) (by omega) (by omega)) rfl rfl ?_; intro w3 hb3; rw [← HGE.out]
              simp only [Act.put, List.setIfInBounds_toArray, List.set_cons_zero, List.set_cons_succ]
              iterate 2
                refine Pq.WL_step (by rfl) ?_
                apply Exists.intro
                apply Exists.intro
                refine ⟨?_, ?_⟩
                · go_simp; first | done | with_reducible rfl | exact ⟨rfl, rfl⟩
                simp only [Act.put, List.setIfInBounds_toArray, List.set_cons_zero, List.set_cons_succ]
              refine Pq.WL_nil ?_
              go_upto_region 5 with fail
              go_upto_region 5 with fail
              apply wp_region_lit
              iterate 2
                refine Pq.wpL_step (by rfl) ?_
                apply Exists.intro
                apply Exists.intro
                refine ⟨?_, ?_⟩
                · go_simp; first | done | with_reducible rfl | exact ⟨rfl, rfl⟩
                simp only [Act.put, List.setIfInBounds_toArray, List.set_cons_zero, List.set_cons_succ]
              refine Pq.wpL_build (by rfl) _ [(0, .tmp 50), (1, .tmp 51)] rfl _ rfl _ (built_small a d) ?_
              simp only [Act.put, List.setIfInBounds_toArray, List.set_cons_zero, List.set_cons_succ]
              refine Pq.wpL_store (by rfl) 72 _ _ rfl g #[.int .i64 a, .int .i64 d] rfl rfl 72 #[.int .i64 0, .int .i64 0] (Pq.keep_block HG0.out hb3) (s_small _ _) rfl (small_one _ _) ?_
              try simp only [Act.put, List.setIfInBounds_toArray, List.set_cons_zero, List.set_cons_succ]
              refine Pq.wpL_step (by rfl) ?_
              apply Exists.intro
              apply Exists.intro
              refine ⟨?_, ?_⟩
              · go_simp; first | done | with_reducible rfl | exact ⟨rfl, rfl⟩
              simp only [Act.put, List.setIfInBounds_toArray, List.set_cons_zero, List.set_cons_succ]
              refine Pq.wpL_nil ?_
              go_wp2
              refine Pq.ret_cell_tmp rfl g _ _ _ _ _ rfl rfl (Pq.setRow_at (Pq.keep_block HG0.out hb3)) u_small rfl (s_small _ _) rfl ⟨by rw [HRES.out]; rfl, Pq.below_setRow (Pq.below_next HB.out (Nat.le_refl _) hb3) (by rw [HG.out]; exact Nat.le_refl _)⟩
            · have hge : ((G : Int) == 1) = false := (by have h4 : ¬ (G : Int) = 1 := (by omega); simpa using h4)
              have HRES : Hid (res = .tuple #[.agg #[.int .i64 0, .int .i64 0], .bool false]) := Lib.hid (by rw [HRE.out, Pq.smv_no (fun h => hg1 (by rw [HGX.out]; exact h.2.2.2.2))])
              clear hg1
              go_upto_region 3 with fail
              go_upto_region 3 with fail
              apply Pq.wp_region_guard
              iterate 18
                refine Pq.WL_step (by rfl) ?_
                apply Exists.intro
                apply Exists.intro
                refine ⟨?_, ?_⟩
                · go_simp; first | done | with_reducible rfl | exact ⟨rfl, rfl⟩
                simp only [Act.put, List.setIfInBounds_toArray, List.set_cons_zero, List.set_cons_succ]
              refine Pq.WL_cell ⟨b, o, none⟩ _ (Pq.cell_in CN.out K) (by rfl) _ _ rfl rfl _ u_bool rfl ?_
              simp only [Act.put, List.setIfInBounds_toArray, List.set_cons_zero, List.set_cons_succ]
              iterate 5
                refine Pq.WL_step (by rfl) ?_
                apply Exists.intro
                apply Exists.intro
                refine ⟨?_, ?_⟩
                · go_simp; first | done | with_reducible rfl | exact ⟨rfl, rfl⟩
                simp only [Act.put, List.setIfInBounds_toArray, List.set_cons_zero, List.set_cons_succ]
              refine Pq.WL_ret (by rfl) cf_common (common_any a d _ (by omega) (by omega) (by omega) (by omega)) rfl rfl ?_; intro w3 hb3; rw [← HGE.out]
              simp only [Act.put, List.setIfInBounds_toArray, List.set_cons_zero, List.set_cons_succ]
              iterate 2
                refine Pq.WL_step (by rfl) ?_
                apply Exists.intro
                apply Exists.intro
                refine ⟨?_, ?_⟩
                · go_simp; first | done | with_reducible rfl | exact ⟨rfl, rfl⟩
                simp only [Act.put, List.setIfInBounds_toArray, List.set_cons_zero, List.set_cons_succ]
              refine Pq.WL_nil ?_
              go_upto_region 4 with fail
              go_upto_region 4 with fail
              apply wp_region_lit
              refine Pq.wpL_build (by rfl) _ [] rfl [] rfl _ built_small0 ?_
              simp only [Act.put, List.setIfInBounds_toArray, List.set_cons_zero, List.set_cons_succ]
              refine Pq.wpL_store (by rfl) 72 _ _ rfl g #[.int .i64 0, .int .i64 0] rfl rfl 72 #[.int .i64 0, .int .i64 0] (Pq.keep_block HG0.out hb3) (s_small _ _) rfl (small_one _ _) ?_
              try simp only [Act.put, List.setIfInBounds_toArray, List.set_cons_zero, List.set_cons_succ]
              refine Pq.wpL_step (by rfl) ?_
              apply Exists.intro
              apply Exists.intro
              refine ⟨?_, ?_⟩
              · go_simp; first | done | with_reducible rfl | exact ⟨rfl, rfl⟩
              simp only [Act.put, List.setIfInBounds_toArray, List.set_cons_zero, List.set_cons_succ]
              refine Pq.wpL_nil ?_
              go_wp2
              refine Pq.ret_cell_tmp rfl g _ _ _ _ _ rfl rfl (Pq.setRow_at (Pq.keep_block HG0.out hb3)) u_small rfl (s_small _ _) rfl ⟨by rw [HRES.out]; rfl, Pq.below_setRow (Pq.below_next HB.out (Nat.le_refl _) hb3) (by rw [HG.out]; exact Nat.le_refl _)⟩
          · have HRES : Hid (res = .tuple #[.agg #[.int .i64 0, .int .i64 0], .bool false]) := Lib.hid (by rw [HRE.out, Pq.smv_no (fun h => h.2.2.2.1 ⟨HX0.out, rfl⟩)])
            go_upto_region 3 with fail
            go_upto_region 3 with fail
            apply Pq.wp_region_guard
            iterate 18
              refine Pq.WL_step (by rfl) ?_
              apply Exists.intro
              apply Exists.intro
              refine ⟨?_, ?_⟩
              · go_simp; first | done | with_reducible rfl | exact ⟨rfl, rfl⟩
              simp only [Act.put, List.setIfInBounds_toArray, List.set_cons_zero, List.set_cons_succ]
            refine Pq.WL_cell ⟨b, o, none⟩ _ (Pq.cell_in CN.out K) (by rfl) _ _ rfl rfl _ u_bool rfl ?_
            simp only [Act.put, List.setIfInBounds_toArray, List.set_cons_zero, List.set_cons_succ]
            iterate 3
              refine Pq.WL_step (by rfl) ?_
              apply Exists.intro
              apply Exists.intro
              refine ⟨?_, ?_⟩
              · go_simp; first | done | with_reducible rfl | exact ⟨rfl, rfl⟩
              simp only [Act.put, List.setIfInBounds_toArray, List.set_cons_zero, List.set_cons_succ]
            refine Pq.WL_skip (by kernel_rfl) ?_
            simp only [Act.put, List.setIfInBounds_toArray, List.set_cons_zero, List.set_cons_succ]
            refine Pq.WL_skip (by kernel_rfl) ?_
            simp only [Act.put, List.setIfInBounds_toArray, List.set_cons_zero, List.set_cons_succ]
            refine Pq.WL_skip (by kernel_rfl) ?_
            simp only [Act.put, List.setIfInBounds_toArray, List.set_cons_zero, List.set_cons_succ]
            refine Pq.WL_skip (by kernel_rfl) ?_
            simp only [Act.put, List.setIfInBounds_toArray, List.set_cons_zero, List.set_cons_succ]
            refine Pq.WL_step (by rfl) ?_
            apply Exists.intro
            apply Exists.intro
            refine ⟨?_, ?_⟩
            · go_simp; first | done | with_reducible rfl | exact ⟨rfl, rfl⟩
            simp only [Act.put, List.setIfInBounds_toArray, List.set_cons_zero, List.set_cons_succ]
            refine Pq.WL_nil ?_
            go_upto_region 4 with fail
            go_upto_region 4 with fail
            apply wp_region_lit
            refine Pq.wpL_build (by rfl) _ [] rfl [] rfl _ built_small0 ?_
            simp only [Act.put, List.setIfInBounds_toArray, List.set_cons_zero, List.set_cons_succ]
            refine Pq.wpL_store (by rfl) 72 _ _ rfl g #[.int .i64 0, .int .i64 0] rfl rfl 72 #[.int .i64 0, .int .i64 0] HG0.out (s_small _ _) rfl (small_one _ _) ?_
            try simp only [Act.put, List.setIfInBounds_toArray, List.set_cons_zero, List.set_cons_succ]
            refine Pq.wpL_step (by rfl) ?_
            apply Exists.intro
            apply Exists.intro
            refine ⟨?_, ?_⟩
            · go_simp; first | done | with_reducible rfl | exact ⟨rfl, rfl⟩
            simp only [Act.put, List.setIfInBounds_toArray, List.set_cons_zero, List.set_cons_succ]
            refine Pq.wpL_nil ?_
            go_wp2
            refine Pq.ret_cell_tmp rfl g _ _ _ _ _ rfl rfl (Pq.setRow_at HG0.out) u_small rfl (s_small _ _) rfl ⟨by rw [HRES.out]; rfl, Pq.below_setRow HB.out (by rw [HG.out]; exact Nat.le_refl _)⟩
        · have hab : (a == 0) = false := by simpa using ha0
          by_cases hg1 : G = 1
          · have hge : ((G : Int) == 1) = true := by rw [hg1]; rfl
            have HRES : Hid (res = .tuple #[.agg #[.int .i64 a, .int .i64 d], .bool true]) := Lib.hid (by rw [HRE.out, Pq.smv_ok ⟨HX1.out, HY1.out, by rw [← HDZ.out]; have := HDP.out; omega, (fun h => ha0 (by rw [HAZ.out, h.1]; unfold Pq.zv; split <;> rfl)), by rw [← HGX.out]; exact hg1⟩, HAZ.out, HDZ.out])
            clear hg1 ha0
            go_upto_region 3 with fail
            go_upto_region 3 with fail
            apply Pq.wp_region_guard
            iterate 14
              refine Pq.WL_step (by rfl) ?_
              apply Exists.intro
              apply Exists.intro
              refine ⟨?_, ?_⟩
              · go_simp; first | done | with_reducible rfl | exact ⟨rfl, rfl⟩
              simp only [Act.put, List.setIfInBounds_toArray, List.set_cons_zero, List.set_cons_succ]
            refine Pq.WL_skip (by kernel_rfl) ?_
            simp only [Act.put, List.setIfInBounds_toArray, List.set_cons_zero, List.set_cons_succ]
            refine Pq.WL_skip (by kernel_rfl) ?_
            simp only [Act.put, List.setIfInBounds_toArray, List.set_cons_zero, List.set_cons_succ]
            refine Pq.WL_skip (by kernel_rfl) ?_
            simp only [Act.put, List.setIfInBounds_toArray, List.set_cons_zero, List.set_cons_succ]
            refine Pq.WL_skip (by kernel_rfl) ?_
            simp only [Act.put, List.setIfInBounds_toArray, List.set_cons_zero, List.set_cons_succ]
            refine Pq.WL_skip (by kernel_rfl) ?_
            simp only [Act.put, List.setIfInBounds_toArray, List.set_cons_zero, List.set_cons_succ]
            iterate 5
              refine Pq.WL_step (by rfl) ?_
              apply Exists.intro
              apply Exists.intro
              refine ⟨?_, ?_⟩
              · go_simp; first | done | with_reducible rfl | exact ⟨rfl, rfl⟩
              simp only [Act.put, List.setIfInBounds_toArray, List.set_cons_zero, List.set_cons_succ]
            refine Pq.WL_ret (by rfl) cf_common (common_any a d _ (by omega) (by omega) (by omega) (by omega)) rfl rfl ?_; intro w3 hb3; rw [← HGE.out]
            simp only [Act.put, List.setIfInBounds_toArray, List.set_cons_zero, List.set_cons_succ]
            iterate 2
              refine Pq.WL_step (by rfl) ?_
              apply Exists.intro
              apply Exists.intro
              refine ⟨?_, ?_⟩
              · go_simp; first | done | with_reducible rfl | exact ⟨rfl, rfl⟩
              simp only [Act.put, List.setIfInBounds_toArray, List.set_cons_zero, List.set_cons_succ]
            refine Pq.WL_nil ?_
            go_upto_region 5 with fail
            go_upto_region 5 with fail
            apply wp_region_lit
            iterate 2
              refine Pq.wpL_step (by rfl) ?_
              apply Exists.intro
              apply Exists.intro
              refine ⟨?_, ?_⟩
              · go_simp; first | done | with_reducible rfl | exact ⟨rfl, rfl⟩
              simp only [Act.put, List.setIfInBounds_toArray, List.set_cons_zero, List.set_cons_succ]
            refine Pq.wpL_build (by rfl) _ [(0, .tmp 50), (1, .tmp 51)] rfl _ rfl _ (built_small a d) ?_
            simp only [Act.put, List.setIfInBounds_toArray, List.set_cons_zero, List.set_cons_succ]
            refine Pq.wpL_store (by rfl) 72 _ _ rfl g #[.int .i64 a, .int .i64 d] rfl rfl 72 #[.int .i64 0, .int .i64 0] (Pq.keep_block HG0.out hb3) (s_small _ _) rfl (small_one _ _) ?_
            try simp only [Act.put, List.setIfInBounds_toArray, List.set_cons_zero, List.set_cons_succ]
            refine Pq.wpL_step (by rfl) ?_
            apply Exists.intro
            apply Exists.intro
            refine ⟨?_, ?_⟩
            · go_simp; first | done | with_reducible rfl | exact ⟨rfl, rfl⟩
            simp only [Act.put, List.setIfInBounds_toArray, List.set_cons_zero, List.set_cons_succ]
            refine Pq.wpL_nil ?_
            go_wp2
            refine Pq.ret_cell_tmp rfl g _ _ _ _ _ rfl rfl (Pq.setRow_at (Pq.keep_block HG0.out hb3)) u_small rfl (s_small _ _) rfl ⟨by rw [HRES.out]; rfl, Pq.below_setRow (Pq.below_next HB.out (Nat.le_refl _) hb3) (by rw [HG.out]; exact Nat.le_refl _)⟩
          · have hge : ((G : Int) == 1) = false := (by have h4 : ¬ (G : Int) = 1 := (by omega); simpa using h4)
            have HRES : Hid (res = .tuple #[.agg #[.int .i64 0, .int .i64 0], .bool false]) := Lib.hid (by rw [HRE.out, Pq.smv_no (fun h => hg1 (by rw [HGX.out]; exact h.2.2.2.2))])
            clear hg1 ha0
            go_upto_region 3 with fail
            go_upto_region 3 with fail
            apply Pq.wp_region_guard
            iterate 14
              refine Pq.WL_step (by rfl) ?_
              apply Exists.intro
              apply Exists.intro
              refine ⟨?_, ?_⟩
              · go_simp; first | done | with_reducible rfl | exact ⟨rfl, rfl⟩
              simp only [Act.put, List.setIfInBounds_toArray, List.set_cons_zero, List.set_cons_succ]
            refine Pq.WL_skip (by kernel_rfl) ?_
            simp only [Act.put, List.setIfInBounds_toArray, List.set_cons_zero, List.set_cons_succ]
            refine Pq.WL_skip (by kernel_rfl) ?_
            simp only [Act.put, List.setIfInBounds_toArray, List.set_cons_zero, List.set_cons_succ]
            refine Pq.WL_skip (by kernel_rfl) ?_
            simp only [Act.put, List.setIfInBounds_toArray, List.set_cons_zero, List.set_cons_succ]
            refine Pq.WL_skip (by kernel_rfl) ?_
            simp only [Act.put, List.setIfInBounds_toArray, List.set_cons_zero, List.set_cons_succ]
            refine Pq.WL_skip (by kernel_rfl) ?_
            simp only [Act.put, List.setIfInBounds_toArray, List.set_cons_zero, List.set_cons_succ]
            iterate 5
              refine Pq.WL_step (by rfl) ?_
              apply Exists.intro
              apply Exists.intro
              refine ⟨?_, ?_⟩
              · go_simp; first | done | with_reducible rfl | exact ⟨rfl, rfl⟩
              simp only [Act.put, List.setIfInBounds_toArray, List.set_cons_zero, List.set_cons_succ]
            refine Pq.WL_ret (by rfl) cf_common (common_any a d _ (by omega) (by omega) (by omega) (by omega)) rfl rfl ?_; intro w3 hb3; rw [← HGE.out]
            simp only [Act.put, List.setIfInBounds_toArray, List.set_cons_zero, List.set_cons_succ]
            iterate 2
              refine Pq.WL_step (by rfl) ?_
              apply Exists.intro
              apply Exists.intro
              refine ⟨?_, ?_⟩
              · go_simp; first | done | with_reducible rfl | exact ⟨rfl, rfl⟩
              simp only [Act.put, List.setIfInBounds_toArray, List.set_cons_zero, List.set_cons_succ]
            refine Pq.WL_nil ?_
            go_upto_region 4 with fail
            go_upto_region 4 with fail
            apply wp_region_lit
            refine Pq.wpL_build (by rfl) _ [] rfl [] rfl _ built_small0 ?_
            simp only [Act.put, List.setIfInBounds_toArray, List.set_cons_zero, List.set_cons_succ]
            refine Pq.wpL_store (by rfl) 72 _ _ rfl g #[.int .i64 0, .int .i64 0] rfl rfl 72 #[.int .i64 0, .int .i64 0] (Pq.keep_block HG0.out hb3) (s_small _ _) rfl (small_one _ _) ?_
            try simp only [Act.put, List.setIfInBounds_toArray, List.set_cons_zero, List.set_cons_succ]
            refine Pq.wpL_step (by rfl) ?_
            apply Exists.intro
            apply Exists.intro
            refine ⟨?_, ?_⟩
            · go_simp; first | done | with_reducible rfl | exact ⟨rfl, rfl⟩
            simp only [Act.put, List.setIfInBounds_toArray, List.set_cons_zero, List.set_cons_succ]
            refine Pq.wpL_nil ?_
            go_wp2
            refine Pq.ret_cell_tmp rfl g _ _ _ _ _ rfl rfl (Pq.setRow_at (Pq.keep_block HG0.out hb3)) u_small rfl (s_small _ _) rfl ⟨by rw [HRES.out]; rfl, Pq.below_setRow (Pq.below_next HB.out (Nat.le_refl _) hb3) (by rw [HG.out]; exact Nat.le_refl _)⟩
end Go.Proofs.YtokgbcachcmeaaaGreatDoor
/-
Contracts that were proved by hand, for the abstract run: whole numbers.
-/
set_option linter.unusedSimpArgs false
set_option linter.unusedVariables false
namespace Ax
open Go Go.RowKit

abbrev cW : Cd := .pair .bool .words
abbrev cF : Cd := .pair cW cW
abbrev W := El cW
abbrev F := El cF
def ArgsAre (w : World) (R : Nat → Prop) (ts : List (Bool × Cd)) (x : Els ts) (vs : List Value) : Prop :=
  vs.length = (encs ts x).length ∧ ∀ (i : Nat) a v, (encs ts x)[i]? = some a → vs[i]? = some v → AvIs w R [] a v

theorem ret_con {P : Program} {f : FuncId} (ts : List (Bool × Cd)) (sp : Els ts → T Av)
    (h : ∀ x vs w R Q, ArgsAre w R ts x vs → (sp x).wp Q → ∃ v av, Q av ∧ Calls P f vs.toArray w (Pq.Ret w v) ∧ ∀ w' R, AvIs w' R [] av v) : ConOk P f [] (pureRun' ts sp) := by
  intro w φ σ m args vs Q hmem hlen hargs hrun
  unfold pureRun' at hrun
  split at hrun
  · rename_i x hx
    rw [T.wp_bind] at hrun
    obtain ⟨v, av, hQ, hc, hv⟩ := h x vs w _ _ (decs_ok ts args x vs hx hlen hargs) hrun
    refine hc.mono fun e w' hr => ?_
    obtain ⟨rfl, hb⟩ := hr
    have hk := Keep.of_below hb σ
    have hown : ∀ i b : Nat, σ[i]? = some b → w'.heap[b]? = w.heap[b]? := fun i b hi => hb.block b (hmem.lt (List.mem_of_getElem? hi))
    exact ⟨v, av, m, σ, rfl, hQ, Ext.refl _ _, hk, fun i b hi _ => hown i b hi, (hv w' _).ro (fun _ h => h) σ, hmem.stay hk (Ext.refl _ _) rfl hown⟩
  · exact hrun.elim

theorem is_w {w : World} {R : Nat → Prop} {x : W} {us : List Value} (h : Is w R [] (ck cW x) us) : us = Pq.wl x.1 x.2.1 := by
  obtain ⟨t, rfl, h1⟩ := is_v h
  cases h1 with | w h2 => cases h2; simp [Pq.wl]
theorem w_is (w : World) (R : Nat → Prop) (σ : List Nat) (x : W) : Is w R σ (ck cW x) (Pq.wl x.1 x.2.1) := by
  have : Is w R σ (ck cW x) (.bool x.1 :: (Pq.am 32 x.2.1 ++ [])) := .v rfl (.w .nil)
  rwa [List.append_nil] at this
theorem av_w {w : World} {R : Nat → Prop} {x : W} {v : Value} (h : AvIs w R [] (encA true cW x) v) : v = .agg (Pq.wc x.1 x.2.1) := by
  cases h with | agg h => rw [is_w h]; rfl
theorem w_av (w : World) (R : Nat → Prop) (σ : List Nat) (x : W) : AvIs w R σ (.agg (ck cW x)) (.agg (Pq.wc x.1 x.2.1)) := .agg (w_is w R σ x)
theorem args1 {w : World} {R : Nat → Prop} {t : Bool × Cd} {x : Els [t]} {vs : List Value} (h : ArgsAre w R [t] x vs) : ∃ v, vs = [v] ∧ AvIs w R [] (encA t.1 t.2 x.1) v := by
  obtain ⟨hl, h⟩ := h
  match vs, hl with
  | [v], _ => exact ⟨v, rfl, h 0 _ v rfl rfl⟩
theorem args2 {w : World} {R : Nat → Prop} {t u : Bool × Cd} {x : Els [t, u]} {vs : List Value} (h : ArgsAre w R [t, u] x vs) : ∃ v v', vs = [v, v'] ∧ AvIs w R [] (encA t.1 t.2 x.1) v ∧ AvIs w R [] (encA u.1 u.2 x.2.1) v' := by
  obtain ⟨hl, h⟩ := h
  match vs, hl with
  | [v, v'], _ => exact ⟨v, v', rfl, h 0 _ v rfl rfl, h 1 _ v' rfl rfl⟩
def zW (x : W) : Int := Pq.zv x.1 x.2.1
def w0 : W := (false, ⟨0, Pq.bp_pos 32⟩)
def wOf (z : Int) : W := if h : z.natAbs < Pq.bp 32 then (decide (z < 0), ⟨z.natAbs, h⟩) else w0
theorem wOf_ok {z : Int} (h : z.natAbs < Pq.bp 32) : Pq.wc (wOf z).1 (wOf z).2.1 = Pq.wz z := by unfold wOf; rw [dif_pos h]; rfl
theorem wOf_no {z : Int} (h : ¬ z.natAbs < Pq.bp 32) : Pq.wc (wOf z).1 (wOf z).2.1 = Pq.wz 0 := by unfold wOf; rw [dif_neg h]; rfl
def rW (z : Int) : Av := .tup [.agg (ck cW (wOf z)), .one (.v (.bool (Pq.fits z)))]
theorem rW_is (w : World) (R : Nat → Prop) (z : Int) : AvIs w R [] (rW z) (Pq.rz z) := by
  have h : AvIs w R [] (rW z) (.tuple [.agg (Pq.wc (wOf z).1 (wOf z).2.1), .bool (Pq.fits z)].toArray) := AvIs.tup _ rfl fun i a u ha hu => by
    match i, ha, hu with
    | 0, rfl, rfl => exact w_av _ _ _ _
    | 1, rfl, rfl => exact .val rfl
  have e : Pq.rz z = .tuple [.agg (Pq.wc (wOf z).1 (wOf z).2.1), .bool (Pq.fits z)].toArray := by
    unfold Pq.rz
    by_cases hz : z.natAbs < Pq.bp 32
    · have hf : Pq.fits z = true := by simpa [Pq.fits] using hz
      rw [wOf_ok hz, hf]; rfl
    · have hf : Pq.fits z = false := by simpa [Pq.fits] using hz
      rw [wOf_no hz, hf]; rfl
  rw [e]; exact h

theorem wOf_nat {n : Nat} (h : n < Pq.bp 32) : Pq.wc (wOf (n : Int)).1 (wOf (n : Int)).2.1 = Pq.wc false n := by
  rw [wOf_ok (by simpa using h), Pq.wz_nat]
theorem int_av {w : World} {R : Nat → Prop} {k : IntKind} {z : Int} {v : Value} (h : AvIs w R [] (encA false (.int k) z) v) : v = .int k z := val_of h rfl
theorem two_av {w : World} {R : Nat → Prop} {a b : Av} {x y : Value} (h1 : AvIs w R [] a x) (h2 : AvIs w R [] b y) : AvIs w R [] (.tup [a, b]) (.tuple #[x, y]) := by
  have : AvIs w R [] (.tup [a, b]) (.tuple [x, y].toArray) := AvIs.tup _ rfl fun i c u hc hu => by
    match i, hc, hu with
    | 0, rfl, rfl => exact h1
    | 1, rfl, rfl => exact h2
  exact this
theorem three_av {w : World} {R : Nat → Prop} {a b c : Av} {x y z : Value} (h1 : AvIs w R [] a x) (h2 : AvIs w R [] b y) (h3 : AvIs w R [] c z) : AvIs w R [] (.tup [a, b, c]) (.tuple #[x, y, z]) := by
  have : AvIs w R [] (.tup [a, b, c]) (.tuple [x, y, z].toArray) := AvIs.tup _ rfl fun i c u hc hu => by
    match i, hc, hu with
    | 0, rfl, rfl => exact h1
    | 1, rfl, rfl => exact h2
    | 2, rfl, rfl => exact h3
  exact this
def aI (k : IntKind) (z : Int) : Av := .one (.v (.int k z))
def aB (b : Bool) : Av := .one (.v (.bool b))
def aW (z : Int) : Av := .agg (ck cW (wOf z))
theorem aW_is (w : World) (R : Nat → Prop) {z : Int} (h : z.natAbs < Pq.bp 32) : AvIs w R [] (aW z) (.agg (Pq.wz z)) := by
  have := w_av w R [] (wOf z)
  rwa [wOf_ok h] at this
def dmA (a b : Int) : Av := .tup [aW (if b = 0 then 0 else a.tdiv b), aW (if b = 0 then 0 else a.tmod b), aB (decide (b ≠ 0))]
theorem tdiv_le (a b : Int) : (a.tdiv b).natAbs ≤ a.natAbs := by rw [Int.natAbs_tdiv]; exact Nat.div_le_self _ _
theorem tmod_le (a b : Int) : (a.tmod b).natAbs ≤ a.natAbs := by rw [Int.natAbs_tmod]; exact Nat.mod_le _ _
theorem dmA_is (w : World) (R : Nat → Prop) {a b : Int} (ha : a.natAbs < Pq.bp 32) : AvIs w R [] (dmA a b) (Pq.dmv a b) := by
  unfold dmA Pq.dmv
  by_cases hb : b = 0
  · simp only [hb, if_true]
    exact three_av (aW_is _ _ (Pq.bp_pos 32)) (aW_is _ _ (Pq.bp_pos 32)) (.val rfl)
  · simp only [hb, if_false]
    exact three_av (aW_is _ _ (Nat.lt_of_le_of_lt (tdiv_le _ _) ha)) (aW_is _ _ (Nat.lt_of_le_of_lt (tmod_le _ _) ha)) (.val rfl)
def rOf (r : Rat) : F := (wOf r.num, wOf (r.den : Int))
theorem zW_lt (x : W) : (zW x).natAbs < Pq.bp 32 := by unfold zW; rw [Pq.zv_abs]; exact x.2.2

/-! ### arguments that are pointers -/
def derefA (m : Mem) (c : Cd) (av : Av) : Option (El c) :=
  match av with
  | .one (.p i off) => match m[i]? with
    | some (_, cs) => match sub off (csz c) cs with
      | some r => match parse c r with
        | some (x, []) => some x
        | _ => none
      | none => none
    | none => none
  | .one (.pr cs) => match sub 0 (csz c) cs with
    | some r => match parse c r with
      | some (x, []) => some x
      | _ => none
    | none => none
  | _ => none
theorem deref_ok {w : World} {φ σ : List Nat} {m : Mem} {c : Cd} {av : Av} {x : El c} {v : Value} (hm : MemOk w φ σ m) (h : AvIs w (Ro w φ σ) σ av v) (hd : derefA m c av = some x) :
    ∃ b o us, v = .pointer (some ⟨b, o, none⟩) ∧ w.rangeAt b o us ∧ Is w (Ro w φ σ) [] (ck c x) us := by
  unfold derefA at hd
  split at hd
  · rename_i i off
    obtain ⟨b, hb, rfl⟩ := is_one_p h
    split at hd
    · rename_i t cs hmi
      split at hd
      · rename_i r hr
        split at hd
        · rename_i y hp
          cases hd
          obtain ⟨us, hbl, his⟩ := hm.blk i t cs b hmi hb
          obtain ⟨ua, um, ub, rfl, e1, e2, i2⟩ := is_sub his hr
          obtain ⟨va, vb, rfl, j1, j2⟩ := parse_ok c r x [] um hp i2
          cases j2
          have hrg := range_part (range_of_block hbl)
          rw [Nat.zero_add, e1, List.append_nil] at hrg
          exact ⟨b, off, va, rfl, hrg, j1⟩
        · cases hd
      · cases hd
    · cases hd
  · rename_i cs
    obtain ⟨b, o, vs, hR, hrg, hcs, rfl⟩ := is_one_pr h
    split at hd
    · rename_i r hr
      split at hd
      · rename_i y hp
        cases hd
        obtain ⟨ua, um, ub, rfl, e1, e2, i2⟩ := is_sub hcs hr
        obtain ⟨va, vb, rfl, j1, j2⟩ := parse_ok c r x [] um hp i2
        cases j2
        have hrg := range_part hrg
        rw [e1, List.append_nil, Nat.add_zero] at hrg
        exact ⟨b, o, va, rfl, hrg, j1⟩
      · cases hd
    · cases hd
  · cases hd
def ptrRun (c : Cd) (sp : El c → T Av) (args : List Av) (m : Mem) : T (Av × Mem) :=
  match args with
  | [a] => match derefA m c a with
    | some x => (sp x).bind fun av => .ret (av, m)
    | none => .fail
  | _ => .fail
theorem ptr_con {P : Program} {f : FuncId} (c : Cd) (sp : El c → T Av)
    (h : ∀ x b o us w R Q, w.rangeAt b o us → Is w R [] (ck c x) us → (sp x).wp Q → ∃ v av, Q av ∧ Calls P f #[.pointer (some ⟨b, o, none⟩)] w (Pq.Ret w v) ∧ ∀ w' R, AvIs w' R [] av v) : ConOk P f [] (ptrRun c sp) := by
  intro w φ σ m args vs Q hmem hlen hargs hrun
  unfold ptrRun at hrun
  split at hrun
  · rename_i a
    obtain ⟨v0, rfl⟩ : ∃ v, vs = [v] := by
      match vs, hlen with
      | [v], _ => exact ⟨v, rfl⟩
    split at hrun
    · rename_i x hx
      rw [T.wp_bind] at hrun
      obtain ⟨b, o, us, rfl, hrg, his⟩ := deref_ok hmem (hargs 0 a v0 rfl rfl) hx
      obtain ⟨v, av, hQ, hc, hv⟩ := h x b o us w _ _ hrg his hrun
      refine hc.mono fun e w' hr => ?_
      obtain ⟨rfl, hb⟩ := hr
      have hk := Keep.of_below hb σ
      have hown : ∀ i b : Nat, σ[i]? = some b → w'.heap[b]? = w.heap[b]? := fun i b hi => hb.block b (hmem.lt (List.mem_of_getElem? hi))
      exact ⟨v, av, m, σ, rfl, hQ, Ext.refl _ _, hk, fun i b hi _ => hown i b hi, (hv w' _).ro (fun _ h => h) σ, hmem.stay hk (Ext.refl _ _) rfl hown⟩
    · exact hrun.elim
  · exact hrun.elim
theorem is_f {w : World} {R : Nat → Prop} {x : F} {us : List Value} (h : Is w R [] (ck cF x) us) : us = Pq.fl x.1.1 x.1.2.1 x.2.1 x.2.2.1 := by
  obtain ⟨t, rfl, h1⟩ := is_v h
  cases h1 with | w h2 =>
  obtain ⟨t, rfl, h3⟩ := is_v h2
  cases h3 with | w h4 => cases h4; simp [Pq.fl, Pq.wl]
theorem f_is (w : World) (R : Nat → Prop) (σ : List Nat) (x : F) : Is w R σ (ck cF x) (Pq.fl x.1.1 x.1.2.1 x.2.1 x.2.2.1) := (w_is w R σ x.1).app (w_is w R σ x.2)
theorem f_av (w : World) (R : Nat → Prop) (σ : List Nat) (x : F) : AvIs w R σ (.agg (ck cF x)) (.agg (Pq.fc x.1.1 x.1.2.1 x.2.1 x.2.2.1)) := .agg (f_is w R σ x)
def isW (x : W) : Bool := !x.1 || !(x.2.1 == 0)
def in64 (z : Int) : Prop := -9223372036854775808 ≤ z ∧ z ≤ 9223372036854775807
def in63 (z : Int) : Prop := -9223372036854775807 ≤ z ∧ z ≤ 9223372036854775807
def smB (x : F) : Bool := decide (Pq.smk x.1.1 x.1.2.1 x.2.1 x.2.2.1)
abbrev cS : Cd := .pair (.int .i64) (.int .i64)
def smA (x : F) : Av := .tup [.agg (ck cS (if smB x then (zW x.1, zW x.2) else (0, 0))), aB (smB x)]
end Ax
namespace Go.Proofs.YtokgbcachcmeaaaGreatDoor
open Go.RowKit Ax

noncomputable def con_neg : Con Tryz.prog := ⟨58, [], pureRun' [(true, cW)] (fun x => .lt (-(zW x.1)) fun z => .ret (aW z)), cf_neg, ret_con _ _ fun x vs w R Q ha hQ => by
  obtain ⟨v, rfl, h1⟩ := args1 ha
  rw [av_w h1]
  exact ⟨_, _, hQ, neg_any x.1.1 x.1.2.1 w x.1.2.2, fun w' R' => aW_is _ _ (by rw [Int.natAbs_neg]; exact zW_lt _)⟩⟩
noncomputable def con_add : Con Tryz.prog := ⟨62, [], pureRun' [(true, cW), (true, cW)] (fun x => .lt (zW x.1 + zW x.2.1) fun z => .ret (rW z)), cf_add, ret_con _ _ fun x vs w R Q ha hQ => by
  obtain ⟨v, v', rfl, h1, h2⟩ := args2 ha
  rw [av_w h1, av_w h2]
  exact ⟨_, _, hQ, add_any x.1.1 x.1.2.1 x.2.1.1 x.2.1.2.1 w x.1.2.2 x.2.1.2.2, fun w' R' => rW_is _ _ _⟩⟩
noncomputable def con_mul : Con Tryz.prog := ⟨67, [], pureRun' [(true, cW), (true, cW)] (fun x => .lt (zW x.1 * zW x.2.1) fun z => .ret (rW z)), cf_mul, ret_con _ _ fun x vs w R Q ha hQ => by
  obtain ⟨v, v', rfl, h1, h2⟩ := args2 ha
  rw [av_w h1, av_w h2]
  exact ⟨_, _, hQ, mul_any x.1.1 x.1.2.1 x.2.1.1 x.2.1.2.1 w x.1.2.2 x.2.1.2.2, fun w' R' => rW_is _ _ _⟩⟩
noncomputable def con_cmp : Con Tryz.prog := ⟨46, [], pureRun' [(true, cW), (true, cW)] (fun x => .ret (aI .i64 (Pq.cz (zW x.1) (zW x.2.1)))), cf_wcmp, ret_con _ _ fun x vs w R Q ha hQ => by
  obtain ⟨v, v', rfl, h1, h2⟩ := args2 ha
  rw [av_w h1, av_w h2]
  exact ⟨_, _, hQ, cmp_any x.1.1 x.1.2.1 x.2.1.1 x.2.1.2.1 w x.1.2.2 x.2.1.2.2, fun w' R' => .val rfl⟩⟩
noncomputable def con_bits : Con Tryz.prog := ⟨56, [], pureRun' [(true, cW)] (fun x => .ret (aI .i64 ((Pq.bitn (zW x.1).natAbs : Nat) : Int))), cf_bits, ret_con _ _ fun x vs w R Q ha hQ => by
  obtain ⟨v, rfl, h1⟩ := args1 ha
  rw [av_w h1]
  exact ⟨_, _, hQ, bits_any x.1.1 x.1.2.1 w x.1.2.2, fun w' R' => by unfold zW; rw [Pq.zv_abs]; exact .val rfl⟩⟩
noncomputable def con_is : Con Tryz.prog := ⟨57, [], pureRun' [(true, cW)] (fun x => .ret (aB (isW x.1))), cf_is, ret_con _ _ fun x vs w R Q ha hQ => by
  obtain ⟨v, rfl, h1⟩ := args1 ha
  rw [av_w h1]
  exact ⟨_, _, hQ, is_any x.1.1 x.1.2.1 w x.1.2.2, fun w' R' => .val rfl⟩⟩
noncomputable def con_divmod : Con Tryz.prog := ⟨60, [], pureRun' [(true, cW), (true, cW)] (fun x => .lt (zW x.1) fun a => .lt (zW x.2.1) fun b => .ret (dmA a b)), cf_divmod, ret_con _ _ fun x vs w R Q ha hQ => by
  obtain ⟨v, v', rfl, h1, h2⟩ := args2 ha
  rw [av_w h1, av_w h2]
  exact ⟨_, _, hQ, divmod_any x.1.1 x.1.2.1 x.2.1.1 x.2.1.2.1 w x.1.2.2 x.2.1.2.2, fun w' R' => dmA_is _ _ (zW_lt _)⟩⟩
theorem gcd_lt' {x y : Nat} (hx : x < Pq.bp 32) (hy : y < Pq.bp 32) : Nat.gcd x y < Pq.bp 32 := by
  rcases Nat.eq_zero_or_pos y with h | h
  · rw [h, Nat.gcd_zero_right]; exact hx
  · exact Nat.lt_of_le_of_lt (Nat.gcd_le_right _ h) hy
noncomputable def con_gcd : Con Tryz.prog := ⟨59, [], pureRun' [(true, cW), (true, cW)] (fun x => .lt ((Nat.gcd (zW x.1).natAbs (zW x.2.1).natAbs : Nat) : Int) fun z => .ret (aW z)), cf_gcd, ret_con _ _ fun x vs w R Q ha hQ => by
  obtain ⟨v, v', rfl, h1, h2⟩ := args2 ha
  rw [av_w h1, av_w h2]
  refine ⟨_, _, hQ, gcd_any x.1.1 x.1.2.1 x.2.1.1 x.2.1.2.1 w x.1.2.2 x.2.1.2.2, fun w' R' => ?_⟩
  unfold zW
  rw [Pq.zv_abs, Pq.zv_abs]
  have h := w_av w' R' [] (wOf ((Nat.gcd x.1.2.1 x.2.1.2.1 : Nat) : Int))
  rw [wOf_nat (gcd_lt' x.1.2.2 x.2.1.2.2)] at h
  exact h⟩
theorem i64_lt {z : Int} (h1 : -9223372036854775808 ≤ z) (h2 : z ≤ 9223372036854775807) : z.natAbs < Pq.bp 32 := by
  have h3 : Pq.bp 2 ≤ Pq.bp 32 := Pq.bp_mono (by omega)
  have h4 : Pq.bp 2 = 18446744073709551616 := by decide
  omega
noncomputable def con_from : Con Tryz.prog := ⟨29, [], pureRun' [(false, .int .i64)] (fun x => .need (in64 x.1) (.ret (aW x.1))), cf_from, ret_con _ _ fun x vs w R Q ha hQ => by
  obtain ⟨v, rfl, h1⟩ := args1 ha
  rw [int_av h1]
  exact ⟨_, _, hQ.2, from_any x.1 w hQ.1.1 hQ.1.2, fun w' R' => aW_is _ _ (i64_lt hQ.1.1 hQ.1.2)⟩⟩
noncomputable def con_one : Con Tryz.prog := ⟨30, [], pureRun' [] (fun _ => .ret (aW 1)), cf_one, ret_con _ _ fun x vs w R Q ha hQ => by
  obtain ⟨hl, _⟩ := ha
  obtain rfl : vs = [] := List.length_eq_zero_iff.1 (by simpa [encs] using hl)
  exact ⟨_, _, hQ, one_any w, fun w' R' => aW_is (z := 1) _ _ Pq.bp_one_lt⟩⟩
noncomputable def con_isone : Con Tryz.prog := ⟨49, [], pureRun' [(true, cW)] (fun x => .ret (aB (decide (zW x.1 = 1)))), cf_isone, ret_con _ _ fun x vs w R Q ha hQ => by
  obtain ⟨v, rfl, h1⟩ := args1 ha
  rw [av_w h1]
  exact ⟨_, _, hQ, isone_any x.1.1 x.1.2.1 w x.1.2.2, fun w' R' => .val rfl⟩⟩
noncomputable def con_common : Con Tryz.prog := ⟨64, [], pureRun' [(false, .int .i64), (false, .int .i64)] (fun x => .need (in63 x.1 ∧ in63 x.2.1) (.ret (aI .i64 ((Nat.gcd x.1.natAbs x.2.1.natAbs : Nat) : Int)))), cf_common, ret_con _ _ fun x vs w R Q ha hQ => by
  obtain ⟨v, v', rfl, h1, h2⟩ := args2 ha
  rw [int_av h1, int_av h2]
  exact ⟨_, _, hQ.2, common_any x.1 x.2.1 w hQ.1.1.1 hQ.1.1.2 hQ.1.2.1 hQ.1.2.2, fun w' R' => .val rfl⟩⟩
noncomputable def con_wideof : Con Tryz.prog := ⟨65, [], pureRun' [(false, .int .i64)] (fun x => .need (in63 x.1) (.ret (aW x.1))), cf_wideof, ret_con _ _ fun x vs w R Q ha hQ => by
  obtain ⟨v, rfl, h1⟩ := args1 ha
  rw [int_av h1]
  exact ⟨_, _, hQ.2, wideof_any x.1 w hQ.1.1 hQ.1.2, fun w' R' => aW_is _ _ (i64_lt (by have := hQ.1.1; omega) hQ.1.2)⟩⟩
theorem divInt_le {a b : Int} (hb : b ≠ 0) : (Rat.divInt a b).num.natAbs ≤ a.natAbs ∧ (Rat.divInt a b).den ≤ b.natAbs := by
  have key : ∀ (p : Int) (q : Nat), q ≠ 0 → (mkRat p q).num.natAbs ≤ p.natAbs ∧ (mkRat p q).den ≤ q := fun p q hq => by
    rw [← Rat.normalize_eq_mkRat hq, Rat.normalize_eq]
    exact ⟨Int.natAbs_ediv_le_natAbs _ _, Nat.div_le_self _ _⟩
  obtain ⟨q, rfl | rfl⟩ : ∃ q : Nat, b = q ∨ b = -q := ⟨b.natAbs, by omega⟩
  · rw [Rat.divInt_ofNat]
    have := key a q (by omega)
    exact ⟨this.1, by simpa using this.2⟩
  · rw [Rat.divInt_neg', Rat.divInt_ofNat]
    have := key (-a) q (by omega)
    exact ⟨by simpa using this.1, by simpa using this.2⟩
theorem rc_is (w : World) (R : Nat → Prop) {r : Rat} (h1 : r.num.natAbs < Pq.bp 32) (h2 : r.den < Pq.bp 32) : AvIs w R [] (.agg (ck cF (rOf r))) (.agg (Pq.rc r)) := by
  have h := f_av w R [] (rOf r)
  have e1 := wOf_ok h1
  have e2 := wOf_nat h2
  unfold Pq.wc at e1 e2
  have e1' := congrArg Array.toList e1
  have e2' := congrArg Array.toList e2
  have : Pq.fc (rOf r).1.1 (rOf r).1.2.1 (rOf r).2.1 (rOf r).2.2.1 = Pq.rc r := by
    unfold Pq.fc Pq.rc Pq.fc Pq.fl
    simp only [rOf] at e1' e2' ⊢
    rw [show Pq.wl (wOf r.num).1 (wOf r.num).2.1 = Pq.wl (decide (r.num < 0)) r.num.natAbs from by simpa [Pq.wz, Pq.wc] using e1', show Pq.wl (wOf (r.den : Int)).1 (wOf (r.den : Int)).2.1 = Pq.wl false r.den from by simpa using e2']
  rwa [this] at h
noncomputable def con_made : Con Tryz.prog := ⟨33, [], pureRun' [(false, .int .i64), (false, .int .i64)] (fun x => .need (in63 x.1 ∧ in63 x.2.1 ∧ x.2.1 ≠ 0) (.lt (rOf (Rat.divInt x.1 x.2.1)) fun f => .ret (.agg (ck cF f)))), cf_made, ret_con _ _ fun x vs w R Q ha hQ => by
  obtain ⟨v, v', rfl, h1, h2⟩ := args2 ha
  rw [int_av h1, int_av h2]
  obtain ⟨⟨k1, k2, k3⟩, hQ⟩ := hQ
  have hd := divInt_le (a := x.1) k3
  have l1 := i64_lt (z := x.1) (by have := k1.1; omega) k1.2
  have l2 := i64_lt (z := x.2.1) (by have := k2.1; omega) k2.2
  exact ⟨_, _, hQ, made_any x.1 x.2.1 w k1.1 k1.2 k2.1 k2.2 k3, fun w' R' => rc_is _ _ (by omega) (by omega)⟩⟩
noncomputable def con_smallof : Con Tryz.prog := ⟨63, [], ptrRun cF (fun x => .ret (smA x)), cf_smallof, ptr_con _ _ fun x b o us w R Q hrg his hQ => by
  have e := is_f his
  subst e
  refine ⟨_, _, hQ, smallof_any b o x.1.1 x.1.2.1 x.2.1 x.2.2.1 w x.1.2.2 x.2.2.2 hrg, fun w' R' => ?_⟩
  unfold smA smB Pq.smv
  refine two_av ?_ (.val rfl)
  by_cases h : Pq.smk x.1.1 x.1.2.1 x.2.1 x.2.2.1
  · simp only [h, decide_true, if_true]
    exact .agg (us := [_, _]) (.v rfl (.v rfl .nil))
  · simp only [h, decide_false, Bool.false_eq_true, if_false]
    exact .agg (us := [_, _]) (.v rfl (.v rfl .nil))⟩

noncomputable def zeroW : Zero Tryz.prog := ⟨26, ck cW w0, Pq.wl false 0, by kernel_rfl, fun w R σ => w_is w R σ w0⟩
noncomputable def zeroF : Zero Tryz.prog := ⟨28, ck cF (w0, w0), Pq.fl false 0 false 0, by kernel_rfl, fun w R σ => f_is w R σ (w0, w0)⟩
noncomputable def zeroS : Zero Tryz.prog := ⟨72, ck cS (0, 0), [.int .i64 0, .int .i64 0], by kernel_rfl, fun w R σ => .v rfl (.v rfl .nil)⟩
noncomputable def zeroB : Zero Tryz.prog := ⟨4, ck .bool false, [.bool false], by kernel_rfl, fun w R σ => .v rfl .nil⟩
noncomputable def codF : Cod Tryz.prog := ⟨28, cF, by kernel_rfl, ⟨.agg (Pq.fc false 0 false 0), fun w => by kernel_rfl⟩⟩
noncomputable def E1 : Env Tryz.prog := ⟨[con_neg, con_add, con_mul, con_cmp, con_bits, con_is, con_divmod, con_gcd, con_from, con_one, con_isone, con_common, con_wideof, con_made, con_smallof], [zeroW, zeroF, zeroS, zeroB], [codF], fun _ => false, 0, fun _ => []⟩
end Go.Proofs.YtokgbcachcmeaaaGreatDoor
/-
Fractions as rationals: plain laws.
-/
set_option linter.unusedSimpArgs false
set_option linter.unusedVariables false
namespace Ax
open Go Go.RowKit

theorem pow_to {a j k : Nat} (h : a < 2 ^ j) (hk : j ≤ k) : a < 2 ^ k := Nat.lt_of_lt_of_le h (Nat.pow_le_pow_right (by omega) hk)
theorem pow_eq2 {a m n k : Nat} (h : a = 2 ^ m) (hk : k = m * n) : a ^ n = 2 ^ k := by subst h hk; rw [Nat.pow_mul]
theorem bp_ge {k : Nat} (n : Nat) (hn : n = 1024) (hk : k ≤ n) : 2 ^ k ≤ Pq.bp 32 := by
  have e : Pq.bp 32 = 2 ^ n := pow_eq2 (m := 32) (n := 32) rfl (by omega)
  rw [e]
  exact Nat.pow_le_pow_right (by omega) hk
theorem bp_le {a : Nat} (n : Nat) (hn : n = 1024) (ha : a < Pq.bp 32) : a < 2 ^ n := by
  have e : Pq.bp 32 = 2 ^ n := pow_eq2 (m := 32) (n := 32) rfl (by omega)
  rwa [e] at ha
theorem pow_mul_e {a b j k n : Nat} (hn : n = j + k) (ha : a < 2 ^ j) (hb : b < 2 ^ k) : a * b < 2 ^ n := by
  subst hn
  rw [Nat.pow_add]; exact Nat.mul_lt_mul'' ha hb
theorem pow_mul_ez {a b : Int} {j k n : Nat} (hn : n = j + k) (ha : a.natAbs < 2 ^ j) (hb : b.natAbs < 2 ^ k) : (a * b).natAbs < 2 ^ n := by
  rw [Int.natAbs_mul]; exact pow_mul_e hn ha hb
theorem pow_add_ez {a b : Int} {k n : Nat} (hn : n = k + 1) (ha : a.natAbs < 2 ^ k) (hb : b.natAbs < 2 ^ k) : (a + b).natAbs < 2 ^ n := by
  subst hn
  have := Int.natAbs_add_le a b
  rw [Nat.pow_succ]; omega
theorem zW_wOf {z : Int} (h : z.natAbs < Pq.bp 32) : zW (wOf z) = z := by
  unfold zW wOf
  rw [dif_pos h]
  exact Pq.zv_back z
theorem zW_w0 : zW w0 = 0 := rfl
theorem cz_gt (a : Int) : (Pq.cz a (zW w0) > 0) ↔ 0 < a := by
  rw [zW_w0]
  unfold Pq.cz
  split
  · omega
  · split <;> omega
theorem cz_lt (a b : Int) : Pq.cz a b < 0 ↔ a < b := by
  unfold Pq.cz
  split
  · omega
  · split <;> omega
theorem cz_eq (a b : Int) : Pq.cz a b = 0 ↔ a = b := by
  unfold Pq.cz
  split
  · omega
  · split <;> omega
def OkF (x : F) : Prop := ¬ (x.1.1 = true ∧ x.1.2.1 = 0) ∧ 0 < zW x.2 ∧ Nat.gcd (zW x.1).natAbs (zW x.2).natAbs = 1
instance (x : F) : Decidable (OkF x) := by unfold OkF; infer_instance
def okF (x : F) : Bool := decide (OkF x)
theorem isW_iff (x : W) : isW x = true ↔ ¬ (x.1 = true ∧ x.2.1 = 0) := by
  unfold isW
  cases x.1 <;> simp
theorem isW_pos {x : W} (h : 0 < zW x) : isW x = true := by
  rw [isW_iff]
  rintro ⟨h1, h2⟩
  unfold zW Pq.zv at h
  rw [h1, h2] at h
  simp at h
theorem sm_ok {x : F} (h : smB x = true) : OkF x := by
  have h1 := of_decide_eq_true h
  obtain ⟨a, b, c, d, e⟩ := h1
  refine ⟨fun h => d ⟨h.2, h.1⟩, c, ?_⟩
  unfold zW
  rw [Pq.zv_abs, Pq.zv_abs]; exact e
theorem gcd_bp (x y : W) : ((Nat.gcd (zW x).natAbs (zW y).natAbs : Nat) : Int).natAbs < Pq.bp 32 := by
  rw [Int.natAbs_natCast]
  have hx := zW_lt x
  have hy := zW_lt y
  rcases Nat.eq_zero_or_pos (zW y).natAbs with h | h
  · rw [h, Nat.gcd_zero_right]; exact hx
  · exact Nat.lt_of_le_of_lt (Nat.gcd_le_right _ h) hy
def qF (x : F) : Rat := Rat.divInt (zW x.1) (zW x.2)
theorem wOf_zW {x : W} (h : isW x = true) : wOf (zW x) = x := by
  obtain ⟨n, x, hx⟩ := x
  have hz := zW_lt (n, ⟨x, hx⟩)
  unfold wOf
  rw [dif_pos hz]
  rw [isW_iff] at h
  unfold zW Pq.zv at *
  cases n
  · simp
  · simp at h ⊢
    omega
theorem rat_parts {x : F} (h : OkF x) : (qF x).num = zW x.1 ∧ ((qF x).den : Int) = zW x.2 := by
  obtain ⟨_, h2, h3⟩ := h
  obtain ⟨d, hd⟩ : ∃ d : Nat, zW x.2 = d := ⟨(zW x.2).toNat, by omega⟩
  unfold qF
  rw [hd, Rat.divInt_ofNat]
  rw [hd] at h2 h3
  rw [Int.natAbs_natCast] at h3
  have hne : d ≠ 0 := by omega
  rw [← Rat.normalize_eq_mkRat hne, Rat.normalize_eq]
  simp [h3]
def Fits (r : Rat) : Prop := r.num.natAbs < Pq.bp 32 ∧ r.den < Pq.bp 32
theorem ok_rOf {r : Rat} (h : Fits r) : OkF (rOf r) ∧ qF (rOf r) = r := by
  have e1 : zW (rOf r).1 = r.num := zW_wOf h.1
  have e2 : zW (rOf r).2 = (r.den : Int) := zW_wOf (by simpa using h.2)
  have hd := r.den_pos
  refine ⟨⟨?_, by rw [e2]; omega, ?_⟩, ?_⟩
  · unfold rOf wOf
    rw [dif_pos h.1]
    rintro ⟨h1, h2⟩
    simp only [decide_eq_true_eq] at h1
    have h2' : r.num.natAbs = 0 := h2
    omega
  · rw [e1, e2, Int.natAbs_natCast]; exact r.reduced
  · unfold qF
    rw [e1, e2, Rat.divInt_ofNat, Rat.mkRat_self]
def SafeF (b : Int) (x : F) : Prop := (Pq.bitn (zW x.1).natAbs : Int) ≤ b ∧ (Pq.bitn (zW x.2).natAbs : Int) ≤ b ∧ OkF x
instance (b : Int) (x : F) : Decidable (SafeF b x) := by unfold SafeF; infer_instance
def safeF (b : Int) (x : F) : Bool := decide (SafeF b x)
theorem sm_safe {x : F} (h : smB x = true) : SafeF 500 x := by
  have h1 := of_decide_eq_true h
  obtain ⟨a, b, c, d, e⟩ := h1
  have k : ∀ n : Nat, n < 1073741824 → Pq.bitn n ≤ 30 := fun n hn => Pq.bitn_le.2 (by simpa using hn)
  unfold SafeF zW
  rw [Pq.zv_abs, Pq.zv_abs]
  have := k _ a
  have := k _ b
  exact ⟨by omega, by omega, sm_ok h⟩
theorem sm_qF {x : F} (h : smB x = true) : (zW x.1).natAbs < 1073741824 ∧ (zW x.2).natAbs < 1073741824 ∧ 0 < zW x.2 := by
  have h1 := of_decide_eq_true h
  obtain ⟨a, b, c, d, e⟩ := h1
  unfold zW
  rw [Pq.zv_abs, Pq.zv_abs]
  exact ⟨a, b, c⟩
theorem rOf_div {a b : Int} (hb : 0 < b) : rOf (Rat.divInt a b) = (wOf (a.tdiv ((Nat.gcd a.natAbs b.natAbs : Nat) : Int)), wOf (b.tdiv ((Nat.gcd a.natAbs b.natAbs : Nat) : Int))) := by
  obtain ⟨q, rfl⟩ : ∃ q : Nat, b = q := ⟨b.toNat, by omega⟩
  have hq : q ≠ 0 := by omega
  unfold rOf
  rw [Rat.divInt_ofNat, ← Rat.normalize_eq_mkRat hq, Rat.normalize_eq]
  simp only [Int.natAbs_natCast]
  have e1 : a.tdiv ((Nat.gcd a.natAbs q : Nat) : Int) = a / ((Nat.gcd a.natAbs q : Nat) : Int) := Int.tdiv_eq_ediv_of_dvd (Int.ofNat_dvd_left.2 (Nat.gcd_dvd_left _ _))
  have e2 : (q : Int).tdiv ((Nat.gcd a.natAbs q : Nat) : Int) = ((q / Nat.gcd a.natAbs q : Nat) : Int) := by rw [← Int.ofNat_tdiv]
  rw [e1, e2]
theorem rOf_div1 {a b : Int} (hb : 0 < b) (hg : Nat.gcd a.natAbs b.natAbs = 1) : rOf (Rat.divInt a b) = (wOf a, wOf b) := by
  rw [rOf_div hb, hg]
  simp
def NewOk (n d : W) : Prop := zW d ≠ 0 ∧ Pq.bitn (zW n).natAbs ≤ 1023 ∧ Pq.bitn (zW d).natAbs ≤ 1023 ∧ isW n = true ∧ isW d = true
instance (n d : W) : Decidable (NewOk n d) := by unfold NewOk; infer_instance
def ansF (b : Bool) (f : F) : Av := ansA true cF b f (w0, w0)
theorem ansF_yes (f : F) : ansF true f = .tup [.agg (ck cF f), aB true] := rfl
theorem ansF_no (f : F) : ansF false f = .tup [.agg (ck cF (w0, w0)), aB false] := rfl
def newF (n d : W) : F := rOf (Rat.divInt (zW n) (zW d))
theorem gcd_fits {a b : Int} (ha : a.natAbs < Pq.bp 32) (hb : b.natAbs < Pq.bp 32) : ((Nat.gcd a.natAbs b.natAbs : Nat) : Int).natAbs < Pq.bp 32 := by
  have := gcd_bp (wOf a) (wOf b)
  rwa [zW_wOf ha, zW_wOf hb] at this
theorem new_fin {a b : Int} (hb : 0 < b) (ha' : a.natAbs < Pq.bp 32) (hb' : b.natAbs < Pq.bp 32) : let g : Int := ((Nat.gcd a.natAbs b.natAbs : Nat) : Int)
    (wOf (if zW (wOf g) = 0 then 0 else a.tdiv (zW (wOf g))), wOf (if zW (wOf g) = 0 then 0 else b.tdiv (zW (wOf g)))) = rOf (Rat.divInt a b) := by
  intro g
  have hg : g ≠ 0 := by
    have : 0 < Nat.gcd a.natAbs b.natAbs := Nat.gcd_pos_of_pos_right _ (by omega)
    show ((Nat.gcd a.natAbs b.natAbs : Nat) : Int) ≠ 0
    omega
  rw [rOf_div hb, zW_wOf (gcd_fits ha' hb'), if_neg hg, if_neg hg]
end Ax
/-
Fractions: what the functions that call whole numbers alone come to.
-/
set_option linter.unusedSimpArgs false
set_option linter.unusedVariables false
namespace Go.Proofs.YtokgbcachcmeaaaGreatDoor
open Go.RowKit Ax
theorem mixed : Tryz.prog.follows .mixedOrders = true := by kernel_rfl
theorem cf_ris (xs : Array Value) (w : World) : (callFunc 48 xs).run Tryz.prog w = .ok (.enter 48 xs) w := by kernel_rfl
theorem cf_rnew (xs : Array Value) (w : World) : (callFunc 28 xs).run Tryz.prog w = .ok (.enter 28 xs) w := by kernel_rfl
theorem cf_rsign (xs : Array Value) (w : World) : (callFunc 35 xs).run Tryz.prog w = .ok (.enter 35 xs) w := by kernel_rfl
theorem cf_rturned (xs : Array Value) (w : World) : (callFunc 68 xs).run Tryz.prog w = .ok (.enter 68 xs) w := by kernel_rfl
theorem cf_rtimes (xs : Array Value) (w : World) : (callFunc 36 xs).run Tryz.prog w = .ok (.enter 36 xs) w := by kernel_rfl
theorem cf_rsafe1 (xs : Array Value) (w : World) : (callFunc 66 xs).run Tryz.prog w = .ok (.enter 66 xs) w := by kernel_rfl
theorem cf_rsafe (xs : Array Value) (w : World) : (callFunc 34 xs).run Tryz.prog w = .ok (.enter 34 xs) w := by kernel_rfl
theorem cf_rof (xs : Array Value) (w : World) : (callFunc 12 xs).run Tryz.prog w = .ok (.enter 12 xs) w := by kernel_rfl
noncomputable def tr_ris (x : Els [(true, cF)]) : T Av :=
 .ite (smB (x.1))
  (.ret (.one (.v (.bool (true)))))
  (.ite (isW x.1.1)
   (.ite (isW x.1.2)
    (.ite (decide (Pq.cz (zW x.1.2) (zW w0) > 0))
     (.lt ((↑(Nat.gcd (Int.natAbs (zW x.1.1)) (Int.natAbs (zW x.1.2))) : Int)) (fun v4 =>
      .ret (.one (.v (.bool (decide (zW (wOf v4) = 1)))))))
     (.ret (.one (.v (.bool (false))))))
    (.ret (.one (.v (.bool (false))))))
   (.ret (.one (.v (.bool (false))))))
theorem tr_ris_eq (x : Els [(true, cF)]) : fnP E1 (fun _ => none) Tryz.f48 (encs [(true, cF)] x) = tr_ris x := by kernel_rfl
theorem ris_ok (x : Els [(true, cF)]) : (tr_ris x).wp (· = aB (okF x.1)) := by
  unfold tr_ris
  simp only [T.wp]
  refine ⟨fun h => ?_, fun h => ⟨fun h1 => ⟨fun h2 => ⟨fun h3 => ?_, fun h3 => ?_⟩, fun h2 => ?_⟩, fun h1 => ?_⟩⟩
  · unfold okF; rw [decide_eq_true (sm_ok h)]; rfl
  · have h3' := (cz_gt _).1 (of_decide_eq_true h3)
    rw [zW_wOf (gcd_bp _ _)]
    unfold okF aB
    congr 2
    simp only [Ck.v.injEq, Value.bool.injEq]
    by_cases hg : Nat.gcd (zW x.1.1).natAbs (zW x.1.2).natAbs = 1
    · rw [decide_eq_true (show OkF x.1 from ⟨(isW_iff _).1 h1, h3', hg⟩), decide_eq_true (by omega)]
    · rw [decide_eq_false (fun h : OkF x.1 => hg h.2.2), decide_eq_false (by omega)]
  · have h3' := of_decide_eq_false h3
    unfold okF
    rw [decide_eq_false (fun h : OkF x.1 => h3' ((cz_gt _).2 h.2.1))]; rfl
  · unfold okF
    rw [decide_eq_false (fun h : OkF x.1 => by rw [isW_pos h.2.1] at h2; cases h2)]; rfl
  · unfold okF
    rw [decide_eq_false (fun h : OkF x.1 => by rw [(isW_iff _).2 h.1] at h1; cases h1)]; rfl
noncomputable def con_ris : Con Tryz.prog := ⟨48, [], _, cf_ris, tot_con (E := E1) mixed Tryz.func48 no_loops [(true, cF)] (fun x => aB (okF x.1)) fun x => by rw [tr_ris_eq]; exact ris_ok x⟩
noncomputable def tr_rnew (x : Els [(true, cW), (true, cW)]) : T Av :=
 .ite ((↑(Pq.bitn (Int.natAbs (zW x.2.1))) : Int) == 0)
  (.ret (.tup [(.agg [.v (.bool w0.1), .w w0.2, .v (.bool w0.1), .w w0.2]), (.one (.v (.bool (false))))]))
  (.ite (decide ((↑(Pq.bitn (Int.natAbs (zW (x.1)))) : Int) > 1023))
   (.ret (.tup [(.agg [.v (.bool w0.1), .w w0.2, .v (.bool w0.1), .w w0.2]), (.one (.v (.bool (false))))]))
   (.ite (decide ((↑(Pq.bitn (Int.natAbs (zW x.2.1))) : Int) > 1023))
    (.ret (.tup [(.agg [.v (.bool w0.1), .w w0.2, .v (.bool w0.1), .w w0.2]), (.one (.v (.bool (false))))]))
    (.ite (!isW (x.1))
     (.ret (.tup [(.agg [.v (.bool w0.1), .w w0.2, .v (.bool w0.1), .w w0.2]), (.one (.v (.bool (false))))]))
     (.ite (!isW x.2.1)
      (.ret (.tup [(.agg [.v (.bool w0.1), .w w0.2, .v (.bool w0.1), .w w0.2]), (.one (.v (.bool (false))))]))
      (.ite x.2.1.1
       (.and
        (.and
         (.lt (-zW (x.1)) (fun v8 =>
          .lt (-zW x.2.1) (fun v9 =>
           .lt ((↑(Nat.gcd (Int.natAbs (zW (wOf v8))) (Int.natAbs (zW (wOf v9)))) : Int)) (fun v10 =>
            .ite (!decide (zW (wOf v10) = 1))
             (.lt (zW (wOf v8)) (fun v12 =>
              .lt (zW (wOf v10)) (fun v13 =>
               .lt (zW (wOf v9)) (fun v14 =>
                .lt (zW (wOf v10)) (fun v15 =>
                 .ret (.tup [(.agg [.v (.bool (wOf (if v13 = 0 then 0 else Int.tdiv v12 v13)).1), .w (wOf (if v13 = 0 then 0 else Int.tdiv v12 v13)).2, .v (.bool (wOf (if v15 = 0 then 0 else Int.tdiv v14 v15)).1), .w (wOf (if v15 = 0 then 0 else Int.tdiv v14 v15)).2]), (.one (.v (.bool (true))))]))))))
             (.ret (.tup [(.agg [.v (.bool (wOf v8).1), .w (wOf v8).2, .v (.bool (wOf v9).1), .w (wOf v9).2]), (.one (.v (.bool (true))))]))))))
         (.lt (-zW (x.1)) (fun v8 =>
          .lt (-zW x.2.1) (fun v9 =>
           .lt ((↑(Nat.gcd (Int.natAbs (zW (wOf v8))) (Int.natAbs (zW (wOf v9)))) : Int)) (fun v10 =>
            .ite (!decide (zW (wOf v10) = 1))
             (.lt (zW (wOf v8)) (fun v12 =>
              .lt (zW (wOf v10)) (fun v13 =>
               .lt (zW (wOf v9)) (fun v14 =>
                .lt (zW (wOf v10)) (fun v15 =>
                 .ret (.tup [(.agg [.v (.bool (wOf (if v13 = 0 then 0 else Int.tdiv v12 v13)).1), .w (wOf (if v13 = 0 then 0 else Int.tdiv v12 v13)).2, .v (.bool (wOf (if v15 = 0 then 0 else Int.tdiv v14 v15)).1), .w (wOf (if v15 = 0 then 0 else Int.tdiv v14 v15)).2]), (.one (.v (.bool (true))))]))))))
             (.ret (.tup [(.agg [.v (.bool (wOf v8).1), .w (wOf v8).2, .v (.bool (wOf v9).1), .w (wOf v9).2]), (.one (.v (.bool (true))))])))))))
        (.lt (-zW (x.1)) (fun v7 =>
         .lt (-zW x.2.1) (fun v8 =>
          .lt ((↑(Nat.gcd (Int.natAbs (zW (wOf v7))) (Int.natAbs (zW (wOf v8)))) : Int)) (fun v9 =>
           .ite (!decide (zW (wOf v9) = 1))
            (.lt (zW (wOf v7)) (fun v11 =>
             .lt (zW (wOf v9)) (fun v12 =>
              .lt (zW (wOf v8)) (fun v13 =>
               .lt (zW (wOf v9)) (fun v14 =>
                .ret (.tup [(.agg [.v (.bool (wOf (if v12 = 0 then 0 else Int.tdiv v11 v12)).1), .w (wOf (if v12 = 0 then 0 else Int.tdiv v11 v12)).2, .v (.bool (wOf (if v14 = 0 then 0 else Int.tdiv v13 v14)).1), .w (wOf (if v14 = 0 then 0 else Int.tdiv v13 v14)).2]), (.one (.v (.bool (true))))]))))))
            (.ret (.tup [(.agg [.v (.bool (wOf v7).1), .w (wOf v7).2, .v (.bool (wOf v8).1), .w (wOf v8).2]), (.one (.v (.bool (true))))])))))))
       (.lt ((↑(Nat.gcd (Int.natAbs (zW (x.1))) (Int.natAbs (zW x.2.1))) : Int)) (fun v6 =>
        .ite (!decide (zW (wOf v6) = 1))
         (.lt (zW (x.1)) (fun v8 =>
          .lt (zW (wOf v6)) (fun v9 =>
           .lt (zW x.2.1) (fun v10 =>
            .lt (zW (wOf v6)) (fun v11 =>
             .ret (.tup [(.agg [.v (.bool (wOf (if v9 = 0 then 0 else Int.tdiv v8 v9)).1), .w (wOf (if v9 = 0 then 0 else Int.tdiv v8 v9)).2, .v (.bool (wOf (if v11 = 0 then 0 else Int.tdiv v10 v11)).1), .w (wOf (if v11 = 0 then 0 else Int.tdiv v10 v11)).2]), (.one (.v (.bool (true))))]))))))
         (.ret (.tup [(.agg [.v (.bool x.1.1), .w x.1.2, .v (.bool x.2.1.1), .w x.2.1.2]), (.one (.v (.bool (true))))])))))))))
theorem tr_rnew_eq (x : Els [(true, cW), (true, cW)]) : fnP E1 (fun _ => none) Tryz.f28 (encs [(true, cW), (true, cW)] x) = tr_rnew x := by kernel_rfl
theorem new_end {n d : W} (h : NewOk n d) {a b : Int} (hb : 0 < b) (ha' : a.natAbs < Pq.bp 32) (hb' : b.natAbs < Pq.bp 32) (e : Rat.divInt a b = Rat.divInt (zW n) (zW d)) (f : F) (hf : Nat.gcd a.natAbs b.natAbs = 1 → f = (wOf a, wOf b)) :
    (T.ite (!decide (zW (wOf ((Nat.gcd a.natAbs b.natAbs : Nat) : Int)) = 1)) (T.ret (Av.tup [.agg (ck cF (wOf (if zW (wOf ((Nat.gcd a.natAbs b.natAbs : Nat) : Int)) = 0 then 0 else a.tdiv (zW (wOf ((Nat.gcd a.natAbs b.natAbs : Nat) : Int)))), wOf (if zW (wOf ((Nat.gcd a.natAbs b.natAbs : Nat) : Int)) = 0 then 0 else b.tdiv (zW (wOf ((Nat.gcd a.natAbs b.natAbs : Nat) : Int)))))), aB true]))
      (T.ret (Av.tup [.agg (ck cF f), aB true]))).wp (· = ansF (decide (NewOk n d)) (newF n d)) := by
  rw [decide_eq_true h, ansF_yes]
  unfold newF
  refine ⟨fun h => ?_, fun h => ?_⟩
  · rw [← e, ← new_fin hb ha' hb']; exact rfl
  · rw [zW_wOf (gcd_fits ha' hb')] at h
    have hg : Nat.gcd a.natAbs b.natAbs = 1 := by
      have h1 : decide (((Nat.gcd a.natAbs b.natAbs : Nat) : Int) = 1) = true := by simpa using h
      have := of_decide_eq_true h1
      omega
    rw [← e, rOf_div1 hb hg, hf hg]; exact rfl
theorem rnew_ok (x : Els [(true, cW), (true, cW)]) : (tr_rnew x).wp (· = ansF (decide (NewOk x.1 x.2.1)) (newF x.1 x.2.1)) := by
  obtain ⟨n, d, u⟩ := x
  have no : ∀ {Q : Prop}, (¬ NewOk n d) → (Av.tup [.agg (ck cF (w0, w0)), aB false] = ansF (decide (NewOk n d)) (newF n d)) := fun h => by rw [decide_eq_false h, ansF_no]
  unfold tr_rnew
  simp only
  refine ⟨fun h => no (Q := True) fun k => ?_, fun h0 => ⟨fun h => no (Q := True) fun k => ?_, fun h1 => ⟨fun h => no (Q := True) fun k => ?_, fun h2 => ⟨fun h => no (Q := True) fun k => ?_, fun h3 => ⟨fun h => no (Q := True) fun k => ?_, fun h4 => ?_⟩⟩⟩⟩⟩
  · have h : (Pq.bitn (zW d).natAbs : Int) = 0 := by simpa using h
    have := Pq.bitn_eq0.1 (show Pq.bitn (zW d).natAbs = 0 by omega)
    exact k.1 (by omega)
  · have := of_decide_eq_true h; have := k.2.1; omega
  · have := of_decide_eq_true h; have := k.2.2.1; omega
  · rw [k.2.2.2.1] at h; cases h
  · rw [k.2.2.2.2] at h; cases h
  have hz : zW d ≠ 0 := by
    intro hz
    rw [hz] at h0
    simp [Pq.bitn_zero] at h0
  have hok : NewOk n d := ⟨hz, by have := of_decide_eq_false h1; omega, by have := of_decide_eq_false h2; omega, by simpa using h3, by simpa using h4⟩
  have hn := zW_lt n
  have hd := zW_lt d
  refine ⟨fun h => ?_, fun h => ?_⟩
  · have hneg : zW d < 0 := by
      have hd1 : d.1 = true := h
      have : zW d = -(d.2.1 : Int) := by unfold zW Pq.zv; rw [hd1]; rfl
      omega
    have e : Rat.divInt (-(zW n)) (-(zW d)) = Rat.divInt (zW n) (zW d) := by rw [Rat.divInt_neg', Int.neg_neg]
    have key := new_end hok (a := -(zW n)) (b := -(zW d)) (by omega) (by rw [Int.natAbs_neg]; exact hn) (by rw [Int.natAbs_neg]; exact hd) e (wOf (-(zW n)), wOf (-(zW d))) (fun _ => rfl)
    simp only [T.wp, zW_wOf (show (-(zW n)).natAbs < Pq.bp 32 by rw [Int.natAbs_neg]; exact hn), zW_wOf (show (-(zW d)).natAbs < Pq.bp 32 by rw [Int.natAbs_neg]; exact hd)] at key ⊢
    exact ⟨⟨key, key⟩, key⟩
  · have hpos : 0 < zW d := by
      have hd1 : d.1 = false := h
      have : zW d = (d.2.1 : Int) := by unfold zW Pq.zv; rw [hd1]; rfl
      omega
    have key := new_end hok (a := zW n) (b := zW d) hpos hn hd rfl (n, d) (fun _ => by rw [wOf_zW hok.2.2.2.1, wOf_zW hok.2.2.2.2])
    simp only [T.wp] at key ⊢
    exact key
noncomputable def con_rnew : Con Tryz.prog := ⟨28, [], _, cf_rnew, ans_con0 (E := E1) mixed Tryz.func28 no_loops [(true, cW), (true, cW)] true cF (fun x => decide (NewOk x.1 x.2.1)) (fun x => newF x.1 x.2.1) (fun _ => (w0, w0)) fun x => by rw [tr_rnew_eq]; exact rnew_ok x⟩
noncomputable def tr_rtimes (x : El (.bool) × Els [(true, cW), (true, cW)]) : T (Av × El (.bool)) :=
 .lt (zW x.2.1 * zW x.2.2.1) (fun v0 =>
  .ite (x.1)
   (.ret ((.agg [.v (.bool (wOf v0).1), .w (wOf v0).2]), Pq.fits v0))
   (.ret ((.agg [.v (.bool (wOf v0).1), .w (wOf v0).2]), false)))
theorem tr_rtimes_eq (x : El (.bool) × Els [(true, cW), (true, cW)]) : ptr1 E1 (fun _ => none) Tryz.f36 2 4 (.bool) x.1 (encs [(true, cW), (true, cW)] x.2) = tr_rtimes x := by kernel_rfl
noncomputable def con_rtimes : Con Tryz.prog := ⟨36, [2], _, cf_rtimes, ptr1_ok (E := E1) (L := fun _ => none) mixed Tryz.func36 no_loops 2 4 .bool [(true, cW), (true, cW)] (fun ok x => .lt (zW x.1 * zW x.2.1) fun z => .ret (aW z, ok && Pq.fits z)) fun ok x Q hq => by
  have := tr_rtimes_eq (ok, x)
  rw [show ptr1 E1 (fun _ => none) Tryz.f36 2 4 .bool ok (encs [(true, cW), (true, cW)] x) = _ from this]
  unfold tr_rtimes
  simp only [T.wp] at hq ⊢
  refine ⟨fun h => ?_, fun h => ?_⟩
  · subst h; exact hq
  · subst h; exact hq⟩
noncomputable def con_rsign : Con Tryz.prog := ⟨35, [], _, cf_rsign, tot_con (E := E1) mixed Tryz.func35 no_loops [(true, cF)] (fun x => aI .i64 (Pq.cz (zW x.1.1) 0)) fun x => by
  have e : fnP E1 (fun _ => none) Tryz.f35 (encs [(true, cF)] x) = .ret (aI .i64 (Pq.cz (zW x.1.1) (zW w0))) := by kernel_rfl
  rw [e, zW_w0]; exact rfl⟩
noncomputable def con_rturned : Con Tryz.prog := ⟨68, [], _, cf_rturned, tot_con (E := E1) mixed Tryz.func68 no_loops [(true, cF)] (fun x => .agg (ck cF (wOf (-(zW x.1.1)), x.1.2))) fun x => by
  have e : fnP E1 (fun _ => none) Tryz.f68 (encs [(true, cF)] x) = .lt (-(zW x.1.1)) fun z => .ret (.agg (ck cF (wOf z, x.1.2))) := by kernel_rfl
  rw [e]; exact rfl⟩
end Go.Proofs.YtokgbcachcmeaaaGreatDoor
set_option linter.unusedSimpArgs false
set_option linter.unusedVariables false
namespace Go.Proofs.YtokgbcachcmeaaaGreatDoor
open Go.RowKit Ax
noncomputable def E2 : Env Tryz.prog := ⟨con_ris :: con_rnew :: con_rsign :: con_rturned :: con_rtimes :: E1.con, E1.zero, E1.cod, E1.sure, E1.base, E1.frz⟩
end Go.Proofs.YtokgbcachcmeaaaGreatDoor
/-
Fractions: Safe, Of, safe.
-/
set_option linter.unusedSimpArgs false
set_option linter.unusedVariables false
namespace Go.Proofs.YtokgbcachcmeaaaGreatDoor
open Go.RowKit Ax
noncomputable def tr_rsafe1 (x : Els [(true, cF), (false, .int .i64)]) : T Av :=
 .ite (decide ((↑(Pq.bitn (Int.natAbs (zW x.1.1))) : Int) ≤ x.2.1))
  (.ite (decide ((↑(Pq.bitn (Int.natAbs (zW x.1.2))) : Int) ≤ x.2.1))
   (.ret (.one (.v (.bool (okF (x.1))))))
   (.ret (.one (.v (.bool (false))))))
  (.ret (.one (.v (.bool (false)))))
theorem tr_rsafe1_eq (x : Els [(true, cF), (false, .int .i64)]) : fnP E2 (fun _ => none) Tryz.f66 (encs [(true, cF), (false, .int .i64)] x) = tr_rsafe1 x := by kernel_rfl
theorem rsafe1_ok (x : Els [(true, cF), (false, .int .i64)]) : (tr_rsafe1 x).wp (· = aB (safeF x.2.1 x.1)) := by
  unfold tr_rsafe1
  simp only [T.wp]
  unfold safeF
  refine ⟨fun h => ⟨fun h1 => ?_, fun h1 => ?_⟩, fun h => ?_⟩
  · unfold okF
    by_cases ho : OkF x.1
    · rw [decide_eq_true ho, decide_eq_true (show SafeF x.2.1 x.1 from ⟨of_decide_eq_true h, of_decide_eq_true h1, ho⟩)]; rfl
    · rw [decide_eq_false ho, decide_eq_false (fun k : SafeF x.2.1 x.1 => ho k.2.2)]; rfl
  · rw [decide_eq_false (fun k : SafeF x.2.1 x.1 => of_decide_eq_false h1 k.2.1)]; rfl
  · rw [decide_eq_false (fun k : SafeF x.2.1 x.1 => of_decide_eq_false h k.1)]; rfl
noncomputable def con_rsafe1 : Con Tryz.prog := ⟨66, [], _, cf_rsafe1, tot_con (E := E2) mixed Tryz.func66 no_loops [(true, cF), (false, .int .i64)] (fun x => aB (safeF x.2.1 x.1)) fun x => by rw [tr_rsafe1_eq]; exact rsafe1_ok x⟩
noncomputable def tr_rof (x : Els [(false, .int .i64), (false, .int .i64)]) : T Av :=
 .need (in64 (x.1)) (.need (in64 x.2.1) (.ite (decide (NewOk (wOf (x.1)) (wOf x.2.1)))
    (.lt (newF (wOf (x.1)) (wOf x.2.1)) (fun v3 =>
     .ret (.tup [(.agg [.v (.bool v3.1.1), .w v3.1.2, .v (.bool v3.2.1), .w v3.2.2]), (.one (.v (.bool (true))))])))
    (.ret (.tup [(.agg [.v (.bool w0.1), .w w0.2, .v (.bool w0.1), .w w0.2]), (.one (.v (.bool (false))))]))))
theorem tr_rof_eq (x : Els [(false, .int .i64), (false, .int .i64)]) : fnP E2 (fun _ => none) Tryz.f12 (encs [(false, .int .i64), (false, .int .i64)] x) = tr_rof x := by kernel_rfl
theorem of_newok {p q : Int} (hp : in64 p) (hq : in64 q) : NewOk (wOf p) (wOf q) ↔ q ≠ 0 := by
  have k : ∀ z : Int, in64 z → Pq.bitn z.natAbs ≤ 1023 := fun z hz => by
    have : Pq.bitn z.natAbs ≤ 64 := Pq.bitn_le.2 (by have := hz.1; have := hz.2; have e : (2 : Nat) ^ 64 = 18446744073709551616 := by decide
                                                     omega)
    omega
  have isw : ∀ z : Int, z.natAbs < Pq.bp 32 → isW (wOf z) = true := fun z hz => by
    rw [isW_iff]
    unfold wOf
    rw [dif_pos hz]
    rintro ⟨h1, h2⟩
    simp only [decide_eq_true_eq] at h1
    have h2' : z.natAbs = 0 := h2
    omega
  have fp := i64_lt hp.1 hp.2
  have fq := i64_lt hq.1 hq.2
  unfold NewOk
  rw [zW_wOf fp, zW_wOf fq]
  exact ⟨fun h => h.1, fun h => ⟨h, k p hp, k q hq, isw p fp, isw q fq⟩⟩
noncomputable def con_rof : Con Tryz.prog := ⟨12, [], _, cf_rof, ans_con (E := E2) mixed Tryz.func12 no_loops [(false, .int .i64), (false, .int .i64)] (fun x => in64 x.1 ∧ in64 x.2.1) true cF (fun x => decide (x.2.1 ≠ 0)) (fun x => rOf (Rat.divInt x.1 x.2.1)) (fun _ => (w0, w0)) fun x hx => by
  rw [tr_rof_eq]
  unfold tr_rof
  simp only [T.wp]
  refine ⟨hx.1, hx.2, fun h => ?_, fun h => ?_⟩
  · have hne := (of_newok hx.1 hx.2).1 (of_decide_eq_true h)
    rw [decide_eq_true hne]
    unfold newF
    rw [zW_wOf (i64_lt hx.1.1 hx.1.2), zW_wOf (i64_lt hx.2.1 hx.2.2)]
    rfl
  · have hne : ¬ x.2.1 ≠ 0 := fun k => of_decide_eq_false h ((of_newok hx.1 hx.2).2 k)
    rw [decide_eq_false hne]
    rfl⟩
end Go.Proofs.YtokgbcachcmeaaaGreatDoor
set_option linter.unusedSimpArgs false
set_option linter.unusedVariables false
namespace Go.Proofs.YtokgbcachcmeaaaGreatDoor
open Go.RowKit Ax
noncomputable def E3 : Env Tryz.prog := ⟨con_rsafe1 :: con_rof :: E2.con, E2.zero, E2.cod, E2.sure, E2.base, E2.frz⟩
def spSafe : LSpec := ⟨15, [(5, false, .sl cF), (6, false, .int .i64), (7, false, .int .i64)], [], [], fun e => match e with | .ret => [2] | _ => []⟩
end Go.Proofs.YtokgbcachcmeaaaGreatDoor
set_option linter.unusedSimpArgs false
set_option linter.unusedVariables false
namespace Go.Proofs.YtokgbcachcmeaaaGreatDoor
open Go.RowKit Ax
noncomputable def tr_safeL (x : LSpec.X spSafe × LSpec.Y spSafe) : T (Rd spSafe) :=
 .ite (decide (x.1.2.2.1 < x.1.2.1))
  (.get x.1.1 x.1.2.2.1 (fun v1 =>
   .ite (!safeF 500 v1)
    (.ret (.out (Go.Exit.ret) [(.one (.v (.bool (false))))] ()))
    (.ret (.again (x.1.1, (x.1.2.1, (IntKind.wrap .i64 (x.1.2.2.1 + 1), ()))) ()))))
  (.ret (.out (Go.Exit.exit 0) [] ()))
theorem tr_safeL_eq (x : LSpec.X spSafe × LSpec.Y spSafe) : LSpec.round spSafe E3 (fun _ => none) (bodyOf Tryz.f34 0) x.1 x.2 = tr_safeL x := by kernel_rfl
def outSafe (x : LSpec.X spSafe) (y : LSpec.Y spSafe) : T (Exit × List Av × LSpec.Y spSafe) :=
  .need (x.2.1 = x.1.length ∧ 0 ≤ x.2.2.1 ∧ x.2.2.1 ≤ x.1.length ∧ lenOk x.1.length) (.ite ((x.1.drop x.2.2.1.toNat).all (safeF 500)) (.ret (.exit 0, [], ())) (.ret (.ret, [aB false], ())))
theorem safeL_core (l : List F) (n i : Int) (Q : Exit × List Av × LSpec.Y spSafe → Prop) (h : (outSafe (l, n, i, ()) ()).wp Q) : (tr_safeL ((l, n, i, ()), ())).wp fun r => match r with
      | .again x' y' => (x'.1.length - x'.2.2.1).toNat < (l.length - i).toNat ∧ (outSafe x' y').wp Q
      | .out e avs y' => Q (e, avs, y') := by
  unfold tr_safeL
  unfold outSafe at h ⊢
  simp only [T.wp] at h ⊢
  dsimp only [El, vts] at h ⊢
  obtain ⟨⟨hn, h0, h1, hl⟩, ht, hf⟩ := h
  refine ⟨fun hlt => ?_, fun hge => ?_⟩
  · have hlt := of_decide_eq_true hlt
    rw [hn] at hlt
    obtain ⟨v, hv⟩ := elem_at h0 hlt
    have hd := drop_at h0 hv
    refine ⟨v, h0, hv, fun hs => ?_, fun hs => ?_⟩
    · refine hf ?_
      rw [hd, List.all_cons]
      simp at hs
      rw [hs]; rfl
    · rw [wrap_next h0 hlt hl]
      have hs' : safeF 500 v = true := by simpa using hs
      rw [hd, List.all_cons, hs', Bool.true_and] at ht hf
      exact ⟨by omega, ⟨hn, by omega, by omega, hl⟩, ht, hf⟩
  · have hge := of_decide_eq_false hge
    rw [hn] at hge
    rw [drop_end (by omega)] at ht
    exact ht rfl
theorem safeL_ok : LoopOk Tryz.prog 0 (bodyOf Tryz.f34 0) (spSafe.run outSafe) :=
  loop_ok (E := E3) (L := fun _ => none) mixed 0 (loops_none _ _ _) spSafe (Nat.le_refl _) outSafe (fun x _ => (x.1.length - x.2.2.1).toNat) (by
    rintro ⟨l, n, i, ⟨⟩⟩ ⟨⟩ Q h
    rw [tr_safeL_eq ((l, n, i, ()), ())]
    exact safeL_core l n i Q h)
noncomputable def lpSafe : Loops := oneL 2 (spSafe.run outSafe)
end Go.Proofs.YtokgbcachcmeaaaGreatDoor
set_option linter.unusedSimpArgs false
set_option linter.unusedVariables false
namespace Go.Proofs.YtokgbcachcmeaaaGreatDoor
open Go.RowKit Ax
noncomputable def tr_rsafe (x : Els [(false, .sl cF)]) : T Av :=
 .need ((↑(List.length (x.1)) : Int) = (↑(List.length (x.1)) : El (Cd.int .i64)) ∧ (0 : El (Cd.int .i64)) ≤ (0 : Int) ∧ (0 : Int) ≤ (↑(List.length (x.1)) : El (Cd.int .i64)) ∧ lenOk (List.length (x.1))) (.ite (List.all (List.drop (Int.toNat (0 : Int)) (x.1)) (safeF (500 : Int)))
   (.ret (.one (.v (.bool (true)))))
   (.ret (.one (.v (.bool (false))))))
theorem tr_rsafe_eq (x : Els [(false, .sl cF)]) : fnP E3 lpSafe Tryz.f34 (encs [(false, .sl cF)] x) = tr_rsafe x := by kernel_rfl
noncomputable def con_rsafe : Con Tryz.prog := ⟨34, [], _, cf_rsafe, val_con (E := E3) (L := lpSafe) mixed Tryz.func34 (one_loop safeL_ok (by kernel_rfl)) [(false, .sl cF)] (fun x => lenOk x.1.length) (fun x => aB (x.1.all (safeF 500))) fun x hx => by
  rw [tr_rsafe_eq]
  unfold tr_rsafe
  simp only [T.wp]
  dsimp only [El]
  refine ⟨⟨by simp, by simp, by simp, hx⟩, fun h => ?_, fun h => ?_⟩
  · simp only [Int.toNat_zero, List.drop_zero] at h; rw [h]; rfl
  · simp only [Int.toNat_zero, List.drop_zero] at h; rw [h]; rfl⟩
noncomputable def E4 : Env Tryz.prog := ⟨con_rsafe :: E3.con, E3.zero, E3.cod, E3.sure, E3.base, E3.frz⟩
theorem cf_rcmp (xs : Array Value) (w : World) : (callFunc 19 xs).run Tryz.prog w = .ok (.enter 19 xs) w := by kernel_rfl
theorem cf_radd (xs : Array Value) (w : World) : (callFunc 31 xs).run Tryz.prog w = .ok (.enter 31 xs) w := by kernel_rfl
theorem cf_rsub (xs : Array Value) (w : World) : (callFunc 38 xs).run Tryz.prog w = .ok (.enter 38 xs) w := by kernel_rfl
theorem cf_rmul (xs : Array Value) (w : World) : (callFunc 118 xs).run Tryz.prog w = .ok (.enter 118 xs) w := by kernel_rfl
theorem cf_rdiv (xs : Array Value) (w : World) : (callFunc 14 xs).run Tryz.prog w = .ok (.enter 14 xs) w := by kernel_rfl
end Go.Proofs.YtokgbcachcmeaaaGreatDoor
set_option linter.unusedSimpArgs false
set_option linter.unusedVariables false
namespace Pq
open Go Go.RowKit
def sml (n : Bool) (x : Nat) (m : Bool) (y : Nat) : List Value := [.int .i64 (if smk n x m y then zv n x else 0), .int .i64 (if smk n x m y then zv m y else 0)]
theorem smv_eq (n : Bool) (x : Nat) (m : Bool) (y : Nat) : smv n x m y = .tuple #[.agg (sml n x m y).toArray, .bool (decide (smk n x m y))] := rfl
theorem sml_ok {n : Bool} {x : Nat} {m : Bool} {y : Nat} (h : smk n x m y) : (sml n x m y).toArray = #[.int .i64 (zv n x), .int .i64 (zv m y)] := by unfold sml; simp [h]
def bov (n : Bool) (x : Nat) (m : Bool) (y : Nat) (n2 : Bool) (x2 : Nat) (m2 : Bool) (y2 : Nat) : Value :=
  .tuple #[.agg (sml n x m y).toArray, .agg (sml n2 x2 m2 y2).toArray, .bool (decide (smk n x m y) && decide (smk n2 x2 m2 y2))]
end Pq
namespace Go.Proofs.YtokgbcachcmeaaaGreatDoor
open Go.RowKit
theorem cf_both (xs : Array Value) (w : World) : (callFunc 32 xs).run Tryz.prog w = .ok (.enter 32 xs) w := by kernel_rfl
theorem s_sml (n : Bool) (x : Nat) (m : Bool) (y : Nat) : (Tryz.prog.info? 72).map (·.size) = some (Pq.sml n x m y).length := by kernel_rfl
theorem sml_one (n : Bool) (x : Nat) (m : Bool) (y : Nat) : ((Pq.sml n x m y).toArray).all (·.oneCell') = true := small_one _ _

set_option maxRecDepth 100000 in
set_option maxHeartbeats 1000000 in
theorem both_any (b o : Nat) (n : Bool) (x : Nat) (m : Bool) (y : Nat) (c q : Nat) (n2 : Bool) (x2 : Nat) (m2 : Bool) (y2 : Nat) (w : World) (hx : x < Pq.bp 32) (hy : y < Pq.bp 32) (hx2 : x2 < Pq.bp 32) (hy2 : y2 < Pq.bp 32) (hb : w.rangeAt b o (Pq.fl n x m y)) (hc : w.rangeAt c q (Pq.fl n2 x2 m2 y2)) :
    Calls Tryz.prog 32 #[.pointer (some ⟨b, o, none⟩), .pointer (some ⟨c, q, none⟩)] w (Pq.Ret w (Pq.bov n x m y n2 x2 m2 y2)) := by
  obtain ⟨g, hg⟩ : ∃ g, g = w.heap.size := ⟨_, rfl⟩
  have HG := Lib.hid hg; clear hg
  obtain ⟨res, hr⟩ : ∃ res, res = Pq.bov n x m y n2 x2 m2 y2 := ⟨_, rfl⟩
  rw [← hr]
  obtain ⟨k1, hk1⟩ : ∃ k1, k1 = decide (Pq.smk n x m y) := ⟨_, rfl⟩
  obtain ⟨k2, hk2⟩ : ∃ k2, k2 = decide (Pq.smk n2 x2 m2 y2) := ⟨_, rfl⟩
  have HRE := Lib.hid hr; have HK1 := Lib.hid hk1; have HK2 := Lib.hid hk2
  have HX := Lib.hid hx; have HY := Lib.hid hy; have HX2 := Lib.hid hx2; have HY2 := Lib.hid hy2
  have HBB := Lib.hid hb; have HCC := Lib.hid hc
  clear hr hk1 hk2 hx hy hx2 hy2 hb hc
  go_enter Tryz.func32, Tryz.ntmps32
  go_upto_region 0 with fail
  go_upto_region 0 with fail
  apply wp_region_lit
  refine Pq.wpL_alloc g HG.out.symm (by rfl) _ rfl _ al_small ?_
  simp only [Act.put, List.setIfInBounds_toArray, List.set_cons_zero, List.set_cons_succ]
  refine Pq.wpL_alloc (g + 1) (by simp [HG.out]) (by rfl) _ rfl _ al_small ?_
  simp only [Act.put, List.setIfInBounds_toArray, List.set_cons_zero, List.set_cons_succ]
  refine Pq.wpL_step (by rfl) ?_
  apply Exists.intro
  apply Exists.intro
  refine ⟨?_, ?_⟩
  · go_simp; first | done | with_reducible rfl | exact ⟨rfl, rfl⟩
  simp only [Act.put, List.setIfInBounds_toArray, List.set_cons_zero, List.set_cons_succ]
  refine Pq.wpL_nil ?_
  have HB := Lib.hid (Pq.below_alloc (Pq.below_alloc (Below.refl _ w) (Nat.le_refl _) (.cells #[.int .i64 0, .int .i64 0] 72)) (Nat.le_refl _) (.cells #[.int .i64 0, .int .i64 0] 72))
  have HGA := Lib.hid (Pq.al_keep (Pq.al_block w (.cells #[.int .i64 0, .int .i64 0] 72) g HG.out) (.cells #[.int .i64 0, .int .i64 0] 72))
  have HGB := Lib.hid (Pq.al_block (w.alloc (.cells #[.int .i64 0, .int .i64 0] 72)) (.cells #[.int .i64 0, .int .i64 0] 72) (g + 1) (by simp [HG.out]))
  have HBB2 := Lib.hid (Pq.al_range (Pq.al_range HBB.out (.cells #[.int .i64 0, .int .i64 0] 72)) (.cells #[.int .i64 0, .int .i64 0] 72))
  have HCC2 := Lib.hid (Pq.al_range (Pq.al_range HCC.out (.cells #[.int .i64 0, .int .i64 0] 72)) (.cells #[.int .i64 0, .int .i64 0] 72))
  clear HBB HCC
  generalize (w.alloc (.cells #[.int .i64 0, .int .i64 0] 72)).alloc (.cells #[.int .i64 0, .int .i64 0] 72) = w0 at *
  go_upto_region 1 with fail
  go_upto_region 1 with fail
  apply wp_region_lit
  refine Pq.wpL_step (by rfl) ?_
  apply Exists.intro
  apply Exists.intro
  refine ⟨?_, ?_⟩
  · go_simp; first | done | with_reducible rfl | exact ⟨rfl, rfl⟩
  simp only [Act.put, List.setIfInBounds_toArray, List.set_cons_zero, List.set_cons_succ]
  refine Pq.wpL_ret (by rfl) cf_smallof (smallof_any b o n x m y _ HX.out HY.out HBB2.out) rfl rfl ?_; intro w1 hb1; rw [Pq.smv_eq, ← HK1.out]; obtain ⟨e1, he1⟩ : ∃ e1, e1 = w1.heap.size := ⟨_, rfl⟩; have HE1 := Lib.hid he1; clear he1
  simp only [Act.put, List.setIfInBounds_toArray, List.set_cons_zero, List.set_cons_succ]
  iterate 3
    refine Pq.wpL_step (by rfl) ?_
    apply Exists.intro
    apply Exists.intro
    refine ⟨?_, ?_⟩
    · go_simp; first | done | with_reducible rfl | exact ⟨rfl, rfl⟩
    simp only [Act.put, List.setIfInBounds_toArray, List.set_cons_zero, List.set_cons_succ]
  refine Pq.wpL_alloc e1 HE1.out.symm (by rfl) _ rfl _ al_small ?_
  simp only [Act.put, List.setIfInBounds_toArray, List.set_cons_zero, List.set_cons_succ]
  refine Pq.wpL_store (by rfl) 72 _ _ rfl e1 (Pq.sml n x m y).toArray rfl rfl 72 _ (Pq.al_block _ _ _ HE1.out) (s_sml _ _ _ _) rfl (sml_one _ _ _ _) ?_
  try simp only [Act.put, List.setIfInBounds_toArray, List.set_cons_zero, List.set_cons_succ]
  refine Pq.wpL_step (by rfl) ?_
  apply Exists.intro
  apply Exists.intro
  refine ⟨?_, ?_⟩
  · go_simp; first | done | with_reducible rfl | exact ⟨rfl, rfl⟩
  simp only [Act.put, List.setIfInBounds_toArray, List.set_cons_zero, List.set_cons_succ]
  refine Pq.wpL_nil ?_
  rw [Pq.setRow_alloc_at _ _ HE1.out]
  have hge : g + 1 < e1 := by have := (Array.getElem?_eq_some_iff.1 (Pq.keep_block HGB.out hb1)).1; rw [HE1.out]; exact this
  have K1 := Pq.below_next hb1 (Nat.le_refl _) (Pq.below_alloc (Below.refl w1.heap.size w1) (Nat.le_refl _) (.cells (Pq.sml n x m y).toArray 72))
  have HL1' := Lib.hid (Pq.al_new_at w1 (Pq.sml n x m y) 72 e1 HE1.out)
  have hsz1 : (w1.alloc (.cells (Pq.sml n x m y).toArray 72)).heap.size = e1 + 1 := by rw [Pq.size_alloc, HE1.out]
  generalize w1.alloc (.cells (Pq.sml n x m y).toArray 72) = w2 at *
  clear hb1 HE1
  have HSZ1 := Lib.hid hsz1; clear hsz1
  go_upto_region 2 with fail
  go_upto_region 2 with fail
  apply wp_region_lit
  refine Pq.wpL_step (by rfl) ?_
  apply Exists.intro
  apply Exists.intro
  refine ⟨?_, ?_⟩
  · go_simp; first | done | with_reducible rfl | exact ⟨rfl, rfl⟩
  simp only [Act.put, List.setIfInBounds_toArray, List.set_cons_zero, List.set_cons_succ]
  refine Pq.wpL_ret (by rfl) cf_smallof (smallof_any c q n2 x2 m2 y2 _ HX2.out HY2.out (Pq.range_in HCC2.out K1)) rfl rfl ?_; intro w3 hb3; rw [Pq.smv_eq, ← HK2.out]; obtain ⟨e2, he2⟩ : ∃ e2, e2 = w3.heap.size := ⟨_, rfl⟩; have HE2 := Lib.hid he2; clear he2
  simp only [Act.put, List.setIfInBounds_toArray, List.set_cons_zero, List.set_cons_succ]
  iterate 3
    refine Pq.wpL_step (by rfl) ?_
    apply Exists.intro
    apply Exists.intro
    refine ⟨?_, ?_⟩
    · go_simp; first | done | with_reducible rfl | exact ⟨rfl, rfl⟩
    simp only [Act.put, List.setIfInBounds_toArray, List.set_cons_zero, List.set_cons_succ]
  refine Pq.wpL_alloc e2 HE2.out.symm (by rfl) _ rfl _ al_small ?_
  simp only [Act.put, List.setIfInBounds_toArray, List.set_cons_zero, List.set_cons_succ]
  refine Pq.wpL_store (by rfl) 72 _ _ rfl e2 (Pq.sml n2 x2 m2 y2).toArray rfl rfl 72 _ (Pq.al_block _ _ _ HE2.out) (s_sml _ _ _ _) rfl (sml_one _ _ _ _) ?_
  try simp only [Act.put, List.setIfInBounds_toArray, List.set_cons_zero, List.set_cons_succ]
  refine Pq.wpL_step (by rfl) ?_
  apply Exists.intro
  apply Exists.intro
  refine ⟨?_, ?_⟩
  · go_simp; first | done | with_reducible rfl | exact ⟨rfl, rfl⟩
  simp only [Act.put, List.setIfInBounds_toArray, List.set_cons_zero, List.set_cons_succ]
  refine Pq.wpL_nil ?_
  rw [Pq.setRow_alloc_at _ _ HE2.out]
  have hge2 : e1 < e2 := by have := hb3.size; rw [HSZ1.out] at this; rw [HE2.out]; omega
  have K2 := Pq.below_next hb3 (Nat.le_refl _) (Pq.below_alloc (Below.refl w3.heap.size w3) (Nat.le_refl _) (.cells (Pq.sml n2 x2 m2 y2).toArray 72))
  have HL2' := Lib.hid (Pq.al_new_at w3 (Pq.sml n2 x2 m2 y2) 72 e2 HE2.out)
  generalize w3.alloc (.cells (Pq.sml n2 x2 m2 y2).toArray 72) = w4 at *
  clear hb3 HE2
  have K := Pq.below_next K1 (Nat.le_refl _) K2
  have hga := Pq.keep_block HGA.out K
  have hgb := Pq.keep_block HGB.out K
  have hbz := Pq.below_next HB.out (Nat.le_refl _) K
  have hl1 := Pq.range_in HL1'.out K2
  clear HGA HGB HB
  have HGA := Lib.hid (Pq.dr_block hga); have HGB := Lib.hid (Pq.dr_block hgb); have HB := Lib.hid hbz
  have HL1 := Lib.hid (Pq.dr_range hl1); have HL2 := Lib.hid (Pq.dr_range HL2'.out)
  clear hga hgb hbz hl1 HL1' HL2' K K1 K2 HBB2 HCC2 HSZ1
  cases k1
  · go_upto_region 3 with fail
    refine Pq.wp_region_order (fun w' => w'.rangeAt e1 0 (Pq.sml n x m y) ∧ w'.rangeAt e2 0 (Pq.sml n2 x2 m2 y2)) [(0, true), (1, true), (2, true), (3, true), (4, true), (5, true), (6, false), (7, false), (8, true)] (by kernel_rfl) (by kernel_rfl) (fun _ _ d _ _ h => by cases d <;> exact h) (⟨HL1.out, HL2.out⟩) ?_
    simp only [Pq.pick, List.filterMap_cons, List.filterMap_nil, List.getElem?_cons_zero, List.getElem?_cons_succ, Option.map_some]
    refine Pq.wpO_loadS e1 0 (Pq.sml n x m y) (fun _ h => h.1) (by rfl) _ _ rfl rfl _ u_small rfl (s_sml _ _ _ _) ?_
    simp only [Act.put, List.setIfInBounds_toArray, List.set_cons_zero, List.set_cons_succ]
    refine Pq.wpO_loadS e2 0 (Pq.sml n2 x2 m2 y2) (fun _ h => h.2) (by rfl) _ _ rfl rfl _ u_small rfl (s_sml _ _ _ _) ?_
    simp only [Act.put, List.setIfInBounds_toArray, List.set_cons_zero, List.set_cons_succ]
    iterate 2
      refine Pq.wpO_step (by rfl) ?_
      apply Exists.intro
      refine ⟨fun w' hw' => ?_, ?_⟩
      · go_simp; first | done | with_reducible rfl | exact ⟨rfl, rfl⟩
      simp only [Act.put, List.setIfInBounds_toArray, List.set_cons_zero, List.set_cons_succ]
    refine Pq.wpO_skip (by kernel_rfl) ?_
    simp only [Act.put, List.setIfInBounds_toArray, List.set_cons_zero, List.set_cons_succ]
    refine Pq.wpO_step (by rfl) ?_
    apply Exists.intro
    refine ⟨fun w' hw' => ?_, ?_⟩
    · go_simp; first | done | with_reducible rfl | exact ⟨rfl, rfl⟩
    simp only [Act.put, List.setIfInBounds_toArray, List.set_cons_zero, List.set_cons_succ]
    refine Pq.wpO_store (by rfl) 72 _ _ rfl g (Pq.sml n x m y).toArray rfl rfl 72 _ HGA.out (s_sml _ _ _ _) rfl (sml_one _ _ _ _) ⟨Pq.keep_range HL1.out (by omega), Pq.keep_range HL2.out (by omega)⟩ ?_
    try simp only [Act.put, List.setIfInBounds_toArray, List.set_cons_zero, List.set_cons_succ]
    refine Pq.wpO_store (by rfl) 72 _ _ rfl (g + 1) (Pq.sml n2 x2 m2 y2).toArray rfl rfl 72 _ (Pq.keep_row HGB.out (by omega)) (s_sml _ _ _ _) rfl (sml_one _ _ _ _) ⟨Pq.keep_range (Pq.keep_range HL1.out (by omega)) (by omega), Pq.keep_range (Pq.keep_range HL2.out (by omega)) (by omega)⟩ ?_
    try simp only [Act.put, List.setIfInBounds_toArray, List.set_cons_zero, List.set_cons_succ]
    refine Pq.wpO_step (by rfl) ?_
    apply Exists.intro
    refine ⟨fun w' hw' => ?_, ?_⟩
    · go_simp; first | done | with_reducible rfl | exact ⟨rfl, rfl⟩
    simp only [Act.put, List.setIfInBounds_toArray, List.set_cons_zero, List.set_cons_succ]
    refine Pq.wpO_nil ?_
    go_wp2
    refine Pq.ret_cell2_tmp rfl g (g + 1) _ _ _ _ _ _ _ _ _ rfl rfl rfl (Pq.keep_row (Pq.setRow_at HGA.out) (by omega)) u_small rfl (s_sml _ _ _ _) (Pq.setRow_at (Pq.keep_row HGB.out (by omega))) u_small rfl (s_sml _ _ _ _) rfl ⟨by rw [HRE.out]; unfold Pq.bov; rw [← HK1.out, ← HK2.out]; rfl, Pq.below_setRow (Pq.below_setRow (Pq.below_drew HB.out) (by rw [HG.out]; exact Nat.le_refl _)) (by rw [← HG.out]; omega)⟩
  · go_upto_region 3 with fail
    refine Pq.wp_region_order (fun w' => w'.rangeAt e1 0 (Pq.sml n x m y) ∧ w'.rangeAt e2 0 (Pq.sml n2 x2 m2 y2)) [(0, true), (1, true), (2, true), (3, true), (4, true), (5, true), (6, false), (7, false), (8, true)] (by kernel_rfl) (by kernel_rfl) (fun _ _ d _ _ h => by cases d <;> exact h) (⟨HL1.out, HL2.out⟩) ?_
    simp only [Pq.pick, List.filterMap_cons, List.filterMap_nil, List.getElem?_cons_zero, List.getElem?_cons_succ, Option.map_some]
    refine Pq.wpO_loadS e1 0 (Pq.sml n x m y) (fun _ h => h.1) (by rfl) _ _ rfl rfl _ u_small rfl (s_sml _ _ _ _) ?_
    simp only [Act.put, List.setIfInBounds_toArray, List.set_cons_zero, List.set_cons_succ]
    refine Pq.wpO_loadS e2 0 (Pq.sml n2 x2 m2 y2) (fun _ h => h.2) (by rfl) _ _ rfl rfl _ u_small rfl (s_sml _ _ _ _) ?_
    simp only [Act.put, List.setIfInBounds_toArray, List.set_cons_zero, List.set_cons_succ]
    iterate 4
      refine Pq.wpO_step (by rfl) ?_
      apply Exists.intro
      refine ⟨fun w' hw' => ?_, ?_⟩
      · go_simp; first | done | with_reducible rfl | exact ⟨rfl, rfl⟩
      simp only [Act.put, List.setIfInBounds_toArray, List.set_cons_zero, List.set_cons_succ]
    refine Pq.wpO_store (by rfl) 72 _ _ rfl g (Pq.sml n x m y).toArray rfl rfl 72 _ HGA.out (s_sml _ _ _ _) rfl (sml_one _ _ _ _) ⟨Pq.keep_range HL1.out (by omega), Pq.keep_range HL2.out (by omega)⟩ ?_
    try simp only [Act.put, List.setIfInBounds_toArray, List.set_cons_zero, List.set_cons_succ]
    refine Pq.wpO_store (by rfl) 72 _ _ rfl (g + 1) (Pq.sml n2 x2 m2 y2).toArray rfl rfl 72 _ (Pq.keep_row HGB.out (by omega)) (s_sml _ _ _ _) rfl (sml_one _ _ _ _) ⟨Pq.keep_range (Pq.keep_range HL1.out (by omega)) (by omega), Pq.keep_range (Pq.keep_range HL2.out (by omega)) (by omega)⟩ ?_
    try simp only [Act.put, List.setIfInBounds_toArray, List.set_cons_zero, List.set_cons_succ]
    refine Pq.wpO_step (by rfl) ?_
    apply Exists.intro
    refine ⟨fun w' hw' => ?_, ?_⟩
    · go_simp; first | done | with_reducible rfl | exact ⟨rfl, rfl⟩
    simp only [Act.put, List.setIfInBounds_toArray, List.set_cons_zero, List.set_cons_succ]
    refine Pq.wpO_nil ?_
    go_wp2
    refine Pq.ret_cell2_tmp rfl g (g + 1) _ _ _ _ _ _ _ _ _ rfl rfl rfl (Pq.keep_row (Pq.setRow_at HGA.out) (by omega)) u_small rfl (s_sml _ _ _ _) (Pq.setRow_at (Pq.keep_row HGB.out (by omega))) u_small rfl (s_sml _ _ _ _) rfl ⟨by rw [HRE.out]; unfold Pq.bov; rw [← HK1.out, ← HK2.out]; rfl, Pq.below_setRow (Pq.below_setRow (Pq.below_drew HB.out) (by rw [HG.out]; exact Nat.le_refl _)) (by rw [← HG.out]; omega)⟩
end Go.Proofs.YtokgbcachcmeaaaGreatDoor
/-
Two fractions of small numbers at once.
-/
set_option linter.unusedSimpArgs false
set_option linter.unusedVariables false
namespace Ax
open Go Go.RowKit
def ptr2Run (c : Cd) (sp : El c → El c → T Av) (args : List Av) (m : Mem) : T (Av × Mem) :=
  match args with
  | [a, b] => match derefA m c a, derefA m c b with
    | some x, some y => (sp x y).bind fun av => .ret (av, m)
    | _, _ => .fail
  | _ => .fail
theorem ptr2_con {P : Program} {f : FuncId} (c : Cd) (sp : El c → El c → T Av)
    (h : ∀ x y b o us b' o' us' w R Q, w.rangeAt b o us → Is w R [] (ck c x) us → w.rangeAt b' o' us' → Is w R [] (ck c y) us' → (sp x y).wp Q →
      ∃ v av, Q av ∧ Calls P f #[.pointer (some ⟨b, o, none⟩), .pointer (some ⟨b', o', none⟩)] w (Pq.Ret w v) ∧ ∀ w' R, AvIs w' R [] av v) : ConOk P f [] (ptr2Run c sp) := by
  intro w φ σ m args vs Q hmem hlen hargs hrun
  unfold ptr2Run at hrun
  split at hrun
  · rename_i a a'
    obtain ⟨v0, v1, rfl⟩ : ∃ v v', vs = [v, v'] := by
      match vs, hlen with
      | [v, v'], _ => exact ⟨v, v', rfl⟩
    split at hrun
    · rename_i x y hx hy
      rw [T.wp_bind] at hrun
      obtain ⟨b, o, us, rfl, hrg, his⟩ := deref_ok hmem (hargs 0 a v0 rfl rfl) hx
      obtain ⟨b', o', us', rfl, hrg', his'⟩ := deref_ok hmem (hargs 1 a' v1 rfl rfl) hy
      obtain ⟨v, av, hQ, hc, hv⟩ := h x y b o us b' o' us' w _ _ hrg his hrg' his' hrun
      refine hc.mono fun e w' hr => ?_
      obtain ⟨rfl, hb⟩ := hr
      have hk := Keep.of_below hb σ
      have hown : ∀ i b : Nat, σ[i]? = some b → w'.heap[b]? = w.heap[b]? := fun i b hi => hb.block b (hmem.lt (List.mem_of_getElem? hi))
      exact ⟨v, av, m, σ, rfl, hQ, Ext.refl _ _, hk, fun i b hi _ => hown i b hi, (hv w' _).ro (fun _ h => h) σ, hmem.stay hk (Ext.refl _ _) rfl hown⟩
    · exact hrun.elim
  · exact hrun.elim
end Ax
namespace Go.Proofs.YtokgbcachcmeaaaGreatDoor
open Go.RowKit Ax
theorem kb3_av (w : World) (R : Nat → Prop) {a b : Av} {x y : Value} {k : Bool} (h1 : AvIs w R [] a x) (h2 : AvIs w R [] b y) : AvIs w R [] (.tup [a, b, .one (.kb k)]) (.tuple #[x, y, .bool k]) := three_av h1 h2 (.one rfl (.kb .nil))
noncomputable def con_both : Con Tryz.prog := ⟨32, [], ptr2Run cF (fun x y => .ite (smB x && smB y) (.ret (.tup [.agg (ck cS (zW x.1, zW x.2)), .agg (ck cS (zW y.1, zW y.2)), .one (.kb true)])) (.ret (.tup [.agg [.any, .any], .agg [.any, .any], .one (.kb false)]))), cf_both,
  ptr2_con _ _ fun x y b o us b' o' us' w R Q hrg his hrg' his' hQ => by
  have e := is_f his
  have e' := is_f his'
  subst e; subst e'
  have hc := both_any b o x.1.1 x.1.2.1 x.2.1 x.2.2.1 b' o' y.1.1 y.1.2.1 y.2.1 y.2.2.1 w x.1.2.2 x.2.2.2 y.1.2.2 y.2.2.2 hrg hrg'
  unfold smB at hQ
  cases h1 : decide (Pq.smk x.1.1 x.1.2.1 x.2.1 x.2.2.1) && decide (Pq.smk y.1.1 y.1.2.1 y.2.1 y.2.2.1) with
  | true =>
    rw [h1] at hQ
    refine ⟨_, _, hQ.1 rfl, hc, fun w' R' => ?_⟩
    simp only [Bool.and_eq_true, decide_eq_true_eq] at h1
    unfold Pq.bov
    rw [Pq.sml_ok h1.1, Pq.sml_ok h1.2, decide_eq_true h1.1, decide_eq_true h1.2]
    exact kb3_av _ _ (.agg (us := [_, _]) (.v rfl (.v rfl .nil))) (.agg (us := [_, _]) (.v rfl (.v rfl .nil)))
  | false =>
    rw [h1] at hQ
    refine ⟨_, _, hQ.2 rfl, hc, fun w' R' => ?_⟩
    unfold Pq.bov
    rw [h1]
    exact kb3_av _ _ (.agg (us := [_, _]) (.any rfl (.any rfl .nil))) (.agg (us := [_, _]) (.any rfl (.any rfl .nil)))⟩
noncomputable def E5 : Env Tryz.prog := ⟨con_both :: E4.con, E4.zero, E4.cod, E4.sure, E4.base, E4.frz⟩
end Go.Proofs.YtokgbcachcmeaaaGreatDoor
/-
Comparing plain numbers.
-/
set_option linter.unusedSimpArgs false
set_option linter.unusedVariables false
namespace Go.Proofs.YtokgbcachcmeaaaGreatDoor
open Go.RowKit Ax
theorem cf_isnan (xs : Array Value) (w : World) : (callFunc 73 xs).run Tryz.prog w = .ok (.enter 73 xs) w := by kernel_rfl
theorem cf_cmp64 (xs : Array Value) (w : World) : (callFunc 45 xs).run Tryz.prog w = .ok (.enter 45 xs) w := by kernel_rfl
noncomputable def tr_isnan (x : Els [(false, .int .i64)]) : T Av :=
 .ret (.one (.v (.bool (x.1 != x.1))))
theorem tr_isnan_eq (x : Els [(false, .int .i64)]) : fnP E5 (fun _ => none) Tryz.f73 (encs [(false, .int .i64)] x) = tr_isnan x := by kernel_rfl
noncomputable def con_isnan : Con Tryz.prog := ⟨73, [], _, cf_isnan, tot_con (E := E5) mixed Tryz.func73 no_loops [(false, .int .i64)] (fun x => aB false) fun x => by
  rw [tr_isnan_eq]
  unfold tr_isnan
  simp only [T.wp]
  rw [bne_self_eq_false (α := Int)]
  rfl⟩
noncomputable def E5a : Env Tryz.prog := ⟨con_isnan :: E5.con, E5.zero, E5.cod, E5.sure, E5.base, E5.frz⟩
end Go.Proofs.YtokgbcachcmeaaaGreatDoor
/-
Comparing plain numbers.
-/
set_option linter.unusedSimpArgs false
set_option linter.unusedVariables false
namespace Go.Proofs.YtokgbcachcmeaaaGreatDoor
open Go.RowKit Ax
noncomputable def tr_cmp64 (x : Els [(false, .int .i64), (false, .int .i64)]) : T Av :=
 .ite (false)
  (.ite (false)
   (.ret (.one (.v (.int .i64 ((0 : Int))))))
   (.ret (.one (.v (.int .i64 ((-1 : Int)))))))
  (.ite (false)
   (.ret (.one (.v (.int .i64 ((1 : Int))))))
   (.ite (decide (x.1 < x.2.1))
    (.ret (.one (.v (.int .i64 ((-1 : Int))))))
    (.ite (decide (x.1 > x.2.1))
     (.ret (.one (.v (.int .i64 ((1 : Int))))))
     (.ret (.one (.v (.int .i64 ((0 : Int)))))))))
theorem tr_cmp64_eq (x : Els [(false, .int .i64), (false, .int .i64)]) : fnP E5a (fun _ => none) Tryz.f45 (encs [(false, .int .i64), (false, .int .i64)] x) = tr_cmp64 x := by kernel_rfl
noncomputable def con_cmp64 : Con Tryz.prog := ⟨45, [], _, cf_cmp64, tot_con (E := E5a) mixed Tryz.func45 no_loops [(false, .int .i64), (false, .int .i64)] (fun x => aI .i64 (Pq.cz x.1 x.2.1)) fun x => by
  rw [tr_cmp64_eq]
  obtain ⟨x, y, u⟩ := x
  revert x y
  intro (x : Int) (y : Int)
  unfold tr_cmp64
  simp only [T.wp]
  dsimp only [El]
  unfold Pq.cz
  refine ⟨fun h => (by cases h), fun _ => ⟨fun h => (by cases h), fun _ => ⟨fun h => ?_, fun h => ⟨fun h' => ?_, fun h' => ?_⟩⟩⟩⟩
  · rw [if_pos (of_decide_eq_true h)]; rfl
  · rw [if_neg (of_decide_eq_false h), if_pos (of_decide_eq_true h')]; rfl
  · have h1 := of_decide_eq_false h
    have h2 := of_decide_eq_false h'
    rw [if_neg h1, if_neg h2]; rfl⟩
noncomputable def E6 : Env Tryz.prog := ⟨con_cmp64 :: E5a.con, E5a.zero, E5a.cod, E5a.sure, E5a.base, E5a.frz⟩
end Go.Proofs.YtokgbcachcmeaaaGreatDoor
/-
Fractions: Cmp, Add, Mul, Div.
-/
set_option linter.unusedSimpArgs false
set_option linter.unusedVariables false
namespace Go.Proofs.YtokgbcachcmeaaaGreatDoor
open Go.RowKit Ax
noncomputable def tr_rcmp (x : Els [(true, cF), (true, cF)]) : T Av :=
 .ite (smB (x.1) && smB x.2.1)
  (.ret (.tup [(.one (.v (.int .i64 (Pq.cz (IntKind.wrap .i64 (zW x.1.1 * zW x.2.1.2)) (IntKind.wrap .i64 (zW x.2.1.1 * zW x.1.2)))))), (.one (.v (.bool (true))))]))
  (.need (lenOk (List.length [x.1, x.2.1])) (.ite (!List.all [x.1, x.2.1] (safeF (500 : Int)))
    (.ret (.tup [(.one (.v (.int .i64 ((0 : Int))))), (.one (.v (.bool (false))))]))
    (.lt (zW x.1.1 * zW x.2.1.2) (fun v0 =>
     .lt (zW x.2.1.1 * zW x.1.2) (fun v1 =>
      .ret (.tup [(.one (.v (.int .i64 (Pq.cz (zW (wOf v0)) (zW (wOf v1)))))), (.one (.v (.bool (true && Pq.fits v0 && Pq.fits v1))))]))))))
theorem tr_rcmp_eq (x : Els [(true, cF), (true, cF)]) : fnP E6 (fun _ => none) Tryz.f19 (encs [(true, cF), (true, cF)] x) = tr_rcmp x := by kernel_rfl
noncomputable def tr_radd (x : Els [(true, cF), (true, cF)]) : T Av :=
 .ite (smB (x.1) && smB x.2.1)
  (.need (in63 (IntKind.wrap .i64 (IntKind.wrap .i64 (zW x.1.1 * zW x.2.1.2) + IntKind.wrap .i64 (zW x.2.1.1 * zW x.1.2))) ∧ in63 (IntKind.wrap .i64 (zW x.1.2 * zW x.2.1.2)) ∧ IntKind.wrap .i64 (zW x.1.2 * zW x.2.1.2) ≠ (0 : El (Cd.int .i64))) (.lt (rOf (Rat.divInt (IntKind.wrap .i64 (IntKind.wrap .i64 (zW x.1.1 * zW x.2.1.2) + IntKind.wrap .i64 (zW x.2.1.1 * zW x.1.2))) (IntKind.wrap .i64 (zW x.1.2 * zW x.2.1.2)))) (fun v0 =>
    .ret (.tup [(.agg [.v (.bool v0.1.1), .w v0.1.2, .v (.bool v0.2.1), .w v0.2.2]), (.one (.v (.bool (true))))]))))
  (.need (lenOk (List.length [x.1, x.2.1])) (.ite (!List.all [x.1, x.2.1] (safeF (500 : Int)))
    (.ret (.tup [(.agg [.v (.bool w0.1), .w w0.2, .v (.bool w0.1), .w w0.2]), (.one (.v (.bool (false))))]))
    (.lt (zW x.1.1 * zW x.2.1.2) (fun v0 =>
     .lt (zW x.2.1.1 * zW x.1.2) (fun v1 =>
      .lt (zW x.1.2 * zW x.2.1.2) (fun v2 =>
       .lt (zW (wOf v0) + zW (wOf v1)) (fun v3 =>
        .ite (!(true && Pq.fits v0 && Pq.fits v1 && Pq.fits v2))
         (.ret (.tup [(.agg [.v (.bool w0.1), .w w0.2, .v (.bool w0.1), .w w0.2]), (.one (.v (.bool (false))))]))
         (.ite (!Pq.fits v3)
          (.ret (.tup [(.agg [.v (.bool w0.1), .w w0.2, .v (.bool w0.1), .w w0.2]), (.one (.v (.bool (false))))]))
          (.ite (decide (NewOk (wOf v3) (wOf v2)))
           (.lt (newF (wOf v3) (wOf v2)) (fun v4 =>
            .ret (.tup [(.agg [.v (.bool v4.1.1), .w v4.1.2, .v (.bool v4.2.1), .w v4.2.2]), (.one (.v (.bool (true))))])))
           (.ret (.tup [(.agg [.v (.bool w0.1), .w w0.2, .v (.bool w0.1), .w w0.2]), (.one (.v (.bool (false))))])))))))))))
theorem tr_radd_eq (x : Els [(true, cF), (true, cF)]) : fnP E6 (fun _ => none) Tryz.f31 (encs [(true, cF), (true, cF)] x) = tr_radd x := by kernel_rfl
noncomputable def tr_rmul (x : Els [(true, cF), (true, cF)]) : T Av :=
 .ite (smB (x.1) && smB x.2.1)
  (.need (in63 (IntKind.wrap .i64 (zW x.1.1 * zW x.2.1.1)) ∧ in63 (IntKind.wrap .i64 (zW x.1.2 * zW x.2.1.2)) ∧ IntKind.wrap .i64 (zW x.1.2 * zW x.2.1.2) ≠ (0 : El (Cd.int .i64))) (.lt (rOf (Rat.divInt (IntKind.wrap .i64 (zW x.1.1 * zW x.2.1.1)) (IntKind.wrap .i64 (zW x.1.2 * zW x.2.1.2)))) (fun v0 =>
    .ret (.tup [(.agg [.v (.bool v0.1.1), .w v0.1.2, .v (.bool v0.2.1), .w v0.2.2]), (.one (.v (.bool (true))))]))))
  (.need (lenOk (List.length [x.1, x.2.1])) (.ite (!List.all [x.1, x.2.1] (safeF (500 : Int)))
    (.ret (.tup [(.agg [.v (.bool w0.1), .w w0.2, .v (.bool w0.1), .w w0.2]), (.one (.v (.bool (false))))]))
    (.lt (zW x.1.1 * zW x.2.1.1) (fun v0 =>
     .lt (zW x.1.2 * zW x.2.1.2) (fun v1 =>
      .ite (!(true && Pq.fits v0 && Pq.fits v1))
       (.ret (.tup [(.agg [.v (.bool w0.1), .w w0.2, .v (.bool w0.1), .w w0.2]), (.one (.v (.bool (false))))]))
       (.ite (decide (NewOk (wOf v0) (wOf v1)))
        (.lt (newF (wOf v0) (wOf v1)) (fun v2 =>
         .ret (.tup [(.agg [.v (.bool v2.1.1), .w v2.1.2, .v (.bool v2.2.1), .w v2.2.2]), (.one (.v (.bool (true))))])))
        (.ret (.tup [(.agg [.v (.bool w0.1), .w w0.2, .v (.bool w0.1), .w w0.2]), (.one (.v (.bool (false))))]))))))))
theorem tr_rmul_eq (x : Els [(true, cF), (true, cF)]) : fnP E6 (fun _ => none) Tryz.f118 (encs [(true, cF), (true, cF)] x) = tr_rmul x := by kernel_rfl
noncomputable def tr_rdiv (x : Els [(true, cF), (true, cF)]) : T Av :=
 .ite (smB (x.1) && smB x.2.1)
  (.ite (zW x.2.1.1 != (0 : Int))
   (.need (in63 (IntKind.wrap .i64 (zW x.1.1 * zW x.2.1.2)) ∧ in63 (IntKind.wrap .i64 (zW x.1.2 * zW x.2.1.1)) ∧ IntKind.wrap .i64 (zW x.1.2 * zW x.2.1.1) ≠ (0 : El (Cd.int .i64))) (.lt (rOf (Rat.divInt (IntKind.wrap .i64 (zW x.1.1 * zW x.2.1.2)) (IntKind.wrap .i64 (zW x.1.2 * zW x.2.1.1)))) (fun v0 =>
     .ret (.tup [(.agg [.v (.bool v0.1.1), .w v0.1.2, .v (.bool v0.2.1), .w v0.2.2]), (.one (.v (.bool (true))))]))))
   (.need (lenOk (List.length [x.1, x.2.1])) (.ite (!List.all [x.1, x.2.1] (safeF (500 : Int)))
     (.ret (.tup [(.agg [.v (.bool w0.1), .w w0.2, .v (.bool w0.1), .w w0.2]), (.one (.v (.bool (false))))]))
     (.ite (Pq.cz (zW x.2.1.1) (0 : Int) == (0 : Int))
      (.ret (.tup [(.agg [.v (.bool w0.1), .w w0.2, .v (.bool w0.1), .w w0.2]), (.one (.v (.bool (false))))]))
      (.lt (zW x.1.1 * zW x.2.1.2) (fun v0 =>
       .lt (zW x.1.2 * zW x.2.1.1) (fun v1 =>
        .ite (!(true && Pq.fits v0 && Pq.fits v1))
         (.ret (.tup [(.agg [.v (.bool w0.1), .w w0.2, .v (.bool w0.1), .w w0.2]), (.one (.v (.bool (false))))]))
         (.ite (decide (NewOk (wOf v0) (wOf v1)))
          (.lt (newF (wOf v0) (wOf v1)) (fun v2 =>
           .ret (.tup [(.agg [.v (.bool v2.1.1), .w v2.1.2, .v (.bool v2.2.1), .w v2.2.2]), (.one (.v (.bool (true))))])))
          (.ret (.tup [(.agg [.v (.bool w0.1), .w w0.2, .v (.bool w0.1), .w w0.2]), (.one (.v (.bool (false))))]))))))))))
  (.need (lenOk (List.length [x.1, x.2.1])) (.ite (!List.all [x.1, x.2.1] (safeF (500 : Int)))
    (.ret (.tup [(.agg [.v (.bool w0.1), .w w0.2, .v (.bool w0.1), .w w0.2]), (.one (.v (.bool (false))))]))
    (.ite (Pq.cz (zW x.2.1.1) (0 : Int) == (0 : Int))
     (.ret (.tup [(.agg [.v (.bool w0.1), .w w0.2, .v (.bool w0.1), .w w0.2]), (.one (.v (.bool (false))))]))
     (.lt (zW x.1.1 * zW x.2.1.2) (fun v0 =>
      .lt (zW x.1.2 * zW x.2.1.1) (fun v1 =>
       .ite (!(true && Pq.fits v0 && Pq.fits v1))
        (.ret (.tup [(.agg [.v (.bool w0.1), .w w0.2, .v (.bool w0.1), .w w0.2]), (.one (.v (.bool (false))))]))
        (.ite (decide (NewOk (wOf v0) (wOf v1)))
         (.lt (newF (wOf v0) (wOf v1)) (fun v2 =>
          .ret (.tup [(.agg [.v (.bool v2.1.1), .w v2.1.2, .v (.bool v2.2.1), .w v2.2.2]), (.one (.v (.bool (true))))])))
         (.ret (.tup [(.agg [.v (.bool w0.1), .w w0.2, .v (.bool w0.1), .w w0.2]), (.one (.v (.bool (false))))])))))))))
theorem tr_rdiv_eq (x : Els [(true, cF), (true, cF)]) : fnP E6 (fun _ => none) Tryz.f14 (encs [(true, cF), (true, cF)] x) = tr_rdiv x := by kernel_rfl
end Go.Proofs.YtokgbcachcmeaaaGreatDoor
/-
Fractions as rationals: reckoning, plain laws.
-/
set_option linter.unusedSimpArgs false
set_option linter.unusedVariables false
namespace Ax
open Go Go.RowKit
theorem safe_bk {x : F} {k : Nat} (h : SafeF k x) : (zW x.1).natAbs < 2 ^ k ∧ (zW x.2).natAbs < 2 ^ k ∧ 0 < zW x.2 := by
  obtain ⟨h1, h2, h3⟩ := h
  exact ⟨Pq.bitn_le.1 (by omega), Pq.bitn_le.1 (by omega), h3.2.1⟩
theorem safe_b {x : F} (h : SafeF 500 x) : (zW x.1).natAbs < 2 ^ 500 ∧ (zW x.2).natAbs < 2 ^ 500 ∧ 0 < zW x.2 := safe_bk (k := 500) h
theorem mul_b {a b : Int} (ha : a.natAbs < 2 ^ 500) (hb : b.natAbs < 2 ^ 500) : (a * b).natAbs < 2 ^ 1000 := pow_mul_ez (j := 500) (k := 500) (n := 1000) rfl ha hb
theorem add_b {a b : Int} (ha : a.natAbs < 2 ^ 1000) (hb : b.natAbs < 2 ^ 1000) : (a + b).natAbs < 2 ^ 1001 := pow_add_ez (k := 1000) (n := 1001) rfl ha hb
theorem b_le {z : Int} (h : z.natAbs < 2 ^ 1000) : z.natAbs < 2 ^ 1001 := pow_to (j := 1000) (k := 1001) h (by decide)
theorem isW_wOf {z : Int} (h : z.natAbs < Pq.bp 32) : isW (wOf z) = true := by
  rw [isW_iff]
  unfold wOf
  rw [dif_pos h]
  rintro ⟨h1, h2⟩
  simp only [decide_eq_true_eq] at h1
  have h2' : z.natAbs = 0 := h2
  omega
theorem big_b {z : Int} (h : z.natAbs < 2 ^ 1001) : z.natAbs < Pq.bp 32 ∧ Pq.bitn z.natAbs ≤ 1023 := by
  exact ⟨Nat.lt_of_lt_of_le h (bp_ge (k := 1001) 1024 rfl (by decide)), Pq.bitn_le.2 (pow_to (j := 1001) (k := 1023) h (by decide))⟩
theorem fits_b {z : Int} (h : z.natAbs < 2 ^ 1001) : Pq.fits z = true := by
  unfold Pq.fits
  exact decide_eq_true (big_b h).1
theorem zW_b {z : Int} (h : z.natAbs < 2 ^ 1001) : zW (wOf z) = z := zW_wOf (big_b h).1
theorem new_b {n d : Int} (hn : n.natAbs < 2 ^ 1001) (hd : d.natAbs < 2 ^ 1001) (h0 : d ≠ 0) : NewOk (wOf n) (wOf d) := by
  unfold NewOk
  rw [zW_b hn, zW_b hd]
  exact ⟨h0, (big_b hn).2, (big_b hd).2, isW_wOf (big_b hn).1, isW_wOf (big_b hd).1⟩
theorem newF_b {n d : Int} (hn : n.natAbs < 2 ^ 1001) (hd : d.natAbs < 2 ^ 1001) : newF (wOf n) (wOf d) = rOf (Rat.divInt n d) := by
  unfold newF
  rw [zW_b hn, zW_b hd]
theorem mul_s {a b : Int} (ha : a.natAbs < 1073741824) (hb : b.natAbs < 1073741824) : -1152921504606846976 < a * b ∧ a * b < 1152921504606846976 := by
  have h : (a * b).natAbs < 1152921504606846976 := by
    rw [Int.natAbs_mul]
    exact Nat.mul_lt_mul'' ha hb
  omega
theorem mul_w {a b : Int} (ha : a.natAbs < 1073741824) (hb : b.natAbs < 1073741824) : IntKind.i64.wrap (a * b) = a * b := IntWalk.i64_in _ (by have := mul_s ha hb; omega)
def cq (p q : Rat) : Int := if p < q then -1 else if q < p then 1 else 0
theorem divInt_lt {a b c d : Int} (hb : 0 < b) (hd : 0 < d) : Rat.divInt a b < Rat.divInt c d ↔ a * d < c * b := by
  rw [← Rat.not_le, Rat.le_iff_sub_nonneg, Rat.divInt_sub_divInt _ _ (by omega) (by omega), Rat.divInt_nonneg_iff_of_pos_right (Int.mul_pos hb hd)]
  omega
theorem cz_q {x y : F} (hx : 0 < zW x.2) (hy : 0 < zW y.2) : Pq.cz (zW x.1 * zW y.2) (zW y.1 * zW x.2) = cq (qF x) (qF y) := by
  unfold Pq.cz cq qF
  simp only [divInt_lt hx hy, divInt_lt hy hx]
theorem add_q {x y : F} (hx : 0 < zW x.2) (hy : 0 < zW y.2) : qF x + qF y = Rat.divInt (zW x.1 * zW y.2 + zW y.1 * zW x.2) (zW x.2 * zW y.2) := by
  unfold qF; rw [Rat.divInt_add_divInt _ _ (by omega) (by omega)]
theorem mul_q (x y : F) : qF x * qF y = Rat.divInt (zW x.1 * zW y.1) (zW x.2 * zW y.2) := by
  unfold qF; rw [Rat.divInt_mul_divInt]
theorem div_q (x y : F) : qF x / qF y = Rat.divInt (zW x.1 * zW y.2) (zW x.2 * zW y.1) := by
  unfold qF; rw [Rat.div_def, Rat.inv_divInt, Rat.divInt_mul_divInt]
theorem q_zero {x : F} (hx : 0 < zW x.2) : qF x = 0 ↔ zW x.1 = 0 := by
  unfold qF
  rw [show (0 : Rat) = Rat.divInt 0 1 from rfl, Rat.divInt_eq_divInt_iff (by omega) (by omega)]
  omega
theorem sub_q {x y : F} (hx : 0 < zW x.2) (hy : 0 < zW y.2) : qF x - qF y = Rat.divInt (zW x.1 * zW y.2 - zW y.1 * zW x.2) (zW x.2 * zW y.2) := by
  unfold qF; rw [Rat.divInt_sub_divInt _ _ (by omega) (by omega)]
theorem neg_lt (y : W) : (-zW y).natAbs < Pq.bp 32 := by rw [Int.natAbs_neg]; exact zW_lt y
theorem neg_q (y : F) : qF (wOf (-zW y.1), y.2) = - qF y := by
  unfold qF
  rw [Rat.neg_divInt, zW_wOf (neg_lt y.1)]
theorem neg_safe {b : Int} {y : F} (h : SafeF b y) : SafeF b (wOf (-zW y.1), y.2) := by
  obtain ⟨h1, h2, h3, h4, h5⟩ := h
  unfold SafeF OkF
  rw [zW_wOf (neg_lt y.1), Int.natAbs_neg]
  exact ⟨h1, h2, (isW_iff _).1 (isW_wOf (neg_lt y.1)), h4, h5⟩
def both (x y : F) : Bool := safeF 500 x && safeF 500 y
theorem both_sm {x y : F} (h : (smB x && smB y) = true) : both x y = true := by
  rw [Bool.and_eq_true] at h
  unfold both safeF
  rw [decide_eq_true (sm_safe h.1), decide_eq_true (sm_safe h.2)]; rfl
theorem both_iff {x y : F} : both x y = true ↔ SafeF 500 x ∧ SafeF 500 y := by
  unfold both safeF
  simp
theorem neg_both {x y : F} (h : both x y = true) : both x (wOf (-zW y.1), y.2) = true := both_iff.2 ⟨(both_iff.1 h).1, neg_safe (both_iff.1 h).2⟩
theorem all_both {x y : F} : List.all [x, y] (safeF 500) = both x y := by simp [both]
theorem ans_no {x : F} : ansF false x = .tup [.agg [.v (.bool w0.1), .w w0.2, .v (.bool w0.1), .w w0.2], .one (.v (.bool false))] := rfl
end Ax
/-
Fractions: what Cmp, Add, Mul, Div come to.
-/
set_option linter.unusedSimpArgs false
set_option linter.unusedVariables false
namespace Go.Proofs.YtokgbcachcmeaaaGreatDoor
open Go.RowKit Ax
theorem len2 {α : Type} (x y : α) : lenOk (List.length [x, y]) := by
  unfold lenOk; rw [show [x, y].length = 2 from rfl]; omega
theorem rcmp_ok (x : Els [(true, cF), (true, cF)]) : (tr_rcmp x).wp (· = ansA false (.int .i64) (both x.1 x.2.1) (cq (qF x.1) (qF x.2.1)) (0 : Int)) := by
  obtain ⟨x, y, u⟩ := x
  revert x y
  intro (x : F) (y : F)
  unfold tr_rcmp
  simp only [T.wp]
  rw [all_both]
  refine ⟨fun h => ?_, fun h => ⟨len2 _ _, fun hb => ?_, fun hb => ?_⟩⟩
  · rw [both_sm h]
    rw [Bool.and_eq_true] at h
    obtain ⟨a1, a2, a3⟩ := sm_qF h.1
    obtain ⟨b1, b2, b3⟩ := sm_qF h.2
    rw [mul_w a1 b2, mul_w b1 a2, cz_q a3 b3]
    rfl
  · rw [show both x y = false from by simpa using hb]; rfl
  · have hb' : both x y = true := by simpa using hb
    obtain ⟨h1, h2⟩ := both_iff.1 hb'
    obtain ⟨a1, a2, a3⟩ := safe_b h1
    obtain ⟨b1, b2, b3⟩ := safe_b h2
    have k1 := b_le (mul_b a1 b2)
    have k2 := b_le (mul_b b1 a2)
    rw [hb', fits_b k1, fits_b k2, zW_b k1, zW_b k2, cz_q a3 b3]
    rfl
theorem radd_ok (x : Els [(true, cF), (true, cF)]) : (tr_radd x).wp (· = ansF (both x.1 x.2.1) (rOf (qF x.1 + qF x.2.1))) := by
  obtain ⟨x, y, u⟩ := x
  revert x y
  intro (x : F) (y : F)
  unfold tr_radd
  simp only [T.wp]
  rw [all_both]
  refine ⟨fun h => ?_, fun h => ⟨len2 _ _, fun hb => ?_, fun hb => ?_⟩⟩
  · rw [both_sm h]
    rw [Bool.and_eq_true] at h
    obtain ⟨a1, a2, a3⟩ := sm_qF h.1
    obtain ⟨b1, b2, b3⟩ := sm_qF h.2
    have m1 := mul_s a1 b2
    have m2 := mul_s b1 a2
    have m3 := mul_s a2 b2
    have hp := Int.mul_pos a3 b3
    rw [mul_w a1 b2, mul_w b1 a2, mul_w a2 b2, IntWalk.i64_in (zW x.1 * zW y.2 + zW y.1 * zW x.2) (by omega), ← add_q a3 b3]
    exact ⟨⟨⟨by omega, by omega⟩, ⟨by omega, by omega⟩, by omega⟩, rfl⟩
  · rw [show both x y = false from by simpa using hb]; rfl
  · have hb' : both x y = true := by simpa using hb
    obtain ⟨h1, h2⟩ := both_iff.1 hb'
    obtain ⟨a1, a2, a3⟩ := safe_b h1
    obtain ⟨b1, b2, b3⟩ := safe_b h2
    have k1 := mul_b a1 b2
    have k2 := mul_b b1 a2
    have k3 := b_le (mul_b a2 b2)
    have k4 := add_b k1 k2
    have hp := Int.mul_pos a3 b3
    rw [hb', fits_b (b_le k1), fits_b (b_le k2), fits_b k3, zW_b (b_le k1), zW_b (b_le k2), fits_b k4]
    have hnew := new_b k4 k3 (by omega)
    refine ⟨fun e => (by cases e), fun _ => ⟨fun e => (by cases e), fun _ => ⟨fun _ => ?_, fun e => absurd hnew (of_decide_eq_false e)⟩⟩⟩
    rw [newF_b k4 k3, ← add_q a3 b3]; rfl
theorem rmul_ok (x : Els [(true, cF), (true, cF)]) : (tr_rmul x).wp (· = ansF (both x.1 x.2.1) (rOf (qF x.1 * qF x.2.1))) := by
  obtain ⟨x, y, u⟩ := x
  revert x y
  intro (x : F) (y : F)
  unfold tr_rmul
  simp only [T.wp]
  rw [all_both]
  refine ⟨fun h => ?_, fun h => ⟨len2 _ _, fun hb => ?_, fun hb => ?_⟩⟩
  · rw [both_sm h]
    rw [Bool.and_eq_true] at h
    obtain ⟨a1, a2, a3⟩ := sm_qF h.1
    obtain ⟨b1, b2, b3⟩ := sm_qF h.2
    have m1 := mul_s a1 b1
    have m3 := mul_s a2 b2
    have hp := Int.mul_pos a3 b3
    rw [mul_w a1 b1, mul_w a2 b2, ← mul_q]
    exact ⟨⟨⟨by omega, by omega⟩, ⟨by omega, by omega⟩, by omega⟩, rfl⟩
  · rw [show both x y = false from by simpa using hb]; rfl
  · have hb' : both x y = true := by simpa using hb
    obtain ⟨h1, h2⟩ := both_iff.1 hb'
    obtain ⟨a1, a2, a3⟩ := safe_b h1
    obtain ⟨b1, b2, b3⟩ := safe_b h2
    have k1 := b_le (mul_b a1 b1)
    have k3 := b_le (mul_b a2 b2)
    have hp := Int.mul_pos a3 b3
    rw [hb', fits_b k1, fits_b k3]
    have hnew := new_b k1 k3 (by omega)
    refine ⟨fun e => (by cases e), fun _ => ⟨fun _ => ?_, fun e => absurd hnew (of_decide_eq_false e)⟩⟩
    rw [newF_b k1 k3, ← mul_q]; rfl
theorem rdiv_ok (x : Els [(true, cF), (true, cF)]) : (tr_rdiv x).wp (· = ansF (both x.1 x.2.1 && decide (qF x.2.1 ≠ 0)) (rOf (qF x.1 / qF x.2.1))) := by
  obtain ⟨x, y, u⟩ := x
  revert x y
  intro (x : F) (y : F)
  unfold tr_rdiv
  simp only [T.wp]
  rw [all_both]
  have zero : ∀ (b3 : 0 < zW y.2), ((Pq.cz (zW y.1) 0 == 0) = true ↔ qF y = 0) := fun b3 => by
    rw [q_zero b3, beq_iff_eq, cz_eq]
  have core : both x y = true → (qF y ≠ 0) → zW x.1 * zW y.2 = zW x.1 * zW y.2 ∧ Pq.fits (zW x.1 * zW y.2) = true ∧ Pq.fits (zW x.2 * zW y.1) = true ∧ NewOk (wOf (zW x.1 * zW y.2)) (wOf (zW x.2 * zW y.1)) ∧ newF (wOf (zW x.1 * zW y.2)) (wOf (zW x.2 * zW y.1)) = rOf (qF x / qF y) := fun hb hq => by
    obtain ⟨h1, h2⟩ := both_iff.1 hb
    obtain ⟨a1, a2, a3⟩ := safe_b h1
    obtain ⟨b1, b2, b3⟩ := safe_b h2
    have k1 := b_le (mul_b a1 b2)
    have k3 := b_le (mul_b a2 b1)
    have hy : zW y.1 ≠ 0 := fun e => hq ((q_zero b3).2 e)
    have hne : zW x.2 * zW y.1 ≠ 0 := Int.mul_ne_zero (by omega) hy
    exact ⟨rfl, fits_b k1, fits_b k3, new_b k1 k3 hne, by rw [newF_b k1 k3, div_q]⟩
  refine ⟨fun h => ⟨fun hz => ?_, fun hz => ?_⟩, fun h => ⟨len2 _ _, fun hb => ?_, fun hb => ⟨fun hz => ?_, fun hz => ?_⟩⟩⟩
  · have hb := both_sm h
    rw [Bool.and_eq_true] at h
    obtain ⟨a1, a2, a3⟩ := sm_qF h.1
    obtain ⟨b1, b2, b3⟩ := sm_qF h.2
    have hz' : zW y.1 ≠ 0 := by simpa using hz
    have hq : qF y ≠ 0 := fun e => hz' ((q_zero b3).1 e)
    have m1 := mul_s a1 b2
    have m3 := mul_s a2 b1
    have hne : zW x.2 * zW y.1 ≠ 0 := Int.mul_ne_zero (by omega) hz'
    rw [hb, decide_eq_true hq, mul_w a1 b2, mul_w a2 b1, ← div_q]
    exact ⟨⟨⟨by omega, by omega⟩, ⟨by omega, by omega⟩, hne⟩, rfl⟩
  · have hb := both_sm h
    rw [Bool.and_eq_true] at h
    obtain ⟨b1, b2, b3⟩ := sm_qF h.2
    have hz' : zW y.1 = 0 := by simpa using hz
    have hq : qF y = 0 := (q_zero b3).2 hz'
    refine ⟨len2 _ _, fun e => ?_, fun e => ⟨fun e2 => ?_, fun e2 => ?_⟩⟩
    · rw [hb] at e; cases e
    · rw [decide_eq_false (fun k => k hq), Bool.and_false]; rfl
    · have := (zero b3).2 hq
      rw [this] at e2; cases e2
  · rw [show both x y = false from by simpa using hb]; rfl
  · have hb' : both x y = true := by simpa using hb
    have b3 := (safe_b (both_iff.1 hb').2).2.2
    rw [decide_eq_false (fun k => k ((zero b3).1 hz)), Bool.and_false]; rfl
  · have hb' : both x y = true := by simpa using hb
    have b3 := (safe_b (both_iff.1 hb').2).2.2
    have hq : qF y ≠ 0 := fun e => by rw [(zero b3).2 e] at hz; cases hz
    obtain ⟨_, f1, f2, hnew, e⟩ := core hb' hq
    rw [hb', decide_eq_true hq, f1, f2]
    refine ⟨fun e => (by cases e), fun _ => ⟨fun _ => ?_, fun e => absurd hnew (of_decide_eq_false e)⟩⟩
    rw [e]; rfl
noncomputable def con_rcmp : Con Tryz.prog := ⟨19, [], _, cf_rcmp, ans_con0 (E := E6) mixed Tryz.func19 no_loops [(true, cF), (true, cF)] false (.int .i64) (fun x => both x.1 x.2.1) (fun x => cq (qF x.1) (qF x.2.1)) (fun _ => (0 : Int)) fun x => by rw [tr_rcmp_eq]; exact rcmp_ok x⟩
noncomputable def con_radd : Con Tryz.prog := ⟨31, [], _, cf_radd, ans_con0 (E := E6) mixed Tryz.func31 no_loops [(true, cF), (true, cF)] true cF (fun x => both x.1 x.2.1) (fun x => rOf (qF x.1 + qF x.2.1)) (fun _ => (w0, w0)) fun x => by rw [tr_radd_eq]; exact radd_ok x⟩
noncomputable def con_rmul : Con Tryz.prog := ⟨118, [], _, cf_rmul, ans_con0 (E := E6) mixed Tryz.func118 no_loops [(true, cF), (true, cF)] true cF (fun x => both x.1 x.2.1) (fun x => rOf (qF x.1 * qF x.2.1)) (fun _ => (w0, w0)) fun x => by rw [tr_rmul_eq]; exact rmul_ok x⟩
noncomputable def con_rdiv : Con Tryz.prog := ⟨14, [], _, cf_rdiv, ans_con0 (E := E6) mixed Tryz.func14 no_loops [(true, cF), (true, cF)] true cF (fun x => both x.1 x.2.1 && decide (qF x.2.1 ≠ 0)) (fun x => rOf (qF x.1 / qF x.2.1)) (fun _ => (w0, w0)) fun x => by rw [tr_rdiv_eq]; exact rdiv_ok x⟩
noncomputable def E7 : Env Tryz.prog := ⟨con_rcmp :: con_radd :: con_rmul :: con_rdiv :: E6.con, E6.zero, E6.cod, E6.sure, E6.base, E6.frz⟩
theorem cf_rsum (xs : Array Value) (w : World) : (callFunc 13 xs).run Tryz.prog w = .ok (.enter 13 xs) w := by kernel_rfl
theorem cf_rleast (xs : Array Value) (w : World) : (callFunc 37 xs).run Tryz.prog w = .ok (.enter 37 xs) w := by kernel_rfl
end Go.Proofs.YtokgbcachcmeaaaGreatDoor
/-
Fractions: Sub, Floor, the loops of Sum and Least.
-/
set_option linter.unusedSimpArgs false
set_option linter.unusedVariables false
namespace Go.Proofs.YtokgbcachcmeaaaGreatDoor
open Go.RowKit Ax
def spSum : LSpec := ⟨29, [(11, false, .sl cF), (12, false, .int .i64), (13, false, .int .i64)], [(2, 0, 0), (4, 1, 0)], [(28, cF), (28, cF)], fun e => match e with | .ret => [3] | _ => []⟩
def spLeast : LSpec := ⟨37, [(17, false, .sl cF), (18, false, .int .i64), (19, false, .int .i64)], [(2, 0, 0), (4, 1, 0)], [(28, cF), (28, cF)], fun e => match e with | .ret => [3] | _ => []⟩
end Go.Proofs.YtokgbcachcmeaaaGreatDoor
/-
Fractions: Sub, Floor, the loops of Sum and Least.
-/
set_option linter.unusedSimpArgs false
set_option linter.unusedVariables false
namespace Go.Proofs.YtokgbcachcmeaaaGreatDoor
open Go.RowKit Ax
noncomputable def tr_rsub (x : Els [(true, cF), (true, cF)]) : T Av :=
 .ite (smB (x.1) && smB x.2.1)
  (.need (in63 (IntKind.wrap .i64 (IntKind.wrap .i64 (zW x.1.1 * zW x.2.1.2) - IntKind.wrap .i64 (zW x.2.1.1 * zW x.1.2))) ∧ in63 (IntKind.wrap .i64 (zW x.1.2 * zW x.2.1.2)) ∧ IntKind.wrap .i64 (zW x.1.2 * zW x.2.1.2) ≠ (0 : El (Cd.int .i64))) (.lt (rOf (Rat.divInt (IntKind.wrap .i64 (IntKind.wrap .i64 (zW x.1.1 * zW x.2.1.2) - IntKind.wrap .i64 (zW x.2.1.1 * zW x.1.2))) (IntKind.wrap .i64 (zW x.1.2 * zW x.2.1.2)))) (fun v0 =>
    .ret (.tup [(.agg [.v (.bool v0.1.1), .w v0.1.2, .v (.bool v0.2.1), .w v0.2.2]), (.one (.v (.bool (true))))]))))
  (.need (lenOk (List.length [x.1, x.2.1])) (.ite (!List.all [x.1, x.2.1] (safeF (500 : Int)))
    (.ret (.tup [(.agg [.v (.bool w0.1), .w w0.2, .v (.bool w0.1), .w w0.2]), (.one (.v (.bool (false))))]))
    (.ite (both (x.1) (wOf (-zW x.2.1.1), x.2.1.2))
     (.lt (rOf (qF (x.1) + qF (wOf (-zW x.2.1.1), x.2.1.2))) (fun v0 =>
      .ret (.tup [(.agg [.v (.bool v0.1.1), .w v0.1.2, .v (.bool v0.2.1), .w v0.2.2]), (.one (.v (.bool (true))))])))
     (.ret (.tup [(.agg [.v (.bool w0.1), .w w0.2, .v (.bool w0.1), .w w0.2]), (.one (.v (.bool (false))))])))))
theorem tr_rsub_eq (x : Els [(true, cF), (true, cF)]) : fnP E7 (fun _ => none) Tryz.f38 (encs [(true, cF), (true, cF)] x) = tr_rsub x := by kernel_rfl
noncomputable def tr_sumL (x : LSpec.X spSum × LSpec.Y spSum) : T (Rd spSum) :=
 .ite (decide (x.1.2.2.1 < x.1.2.1))
  (.get x.1.1 x.1.2.2.1 (fun v0 =>
   .ite (both x.2.2.1 v0)
    (.lt (rOf (qF x.2.2.1 + qF v0)) (fun v1 =>
     .ite (!true)
      (.ret (.out (Go.Exit.ret) [(.one (.v (.bool (false))))] ((w0, w0), (x.2.2.1, ()))))
      (.ret (.again (x.1.1, (x.1.2.1, (IntKind.wrap .i64 (x.1.2.2.1 + (1 : Int)), ()))) (x.2.1, (v1, ()))))))
    (.ite (!false)
     (.ret (.out (Go.Exit.ret) [(.one (.v (.bool (false))))] ((w0, w0), (x.2.2.1, ()))))
     (.ret (.again (x.1.1, (x.1.2.1, (IntKind.wrap .i64 (x.1.2.2.1 + (1 : Int)), ()))) (x.2.1, ((w0, w0), ())))))))
  (.ret (.out (Go.Exit.exit (0 : Nat)) [] (x.2.1, (x.2.2.1, ()))))
theorem tr_sumL_eq (x : LSpec.X spSum × LSpec.Y spSum) : LSpec.round spSum E7 (fun _ => none) (bodyOf Tryz.f13 0) x.1 x.2 = tr_sumL x := by kernel_rfl
noncomputable def tr_leastL (x : LSpec.X spLeast × LSpec.Y spLeast) : T (Rd spLeast) :=
 .ite (decide (x.1.2.2.1 < x.1.2.1))
  (.get x.1.1 x.1.2.2.1 (fun v0 =>
   .ite (both v0 x.2.2.1)
    (.lt (cq (qF v0) (qF x.2.2.1)) (fun v1 =>
     .ite (!true)
      (.ret (.out (Go.Exit.ret) [(.one (.v (.bool (false))))] ((w0, w0), (x.2.2.1, ()))))
      (.ite (decide (v1 < (0 : Int)))
       (.ret (.again (x.1.1, (x.1.2.1, (IntKind.wrap .i64 (x.1.2.2.1 + (1 : Int)), ()))) (x.2.1, (v0, ()))))
       (.ret (.again (x.1.1, (x.1.2.1, (IntKind.wrap .i64 (x.1.2.2.1 + (1 : Int)), ()))) (x.2.1, (x.2.2.1, ())))))))
    (.ite (!false)
     (.ret (.out (Go.Exit.ret) [(.one (.v (.bool (false))))] ((w0, w0), (x.2.2.1, ()))))
     (.ite (decide ((0 : Int) < (0 : Int)))
      (.ret (.again (x.1.1, (x.1.2.1, (IntKind.wrap .i64 (x.1.2.2.1 + (1 : Int)), ()))) (x.2.1, (v0, ()))))
      (.ret (.again (x.1.1, (x.1.2.1, (IntKind.wrap .i64 (x.1.2.2.1 + (1 : Int)), ()))) (x.2.1, (x.2.2.1, ()))))))))
  (.ret (.out (Go.Exit.exit (0 : Nat)) [] (x.2.1, (x.2.2.1, ()))))
theorem tr_leastL_eq (x : LSpec.X spLeast × LSpec.Y spLeast) : LSpec.round spLeast E7 (fun _ => none) (bodyOf Tryz.f37 0) x.1 x.2 = tr_leastL x := by kernel_rfl
def sumS : F → List F → Bool × F
  | t, [] => (true, t)
  | t, x :: r => if both t x then sumS (rOf (qF t + qF x)) r else (false, t)
def leastS : F → List F → Bool × F
  | t, [] => (true, t)
  | t, x :: r => if both x t then leastS (if cq (qF x) (qF t) < 0 then x else t) r else (false, t)
def outSum (x : LSpec.X spSum) (y : LSpec.Y spSum) : T (Exit × List Av × LSpec.Y spSum) :=
  .need (x.2.1 = x.1.length ∧ 0 ≤ x.2.2.1 ∧ x.2.2.1 ≤ x.1.length ∧ lenOk x.1.length) (.lt (sumS y.2.1 (x.1.drop x.2.2.1.toNat)) fun r => .ite r.1 (.ret (.exit 0, [], (y.1, r.2, ()))) (.ret (.ret, [aB false], ((w0, w0), r.2, ()))))
theorem sumL_core (l : List F) (n i : Int) (r t : F) (Q : Exit × List Av × LSpec.Y spSum → Prop) (h : (outSum (l, n, i, ()) (r, t, ())).wp Q) : (tr_sumL ((l, n, i, ()), (r, t, ()))).wp fun r => match r with
      | .again x' y' => (x'.1.length - x'.2.2.1).toNat < (l.length - i).toNat ∧ (outSum x' y').wp Q
      | .out e avs y' => Q (e, avs, y') := by
  unfold tr_sumL
  unfold outSum at h ⊢
  simp only [T.wp] at h ⊢
  dsimp only [El, vts] at h ⊢
  obtain ⟨⟨hn, h0, h1, hl⟩, ht, hf⟩ := h
  refine ⟨fun hlt => ?_, fun hge => ?_⟩
  · have hlt := of_decide_eq_true hlt
    rw [hn] at hlt
    obtain ⟨v, hv⟩ := elem_at h0 hlt
    have hd := drop_at h0 hv
    refine ⟨v, h0, hv, fun hs => ⟨fun e => (by cases e), fun _ => ?_⟩, fun hs => ⟨fun _ => ?_, fun e => (by cases e)⟩⟩
    · rw [wrap_next h0 hlt hl]
      rw [hd, sumS, if_pos hs] at ht hf
      exact ⟨by omega, ⟨hn, by omega, by omega, hl⟩, ht, hf⟩
    · rw [hd, sumS, if_neg (by rw [hs]; simp)] at hf
      exact hf rfl
  · have hge := of_decide_eq_false hge
    rw [hn] at hge
    rw [drop_end (by omega), sumS] at ht
    exact ht rfl
theorem sumL_ok : LoopOk Tryz.prog 0 (bodyOf Tryz.f13 0) (spSum.run outSum) :=
  loop_ok (E := E7) (L := fun _ => none) mixed 0 (loops_none _ _ _) spSum (Nat.zero_le _) outSum (fun x _ => (x.1.length - x.2.2.1).toNat) (by
    rintro ⟨l, n, i, ⟨⟩⟩ ⟨r, t, ⟨⟩⟩ Q h
    rw [tr_sumL_eq ((l, n, i, ()), (r, t, ()))]
    exact sumL_core l n i r t Q h)
noncomputable def lpSum : Loops := oneL 3 (spSum.run outSum)
def outLeast (x : LSpec.X spLeast) (y : LSpec.Y spLeast) : T (Exit × List Av × LSpec.Y spLeast) :=
  .need (x.2.1 = x.1.length ∧ 0 ≤ x.2.2.1 ∧ x.2.2.1 ≤ x.1.length ∧ lenOk x.1.length) (.lt (leastS y.2.1 (x.1.drop x.2.2.1.toNat)) fun r => .ite r.1 (.ret (.exit 0, [], (y.1, r.2, ()))) (.ret (.ret, [aB false], ((w0, w0), r.2, ()))))
theorem leastL_core (l : List F) (n i : Int) (r t : F) (Q : Exit × List Av × LSpec.Y spLeast → Prop) (h : (outLeast (l, n, i, ()) (r, t, ())).wp Q) : (tr_leastL ((l, n, i, ()), (r, t, ()))).wp fun r => match r with
      | .again x' y' => (x'.1.length - x'.2.2.1).toNat < (l.length - i).toNat ∧ (outLeast x' y').wp Q
      | .out e avs y' => Q (e, avs, y') := by
  unfold tr_leastL
  unfold outLeast at h ⊢
  simp only [T.wp] at h ⊢
  dsimp only [El, vts] at h ⊢
  obtain ⟨⟨hn, h0, h1, hl⟩, ht, hf⟩ := h
  refine ⟨fun hlt => ?_, fun hge => ?_⟩
  · have hlt := of_decide_eq_true hlt
    rw [hn] at hlt
    obtain ⟨v, hv⟩ := elem_at h0 hlt
    have hd := drop_at h0 hv
    refine ⟨v, h0, hv, fun hs => ⟨fun e => (by cases e), fun _ => ⟨fun hc => ?_, fun hc => ?_⟩⟩, fun hs => ⟨fun _ => ?_, fun e => (by cases e)⟩⟩
    · rw [wrap_next h0 hlt hl]
      rw [hd, leastS, if_pos hs, if_pos (of_decide_eq_true hc)] at ht hf
      exact ⟨by omega, ⟨hn, by omega, by omega, hl⟩, ht, hf⟩
    · rw [wrap_next h0 hlt hl]
      rw [hd, leastS, if_pos hs, if_neg (of_decide_eq_false hc)] at ht hf
      exact ⟨by omega, ⟨hn, by omega, by omega, hl⟩, ht, hf⟩
    · rw [hd, leastS, if_neg (by rw [hs]; simp)] at hf
      exact hf rfl
  · have hge := of_decide_eq_false hge
    rw [hn] at hge
    rw [drop_end (by omega), leastS] at ht
    exact ht rfl
theorem leastL_ok : LoopOk Tryz.prog 0 (bodyOf Tryz.f37 0) (spLeast.run outLeast) :=
  loop_ok (E := E7) (L := fun _ => none) mixed 0 (loops_none _ _ _) spLeast (Nat.zero_le _) outLeast (fun x _ => (x.1.length - x.2.2.1).toNat) (by
    rintro ⟨l, n, i, ⟨⟩⟩ ⟨r, t, ⟨⟩⟩ Q h
    rw [tr_leastL_eq ((l, n, i, ()), (r, t, ()))]
    exact leastL_core l n i r t Q h)
noncomputable def lpLeast : Loops := oneL 5 (spLeast.run outLeast)
theorem rsub_ok (x : Els [(true, cF), (true, cF)]) : (tr_rsub x).wp (· = ansF (both x.1 x.2.1) (rOf (qF x.1 - qF x.2.1))) := by
  obtain ⟨x, y, u⟩ := x
  revert x y
  intro (x : F) (y : F)
  unfold tr_rsub
  simp only [T.wp]
  rw [all_both]
  refine ⟨fun h => ?_, fun h => ⟨len2 _ _, fun hb => ?_, fun hb => ?_⟩⟩
  · rw [both_sm h]
    rw [Bool.and_eq_true] at h
    obtain ⟨a1, a2, a3⟩ := sm_qF h.1
    obtain ⟨b1, b2, b3⟩ := sm_qF h.2
    have m1 := mul_s a1 b2
    have m2 := mul_s b1 a2
    have m3 := mul_s a2 b2
    have hp := Int.mul_pos a3 b3
    rw [mul_w a1 b2, mul_w b1 a2, mul_w a2 b2, IntWalk.i64_in (zW x.1 * zW y.2 - zW y.1 * zW x.2) (by omega), ← sub_q a3 b3]
    exact ⟨⟨⟨by omega, by omega⟩, ⟨by omega, by omega⟩, by omega⟩, rfl⟩
  · rw [show both x y = false from by simpa using hb]; rfl
  · have hb' : both x y = true := by simpa using hb
    rw [hb', neg_both hb', neg_q, ← Rat.sub_eq_add_neg]
    exact ⟨fun _ => rfl, fun e => (by cases e)⟩
end Go.Proofs.YtokgbcachcmeaaaGreatDoor
/-
Fractions: Sum, Least.
-/
set_option linter.unusedSimpArgs false
set_option linter.unusedVariables false
namespace Go.Proofs.YtokgbcachcmeaaaGreatDoor
open Go.RowKit Ax
noncomputable def tr_rsum (x : Els [(false, .sl cF)]) : T Av :=
 .need ((↑(List.length (x.1)) : Int) = (↑(List.length (x.1)) : El (Cd.int .i64)) ∧ (0 : El (Cd.int .i64)) ≤ (0 : Int) ∧ (0 : Int) ≤ (↑(List.length (x.1)) : El (Cd.int .i64)) ∧ lenOk (List.length (x.1))) (.lt (sumS (w0, wOf (1 : Int)) (List.drop (Int.toNat (0 : Int)) (x.1))) (fun v0 =>
   .ite v0.1
    (.ret (.tup [(.agg [.v (.bool v0.2.1.1), .w v0.2.1.2, .v (.bool v0.2.2.1), .w v0.2.2.2]), (.one (.v (.bool (true))))]))
    (.ret (.tup [(.agg [.v (.bool w0.1), .w w0.2, .v (.bool w0.1), .w w0.2]), (.one (.v (.bool (false))))]))))
theorem tr_rsum_eq (x : Els [(false, .sl cF)]) : fnP E7 lpSum Tryz.f13 (encs [(false, .sl cF)] x) = tr_rsum x := by kernel_rfl
noncomputable def tr_rleast (x : Els [(false, .sl cF)]) : T Av :=
 .ite ((↑(List.length (x.1)) : Int) == (0 : Int))
  (.ret (.tup [(.agg [.v (.bool w0.1), .w w0.2, .v (.bool w0.1), .w w0.2]), (.one (.v (.bool (false))))]))
  (.get (x.1) ((0 : Int)) (fun v0 =>
   .need ((0 : Int) ≤ (1 : Int) ∧ (1 : Int) ≤ (↑(List.length (x.1)) : Int) ∧ (↑(List.length (x.1)) : Int) ≤ (↑(List.length (x.1)) : Int)) (.need ((↑(List.length (List.drop (Int.toNat (1 : Int)) (List.take (Int.toNat (↑(List.length (x.1)) : Int)) (x.1)))) : Int) = (↑(List.length (List.drop (Int.toNat (1 : Int)) (List.take (Int.toNat (↑(List.length (x.1)) : Int)) (x.1)))) : El (Cd.int .i64)) ∧ (0 : El (Cd.int .i64)) ≤ (0 : Int) ∧ (0 : Int) ≤ (↑(List.length (List.drop (Int.toNat (1 : Int)) (List.take (Int.toNat (↑(List.length (x.1)) : Int)) (x.1)))) : El (Cd.int .i64)) ∧ lenOk (List.length (List.drop (Int.toNat (1 : Int)) (List.take (Int.toNat (↑(List.length (x.1)) : Int)) (x.1))))) (.lt (leastS v0 (List.drop (Int.toNat (0 : Int)) (List.drop (Int.toNat (1 : Int)) (List.take (Int.toNat (↑(List.length (x.1)) : Int)) (x.1))))) (fun v1 =>
      .ite v1.1
       (.ret (.tup [(.agg [.v (.bool v1.2.1.1), .w v1.2.1.2, .v (.bool v1.2.2.1), .w v1.2.2.2]), (.one (.v (.bool (true))))]))
       (.ret (.tup [(.agg [.v (.bool w0.1), .w w0.2, .v (.bool w0.1), .w w0.2]), (.one (.v (.bool (false))))])))))))
theorem tr_rleast_eq (x : Els [(false, .sl cF)]) : fnP E7 lpLeast Tryz.f37 (encs [(false, .sl cF)] x) = tr_rleast x := by kernel_rfl
noncomputable def con_rsub : Con Tryz.prog := ⟨38, [], _, cf_rsub, ans_con0 (E := E7) mixed Tryz.func38 no_loops [(true, cF), (true, cF)] true cF (fun x => both x.1 x.2.1) (fun x => rOf (qF x.1 - qF x.2.1)) (fun _ => (w0, w0)) fun x => by rw [tr_rsub_eq]; exact rsub_ok x⟩
def sumF (l : List F) : Bool × F := sumS (w0, wOf 1) l
def leastF : List F → Bool × F
  | [] => (false, (w0, w0))
  | x :: r => leastS x r
noncomputable def con_rsum : Con Tryz.prog := ⟨13, [], _, cf_rsum, ans_con (E := E7) (L := lpSum) mixed Tryz.func13 (one_loop sumL_ok (by kernel_rfl)) [(false, .sl cF)] (fun x => lenOk x.1.length) true cF (fun x => (sumF x.1).1) (fun x => (sumF x.1).2) (fun _ => (w0, w0)) fun x hx => by
  rw [tr_rsum_eq]
  unfold tr_rsum
  simp only [T.wp]
  dsimp only [El]
  refine ⟨⟨by simp, by simp, by simp, hx⟩, fun h => ?_, fun h => ?_⟩
  · simp only [Int.toNat_zero, List.drop_zero] at h ⊢; unfold sumF; rw [h]; rfl
  · simp only [Int.toNat_zero, List.drop_zero] at h ⊢; unfold sumF; rw [h]; rfl⟩
noncomputable def con_rleast : Con Tryz.prog := ⟨37, [], _, cf_rleast, ans_con (E := E7) (L := lpLeast) mixed Tryz.func37 (one_loop leastL_ok (by kernel_rfl)) [(false, .sl cF)] (fun x => lenOk x.1.length) true cF (fun x => (leastF x.1).1) (fun x => (leastF x.1).2) (fun _ => (w0, w0)) fun x hx => by
  rw [tr_rleast_eq]
  obtain ⟨l, u⟩ := x
  revert l
  intro (l : List F) (hx : lenOk l.length)
  unfold tr_rleast
  simp only [T.wp]
  dsimp only [El]
  cases l with
  | nil => exact ⟨fun _ => rfl, fun h => by cases h⟩
  | cons f r =>
    refine ⟨fun h => ?_, fun _ => ⟨f, by simp, rfl, ⟨by simp, by simp; omega, by simp⟩, ⟨by simp, by simp, by simp, ?_⟩, fun h => ?_, fun h => ?_⟩⟩
    · simp at h; omega
    · unfold lenOk at hx ⊢; simp at hx ⊢; omega
    · simp only [Int.toNat_zero, List.drop_zero, List.length_cons, Int.toNat_natCast, List.take_succ_cons, show (1 : Int).toNat = 1 from rfl, List.drop_succ_cons, List.take_length] at h ⊢; rw [show leastF (f :: r) = leastS f r from rfl, h]; rfl
    · simp only [Int.toNat_zero, List.drop_zero, List.length_cons, Int.toNat_natCast, List.take_succ_cons, show (1 : Int).toNat = 1 from rfl, List.drop_succ_cons, List.take_length] at h ⊢; rw [show leastF (f :: r) = leastS f r from rfl, h]; rfl⟩
noncomputable def E8 : Env Tryz.prog := ⟨con_rsub :: con_rsum :: con_rleast :: E7.con, E7.zero, E7.cod, E7.sure, E7.base, E7.frz⟩
end Go.Proofs.YtokgbcachcmeaaaGreatDoor
/-
Texts of numbers: the order of bytes turned about; what a number's amount is asked.
-/
set_option linter.unusedSimpArgs false
set_option linter.unusedVariables false
namespace Go.Proofs.YtokgbcachcmeaaaGreatDoor
open Go.RowKit Ax
theorem cf_reverse (xs : Array Value) (w : World) : (callFunc 80 xs).run Tryz.prog w = .ok (.enter 80 xs) w := by kernel_rfl
noncomputable def codB : Cod Tryz.prog := ⟨5, .int .u8, by kernel_rfl, ⟨.int .u8 0, fun w => by kernel_rfl⟩⟩
def spRev : RSpec := ⟨28, [(2, false, .int .i64), (3, false, .int .i64)], [], [], fun _ => [], 0, 5, .int .u8, true, fun _ => 0⟩
end Go.Proofs.YtokgbcachcmeaaaGreatDoor
/-
Plain laws: a list turned about in place; the digits of a number.
-/
set_option linter.unusedSimpArgs false
set_option linter.unusedVariables false
namespace Ax
def revSeg (xs : List Int) (i j : Int) : List Int := (List.range xs.length).map fun (k : Nat) => if i ≤ (k : Int) ∧ (k : Int) ≤ j then xs.getD (i + j - k).toNat 0 else xs.getD k 0
theorem revSeg_len (xs : List Int) (i j : Int) : (revSeg xs i j).length = xs.length := by simp [revSeg]
theorem revSeg_at {xs : List Int} {i j : Int} {k : Nat} (h : k < xs.length) : (revSeg xs i j)[k]? = some (if i ≤ k ∧ (k : Int) ≤ j then xs.getD (i + j - k).toNat 0 else xs.getD k 0) := by
  unfold revSeg
  rw [List.getElem?_map, List.getElem?_range h]; rfl
theorem revSeg_end {xs : List Int} {i j : Int} (h : j ≤ i) : revSeg xs i j = xs := by
  apply List.ext_getElem?
  intro k
  rcases Nat.lt_or_ge k xs.length with hk | hk
  · rw [revSeg_at hk, List.getElem?_eq_getElem hk]
    congr 1
    split
    · rw [show (i + j - k).toNat = k from by omega, List.getD_eq_getElem?_getD, List.getElem?_eq_getElem hk]; rfl
    · rw [List.getD_eq_getElem?_getD, List.getElem?_eq_getElem hk]; rfl
  · rw [List.getElem?_eq_none (by rw [revSeg_len]; exact hk), List.getElem?_eq_none hk]
theorem revSeg_step {xs : List Int} {i j : Int} {a b : Int} (h0 : 0 ≤ i) (hij : i < j) (hj : j < xs.length) (ha : xs[i.toNat]? = some a) (hb : xs[j.toNat]? = some b) : revSeg ((xs.set i.toNat b).set j.toNat a) (i + 1) (j - 1) = revSeg xs i j := by
  apply List.ext_getElem?
  intro k
  rcases Nat.lt_or_ge k xs.length with hk | hk
  · rw [revSeg_at hk, revSeg_at (by simpa using hk)]
    congr 1
    have get : ∀ q : Nat, ((xs.set i.toNat b).set j.toNat a).getD q 0 = if q = j.toNat then a else if q = i.toNat then b else xs.getD q 0 := fun q => by
      simp only [List.getD_eq_getElem?_getD, List.getElem?_set, List.length_set]
      by_cases e1 : j.toNat = q
      · rw [if_pos e1, if_pos (by omega), if_pos e1.symm]; rfl
      · rw [if_neg e1, if_neg (Ne.symm e1)]
        by_cases e2 : i.toNat = q
        · rw [if_pos e2, if_pos (by omega), if_pos e2.symm]; rfl
        · rw [if_neg e2, if_neg (Ne.symm e2)]
    have ga : xs.getD i.toNat 0 = a := by rw [List.getD_eq_getElem?_getD, ha]; rfl
    have gb : xs.getD j.toNat 0 = b := by rw [List.getD_eq_getElem?_getD, hb]; rfl
    by_cases c1 : i + 1 ≤ (k : Int) ∧ (k : Int) ≤ j - 1
    · rw [if_pos c1, if_pos (by omega), get, if_neg (by omega), if_neg (by omega), show i + 1 + (j - 1) - (k : Int) = i + j - k from by omega]
    · rw [if_neg c1, get]
      by_cases e1 : k = j.toNat
      · rw [if_pos e1, if_pos (by omega), show (i + j - (k : Int)).toNat = i.toNat from by omega, ga]
      · rw [if_neg e1]
        by_cases e2 : k = i.toNat
        · rw [if_pos e2, if_pos (by omega), show (i + j - (k : Int)).toNat = j.toNat from by omega, gb]
        · rw [if_neg e2, if_neg (by omega)]
  · rw [List.getElem?_eq_none (by rw [revSeg_len]; simpa using hk), List.getElem?_eq_none (by rw [revSeg_len]; exact hk)]
theorem revSeg_all (xs : List Int) : revSeg xs 0 ((xs.length : Int) - 1) = xs.reverse := by
  apply List.ext_getElem?
  intro k
  rcases Nat.lt_or_ge k xs.length with hk | hk
  · rw [revSeg_at hk, if_pos (by omega), List.getElem?_reverse hk, List.getD_eq_getElem?_getD, show (0 + ((xs.length : Int) - 1) - k).toNat = xs.length - 1 - k from by omega, List.getElem?_eq_getElem (by omega)]; rfl
  · rw [List.getElem?_eq_none (by rw [revSeg_len]; exact hk), List.getElem?_eq_none (by simpa using hk)]
end Ax
/-
The order of bytes turned about.
-/
set_option linter.unusedSimpArgs false
set_option linter.unusedVariables false
namespace Go.Proofs.YtokgbcachcmeaaaGreatDoor
open Go.RowKit Ax
noncomputable def tr_revL (x : RSpec.X spRev × RSpec.Y spRev × (List (El (RSpec.c spRev)) × Nat)) : T (RRd spRev) :=
 .ite (decide (x.1.1 < x.1.2.1))
  (.need ((0 : Int) ≤ x.1.2.1 ∧ x.1.2.1 < (↑(List.length x.2.2.1) : Int)) (.need ((0 : Int) ≤ x.1.1 ∧ x.1.1 < (↑(List.length x.2.2.1) : Int)) (.and
     (.get x.2.2.1 x.1.2.1 (fun v0 =>
      .get x.2.2.1 x.1.1 (fun v1 =>
       .need ((0 : Int) ≤ x.1.1 ∧ x.1.1 < (↑(List.length x.2.2.1) : Int)) (.need (x.1.1 < (↑(List.length x.2.2.1) : Int)) (.need ((0 : Int) ≤ x.1.2.1 ∧ x.1.2.1 < (↑(List.length x.2.2.1) : Int)) (.need (x.1.2.1 < (↑(List.length (List.set x.2.2.1 (Int.toNat x.1.1) v0)) : Int)) (.need (List.length x.2.2.1 = List.length (List.set (List.set x.2.2.1 (Int.toNat x.1.1) v0) (Int.toNat x.1.2.1) v1) ∧ x.2.2.2 = x.2.2.2) (.ret (.again (IntKind.wrap .i64 (x.1.1 + (1 : Int)), (IntKind.wrap .i64 (x.1.2.1 - (1 : Int)), ())) () (some ((List.set (List.set x.2.2.1 (Int.toNat x.1.1) v0) (Int.toNat x.1.2.1) v1, x.2.2.2))))))))))))
     (.get x.2.2.1 x.1.1 (fun v0 =>
      .get x.2.2.1 x.1.2.1 (fun v1 =>
       .need ((0 : Int) ≤ x.1.1 ∧ x.1.1 < (↑(List.length x.2.2.1) : Int)) (.need (x.1.1 < (↑(List.length x.2.2.1) : Int)) (.need ((0 : Int) ≤ x.1.2.1 ∧ x.1.2.1 < (↑(List.length x.2.2.1) : Int)) (.need (x.1.2.1 < (↑(List.length (List.set x.2.2.1 (Int.toNat x.1.1) v1)) : Int)) (.need (List.length x.2.2.1 = List.length (List.set (List.set x.2.2.1 (Int.toNat x.1.1) v1) (Int.toNat x.1.2.1) v0) ∧ x.2.2.2 = x.2.2.2) (.ret (.again (IntKind.wrap .i64 (x.1.1 + (1 : Int)), (IntKind.wrap .i64 (x.1.2.1 - (1 : Int)), ())) () (some ((List.set (List.set x.2.2.1 (Int.toNat x.1.1) v1) (Int.toNat x.1.2.1) v0, x.2.2.2)))))))))))))))
  (.need (List.length x.2.2.1 = List.length x.2.2.1 ∧ x.2.2.2 = x.2.2.2) (.ret (.out (Go.Exit.exit (0 : Nat)) [] () (some x.2.2))))
theorem tr_revL_eq (x : RSpec.X spRev × RSpec.Y spRev × (List (El (RSpec.c spRev)) × Nat)) : RSpec.round spRev E8 (fun _ => none) (bodyOf Tryz.f80 0) x.1 x.2.1 (some x.2.2) = tr_revL x := by kernel_rfl
def outRev (x : RSpec.X spRev) (y : RSpec.Y spRev) (g : RSpec.G spRev) : T (Exit × List Av × RSpec.Y spRev × RSpec.G spRev) :=
  match g with
  | none => .fail
  | some r => .need (0 ≤ x.1 ∧ x.2.1 < r.1.length ∧ lenOk r.1.length) (.ret (.exit 0, [], (), some (revSeg r.1 x.1 x.2.1, r.2)))
theorem revL_core (i j : Int) (xs : List Int) (cap : Nat) (Q : Exit × List Av × RSpec.Y spRev × RSpec.G spRev → Prop) (h : (outRev (i, j, ()) () (some (xs, cap))).wp Q) : (tr_revL ((i, j, ()), (), (xs, cap))).wp fun r => match r with
      | .again x' y' g' => (x'.2.1 - x'.1).toNat < (j - i).toNat ∧ (outRev x' y' g').wp Q
      | .out e avs y' g' => Q (e, avs, y', g') := by
  unfold tr_revL
  unfold outRev at h ⊢
  simp only [T.wp] at h ⊢
  dsimp only [El, vts, spRev] at h ⊢
  obtain ⟨⟨h0, h1, hl⟩, hq⟩ := h
  refine ⟨fun hlt => ?_, fun hge => ?_⟩
  · have hlt := of_decide_eq_true hlt
    obtain ⟨a, ha⟩ := elem_at (l := xs) h0 (by omega)
    obtain ⟨b, hb⟩ := elem_at (l := xs) (i := j) (by omega) h1
    have hl' := hl
    unfold lenOk at hl'
    have e1 : IntKind.i64.wrap (i + 1) = i + 1 := IntWalk.i64_in _ (by omega)
    have e2 : IntKind.i64.wrap (j - 1) = j - 1 := IntWalk.i64_in _ (by omega)
    have key : (j - 1 - (i + 1)).toNat < (j - i).toNat ∧ (0 ≤ i + 1 ∧ j - 1 < (((xs.set i.toNat b).set j.toNat a).length : Int) ∧ lenOk ((xs.set i.toNat b).set j.toNat a).length) ∧ Q (.exit 0, [], (), some (revSeg ((xs.set i.toNat b).set j.toNat a) (i + 1) (j - 1), cap)) := by
      rw [revSeg_step h0 hlt h1 ha hb]
      simp only [List.length_set]
      exact ⟨by omega, ⟨by omega, by omega, hl⟩, hq⟩
    rw [e1, e2]
    refine ⟨⟨by omega, h1⟩, ⟨h0, by omega⟩, ⟨b, by omega, hb, a, h0, ha, ⟨h0, by omega⟩, by omega, ⟨by omega, h1⟩, by simp only [List.length_set]; exact h1, ⟨by simp only [List.length_set], trivial⟩, key⟩, ⟨a, h0, ha, b, by omega, hb, ⟨h0, by omega⟩, by omega, ⟨by omega, h1⟩, by simp only [List.length_set]; exact h1, ⟨by simp only [List.length_set], trivial⟩, key⟩⟩
  · have hge := of_decide_eq_false hge
    rw [revSeg_end (by omega)] at hq
    exact ⟨⟨trivial, trivial⟩, hq⟩
theorem revL_ok : LoopOk Tryz.prog 1 (bodyOf Tryz.f80 0) (spRev.run outRev) :=
  loopR_ok (E := E8) (L := fun _ => none) mixed 1 (loops_none _ _ _) spRev (Nat.le_refl _) outRev (fun x _ _ => (x.2.1 - x.1).toNat) (by
    rintro ⟨i, j, ⟨⟩⟩ ⟨⟩ g Q h
    match g, h with
    | some (xs, cap), h =>
      rw [tr_revL_eq ((i, j, ()), (), (xs, cap))]
      exact revL_core i j xs cap Q h)
noncomputable def lpRev : Loops := oneL 1 (spRev.run outRev)
end Go.Proofs.YtokgbcachcmeaaaGreatDoor
/-
Texts of numbers: the functions that a number's text asks.
-/
set_option linter.unusedSimpArgs false
set_option linter.unusedVariables false
namespace Ax
open Go Go.RowKit
theorem fresh_con {P : Program} {f : FuncId} (ts : List (Bool × Cd)) (sp : Els ts → T Av)
    (h : ∀ x vs w R Q, ArgsAre w R ts x vs → (sp x).wp Q → ∃ av, Q av ∧ Calls P f vs.toArray w fun e w' => ∃ v, e = .returned v ∧ Below w.heap.size w w' ∧ AvIs w' (fun b => w.heap.size ≤ b ∧ b < w'.heap.size) [] av v) : ConOk P f [] (pureRun' ts sp) := by
  intro w φ σ m args vs Q hmem hlen hargs hrun
  unfold pureRun' at hrun
  split at hrun
  · rename_i x hx
    rw [T.wp_bind] at hrun
    obtain ⟨av, hQ, hc⟩ := h x vs w _ _ (decs_ok ts args x vs hx hlen hargs) hrun
    refine hc.mono fun e w' hr => ?_
    obtain ⟨v, rfl, hb, hv⟩ := hr
    have hk := Keep.of_below hb σ
    have hown : ∀ i b : Nat, σ[i]? = some b → w'.heap[b]? = w.heap[b]? := fun i b hi => hb.block b (hmem.lt (List.mem_of_getElem? hi))
    refine ⟨v, av, m, σ, rfl, hQ, Ext.refl _ _, hk, fun i b hi _ => hown i b hi, hv.ro (fun b hb' => ⟨hb'.2, fun hm => ?_, fun hm => ?_⟩) σ, hmem.stay hk (Ext.refl _ _) rfl hown⟩
    · have := hmem.fo b hm; omega
    · have := hmem.lt hm; omega
  · exact hrun.elim
theorem arg_ptr {w : World} {R : Nat → Prop} {x : Amt} {v : Value} (h : AvIs w R [] (encA false (.ptr .words) x) v) : ∃ b o, v = .pointer (some ⟨b, o, none⟩) ∧ w.rangeAt b o (Pq.am 32 x.1) := by
  obtain ⟨b, o, vs, hR, hrg, hcs, rfl⟩ := is_one_pr (σ := []) (cs := [.w x]) h
  cases hcs with | w h2 => cases h2; rw [List.append_nil] at hrg; exact ⟨b, o, rfl, hrg⟩
theorem ptr_av {w : World} {R : Nat → Prop} {x : Amt} {b : Nat} (hR : R b) (h : w.rangeAt b 0 (Pq.am 32 x.1)) : AvIs w R [] (.one (.pr [.w x])) (.pointer (some ⟨b, 0, none⟩)) := by
  refine .one rfl (.pr hR (vs := Pq.am 32 x.1) h ?_ .nil)
  have := Is.w (w := w) (R := R) (σ := []) (x := x) .nil
  rwa [List.append_nil] at this
def divA (x : Amt) (d : Nat) : Amt := ⟨x.1 / d, Nat.lt_of_le_of_lt (Nat.div_le_self _ _) x.2⟩
end Ax
namespace Go.Proofs.YtokgbcachcmeaaaGreatDoor
open Go.RowKit Ax
theorem cf_wof (xs : Array Value) (w : World) : (callFunc 75 xs).run Tryz.prog w = .ok (.enter 75 xs) w := by kernel_rfl
theorem cf_wsize (xs : Array Value) (w : World) : (callFunc 78 xs).run Tryz.prog w = .ok (.enter 78 xs) w := by kernel_rfl
theorem cf_wbyword (xs : Array Value) (w : World) : (callFunc 79 xs).run Tryz.prog w = .ok (.enter 79 xs) w := by kernel_rfl
theorem cf_wtext (xs : Array Value) (w : World) : (callFunc 50 xs).run Tryz.prog w = .ok (.enter 50 xs) w := by kernel_rfl
noncomputable def con_wof : Con Tryz.prog := ⟨75, [], pureRun' [(true, cW)] (fun x => .ret (.one (.pr [.w x.1.2]))), cf_wof, fresh_con _ _ fun x vs w R Q ha hQ => by
  obtain ⟨v, rfl, hv⟩ := args1 ha
  have hv := av_w hv
  subst hv
  refine ⟨_, hQ, (of_ptr x.1.1 x.1.2.1 w).mono fun e w' hr => ?_⟩
  obtain ⟨b, rfl, hrg, hb, h1, h2⟩ := hr
  exact ⟨_, rfl, hb, ptr_av ⟨h1, h2⟩ hrg⟩⟩
noncomputable def con_wsize : Con Tryz.prog := ⟨78, [], pureRun' [(false, .ptr .words)] (fun x => .ret (aI .i64 ((Pq.szn 32 x.1.1 : Nat) : Int))), cf_wsize, ret_con _ _ fun x vs w R Q ha hQ => by
  obtain ⟨v, rfl, hv⟩ := args1 ha
  obtain ⟨b, o, rfl, hrg⟩ := arg_ptr hv
  refine ⟨_, _, hQ, (size_any b o x.1.1 _ rfl w hrg).mono fun e w' hr => ?_, fun w' R' => .val rfl⟩
  obtain ⟨rfl, rfl⟩ := hr
  exact ⟨rfl, Below.refl _ _⟩⟩
noncomputable def con_wbyword : Con Tryz.prog := ⟨79, [], pureRun' [(false, .ptr .words), (false, .int .u32)] (fun x => .need (0 < x.2.1 ∧ x.2.1 < 4294967296) (.lt (divA x.1 x.2.1.toNat) fun q => .ret (.tup [.one (.pr [.w q]), aI .u32 ((x.1.1 % x.2.1.toNat : Nat) : Int)]))), cf_wbyword, fresh_con _ _ fun x vs w R Q => by
  obtain ⟨x, d, u⟩ := x
  revert x d
  intro (x : Amt) (d : Int) ha hQ
  obtain ⟨v, v', rfl, hv, hv'⟩ := args2 ha
  obtain ⟨b, o, rfl, hrg⟩ := arg_ptr hv
  have hv' := is_int hv'
  subst hv'
  obtain ⟨⟨h0, h1⟩, hQ⟩ := hQ
  dsimp only [El, vts] at h0 h1
  refine ⟨_, hQ, ?_⟩
  have hz : ((d.toNat : Nat) : Int) = d := Int.toNat_of_nonneg (by omega)
  have := byword_any b o x.1 d.toNat w x.2 (by omega) (by omega) hrg
  rw [hz] at this
  refine this.mono fun e w' hr => ?_
  obtain ⟨b, rfl, hrg, hb, h1, h2⟩ := hr
  refine ⟨_, rfl, hb, .tup [_, _] rfl fun i a u hi hu => ?_⟩
  match i, hi, hu with
  | 0, hi, hu => cases hi; cases hu; exact ptr_av (x := divA x d.toNat) ⟨h1, h2⟩ hrg
  | 1, hi, hu => cases hi; cases hu; exact .val rfl⟩
noncomputable def tr_reverse (x : List (El (.int .u8)) × Nat × Nat) : T (Av × List (El (.int .u8))) :=
 .need (x.2.1 = List.length (x.1) ∧ x.2.2 = x.2.2) (.need ((0 : El (Cd.int .i64)) ≤ (0 : Int) ∧ IntKind.wrap .i64 ((↑x.2.1 : Int) - (1 : Int)) < (↑(List.length (x.1)) : El (Cd.int .i64)) ∧ lenOk (List.length (x.1))) (.need (x.2.2 = x.2.2) (.ret ((.tup []), revSeg (x.1) (0 : Int) (IntKind.wrap .i64 ((↑x.2.1 : Int) - (1 : Int)))))))
theorem tr_reverse_eq (x : List (El (.int .u8)) × Nat × Nat) : row1 E8 lpRev Tryz.f80 5 (.int .u8) x.1 x.2.1 x.2.2 = tr_reverse x := by kernel_rfl
noncomputable def con_reverse : Con Tryz.prog := ⟨80, [0], row1Run 5 (.int .u8) (fun xs n cap => .need (n = xs.length ∧ lenOk xs.length) (.ret (.tup [], List.reverse (α := Int) xs))), cf_reverse,
  row1_ok (E := E8) (L := lpRev) mixed Tryz.func80 (one_loop revL_ok (by kernel_rfl)) _ _ _ fun xs n cap Q h => by
  rw [tr_reverse_eq (xs, n, cap)]
  unfold tr_reverse
  simp only [T.wp] at h ⊢
  obtain ⟨⟨hn, hl⟩, hQ⟩ := h
  subst hn
  have hl' := hl
  unfold lenOk at hl'
  have e : IntKind.i64.wrap ((xs.length : Int) - 1) = (xs.length : Int) - 1 := IntWalk.i64_in _ (by omega)
  rw [e, revSeg_all]
  exact ⟨⟨rfl, trivial⟩, ⟨by simp, by dsimp only [El]; omega, hl⟩, trivial, hQ⟩⟩
noncomputable def zeroY : Zero Tryz.prog := ⟨5, ck (.int .u8) (0 : Int), [.int .u8 0], by kernel_rfl, fun w R σ => .v rfl .nil⟩
noncomputable def E9 : Env Tryz.prog := ⟨con_wof :: con_wsize :: con_wbyword :: con_reverse :: E8.con, zeroY :: E8.zero, codB :: E8.cod, E8.sure, E8.base, E8.frz⟩
abbrev spText : RSpec := ⟨36, [(3, false, .ptr .words)], [(1, 0, 0)], [(26, cW)], fun _ => [], 4, 5, .int .u8, false, fun _ => 4⟩
end Go.Proofs.YtokgbcachcmeaaaGreatDoor
/-
Plain laws: the digits of a number.
-/
set_option linter.unusedSimpArgs false
set_option linter.unusedVariables false
namespace Ax
def dg (x : Nat) : List Int := if h : x = 0 then [] else (48 + (x % 10 : Nat) : Int) :: dg (x / 10)
decreasing_by exact Nat.div_lt_self (by omega) (by omega)
theorem dg_zero : dg 0 = [] := by rw [dg]; simp
theorem dg_pos {x : Nat} (h : x ≠ 0) : dg x = (48 + (x % 10 : Nat) : Int) :: dg (x / 10) := by rw [dg, dif_neg h]
theorem dg_len {n : Nat} : ∀ {x : Nat}, x < 2 ^ n → (dg x).length ≤ n := by
  induction n with
  | zero => intro x h; rw [show x = 0 from by simpa using h, dg_zero]; simp
  | succ n ih =>
    intro x h
    by_cases h0 : x = 0
    · rw [h0, dg_zero]; simp
    · rw [dg_pos h0, List.length_cons]
      have := ih (x := x / 10) (by rw [Nat.pow_succ] at h; omega)
      omega
end Ax
/-
A number's text: its digits, one by one.
-/
set_option linter.unusedSimpArgs false
set_option linter.unusedVariables false
namespace Go.Proofs.YtokgbcachcmeaaaGreatDoor
open Go.RowKit Ax
noncomputable def tr_textL (x : RSpec.X spText × RSpec.Y spText × (List (El (RSpec.c spText)) × Nat)) : T (RRd spText) :=
 .ite (decide ((↑(Pq.szn (32 : Nat) x.1.1.1) : Int) > (0 : Int)))
  (.need ((0 : El (Cd.int .u32)) < (10 : Int) ∧ (10 : Int) < (4294967296 : El (Cd.int .u32))) (.lt (divA x.1.1 (Int.toNat (10 : Int))) (fun v0 =>
    .need (List.length x.2.2.1 = List.length x.2.2.1 ∧ x.2.2.2 = x.2.2.2 ∧ (List.length x.2.2.1 + List.length [IntKind.wrap .u8 (IntKind.wrap .u32 ((48 : Int) + (↑(x.1.1.1 % Int.toNat (10 : Int)) : Int)))]) * (nat_lit 0 + (1 : Nat)) ≤ (140737488355328 : Nat) ∧ List.length x.2.2.1 + List.length [IntKind.wrap .u8 (IntKind.wrap .u32 ((48 : Int) + (↑(x.1.1.1 % Int.toNat (10 : Int)) : Int)))] ≤ Go.maxLen) (.and
      (.need (List.length x.2.2.1 + List.length [IntKind.wrap .u8 (IntKind.wrap .u32 ((48 : Int) + (↑(x.1.1.1 % Int.toNat (10 : Int)) : Int)))] = List.length (x.2.2.1 ++ [IntKind.wrap .u8 (IntKind.wrap .u32 ((48 : Int) + (↑(x.1.1.1 % Int.toNat (10 : Int)) : Int)))]) ∧ x.2.2.2 = x.2.2.2) (.ret (.again (v0, ()) (x.2.1.1, ()) (some ((x.2.2.1 ++ [IntKind.wrap .u8 (IntKind.wrap .u32 ((48 : Int) + (↑(x.1.1.1 % Int.toNat (10 : Int)) : Int)))], x.2.2.2))))))
      (.up (List.length x.2.2.1 + List.length [IntKind.wrap .u8 (IntKind.wrap .u32 ((48 : Int) + (↑(x.1.1.1 % Int.toNat (10 : Int)) : Int)))]) (fun v1 =>
       .need (List.length x.2.2.1 + List.length [IntKind.wrap .u8 (IntKind.wrap .u32 ((48 : Int) + (↑(x.1.1.1 % Int.toNat (10 : Int)) : Int)))] = List.length (x.2.2.1 ++ [IntKind.wrap .u8 (IntKind.wrap .u32 ((48 : Int) + (↑(x.1.1.1 % Int.toNat (10 : Int)) : Int)))]) ∧ v1 = v1) (.ret (.again (v0, ()) (x.2.1.1, ()) (some ((x.2.2.1 ++ [IntKind.wrap .u8 (IntKind.wrap .u32 ((48 : Int) + (↑(x.1.1.1 % Int.toNat (10 : Int)) : Int)))], v1)))))))))))
  (.need (List.length x.2.2.1 = List.length x.2.2.1 ∧ x.2.2.2 = x.2.2.2) (.ret (.out (Go.Exit.exit (0 : Nat)) [] (x.2.1.1, ()) (some x.2.2))))
theorem tr_textL_eq (x : RSpec.X spText × RSpec.Y spText × (List (El (RSpec.c spText)) × Nat)) : RSpec.round spText E9 (fun _ => none) (bodyOf Tryz.f50 0) x.1 x.2.1 (some x.2.2) = tr_textL x := by kernel_rfl
noncomputable def tr_textL0 (x : RSpec.X spText × RSpec.Y spText) : T (RRd spText) :=
 .ite (decide ((↑(Pq.szn (32 : Nat) x.1.1.1) : Int) > (0 : Int)))
  (.need ((0 : El (Cd.int .u32)) < (10 : Int) ∧ (10 : Int) < (4294967296 : El (Cd.int .u32))) (.lt (divA x.1.1 (Int.toNat (10 : Int))) (fun v0 =>
    .need (List.length [IntKind.wrap .u8 (IntKind.wrap .u32 ((48 : Int) + (↑(x.1.1.1 % Int.toNat (10 : Int)) : Int)))] * (nat_lit 0 + (1 : Nat)) ≤ (140737488355328 : Nat) ∧ List.length [IntKind.wrap .u8 (IntKind.wrap .u32 ((48 : Int) + (↑(x.1.1.1 % Int.toNat (10 : Int)) : Int)))] ≤ Go.maxLen) (.up (List.length [IntKind.wrap .u8 (IntKind.wrap .u32 ((48 : Int) + (↑(x.1.1.1 % Int.toNat (10 : Int)) : Int)))]) (fun v1 =>
      .need (List.length [IntKind.wrap .u8 (IntKind.wrap .u32 ((48 : Int) + (↑(x.1.1.1 % Int.toNat (10 : Int)) : Int)))] = List.length [IntKind.wrap .u8 (IntKind.wrap .u32 ((48 : Int) + (↑(x.1.1.1 % Int.toNat (10 : Int)) : Int)))] ∧ v1 = v1) (.ret (.again (v0, ()) (x.2.1, ()) (some (([IntKind.wrap .u8 (IntKind.wrap .u32 ((48 : Int) + (↑(x.1.1.1 % Int.toNat (10 : Int)) : Int)))], v1))))))))))
  (.need (True) (.ret (.out (Go.Exit.exit (0 : Nat)) [] (x.2.1, ()) none)))
theorem tr_textL0_eq (x : RSpec.X spText × RSpec.Y spText) : RSpec.round spText E9 (fun _ => none) (bodyOf Tryz.f50 0) x.1 x.2 none = tr_textL0 x := by kernel_rfl
def outText (x : RSpec.X spText) (y : RSpec.Y spText) (g : RSpec.G spText) : T (Exit × List Av × RSpec.Y spText × RSpec.G spText) :=
  match g with
  | none => .need ((dg x.1.1).length ≤ 1000000) (.ite (decide (x.1.1 = 0)) (.ret (.exit 0, [], y, none)) (.up 0 fun k => .ret (.exit 0, [], y, some (dg x.1.1, k))))
  | some r => .need (r.1.length + (dg x.1.1).length ≤ 1000000) (.up 0 fun k => .ret (.exit 0, [], y, some ((r.1 : List Int) ++ dg x.1.1, k)))
theorem digit_wrap (x : Nat) : IntKind.u8.wrap (IntKind.u32.wrap ((48 : Int) + ((x % Int.toNat (10 : Int) : Nat) : Int))) = 48 + ((x % 10 : Nat) : Int) := by
  rw [show Int.toNat (10 : Int) = 10 from rfl, IntWalk.u32_in _ (by omega), IntWalk.u8_in _ (by omega)]
theorem textL_core (x : Amt) (y : W) (xs : List Int) (cap : Nat) (Q : Exit × List Av × RSpec.Y spText × RSpec.G spText → Prop) (h : (outText (x, ()) (y, ()) (some (xs, cap))).wp Q) : (tr_textL ((x, ()), (y, ()), (xs, cap))).wp fun r => match r with
      | .again x' y' g' => x'.1.1 < x.1 ∧ (outText x' y' g').wp Q
      | .out e avs y' g' => Q (e, avs, y', g') := by
  unfold tr_textL
  unfold outText at h ⊢
  simp only [T.wp, digit_wrap] at h ⊢
  dsimp only [El, vts, spText] at h ⊢
  obtain ⟨hl, hq⟩ := h
  refine ⟨fun hlt => ?_, fun hge => ?_⟩
  · have hne : x.1 ≠ 0 := (Pq.szn_pos x.2).1 (by have := of_decide_eq_true hlt; omega)
    rw [dg_pos hne] at hl hq
    have hd : (divA x (Int.toNat (10 : Int))).1 = x.1 / 10 := rfl
    have hlt' : x.1 / 10 < x.1 := Nat.div_lt_self (by omega) (by omega)
    simp only [hd, List.length_append, List.length_cons, List.length_nil, Go.maxLen, List.append_assoc, List.singleton_append, List.cons_append, List.nil_append] at hl ⊢
    exact ⟨⟨by omega, by omega⟩, ⟨trivial, trivial, by omega, by omega⟩, ⟨⟨trivial, trivial⟩, hlt', by omega, hq⟩, fun k hk => ⟨⟨trivial, trivial⟩, hlt', by omega, hq⟩⟩
  · have h0 : x.1 = 0 := by
      by_cases h0 : x.1 = 0
      · exact h0
      · have := (Pq.szn_pos x.2).2 h0
        have := of_decide_eq_false hge
        omega
    rw [h0, dg_zero, List.append_nil] at hq
    exact ⟨⟨trivial, trivial⟩, hq cap (Nat.zero_le _)⟩
theorem textL_core0 (x : Amt) (y : W) (Q : Exit × List Av × RSpec.Y spText × RSpec.G spText → Prop) (h : (outText (x, ()) (y, ()) none).wp Q) : (tr_textL0 ((x, ()), (y, ()))).wp fun r => match r with
      | .again x' y' g' => x'.1.1 < x.1 ∧ (outText x' y' g').wp Q
      | .out e avs y' g' => Q (e, avs, y', g') := by
  unfold tr_textL0
  unfold outText at h ⊢
  simp only [T.wp, digit_wrap] at h ⊢
  dsimp only [El, vts, spText] at h ⊢
  obtain ⟨hl, h1, h2⟩ := h
  refine ⟨fun hlt => ?_, fun hge => ?_⟩
  · have hne : x.1 ≠ 0 := (Pq.szn_pos x.2).1 (by have := of_decide_eq_true hlt; omega)
    have hq := h2 (decide_eq_false hne)
    rw [dg_pos hne] at hl hq
    have hd : (divA x (Int.toNat (10 : Int))).1 = x.1 / 10 := rfl
    have hlt' : x.1 / 10 < x.1 := Nat.div_lt_self (by omega) (by omega)
    simp only [hd, List.length_append, List.length_cons, List.length_nil, Go.maxLen, List.append_assoc, List.singleton_append, List.cons_append, List.nil_append] at hl ⊢
    exact ⟨⟨by omega, by omega⟩, ⟨by omega, by omega⟩, fun k hk => ⟨⟨trivial, trivial⟩, hlt', by omega, hq⟩⟩
  · have h0 : x.1 = 0 := by
      by_cases h0 : x.1 = 0
      · exact h0
      · have := (Pq.szn_pos x.2).2 h0
        have := of_decide_eq_false hge
        omega
    exact ⟨trivial, h1 (decide_eq_true h0)⟩
theorem textL_ok : LoopOk Tryz.prog 0 (bodyOf Tryz.f50 0) (spText.run outText) :=
  loopR_ok (E := E9) (L := fun _ => none) mixed 0 (loops_none _ _ _) spText (Nat.zero_le _) outText (fun x _ _ => x.1.1) (by
    rintro ⟨x, ⟨⟩⟩ ⟨y, ⟨⟩⟩ g Q h
    match g, h with
    | some (xs, cap), h =>
      rw [tr_textL_eq ((x, ()), (y, ()), (xs, cap))]
      exact textL_core x y xs cap Q h
    | none, h =>
      rw [tr_textL0_eq ((x, ()), (y, ()))]
      exact textL_core0 x y Q h)
noncomputable def lpText : Loops := oneL 3 (spText.run outText)
end Go.Proofs.YtokgbcachcmeaaaGreatDoor
/-
A number's text.
-/
set_option linter.unusedSimpArgs false
set_option linter.unusedVariables false
namespace Go.Proofs.YtokgbcachcmeaaaGreatDoor
open Go.RowKit Ax
noncomputable def tr_wtext (x : Els [(true, cW)]) : T Av :=
 .need (True) (.need (List.length (dg x.1.2.1) ≤ (1000000 : Nat)) (.ite (decide (x.1.2.1 = (0 : Nat)))
    (.ite ((↑(0 : Nat) : Int) == (0 : Int))
     (.ret (.one (.v (.string ({ data := #[(48 : UInt8)] })))))
     (.ite x.1.1
      (.need (List.length [(45 : Int)] * (nat_lit 0 + (1 : Nat)) ≤ (140737488355328 : Nat) ∧ List.length [(45 : Int)] ≤ Go.maxLen) (.up (List.length [(45 : Int)]) (fun v0 =>
        .need (v0 = v0) (.need (List.length [(45 : Int)] = List.length [(45 : Int)] ∧ lenOk (List.length [(45 : Int)])) (.need (List.length [(45 : Int)] ≤ List.length (List.reverse [(45 : Int)])) (.ret (.one (.v (.string (bytesOf (List.take (List.length [(45 : Int)]) (List.reverse [(45 : Int)]))))))))))))
      (.fail)))
    (.up ((0 : Nat)) (fun v0 =>
     .ite ((↑(List.length (dg x.1.2.1)) : Int) == (0 : Int))
      (.ret (.one (.v (.string ({ data := #[(48 : UInt8)] })))))
      (.ite x.1.1
       (.need (List.length (dg x.1.2.1) = List.length (dg x.1.2.1) ∧ v0 = v0 ∧ (List.length (dg x.1.2.1) + List.length [(45 : Int)]) * (nat_lit 0 + (1 : Nat)) ≤ (140737488355328 : Nat) ∧ List.length (dg x.1.2.1) + List.length [(45 : Int)] ≤ Go.maxLen) (.and
         (.need (v0 = v0) (.need (List.length (dg x.1.2.1) + List.length [(45 : Int)] = List.length (dg x.1.2.1 ++ [(45 : Int)]) ∧ lenOk (List.length (dg x.1.2.1 ++ [(45 : Int)]))) (.need (List.length (dg x.1.2.1) + List.length [(45 : Int)] ≤ List.length (List.reverse (dg x.1.2.1 ++ [(45 : Int)]))) (.ret (.one (.v (.string (bytesOf (List.take (List.length (dg x.1.2.1) + List.length [(45 : Int)]) (List.reverse (dg x.1.2.1 ++ [(45 : Int)])))))))))))
         (.up (List.length (dg x.1.2.1) + List.length [(45 : Int)]) (fun v1 =>
          .need (v1 = v1) (.need (List.length (dg x.1.2.1) + List.length [(45 : Int)] = List.length (dg x.1.2.1 ++ [(45 : Int)]) ∧ lenOk (List.length (dg x.1.2.1 ++ [(45 : Int)]))) (.need (List.length (dg x.1.2.1) + List.length [(45 : Int)] ≤ List.length (List.reverse (dg x.1.2.1 ++ [(45 : Int)]))) (.ret (.one (.v (.string (bytesOf (List.take (List.length (dg x.1.2.1) + List.length [(45 : Int)]) (List.reverse (dg x.1.2.1 ++ [(45 : Int)]))))))))))))))
       (.need (v0 = v0) (.need (List.length (dg x.1.2.1) = List.length (dg x.1.2.1) ∧ lenOk (List.length (dg x.1.2.1))) (.need (List.length (dg x.1.2.1) ≤ List.length (List.reverse (dg x.1.2.1))) (.ret (.one (.v (.string (bytesOf (List.take (List.length (dg x.1.2.1)) (List.reverse (dg x.1.2.1))))))))))))))))
theorem tr_wtext_eq (x : Els [(true, cW)]) : fnP E9 lpText Tryz.f50 (encs [(true, cW)] x) = tr_wtext x := by kernel_rfl
def txt (x : W) : ByteArray := if x.2.1 = 0 then ⟨#[48]⟩ else bytesOf ((dg x.2.1 ++ (if x.1 = true then [(45 : Int)] else [])).reverse)
theorem dg_amt (x : Amt) : (dg x.1).length ≤ 1024 := dg_len (bp_le 1024 rfl x.2)
theorem wtext_ok (x : Els [(true, cW)]) : (tr_wtext x).wp (· = .one (.v (.string (txt x.1)))) := by
  obtain ⟨⟨n, x⟩, u⟩ := x
  revert n x
  intro (n : Bool) (x : Amt)
  unfold tr_wtext
  simp only [T.wp]
  dsimp only [El]
  have hl := dg_amt x
  unfold txt
  dsimp only
  refine ⟨trivial, by omega, fun h0 => ⟨fun _ => ?_, fun h => (by cases h)⟩, fun h0 k _ => ⟨fun h1 => ?_, fun h1 => ⟨fun h2 => ?_, fun h2 => ?_⟩⟩⟩
  · rw [if_pos (of_decide_eq_true h0)]
  · exfalso
    have h0 := of_decide_eq_false h0
    rw [dg_pos h0] at h1
    simp at h1
    omega
  · subst h2
    rw [if_neg (of_decide_eq_false h0)]
    have e : List.take ((dg x.1).length + List.length [(45 : Int)]) (List.reverse (dg x.1 ++ [(45 : Int)])) = (dg x.1 ++ [(45 : Int)]).reverse := List.take_of_length_le (by simp)
    simp only [e, if_true]
    refine ⟨⟨trivial, trivial, by simp; omega, by simp [Go.maxLen]; omega⟩, ⟨trivial, ⟨by simp, by unfold lenOk; simp; omega⟩, by simp, trivial⟩, fun q hq => ⟨trivial, ⟨by simp, by unfold lenOk; simp; omega⟩, by simp, trivial⟩⟩
  · subst h2
    rw [if_neg (of_decide_eq_false h0)]
    have e : List.take ((dg x.1).length) (List.reverse (dg x.1)) = (dg x.1).reverse := List.take_of_length_le (by simp)
    simp only [e, Bool.false_eq_true, if_false, List.append_nil]
    exact ⟨trivial, ⟨trivial, by unfold lenOk; omega⟩, by simp, trivial⟩
noncomputable def con_wtext : Con Tryz.prog := ⟨50, [], _, cf_wtext, tot_con (E := E9) (L := lpText) mixed Tryz.func50 (one_loop textL_ok (by kernel_rfl)) [(true, cW)] (fun x => .one (.v (.string (txt x.1)))) fun x => by rw [tr_wtext_eq]; exact wtext_ok x⟩
noncomputable def E10 : Env Tryz.prog := ⟨con_wtext :: E9.con, E9.zero, E9.cod, E9.sure, E9.base, E9.frz⟩
theorem cf_rtext (xs : Array Value) (w : World) : (callFunc 23 xs).run Tryz.prog w = .ok (.enter 23 xs) w := by kernel_rfl
end Go.Proofs.YtokgbcachcmeaaaGreatDoor
/-
A fraction's text; a power of ten.
-/
set_option linter.unusedSimpArgs false
set_option linter.unusedVariables false
namespace Go.Proofs.YtokgbcachcmeaaaGreatDoor
open Go.RowKit Ax
noncomputable def tr_rtext (x : Els [(true, cF)]) : T Av :=
 .ite (!okF (x.1))
  (.ret (.one (.v (.string ({ data := #[] })))))
  (.ite (decide (zW x.1.2 = (1 : Int)))
   (.ret (.one (.v (.string (txt x.1.1)))))
   (.need ((↑(ByteArray.size (txt x.1.1) + ByteArray.size { data := #[(47 : UInt8)] }) : Int) ≤ IntKind.max .i64) (.lt (txt x.1.1 ++ { data := #[(47 : UInt8)] }) (fun v0 =>
     .need ((↑(ByteArray.size v0 + ByteArray.size (txt x.1.2)) : Int) ≤ IntKind.max .i64) (.lt (v0 ++ txt x.1.2) (fun v1 =>
       .ret (.one (.v (.string (v1))))))))))
theorem tr_rtext_eq (x : Els [(true, cF)]) : fnP E10 (fun _ => none) Tryz.f23 (encs [(true, cF)] x) = tr_rtext x := by kernel_rfl
def ftxt (x : F) : ByteArray := if okF x = true then (if zW x.2 = 1 then txt x.1 else txt x.1 ++ ⟨#[47]⟩ ++ txt x.2) else ⟨#[]⟩
theorem bytesOf_size (l : List Int) : (bytesOf l).size = l.length := by
  show (bytesOf l).data.size = _
  simp [bytesOf]
theorem txt_size (x : W) : (txt x).size ≤ 1025 := by
  have := dg_amt x.2
  unfold txt
  split
  · show 1 ≤ 1025; omega
  · rw [bytesOf_size, List.length_reverse, List.length_append]
    split <;> simp <;> omega
theorem rtext_ok (x : Els [(true, cF)]) : (tr_rtext x).wp (· = .one (.v (.string (ftxt x.1)))) := by
  obtain ⟨x, u⟩ := x
  revert x
  intro (x : F)
  unfold tr_rtext
  simp only [T.wp]
  unfold ftxt
  have h1 := txt_size x.1
  have h2 := txt_size x.2
  refine ⟨fun h => ?_, fun h => ⟨fun hd => ?_, fun hd => ⟨?_, ?_, ?_⟩⟩⟩
  · rw [if_neg (by simpa using h)]
  · rw [if_pos (by simpa using h), if_pos (of_decide_eq_true hd)]
  · have : (ByteArray.size ⟨#[(47 : UInt8)]⟩) = 1 := rfl
    rw [this]
    show ((_ : Nat) : Int) ≤ 9223372036854775807
    omega
  · have : (ByteArray.size ⟨#[(47 : UInt8)]⟩) = 1 := rfl
    rw [ByteArray.size_append, this]
    show ((_ : Nat) : Int) ≤ 9223372036854775807
    omega
  · rw [if_pos (by simpa using h), if_neg (of_decide_eq_false hd)]
noncomputable def con_rtext : Con Tryz.prog := ⟨23, [], _, cf_rtext, tot_con (E := E10) mixed Tryz.func23 no_loops [(true, cF)] (fun x => .one (.v (.string (ftxt x.1)))) fun x => by rw [tr_rtext_eq]; exact rtext_ok x⟩
noncomputable def E11 : Env Tryz.prog := ⟨con_rtext :: E10.con, E10.zero, E10.cod, E10.sure, E10.base, E10.frz⟩
end Go.Proofs.YtokgbcachcmeaaaGreatDoor
/-
The loops of scale and Parse.
-/
set_option linter.unusedSimpArgs false
set_option linter.unusedVariables false
namespace Go.Proofs.YtokgbcachcmeaaaGreatDoor
open Go.RowKit Ax
end Go.Proofs.YtokgbcachcmeaaaGreatDoor
/-
scale, Parse.
-/
set_option linter.unusedSimpArgs false
set_option linter.unusedVariables false
namespace Go.Proofs.YtokgbcachcmeaaaGreatDoor
open Go.RowKit Ax
noncomputable def E12 : Env Tryz.prog := ⟨E11.con, E11.zero, E11.cod, E11.sure, E11.base, E11.frz⟩
end Go.Proofs.YtokgbcachcmeaaaGreatDoor
/-
Where a byte stands in a text.
-/
set_option linter.unusedSimpArgs false
set_option linter.unusedVariables false
namespace Go.Proofs.YtokgbcachcmeaaaGreatDoor
open Go.RowKit Ax
noncomputable def E13 : Env Tryz.prog := ⟨E12.con, E12.zero, E12.cod, E12.sure, E12.base, E12.frz⟩
end Go.Proofs.YtokgbcachcmeaaaGreatDoor
/-
Where a slash stands in a text.
-/
set_option linter.unusedSimpArgs false
set_option linter.unusedVariables false
namespace Go.Proofs.YtokgbcachcmeaaaGreatDoor
open Go.RowKit Ax
noncomputable def E14 : Env Tryz.prog := ⟨E13.con, E13.zero, E13.cod, E13.sure, E13.base, E13.frz⟩
end Go.Proofs.YtokgbcachcmeaaaGreatDoor
/-
A text cut at a slash.
-/
set_option linter.unusedSimpArgs false
set_option linter.unusedVariables false
namespace Go.Proofs.YtokgbcachcmeaaaGreatDoor
open Go.RowKit Ax
noncomputable def E15 : Env Tryz.prog := ⟨E14.con, E14.zero, E14.cod, E14.sure, E14.base, E14.frz⟩
noncomputable def E16 : Env Tryz.prog := ⟨E15.con, E15.zero, E15.cod, E15.sure, E15.base, E15.frz⟩
end Go.Proofs.YtokgbcachcmeaaaGreatDoor
/-
A fraction out of its text.
-/
set_option linter.unusedSimpArgs false
set_option linter.unusedVariables false
namespace Go.Proofs.YtokgbcachcmeaaaGreatDoor
open Go.RowKit Ax
noncomputable def E17 : Env Tryz.prog := ⟨E16.con, E16.zero, E16.cod, E16.sure, E16.base, E16.frz⟩
end Go.Proofs.YtokgbcachcmeaaaGreatDoor
/-
What the loop of Decimal looks like.
-/
set_option linter.unusedSimpArgs false
set_option linter.unusedVariables false
namespace Go.Proofs.YtokgbcachcmeaaaGreatDoor
open Go.RowKit Ax
end Go.Proofs.YtokgbcachcmeaaaGreatDoor
/-
The loop of Decimal.
-/
set_option linter.unusedSimpArgs false
set_option linter.unusedVariables false
namespace Go.Proofs.YtokgbcachcmeaaaGreatDoor
open Go.RowKit Ax
end Go.Proofs.YtokgbcachcmeaaaGreatDoor
/-
Decimal.
-/
set_option linter.unusedSimpArgs false
set_option linter.unusedVariables false
namespace Go.Proofs.YtokgbcachcmeaaaGreatDoor
open Go.RowKit Ax
noncomputable def E18 : Env Tryz.prog := ⟨E17.con, E17.zero, E17.cod, E17.sure, E17.base, E17.frz⟩
end Go.Proofs.YtokgbcachcmeaaaGreatDoor
/-
The reference: what the loop of trim looks like.
-/
set_option linter.unusedSimpArgs false
set_option linter.unusedVariables false
namespace Go.Proofs.YtokgbcachcmeaaaGreatDoor
open Go.RowKit Ax
theorem cf_trim (xs : Array Value) (w : World) : (callFunc 72 xs).run Tryz.prog w = .ok (.enter 72 xs) w := by kernel_rfl
theorem cf_pwide (xs : Array Value) (w : World) : (callFunc 44 xs).run Tryz.prog w = .ok (.enter 44 xs) w := by kernel_rfl
theorem cf_pfrom (xs : Array Value) (w : World) : (callFunc 18 xs).run Tryz.prog w = .ok (.enter 18 xs) w := by kernel_rfl
theorem cf_pwhole (xs : Array Value) (w : World) : (callFunc 9 xs).run Tryz.prog w = .ok (.enter 9 xs) w := by kernel_rfl
noncomputable def codU : Cod Tryz.prog := ⟨23, .int .u32, by kernel_rfl, ⟨.int .u32 0, fun w => by kernel_rfl⟩⟩
noncomputable def zeroU : Zero Tryz.prog := ⟨23, ck (.int .u32) (0 : Int), [.int .u32 0], by kernel_rfl, fun w R σ => .v rfl .nil⟩
noncomputable def E19 : Env Tryz.prog := ⟨E18.con, zeroU :: E18.zero, codU :: E18.cod, E18.sure, E18.base, E18.frz⟩
abbrev spTrim : LSpec := ⟨21, [(0, false, .sl (.int .u32)), (3, false, .int .i64)], [], [], fun e => match e with | .exit _ => [0, 3] | _ => []⟩
end Go.Proofs.YtokgbcachcmeaaaGreatDoor
/-
The reference: trim.
-/
set_option linter.unusedSimpArgs false
set_option linter.unusedVariables false
namespace Go.Proofs.YtokgbcachcmeaaaGreatDoor
open Go.RowKit Ax
noncomputable def tr_trimL (x : LSpec.X spTrim × LSpec.Y spTrim) : T (Rd spTrim) :=
 .ite (decide (x.1.2.1 > (0 : Int)))
  (.get x.1.1 (IntKind.wrap .i64 (x.1.2.1 - (1 : Int))) (fun v0 =>
   .ite (v0 == (0 : Int))
    (.ret (.again (x.1.1, (IntKind.wrap .i64 (x.1.2.1 - (1 : Int)), ())) ()))
    (.ret (.out (Go.Exit.exit (0 : Nat)) [(.one (.ds (Cd.int .u32) x.1.1)), (.one (.v (.int .i64 x.1.2.1)))] ()))))
  (.ret (.out (Go.Exit.exit (0 : Nat)) [(.one (.ds (Cd.int .u32) x.1.1)), (.one (.v (.int .i64 x.1.2.1)))] ()))
theorem tr_trimL_eq (x : LSpec.X spTrim × LSpec.Y spTrim) : LSpec.round spTrim E19 (fun _ => none) (bodyOf Tryz.f72 0) x.1 x.2 = tr_trimL x := by kernel_rfl
def trimN (l : List Int) : Nat → Nat
  | 0 => 0
  | n + 1 => if l[n]? = some 0 then trimN l n else n + 1
theorem trimN_le (l : List Int) : ∀ n, trimN l n ≤ n
  | 0 => Nat.le_refl _
  | n + 1 => by
    unfold trimN
    have := trimN_le l n
    split <;> omega
def outTrim (x : LSpec.X spTrim) (y : LSpec.Y spTrim) : T (Exit × List Av × LSpec.Y spTrim) :=
  .need (0 ≤ x.2.1 ∧ x.2.1 ≤ x.1.length ∧ lenOk x.1.length) (.ret (.exit 0, [.one (.ds (.int .u32) x.1), aI .i64 ((trimN x.1 x.2.1.toNat : Nat) : Int)], y))
theorem trimL_core (l : List Int) (n : Int) (Q : Exit × List Av × LSpec.Y spTrim → Prop) (h : (outTrim (l, n, ()) ()).wp Q) : (tr_trimL ((l, n, ()), ())).wp fun r => match r with
      | .again x' y' => x'.2.1.toNat < n.toNat ∧ (outTrim x' y').wp Q
      | .out e avs y' => Q (e, avs, y') := by
  unfold tr_trimL
  unfold outTrim at h ⊢
  simp only [T.wp] at h ⊢
  dsimp only [El, vts, spTrim] at h ⊢
  obtain ⟨⟨h0, h1, hl⟩, hq⟩ := h
  unfold lenOk at hl
  refine ⟨fun hlt => ?_, fun hge => ?_⟩
  · have hlt := of_decide_eq_true hlt
    obtain ⟨m, rfl⟩ : ∃ m : Nat, n = (m : Int) + 1 := ⟨(n - 1).toNat, by omega⟩
    have e : IntKind.i64.wrap ((m : Int) + 1 - 1) = m := by rw [IntWalk.i64_in _ (by omega)]; omega
    rw [e]
    obtain ⟨v, hv⟩ := elem_at (l := l) (i := (m : Int)) (by omega) (by omega)
    rw [show ((m : Int) + 1).toNat = m + 1 from by omega, trimN] at hq
    refine ⟨v, by omega, hv, fun hz => ?_, fun hz => ?_⟩
    · have hz : v = 0 := by simpa using hz
      rw [Int.toNat_natCast] at hv
      rw [if_pos (by rw [hv, hz])] at hq
      exact ⟨by omega, ⟨by omega, by omega, hl⟩, by rw [Int.toNat_natCast]; exact hq⟩
    · have hz : ¬ v = 0 := by simpa using hz
      rw [Int.toNat_natCast] at hv
      rw [if_neg (by rw [hv]; simp [hz])] at hq
      exact hq
  · have hge := of_decide_eq_false hge
    obtain rfl : n = 0 := by omega
    exact hq
theorem trimL_ok : LoopOk Tryz.prog 0 (bodyOf Tryz.f72 0) (spTrim.run outTrim) :=
  loop_ok (E := E19) (L := fun _ => none) mixed 0 (loops_none _ _ _) spTrim (Nat.zero_le _) outTrim (fun x _ => x.2.1.toNat) (by
    rintro ⟨l, n, ⟨⟩⟩ ⟨⟩ Q h
    rw [tr_trimL_eq ((l, n, ()), ())]
    exact trimL_core l n Q h)
noncomputable def lpTrim : Loops := oneL 2 (spTrim.run outTrim)
end Go.Proofs.YtokgbcachcmeaaaGreatDoor
/-
The reference: trim.
-/
set_option linter.unusedSimpArgs false
set_option linter.unusedVariables false
namespace Go.Proofs.YtokgbcachcmeaaaGreatDoor
open Go.RowKit Ax
noncomputable def tr_trim (x : Els [(false, .sl (.int .u32))]) : T Av :=
 .need ((0 : El (Cd.int .i64)) ≤ (↑(List.length (x.1)) : Int) ∧ (↑(List.length (x.1)) : Int) ≤ (↑(List.length (x.1)) : El (Cd.int .i64)) ∧ lenOk (List.length (x.1))) (.need ((0 : Int) ≤ (0 : Int) ∧ (0 : Int) ≤ (↑(trimN (x.1) (Int.toNat (↑(List.length (x.1)) : Int))) : Int) ∧ (↑(trimN (x.1) (Int.toNat (↑(List.length (x.1)) : Int))) : Int) ≤ (↑(List.length (x.1)) : Int)) (.ret (.one (.ds (Cd.int .u32) (List.drop (Int.toNat (0 : Int)) (List.take (Int.toNat (↑(trimN (x.1) (Int.toNat (↑(List.length (x.1)) : Int))) : Int)) (x.1)))))))
theorem tr_trim_eq (x : Els [(false, .sl (.int .u32))]) : fnP E19 lpTrim Tryz.f72 (encs [(false, .sl (.int .u32))] x) = tr_trim x := by kernel_rfl
def trimmed (l : List Int) : List Int := l.take (trimN l l.length)
noncomputable def con_trim : Con Tryz.prog := ⟨72, [], _, cf_trim, val_con (E := E19) (L := lpTrim) mixed Tryz.func72 (one_loop trimL_ok (by kernel_rfl)) [(false, .sl (.int .u32))] (fun x => lenOk (List.length x.1)) (fun x => .one (.ds (.int .u32) (trimmed x.1))) fun x hx => by
  rw [tr_trim_eq]
  obtain ⟨l, u⟩ := x
  revert l
  intro (l : List Int) (hx : lenOk l.length)
  unfold tr_trim
  simp only [T.wp]
  dsimp only [El]
  have := trimN_le l l.length
  rw [Int.toNat_natCast, Int.toNat_natCast]
  exact ⟨⟨by omega, by omega, hx⟩, ⟨by omega, by omega, by omega⟩, rfl⟩⟩
noncomputable def E20 : Env Tryz.prog := ⟨con_trim :: E19.con, E19.zero, E19.cod, E19.sure, E19.base, E19.frz⟩
abbrev spWide : LSpec := ⟨36, [(6, false, .sl (.int .u32)), (8, false, .int .i64)], [(4, 0, 0), (7, 1, 0)], [(26, cW), (26, cW)], fun _ => []⟩
end Go.Proofs.YtokgbcachcmeaaaGreatDoor
/-
The reference: the loop of wide.
-/
set_option linter.unusedSimpArgs false
set_option linter.unusedVariables false
namespace Go.Proofs.YtokgbcachcmeaaaGreatDoor
open Go.RowKit Ax
noncomputable def tr_pwideL (x : LSpec.X spWide × LSpec.Y spWide) : T (Rd spWide) :=
 .ite (decide (x.1.2.1 < (↑(List.length x.1.1) : Int)))
  (.get x.1.1 x.1.2.1 (fun v0 =>
   .need ((0 : Int) ≤ x.1.2.1 ∧ x.1.2.1 < (↑(32 : Nat) : Int)) (.need (x.1.2.1 < (32 : Int) ∧ (0 : Int) ≤ v0 ∧ v0 < (4294967296 : Int)) (.ret (.again (x.1.1, (IntKind.wrap .i64 (x.1.2.1 + (1 : Int)), ())) (x.2.1, ((x.2.2.1.1, stA x.2.2.1.2 (Int.toNat x.1.2.1) v0), ())))))))
  (.ret (.out (Go.Exit.exit (0 : Nat)) [] (x.2.1, (x.2.2.1, ()))))
theorem tr_pwideL_eq (x : LSpec.X spWide × LSpec.Y spWide) : LSpec.round spWide E20 (fun _ => none) (bodyOf Tryz.f44 0) x.1 x.2 = tr_pwideL x := by kernel_rfl
def stL : Amt → List Int → Nat → Amt
  | a, [], _ => a
  | a, v :: r, i => stL (stA a i v) r (i + 1)
def valL : List Int → Nat
  | [] => 0
  | v :: r => v.toNat + 4294967296 * valL r
def Words (l : List Int) : Prop := ∀ v ∈ l, 0 ≤ v ∧ v < 4294967296
theorem stL_val : ∀ (l : List Int) (a : Amt) (i : Nat), a.1 < Pq.bp i → i + l.length ≤ 32 → Words l → (stL a l i).1 = a.1 + Pq.bp i * valL l
  | [], a, i, h, hl, hw => by simp [stL, valL]
  | v :: r, a, i, h, hl, hw => by
    rw [List.length_cons] at hl
    obtain ⟨h0, h1⟩ := hw v (by simp)
    have e : (stA a i v).1 = a.1 + Pq.bp i * v.toNat := by
      rw [stA_val (by omega) h0 h1]
      unfold Pq.st
      have hlt : a.1 < Pq.bp (i + 1) := Nat.lt_of_lt_of_le h (Pq.bp_mono (by omega))
      rw [show Pq.lo a.1 i = a.1 from Nat.mod_eq_of_lt h, Nat.div_eq_of_lt hlt, Nat.mul_zero, Nat.add_zero]
    have hb : (stA a i v).1 < Pq.bp (i + 1) := by
      rw [e, Pq.bp_succ i]
      have h2 := Nat.mul_le_mul_left (Pq.bp i) (show v.toNat + 1 ≤ 4294967296 by omega)
      rw [Nat.mul_add, Nat.mul_one] at h2
      omega
    rw [stL, stL_val r (stA a i v) (i + 1) hb (by omega) (fun x hx => hw x (by simp [hx])), e, valL, Pq.bp_succ i, Nat.mul_add, Nat.mul_assoc]
    omega
def outPw (x : LSpec.X spWide) (y : LSpec.Y spWide) : T (Exit × List Av × LSpec.Y spWide) :=
  .need (0 ≤ x.2.1 ∧ x.2.1 ≤ x.1.length ∧ x.1.length ≤ 32 ∧ Words x.1) (.ret (.exit 0, [], (y.1, (y.2.1.1, stL y.2.1.2 (x.1.drop x.2.1.toNat) x.2.1.toNat), ())))
theorem pwideL_core (l : List Int) (i : Int) (r : W) (b : Bool) (a : Amt) (Q : Exit × List Av × LSpec.Y spWide → Prop) (h : (outPw (l, i, ()) (r, (b, a), ())).wp Q) : (tr_pwideL ((l, i, ()), (r, (b, a), ()))).wp fun r => match r with
      | .again x' y' => (x'.1.length - x'.2.1).toNat < (l.length - i).toNat ∧ (outPw x' y').wp Q
      | .out e avs y' => Q (e, avs, y') := by
  unfold tr_pwideL
  unfold outPw at h ⊢
  simp only [T.wp] at h ⊢
  dsimp only [El, vts, bts, spWide] at h ⊢
  obtain ⟨⟨h0, h1, h2, hw⟩, hq⟩ := h
  refine ⟨fun hlt => ?_, fun hge => ?_⟩
  · have hlt := of_decide_eq_true hlt
    obtain ⟨v, hv⟩ := elem_at (l := l) h0 hlt
    have hd := drop_at h0 hv
    obtain ⟨v0, v1⟩ := hw v (List.mem_of_getElem? hv)
    rw [hd, stL, show i.toNat + 1 = (i + 1).toNat from by omega] at hq
    refine ⟨v, h0, hv, ⟨h0, by omega⟩, ⟨by omega, v0, v1⟩, ?_⟩
    rw [IntWalk.i64_in (i + 1) (by omega)]
    exact ⟨by omega, ⟨by omega, by omega, h2, hw⟩, hq⟩
  · have hge := of_decide_eq_false hge
    rw [drop_end (by omega), stL] at hq
    exact hq
theorem pwideL_ok : LoopOk Tryz.prog 0 (bodyOf Tryz.f44 0) (spWide.run outPw) :=
  loop_ok (E := E20) (L := fun _ => none) mixed 0 (loops_none _ _ _) spWide (Nat.zero_le _) outPw (fun x _ => (x.1.length - x.2.1).toNat) (by
    rintro ⟨l, i, ⟨⟩⟩ ⟨r, ⟨b, a⟩, ⟨⟩⟩ Q h
    rw [tr_pwideL_eq ((l, i, ()), (r, (b, a), ()))]
    exact pwideL_core l i r b a Q h)
noncomputable def lpPw : Loops := oneL 6 (spWide.run outPw)
end Go.Proofs.YtokgbcachcmeaaaGreatDoor
/-
The reference: wide.
-/
set_option linter.unusedSimpArgs false
set_option linter.unusedVariables false
namespace Go.Proofs.YtokgbcachcmeaaaGreatDoor
open Go.RowKit Ax
noncomputable def tr_pwide (x : Els [(false, .bool), (false, .sl (.int .u32))]) : T Av :=
 .need (lenOk (List.length x.2.1)) (.ite (decide ((↑(List.length (trimmed x.2.1)) : Int) > (32 : Int)))
   (.ret (.tup [(.agg [.v (.bool w0.1), .w w0.2]), (.one (.v (.bool (false))))]))
   (.ite (x.1)
    (.need ((0 : El (Cd.int .i64)) ≤ (0 : Int) ∧ (0 : Int) ≤ (↑(List.length (trimmed x.2.1)) : El (Cd.int .i64)) ∧ List.length (trimmed x.2.1) ≤ (32 : Nat) ∧ Words (trimmed x.2.1)) (.ret (.tup [(.agg [.v (.bool (decide ((↑(List.length (trimmed x.2.1)) : Int) > (0 : Int)))), .w (stL w0.2 (List.drop (Int.toNat (0 : Int)) (trimmed x.2.1)) (Int.toNat (0 : Int)))]), (.one (.v (.bool (true))))])))
    (.need ((0 : El (Cd.int .i64)) ≤ (0 : Int) ∧ (0 : Int) ≤ (↑(List.length (trimmed x.2.1)) : El (Cd.int .i64)) ∧ List.length (trimmed x.2.1) ≤ (32 : Nat) ∧ Words (trimmed x.2.1)) (.ret (.tup [(.agg [.v (.bool (false)), .w (stL w0.2 (List.drop (Int.toNat (0 : Int)) (trimmed x.2.1)) (Int.toNat (0 : Int)))]), (.one (.v (.bool (true))))])))))
theorem tr_pwide_eq (x : Els [(false, .bool), (false, .sl (.int .u32))]) : fnP E20 lpPw Tryz.f44 (encs [(false, .bool), (false, .sl (.int .u32))] x) = tr_pwide x := by kernel_rfl
def pW (neg : Bool) (t : List Int) : W := (neg && decide (0 < t.length), stL w0.2 t 0)
noncomputable def con_pwide : Con Tryz.prog := ⟨44, [], _, cf_pwide, ans_con (E := E20) (L := lpPw) mixed Tryz.func44 (one_loop pwideL_ok (by kernel_rfl)) [(false, .bool), (false, .sl (.int .u32))] (fun x => lenOk (List.length x.2.1) ∧ Words x.2.1) true cW (fun x => decide ((trimmed x.2.1).length ≤ 32)) (fun x => pW x.1 (trimmed x.2.1)) (fun _ => w0) fun x hx => by
  rw [tr_pwide_eq]
  obtain ⟨n, l, u⟩ := x
  revert n l
  intro (n : Bool) (l : List Int) (hx : lenOk l.length ∧ Words l)
  unfold tr_pwide
  simp only [T.wp]
  dsimp only [El]
  have hw : Words (trimmed l) := fun v hv => hx.2 v (List.mem_of_mem_take hv)
  refine ⟨hx.1, fun h => ?_, fun h => ⟨fun hn => ⟨?_, ?_⟩, fun hn => ⟨?_, ?_⟩⟩⟩
  · rw [decide_eq_false (by have := of_decide_eq_true h; omega)]; rfl
  · have := of_decide_eq_false h
    exact ⟨by omega, by omega, by omega, hw⟩
  · subst hn
    rw [decide_eq_true (show (trimmed l).length ≤ 32 by have := of_decide_eq_false h; omega)]
    have e : decide (((trimmed l).length : Int) > 0) = decide (0 < (trimmed l).length) := by
      rw [decide_eq_decide]; omega
    rw [e]; rfl
  · have := of_decide_eq_false h
    exact ⟨by omega, by omega, by omega, hw⟩
  · subst hn
    rw [decide_eq_true (show (trimmed l).length ≤ 32 by have := of_decide_eq_false h; omega)]
    rfl⟩
noncomputable def E21 : Env Tryz.prog := ⟨con_pwide :: E20.con, E20.zero, E20.cod, E20.sure, E20.base, E20.frz⟩
end Go.Proofs.YtokgbcachcmeaaaGreatDoor
/-
Plain laws: amounts as words without noughts on top.
-/
set_option linter.unusedSimpArgs false
set_option linter.unusedVariables false
namespace Go.Proofs.YtokgbcachcmeaaaGreatDoor
open Go.RowKit Ax
def mg (x : Nat) : List Int := if h : x = 0 then [] else ((x % 4294967296 : Nat) : Int) :: mg (x / 4294967296)
decreasing_by exact Nat.div_lt_self (by omega) (by omega)
theorem mg_zero : mg 0 = [] := by rw [mg]; simp
theorem mg_pos {x : Nat} (h : x ≠ 0) : mg x = ((x % 4294967296 : Nat) : Int) :: mg (x / 4294967296) := by rw [mg, dif_neg h]
theorem mg_nil {x : Nat} : mg x = [] ↔ x = 0 := by
  constructor
  · intro h
    by_cases h0 : x = 0
    · exact h0
    · rw [mg_pos h0] at h; cases h
  · rintro rfl; exact mg_zero
theorem mg_words (x : Nat) : Words (mg x) := by
  induction x using Nat.strongRecOn with
  | ind x ih =>
    by_cases h : x = 0
    · rw [h, mg_zero]; intro v hv; cases hv
    · rw [mg_pos h]
      intro v hv
      rcases List.mem_cons.1 hv with rfl | hv
      · omega
      · exact ih (x / 4294967296) (Nat.div_lt_self (by omega) (by omega)) v hv
theorem val_mg (x : Nat) : valL (mg x) = x := by
  induction x using Nat.strongRecOn with
  | ind x ih =>
    by_cases h : x = 0
    · rw [h, mg_zero]; rfl
    · rw [mg_pos h, valL, ih (x / 4294967296) (Nat.div_lt_self (by omega) (by omega))]
      omega
theorem mg_len {n : Nat} : ∀ {x : Nat}, x < Pq.bp n ↔ (mg x).length ≤ n := by
  induction n with
  | zero =>
    intro x
    rw [Pq.bp_zero]
    constructor
    · intro h; rw [show x = 0 by omega, mg_zero]; simp
    · intro h
      have : mg x = [] := List.length_eq_zero_iff.1 (by omega)
      rw [mg_nil.1 this]; omega
  | succ n ih =>
    intro x
    by_cases h : x = 0
    · subst h; rw [mg_zero]; exact ⟨fun _ => by simp, fun _ => Pq.bp_pos _⟩
    · rw [mg_pos h, List.length_cons, Pq.bp_succ]
      have e : x < Pq.bp n * 4294967296 ↔ x / 4294967296 < Pq.bp n := (Nat.div_lt_iff_lt_mul (by omega)).symm
      rw [e, ih]
      omega
theorem val_words {l : List Int} (h : Words l) : valL l < Pq.bp l.length := by
  induction l with
  | nil => rw [valL]; exact Pq.bp_pos _
  | cons v r ih =>
    have h1 := h v (by simp)
    have h2 := ih (fun x hx => h x (by simp [hx]))
    rw [valL, List.length_cons, Pq.bp_succ]
    have : 4294967296 * valL r + 4294967296 ≤ Pq.bp r.length * 4294967296 := by
      rw [← Nat.mul_succ, Nat.mul_comm]; exact Nat.mul_le_mul_right _ h2
    omega
theorem val_app (l k : List Int) : valL (l ++ k) = valL l + Pq.bp l.length * valL k := by
  induction l with
  | nil => simp [valL, Pq.bp_zero]
  | cons v r ih =>
    rw [List.cons_append, valL, ih, valL, List.length_cons, Pq.bp_succ, Nat.mul_add, Nat.add_assoc]
    congr 2
    rw [← Nat.mul_assoc, Nat.mul_comm 4294967296]
theorem trimN_cons (v : Int) (r : List Int) : ∀ n, trimN (v :: r) (n + 1) = if trimN r n = 0 then (if v = 0 then 0 else 1) else trimN r n + 1
  | 0 => by
    rw [trimN, trimN]
    by_cases h : v = 0
    · subst h; simp [trimN]
    · simp [h]
  | n + 1 => by
    rw [trimN, trimN_cons v r n]
    conv => rhs; rw [trimN]
    rw [List.getElem?_cons_succ]
    by_cases h : r[n]? = some 0
    · rw [if_pos h, if_pos h]
    · rw [if_neg h, if_neg h, if_neg (by omega)]
theorem trimmed_cons (v : Int) (r : List Int) : trimmed (v :: r) = if trimmed r = [] then (if v = 0 then [] else [v]) else v :: trimmed r := by
  unfold trimmed
  rw [List.length_cons, trimN_cons]
  have hle := trimN_le r r.length
  by_cases h : trimN r r.length = 0
  · rw [if_pos h, h, List.take_zero, if_pos rfl]
    by_cases hv : v = 0
    · rw [if_pos hv, if_pos hv]; rfl
    · rw [if_neg hv, if_neg hv]; rfl
  · rw [if_neg h, List.take_succ_cons, if_neg]
    intro e
    have := congrArg List.length e
    rw [List.length_take, List.length_nil] at this
    omega
theorem trimmed_mg {l : List Int} (h : Words l) : trimmed l = mg (valL l) := by
  induction l with
  | nil => rw [valL, mg_zero]; rfl
  | cons v r ih =>
    have h1 := h v (by simp)
    rw [trimmed_cons, ih (fun x hx => h x (by simp [hx])), valL]
    by_cases h0 : valL r = 0
    · rw [if_pos (mg_nil.2 h0), h0, Nat.mul_zero, Nat.add_zero]
      by_cases hv : v = 0
      · subst hv; rw [if_pos rfl]; exact mg_zero.symm
      · rw [if_neg hv, mg_pos (by omega), show v.toNat / 4294967296 = 0 by omega, mg_zero, show ((v.toNat % 4294967296 : Nat) : Int) = v by omega]
    · rw [if_neg (fun e => h0 (mg_nil.1 e)), mg_pos (show v.toNat + 4294967296 * valL r ≠ 0 by omega)]
      rw [show (v.toNat + 4294967296 * valL r) / 4294967296 = valL r by omega, show (((v.toNat + 4294967296 * valL r) % 4294967296 : Nat) : Int) = v by omega]
theorem pW_mg {n : Bool} {x : Nat} (h : x < Pq.bp 32) : pW n (mg x) = (n && decide (x ≠ 0), ⟨x, h⟩) := by
  unfold pW
  have e1 : decide (0 < (mg x).length) = decide (x ≠ 0) := by
    rw [decide_eq_decide]
    constructor
    · intro hl h0; rw [h0, mg_zero] at hl; simp at hl
    · intro h0
      rcases Nat.eq_zero_or_pos (mg x).length with h' | h'
      · exact absurd (mg_nil.1 (List.length_eq_zero_iff.1 h')) h0
      · exact h'
  have e2 : (stL w0.2 (mg x) 0).1 = x := by
    rw [stL_val (mg x) w0.2 0 (by rw [Pq.bp_zero]; show 0 < 1; omega) (by have := mg_len.1 h; omega) (mg_words x), val_mg, Pq.bp_zero]
    show 0 + 1 * x = x
    omega
  rw [e1]
  exact Prod.ext rfl (Subtype.ext e2)
theorem val_range (x : Nat) : ∀ n, valL ((List.range n).map fun j => ((Pq.wd x j : Nat) : Int)) = Pq.lo x n
  | 0 => by simp [valL, Pq.lo_zero]
  | n + 1 => by
    rw [List.range_succ, List.map_append, val_app, val_range x n, List.length_map, List.length_range, Pq.lo_succ]
    simp [valL]
end Go.Proofs.YtokgbcachcmeaaaGreatDoor
/-
The reference: From.
-/
set_option linter.unusedSimpArgs false
set_option linter.unusedVariables false
namespace Go.Proofs.YtokgbcachcmeaaaGreatDoor
open Go.RowKit Ax
noncomputable def tr_pfrom (x : Els [(false, .int .i64)]) : T Av :=
 .ite (decide (x.1 < (0 : Int)))
  (.need (lenOk (List.length [IntKind.wrap .u32 (IntKind.wrap .u64 ((0 : Int) - IntKind.wrap .u64 (x.1))), IntKind.wrap .u32 (Int.fdiv (IntKind.wrap .u64 ((0 : Int) - IntKind.wrap .u64 (x.1))) ((2 : Int) ^ Min.min (Int.toNat (32 : Int)) (IntKind.bits .u64)))]) ∧ Words [IntKind.wrap .u32 (IntKind.wrap .u64 ((0 : Int) - IntKind.wrap .u64 (x.1))), IntKind.wrap .u32 (Int.fdiv (IntKind.wrap .u64 ((0 : Int) - IntKind.wrap .u64 (x.1))) ((2 : Int) ^ Min.min (Int.toNat (32 : Int)) (IntKind.bits .u64)))]) (.ite (decide (List.length (trimmed [IntKind.wrap .u32 (IntKind.wrap .u64 ((0 : Int) - IntKind.wrap .u64 (x.1))), IntKind.wrap .u32 (Int.fdiv (IntKind.wrap .u64 ((0 : Int) - IntKind.wrap .u64 (x.1))) ((2 : Int) ^ Min.min (Int.toNat (32 : Int)) (IntKind.bits .u64)))]) ≤ (32 : Nat)))
    (.lt (pW (decide (x.1 < (0 : Int))) (trimmed [IntKind.wrap .u32 (IntKind.wrap .u64 ((0 : Int) - IntKind.wrap .u64 (x.1))), IntKind.wrap .u32 (Int.fdiv (IntKind.wrap .u64 ((0 : Int) - IntKind.wrap .u64 (x.1))) ((2 : Int) ^ Min.min (Int.toNat (32 : Int)) (IntKind.bits .u64)))])) (fun v0 =>
     .ret (.agg [.v (.bool v0.1), .w v0.2])))
    (.ret (.agg [.v (.bool w0.1), .w w0.2]))))
  (.need (lenOk (List.length [IntKind.wrap .u32 (IntKind.wrap .u64 (x.1)), IntKind.wrap .u32 (Int.fdiv (IntKind.wrap .u64 (x.1)) ((2 : Int) ^ Min.min (Int.toNat (32 : Int)) (IntKind.bits .u64)))]) ∧ Words [IntKind.wrap .u32 (IntKind.wrap .u64 (x.1)), IntKind.wrap .u32 (Int.fdiv (IntKind.wrap .u64 (x.1)) ((2 : Int) ^ Min.min (Int.toNat (32 : Int)) (IntKind.bits .u64)))]) (.ite (decide (List.length (trimmed [IntKind.wrap .u32 (IntKind.wrap .u64 (x.1)), IntKind.wrap .u32 (Int.fdiv (IntKind.wrap .u64 (x.1)) ((2 : Int) ^ Min.min (Int.toNat (32 : Int)) (IntKind.bits .u64)))]) ≤ (32 : Nat)))
    (.lt (pW (decide (x.1 < (0 : Int))) (trimmed [IntKind.wrap .u32 (IntKind.wrap .u64 (x.1)), IntKind.wrap .u32 (Int.fdiv (IntKind.wrap .u64 (x.1)) ((2 : Int) ^ Min.min (Int.toNat (32 : Int)) (IntKind.bits .u64)))])) (fun v0 =>
     .ret (.agg [.v (.bool v0.1), .w v0.2])))
    (.ret (.agg [.v (.bool w0.1), .w w0.2]))))
theorem tr_pfrom_eq (x : Els [(false, .int .i64)]) : fnP E21 (fun _ => none) Tryz.f18 (encs [(false, .int .i64)] x) = tr_pfrom x := by kernel_rfl
theorem trim_two (a b : Int) : trimmed [a, b] = if b = 0 then (if a = 0 then [] else [a]) else [a, b] := by
  unfold trimmed
  by_cases hb : b = 0
  · by_cases ha : a = 0
    · simp [trimN, ha, hb]
    · simp [trimN, ha, hb]
  · simp [trimN, hb]
theorem two_words {a b x : Int} (ha : 0 ≤ a ∧ a < 4294967296) (hb : 0 ≤ b ∧ b < 4294967296) (hx : (x.natAbs : Int) = a + 4294967296 * b) (hf : x.natAbs < Pq.bp 32) : pW (decide (x < 0)) (trimmed [a, b]) = wOf x := by
  have hw : ∀ t : List Int, t.length ≤ 2 → Words t → (stL w0.2 t 0).1 = valL t := fun t h1 h2 => by
    have := stL_val t w0.2 0 (by decide) (by omega) h2
    rw [this]
    show 0 + Pq.bp 0 * valL t = valL t
    rw [Pq.bp_zero]; omega
  have fin : ∀ t : List Int, t.length ≤ 2 → Words t → valL t = x.natAbs → (0 < t.length ↔ x ≠ 0) → pW (decide (x < 0)) t = wOf x := fun t h1 h2 h3 h4 => by
    unfold pW wOf
    rw [dif_pos hf]
    refine Prod.ext ?_ (Subtype.ext ((hw t h1 h2).trans h3))
    by_cases hn : x < 0
    · simp [hn, h4.2 (by omega)]
    · simp [hn]
  rw [trim_two]
  by_cases h0 : b = 0
  · rw [if_pos h0]
    by_cases h1 : a = 0
    · rw [if_pos h1]
      exact fin [] (by simp) (fun v hv => by cases hv) (by simp [valL]; omega) (by simp; omega)
    · rw [if_neg h1]
      exact fin [a] (by simp) (fun v hv => by rw [List.mem_singleton] at hv; subst hv; exact ha) (by simp [valL]; omega) (by simp; omega)
  · rw [if_neg h0]
    exact fin [a, b] (by simp) (fun v hv => by
      rcases List.mem_cons.1 hv with rfl | hv
      · exact ha
      · rw [List.mem_singleton] at hv; subst hv; exact hb) (by simp only [valL]; omega) (by simp; omega)
noncomputable def con_pfrom : Con Tryz.prog := ⟨18, [], _, cf_pfrom, val_con (E := E21) mixed Tryz.func18 no_loops [(false, .int .i64)] (fun x => in64 x.1) (fun x => .agg (ck cW (wOf x.1))) fun x hx => by
  rw [tr_pfrom_eq]
  obtain ⟨x, u⟩ := x
  revert x
  intro (x : Int) (hx : in64 x)
  obtain ⟨h0, h1⟩ := hx
  have hf := i64_lt h0 h1
  unfold tr_pfrom
  simp only [T.wp]
  dsimp only [El]
  have p32 : (2 : Int) ^ min (Int.toNat 32) (IntKind.bits .u64) = 4294967296 := by decide
  rw [p32]
  have key : ∀ y : Int, 0 ≤ y → y < 18446744073709551616 → IntKind.u32.wrap y = y % 4294967296 ∧ IntKind.u32.wrap (y.fdiv 4294967296) = y / 4294967296 := fun y hy0 hy1 => by
    rw [Int.fdiv_eq_ediv_of_nonneg _ (by decide)]
    constructor
    · rw [IntKind.wrap_u32]
    · rw [IntKind.wrap_u32]; omega
  refine ⟨fun h => ?_, fun h => ?_⟩
  · have hn := of_decide_eq_true h
    have e : IntKind.u64.wrap (0 - IntKind.u64.wrap x) = -x := by rw [IntKind.wrap_u64, IntKind.wrap_u64]; omega
    rw [e]
    obtain ⟨k1, k2⟩ := key (-x) (by omega) (by omega)
    rw [k1, k2]
    have tw := two_words (a := -x % 4294967296) (b := -x / 4294967296) (x := x) ⟨by omega, by omega⟩ ⟨by omega, by omega⟩ (by omega) hf
    refine ⟨⟨len2 _ _, fun v hv => ?_⟩, fun _ => ?_, fun hl => ?_⟩
    · rcases List.mem_cons.1 hv with rfl | hv
      · omega
      · rw [List.mem_singleton] at hv; subst hv; omega
    · rw [tw]; rfl
    · exfalso
      have := of_decide_eq_false hl
      have h2 : (trimmed [-x % 4294967296, -x / 4294967296]).length ≤ 2 := by unfold trimmed; rw [List.length_take]; simp; omega
      omega
  · have hn := of_decide_eq_false h
    have e : IntKind.u64.wrap x = x := by rw [IntKind.wrap_u64]; omega
    rw [e]
    obtain ⟨k1, k2⟩ := key x (by omega) (by omega)
    rw [k1, k2]
    have tw := two_words (a := x % 4294967296) (b := x / 4294967296) (x := x) ⟨by omega, by omega⟩ ⟨by omega, by omega⟩ (by omega) hf
    refine ⟨⟨len2 _ _, fun v hv => ?_⟩, fun _ => ?_, fun hl => ?_⟩
    · rcases List.mem_cons.1 hv with rfl | hv
      · omega
      · rw [List.mem_singleton] at hv; subst hv; omega
    · rw [tw]; rfl
    · exfalso
      have := of_decide_eq_false hl
      have h2 : (trimmed [x % 4294967296, x / 4294967296]).length ≤ 2 := by unfold trimmed; rw [List.length_take]; simp; omega
      omega⟩
noncomputable def E22 : Env Tryz.prog := ⟨con_pfrom :: E21.con, E21.zero, E21.cod, E21.sure, E21.base, E21.frz⟩
end Go.Proofs.YtokgbcachcmeaaaGreatDoor
/-
The reference: Whole.
-/
set_option linter.unusedSimpArgs false
set_option linter.unusedVariables false
namespace Go.Proofs.YtokgbcachcmeaaaGreatDoor
open Go.RowKit Ax
noncomputable def con_pwhole : Con Tryz.prog := ⟨9, [], _, cf_pwhole, val_con (E := E22) mixed Tryz.func9 no_loops [(false, .int .i64)] (fun x => in64 x.1) (fun x => .agg (ck cF (wOf x.1, wOf 1))) fun x hx => by
  have e : fnP E22 (fun _ => none) Tryz.f9 (encs [(false, .int .i64)] x) = .need (in64 x.1) (.need (in64 1) (.ret (.agg (ck cF (wOf x.1, wOf 1))))) := by kernel_rfl
  rw [e]
  exact ⟨hx, ⟨by omega, by omega⟩, rfl⟩⟩
noncomputable def E23 : Env Tryz.prog := ⟨con_pwhole :: E22.con, E22.zero, E22.cod, E22.sure, E22.base, E22.frz⟩
end Go.Proofs.YtokgbcachcmeaaaGreatDoor
/-
Several loops in one function.
-/
set_option linter.unusedSimpArgs false
set_option linter.unusedVariables false
namespace Ax
open Go Go.RowKit
def manyL (l : List (Nat × (St → T (Exit × St)))) : Loops := fun k => (l.find? fun p => p.1 == k).map (·.2)
theorem find_key {β : Type _} : ∀ (l : List (Nat × β)) (i : Nat) (p : Nat × β), (l.map (·.1)).Nodup → l[i]? = some p → l.find? (fun q => q.1 == p.1) = some p
  | [], i, p, _, h => by simp at h
  | q :: r, 0, p, _, h => by
    obtain rfl : q = p := by simpa using h
    simp
  | q :: r, i + 1, p, hn, h => by
    have h' : r[i]? = some p := by simpa using h
    have hm : p.1 ∈ r.map (·.1) := List.mem_map.2 ⟨p, List.mem_of_getElem? h', rfl⟩
    have hne : q.1 ≠ p.1 := fun e => (List.nodup_cons.1 hn).1 (by show q.1 ∈ _; rw [e]; exact hm)
    rw [List.find?_cons_of_neg (by simpa using hne)]
    exact find_key r i p (List.nodup_cons.1 hn).2 h'
def keysOf (fn : Func) : List Nat := match fn.body with | some c => (loopsOf c).map Code.first | none => []
theorem many_loops {P : Program} {n : Nat} {fn : Func} {l : List (Nat × (St → T (Exit × St)))} (hk : keysOf fn = l.map (·.1)) (hn : (l.map (·.1)).Nodup)
    (h : ∀ (i : Nat) p, l[i]? = some p → LoopOk P n (bodyOf fn i) p.2) : ∀ c, fn.body = some c → LoopsOk P n (manyL l) c := by
  intro c hc
  unfold keysOf at hk
  rw [hc] at hk
  replace hk : (loopsOf c).map Code.first = l.map (·.1) := hk
  refine loops_of fun b hb r hr => ?_
  obtain ⟨i, hi, rfl⟩ := List.getElem_of_mem hb
  have hl : (loopsOf c).length = l.length := by have := congrArg List.length hk; simpa using this
  have hp : l[i]? = some (l[i]'(by omega)) := List.getElem?_eq_getElem _
  have hkey : Code.first (loopsOf c)[i] = (l[i]'(by omega)).1 := by
    have h1 : ((loopsOf c).map Code.first)[i]? = (l.map (·.1))[i]? := by rw [hk]
    rw [List.getElem?_map, List.getElem?_map, hp, List.getElem?_eq_getElem hi] at h1
    simpa using h1
  unfold manyL at hr
  rw [hkey, find_key l i _ hn hp] at hr
  cases hr
  have hb : bodyOf fn i = (loopsOf c)[i] := by
    unfold bodyOf
    rw [hc]
    simp [hi]
  rw [← hb]
  exact h i _ hp
/-! ### loops within a loop's body -/
def innerOf (c : Code) (i : Nat) : Code := (loopsOf c).getD i .skip
theorem inner_loops {P : Program} {n : Nat} {c : Code} {l : List (Nat × (St → T (Exit × St)))} (hk : (loopsOf c).map Code.first = l.map (·.1)) (hn : (l.map (·.1)).Nodup)
    (h : ∀ (i : Nat) p, l[i]? = some p → LoopOk P n (innerOf c i) p.2) : LoopsOk P n (manyL l) c :=
  many_loops (fn := { (default : Func) with body := some c }) hk hn (fun i p hp => by
    have := h i p hp
    unfold innerOf at this
    exact this) c rfl
theorem inner_one {P : Program} {n k1 : Nat} {c : Code} {r1 : St → T (Exit × St)} (hk : (loopsOf c).map Code.first = [k1]) (h1 : LoopOk P n (innerOf c 0) r1) : LoopsOk P n (manyL [(k1, r1)]) c :=
  inner_loops hk (by simp) fun i p hp => by
    match i, hp with
    | 0, hp => cases hp; exact h1
    | i + 1, hp => simp at hp
end Ax
/-
The reference: what the loops of of, mul, tenth, text carry.
-/
set_option linter.unusedSimpArgs false
set_option linter.unusedVariables false
namespace Go.Proofs.YtokgbcachcmeaaaGreatDoor
open Go.RowKit Ax
theorem cf_pof (xs : Array Value) (w : World) : (callFunc 43 xs).run Tryz.prog w = .ok (.enter 43 xs) w := by kernel_rfl
theorem cf_pneg (xs : Array Value) (w : World) : (callFunc 42 xs).run Tryz.prog w = .ok (.enter 42 xs) w := by kernel_rfl
abbrev spOf : RSpec := ⟨18, [(4, false, .int .i64)], [(1, 0, 0)], [(26, cW)], fun _ => [], 3, 23, .int .u32, false, fun _ => 3⟩
end Go.Proofs.YtokgbcachcmeaaaGreatDoor
/-
The reference: of.
-/
set_option linter.unusedSimpArgs false
set_option linter.unusedVariables false
namespace Go.Proofs.YtokgbcachcmeaaaGreatDoor
open Go.RowKit Ax
noncomputable def tr_pofL (x : RSpec.X spOf × RSpec.Y spOf × (List (El (RSpec.c spOf)) × Nat)) : T (RRd spOf) :=
 .ite (decide (x.1.1 < (32 : Int)))
  (.need ((0 : Int) ≤ x.1.1 ∧ x.1.1 < (↑(32 : Nat) : Int)) (.need (x.1.1 < (32 : Int)) (.need (List.length x.2.2.1 = List.length x.2.2.1 ∧ x.2.2.2 = x.2.2.2 ∧ (List.length x.2.2.1 + List.length [(↑(Pq.wd x.2.1.1.2.1 (Int.toNat x.1.1)) : Int)]) * (nat_lit 3 + (1 : Nat)) ≤ (140737488355328 : Nat) ∧ List.length x.2.2.1 + List.length [(↑(Pq.wd x.2.1.1.2.1 (Int.toNat x.1.1)) : Int)] ≤ Go.maxLen) (.and
      (.need (List.length x.2.2.1 + List.length [(↑(Pq.wd x.2.1.1.2.1 (Int.toNat x.1.1)) : Int)] = List.length (x.2.2.1 ++ [(↑(Pq.wd x.2.1.1.2.1 (Int.toNat x.1.1)) : Int)]) ∧ x.2.2.2 = x.2.2.2) (.ret (.again (IntKind.wrap .i64 (x.1.1 + (1 : Int)), ()) (x.2.1.1, ()) (some ((x.2.2.1 ++ [(↑(Pq.wd x.2.1.1.2.1 (Int.toNat x.1.1)) : Int)], x.2.2.2))))))
      (.up (List.length x.2.2.1 + List.length [(↑(Pq.wd x.2.1.1.2.1 (Int.toNat x.1.1)) : Int)]) (fun v0 =>
       .need (List.length x.2.2.1 + List.length [(↑(Pq.wd x.2.1.1.2.1 (Int.toNat x.1.1)) : Int)] = List.length (x.2.2.1 ++ [(↑(Pq.wd x.2.1.1.2.1 (Int.toNat x.1.1)) : Int)]) ∧ v0 = v0) (.ret (.again (IntKind.wrap .i64 (x.1.1 + (1 : Int)), ()) (x.2.1.1, ()) (some ((x.2.2.1 ++ [(↑(Pq.wd x.2.1.1.2.1 (Int.toNat x.1.1)) : Int)], v0)))))))))))
  (.need (List.length x.2.2.1 = List.length x.2.2.1 ∧ x.2.2.2 = x.2.2.2) (.ret (.out (Go.Exit.exit (0 : Nat)) [] (x.2.1.1, ()) (some x.2.2))))
theorem tr_pofL_eq (x : RSpec.X spOf × RSpec.Y spOf × (List (El (RSpec.c spOf)) × Nat)) : RSpec.round spOf E23 (fun _ => none) (bodyOf Tryz.f43 0) x.1 x.2.1 (some x.2.2) = tr_pofL x := by kernel_rfl
noncomputable def tr_pofL0 (x : RSpec.X spOf × RSpec.Y spOf) : T (RRd spOf) :=
 .ite (decide (x.1.1 < (32 : Int)))
  (.need ((0 : Int) ≤ x.1.1 ∧ x.1.1 < (↑(32 : Nat) : Int)) (.need (x.1.1 < (32 : Int)) (.need (List.length [(↑(Pq.wd x.2.1.2.1 (Int.toNat x.1.1)) : Int)] * (nat_lit 3 + (1 : Nat)) ≤ (140737488355328 : Nat) ∧ List.length [(↑(Pq.wd x.2.1.2.1 (Int.toNat x.1.1)) : Int)] ≤ Go.maxLen) (.up (List.length [(↑(Pq.wd x.2.1.2.1 (Int.toNat x.1.1)) : Int)]) (fun v0 =>
      .need (List.length [(↑(Pq.wd x.2.1.2.1 (Int.toNat x.1.1)) : Int)] = List.length [(↑(Pq.wd x.2.1.2.1 (Int.toNat x.1.1)) : Int)] ∧ v0 = v0) (.ret (.again (IntKind.wrap .i64 (x.1.1 + (1 : Int)), ()) (x.2.1, ()) (some (([(↑(Pq.wd x.2.1.2.1 (Int.toNat x.1.1)) : Int)], v0))))))))))
  (.need (True) (.ret (.out (Go.Exit.exit (0 : Nat)) [] (x.2.1, ()) none)))
theorem tr_pofL0_eq (x : RSpec.X spOf × RSpec.Y spOf) : RSpec.round spOf E23 (fun _ => none) (bodyOf Tryz.f43 0) x.1 x.2 none = tr_pofL0 x := by kernel_rfl
def wfrom (x i : Nat) : List Int := (List.range (32 - i)).map fun j => ((Pq.wd x (i + j) : Nat) : Int)
theorem wfrom_step (x : Nat) {i : Nat} (h : i < 32) : wfrom x i = ((Pq.wd x i : Nat) : Int) :: wfrom x (i + 1) := by
  unfold wfrom
  rw [show 32 - i = (32 - (i + 1)) + 1 by omega, List.range_succ_eq_map, List.map_cons, List.map_map, Nat.add_zero]
  congr 1
  refine List.map_congr_left fun j _ => ?_
  simp only [Function.comp]
  rw [show i + j.succ = i + 1 + j by omega]
theorem wfrom_end (x : Nat) {i : Nat} (h : 32 ≤ i) : wfrom x i = [] := by
  unfold wfrom
  rw [show 32 - i = 0 by omega]; rfl
theorem words_wfrom (x i : Nat) : Words (wfrom x i) := fun v hv => by
  obtain ⟨j, _, rfl⟩ := List.mem_map.1 hv
  have := Pq.wd_lt x (i + j)
  omega
theorem val_wfrom {x : Nat} (h : x < Pq.bp 32) : valL (wfrom x 0) = x := by
  unfold wfrom
  simp only [Nat.zero_add, Nat.sub_zero]
  rw [val_range]
  exact Nat.mod_eq_of_lt h
def outOf (x : RSpec.X spOf) (y : RSpec.Y spOf) (g : RSpec.G spOf) : T (Exit × List Av × RSpec.Y spOf × RSpec.G spOf) :=
  match g with
  | none => .need (x.1 = 0) (.up 0 fun k => .ret (.exit 0, [], y, some (wfrom y.1.2.1 0, k)))
  | some r => .need (0 ≤ x.1 ∧ x.1 ≤ 32 ∧ (r.1.length : Int) = x.1) (.up 0 fun k => .ret (.exit 0, [], y, some ((r.1 : List Int) ++ wfrom y.1.2.1 x.1.toNat, k)))
theorem pofL_core (i : Int) (y : W) (xs : List Int) (cap : Nat) (Q : Exit × List Av × RSpec.Y spOf × RSpec.G spOf → Prop) (h : (outOf (i, ()) (y, ()) (some (xs, cap))).wp Q) : (tr_pofL ((i, ()), (y, ()), (xs, cap))).wp fun r => match r with
      | .again x' y' g' => (32 - x'.1).toNat < (32 - i).toNat ∧ (outOf x' y' g').wp Q
      | .out e avs y' g' => Q (e, avs, y', g') := by
  unfold tr_pofL
  unfold outOf at h ⊢
  simp only [T.wp] at h ⊢
  dsimp only [El, vts, spOf] at h ⊢
  obtain ⟨⟨h0, h1, h2⟩, hq⟩ := h
  refine ⟨fun hlt => ?_, fun hge => ?_⟩
  · have hlt := of_decide_eq_true hlt
    rw [IntWalk.i64_in (i + 1) (by omega)]
    rw [wfrom_step y.2.1 (show i.toNat < 32 by omega), show i.toNat + 1 = (i + 1).toNat by omega] at hq
    simp only [List.length_append, List.length_cons, List.length_nil, Go.maxLen, List.append_assoc, List.singleton_append, List.cons_append, List.nil_append] at hq ⊢
    exact ⟨⟨by omega, by omega⟩, by omega, ⟨trivial, trivial, by omega, by omega⟩, ⟨⟨trivial, trivial⟩, by omega, ⟨by omega, by omega, by omega⟩, hq⟩, fun k hk => ⟨⟨trivial, trivial⟩, by omega, ⟨by omega, by omega, by omega⟩, hq⟩⟩
  · have hge := of_decide_eq_false hge
    obtain rfl : i = 32 := by omega
    rw [show (32 : Int).toNat = 32 from rfl, wfrom_end _ (Nat.le_refl _), List.append_nil] at hq
    exact ⟨⟨trivial, trivial⟩, hq cap (Nat.zero_le _)⟩
theorem pofL_core0 (i : Int) (y : W) (Q : Exit × List Av × RSpec.Y spOf × RSpec.G spOf → Prop) (h : (outOf (i, ()) (y, ()) none).wp Q) : (tr_pofL0 ((i, ()), (y, ()))).wp fun r => match r with
      | .again x' y' g' => (32 - x'.1).toNat < (32 - i).toNat ∧ (outOf x' y' g').wp Q
      | .out e avs y' g' => Q (e, avs, y', g') := by
  unfold tr_pofL0
  unfold outOf at h ⊢
  simp only [T.wp] at h ⊢
  dsimp only [El, vts, spOf] at h ⊢
  obtain ⟨h0, hq⟩ := h
  subst h0
  rw [wfrom_step y.2.1 (show 0 < 32 by omega)] at hq
  refine ⟨fun _ => ?_, fun hge => by simp at hge⟩
  rw [IntWalk.i64_in ((0 : Int) + 1) (by omega)]
  simp only [List.length_cons, List.length_nil, Go.maxLen] at hq ⊢
  exact ⟨⟨by omega, by omega⟩, by omega, ⟨by omega, by omega⟩, fun k hk => ⟨⟨trivial, trivial⟩, by omega, ⟨by omega, by omega, by omega⟩, hq⟩⟩
theorem pofL_ok : LoopOk Tryz.prog 0 (bodyOf Tryz.f43 0) (spOf.run outOf) :=
  loopR_ok (E := E23) (L := fun _ => none) mixed 0 (loops_none _ _ _) spOf (Nat.zero_le _) outOf (fun x _ _ => (32 - x.1).toNat) (by
    rintro ⟨i, ⟨⟩⟩ ⟨y, ⟨⟩⟩ g Q h
    match g, h with
    | some (xs, cap), h =>
      rw [tr_pofL_eq ((i, ()), (y, ()), (xs, cap))]
      exact pofL_core i y xs cap Q h
    | none, h =>
      rw [tr_pofL0_eq ((i, ()), (y, ()))]
      exact pofL_core0 i y Q h)
noncomputable def lpOf : Loops := oneL 3 (spOf.run outOf)
noncomputable def E23f : Env Tryz.prog := E23.fz [(6, [3])]
end Go.Proofs.YtokgbcachcmeaaaGreatDoor
/-
The reference: of, its run.
-/
set_option linter.unusedSimpArgs false
set_option linter.unusedVariables false
namespace Go.Proofs.YtokgbcachcmeaaaGreatDoor
open Go.RowKit Ax
noncomputable def tr_pof (x : Els [(true, cW)]) : T Av :=
 .need (True) (.need ((0 : Int) = (0 : El (Cd.int .i64))) (.up ((0 : Nat)) (fun v0 =>
    .need (List.length (wfrom x.1.2.1 (0 : Nat)) ≤ List.length (wfrom x.1.2.1 (0 : Nat))) (.need (lenOk (List.length (List.take (List.length (wfrom x.1.2.1 (0 : Nat))) (wfrom x.1.2.1 (0 : Nat))))) (.ret (.one (.ds (Cd.int .u32) (trimmed (List.take (List.length (wfrom x.1.2.1 (0 : Nat))) (wfrom x.1.2.1 (0 : Nat)))))))))))
theorem tr_pof_eq (x : Els [(true, cW)]) : fnP E23f lpOf Tryz.f43 (encs [(true, cW)] x) = tr_pof x := by kernel_rfl
noncomputable def con_pof : Con Tryz.prog := ⟨43, [], _, cf_pof, tot_con (E := E23f) (L := lpOf) mixed Tryz.func43 (one_loop pofL_ok (by kernel_rfl)) [(true, cW)] (fun x => .one (.ds (.int .u32) (mg x.1.2.1))) fun x => by
  rw [tr_pof_eq]
  obtain ⟨⟨b, a⟩, u⟩ := x
  revert b a
  intro (b : Bool) (a : Amt)
  unfold tr_pof
  simp only [T.wp]
  try dsimp only [El]
  have hl : (wfrom a.1 0).length = 32 := by unfold wfrom; simp
  have ht : List.take (wfrom a.1 0).length (wfrom a.1 0) = wfrom a.1 0 := List.take_length
  refine ⟨trivial, trivial, fun k _ => ⟨Nat.le_refl _, by rw [ht, hl]; unfold lenOk; omega, ?_⟩⟩
  rw [ht, trimmed_mg (words_wfrom _ _), val_wfrom a.2]⟩
noncomputable def E25 : Env Tryz.prog := E23.add [con_pof]
end Go.Proofs.YtokgbcachcmeaaaGreatDoor
/-
The reference: what the loops of add, sub, cmp, bits, shl, divmod, gcd, tiny, common carry.
-/
set_option linter.unusedSimpArgs false
set_option linter.unusedVariables false
namespace Go.Proofs.YtokgbcachcmeaaaGreatDoor
open Go.RowKit Ax
theorem cf_psub (xs : Array Value) (w : World) : (callFunc 94 xs).run Tryz.prog w = .ok (.enter 94 xs) w := by kernel_rfl
theorem cf_pcmp (xs : Array Value) (w : World) : (callFunc 93 xs).run Tryz.prog w = .ok (.enter 93 xs) w := by kernel_rfl
theorem cf_pbits (xs : Array Value) (w : World) : (callFunc 69 xs).run Tryz.prog w = .ok (.enter 69 xs) w := by kernel_rfl
theorem cf_pshl (xs : Array Value) (w : World) : (callFunc 92 xs).run Tryz.prog w = .ok (.enter 92 xs) w := by kernel_rfl
theorem cf_pdivmod (xs : Array Value) (w : World) : (callFunc 71 xs).run Tryz.prog w = .ok (.enter 71 xs) w := by kernel_rfl
theorem cf_pgcd (xs : Array Value) (w : World) : (callFunc 70 xs).run Tryz.prog w = .ok (.enter 70 xs) w := by kernel_rfl
abbrev cM : Cd := .sl (.int .u32)
abbrev spSub : RSpec := ⟨44, [(0, false, cM), (1, false, cM), (6, false, .int .i64), (7, false, .int .i64)], [], [], fun _ => [], 5, 23, .int .u32, false, fun _ => 5⟩
abbrev spCmp : LSpec := ⟨41, [(0, false, cM), (1, false, cM), (5, false, .int .i64)], [], [], fun e => match e with | .ret => [4] | _ => []⟩
abbrev spBits : LSpec := ⟨25, [(3, false, .int .i64), (4, false, .int .u32)], [], [], fun e => match e with | .exit _ => [3] | _ => []⟩
abbrev spShl : RSpec := ⟨61, [(0, false, cM), (1, false, .int .i64), (6, false, .int .i64)], [], [], fun _ => [], 5, 23, .int .u32, true, fun _ => 5⟩
abbrev spDiv : RSpec := ⟨56, [(1, false, cM), (8, false, cM), (9, false, .int .i64)], [], [], fun e => match e with | .exit _ => [8] | _ => [], 7, 23, .int .u32, true, fun _ => 7⟩
abbrev spGcd : LSpec := ⟨23, [(5, false, cM), (6, false, cM)], [], [], fun e => match e with | .exit _ => [5] | _ => []⟩
end Go.Proofs.YtokgbcachcmeaaaGreatDoor
/-
Plain laws: rows of words that are multiplied, divided by ten.
-/
set_option linter.unusedSimpArgs false
set_option linter.unusedVariables false
namespace Go.Proofs.YtokgbcachcmeaaaGreatDoor
open Go.RowKit Ax
theorem w_u64 {z : Int} (h : 0 ≤ z ∧ z < 18446744073709551616) : IntKind.u64.wrap z = z := IntWalk.u64_in _ (by omega)
theorem val_set {row : List Int} {p : Nat} {v old : Int} (hw : Words row) (hv : 0 ≤ v) (h : row[p]? = some old) : (valL (row.set p v) : Int) = valL row + Pq.bp p * (v - old) := by
  induction row generalizing p with
  | nil => simp at h
  | cons x r ih =>
    have hx := hw x (by simp)
    cases p with
    | zero =>
      simp only [List.getElem?_cons_zero, Option.some.injEq] at h
      subst h
      rw [List.set_cons_zero, valL, valL, Pq.bp_zero]
      omega
    | succ p =>
      rw [List.set_cons_succ, valL, valL, Pq.bp_succ]
      have := ih (fun y hy => hw y (by simp [hy])) (by simpa using h)
      have e1 : ((Pq.bp p * 4294967296 : Nat) : Int) * (v - old) = 4294967296 * ((Pq.bp p : Nat) * (v - old)) := by
        rw [Int.natCast_mul, Int.mul_comm ((Pq.bp p : Nat) : Int) ((4294967296 : Nat) : Int), Int.mul_assoc]; rfl
      rw [e1]
      generalize ((Pq.bp p : Nat) : Int) * (v - old) = q at *
      omega
theorem words_set {row : List Int} {p : Nat} {v : Int} (hw : Words row) (h0 : 0 ≤ v) (h1 : v < 4294967296) : Words (row.set p v) := fun x hx => by
  rcases List.mem_or_eq_of_mem_set hx with h | rfl
  · exact hw x h
  · exact ⟨h0, h1⟩
theorem words_zero (n : Nat) : Words (List.replicate n 0) := fun v hv => by rw [List.eq_of_mem_replicate hv]; omega
theorem val_zero (n : Nat) : valL (List.replicate n 0) = 0 := by
  induction n with
  | zero => rfl
  | succ n ih => rw [List.replicate_succ, valL, ih]; rfl
end Go.Proofs.YtokgbcachcmeaaaGreatDoor
/-
The reference: loops that call nothing.
-/
set_option linter.unusedSimpArgs false
set_option linter.unusedVariables false
namespace Go.Proofs.YtokgbcachcmeaaaGreatDoor
open Go.RowKit Ax
noncomputable def tr_psubL (x : RSpec.X spSub × RSpec.Y spSub × (List (El (RSpec.c spSub)) × Nat)) : T (RRd spSub) :=
 .ite (decide (x.1.2.2.2.1 < (↑(List.length x.1.1) : Int)))
  (.get x.1.1 x.1.2.2.2.1 (fun v0 =>
   .ite (decide (x.1.2.2.2.1 < (↑(List.length x.1.2.1) : Int)))
    (.get x.1.2.1 x.1.2.2.2.1 (fun v1 =>
     .ite (decide (IntKind.wrap .i64 (IntKind.wrap .i64 (IntKind.wrap .i64 v0 - x.1.2.2.1) - IntKind.wrap .i64 v1) < (0 : Int)))
      (.need (List.length x.2.2.1 = List.length x.2.2.1 ∧ x.2.2.2 = x.2.2.2 ∧ (List.length x.2.2.1 + List.length [IntKind.wrap .u32 (IntKind.wrap .i64 (IntKind.wrap .i64 (IntKind.wrap .i64 (IntKind.wrap .i64 v0 - x.1.2.2.1) - IntKind.wrap .i64 v1) + (4294967296 : Int)))]) * (nat_lit 3 + (1 : Nat)) ≤ (140737488355328 : Nat) ∧ List.length x.2.2.1 + List.length [IntKind.wrap .u32 (IntKind.wrap .i64 (IntKind.wrap .i64 (IntKind.wrap .i64 (IntKind.wrap .i64 v0 - x.1.2.2.1) - IntKind.wrap .i64 v1) + (4294967296 : Int)))] ≤ Go.maxLen) (.and
        (.need (List.length x.2.2.1 + List.length [IntKind.wrap .u32 (IntKind.wrap .i64 (IntKind.wrap .i64 (IntKind.wrap .i64 (IntKind.wrap .i64 v0 - x.1.2.2.1) - IntKind.wrap .i64 v1) + (4294967296 : Int)))] = List.length (x.2.2.1 ++ [IntKind.wrap .u32 (IntKind.wrap .i64 (IntKind.wrap .i64 (IntKind.wrap .i64 (IntKind.wrap .i64 v0 - x.1.2.2.1) - IntKind.wrap .i64 v1) + (4294967296 : Int)))]) ∧ x.2.2.2 = x.2.2.2) (.ret (.again (x.1.1, (x.1.2.1, ((1 : Int), (IntKind.wrap .i64 (x.1.2.2.2.1 + (1 : Int)), ())))) () (some ((x.2.2.1 ++ [IntKind.wrap .u32 (IntKind.wrap .i64 (IntKind.wrap .i64 (IntKind.wrap .i64 (IntKind.wrap .i64 v0 - x.1.2.2.1) - IntKind.wrap .i64 v1) + (4294967296 : Int)))], x.2.2.2))))))
        (.up (List.length x.2.2.1 + List.length [IntKind.wrap .u32 (IntKind.wrap .i64 (IntKind.wrap .i64 (IntKind.wrap .i64 (IntKind.wrap .i64 v0 - x.1.2.2.1) - IntKind.wrap .i64 v1) + (4294967296 : Int)))]) (fun v2 =>
         .need (List.length x.2.2.1 + List.length [IntKind.wrap .u32 (IntKind.wrap .i64 (IntKind.wrap .i64 (IntKind.wrap .i64 (IntKind.wrap .i64 v0 - x.1.2.2.1) - IntKind.wrap .i64 v1) + (4294967296 : Int)))] = List.length (x.2.2.1 ++ [IntKind.wrap .u32 (IntKind.wrap .i64 (IntKind.wrap .i64 (IntKind.wrap .i64 (IntKind.wrap .i64 v0 - x.1.2.2.1) - IntKind.wrap .i64 v1) + (4294967296 : Int)))]) ∧ v2 = v2) (.ret (.again (x.1.1, (x.1.2.1, ((1 : Int), (IntKind.wrap .i64 (x.1.2.2.2.1 + (1 : Int)), ())))) () (some ((x.2.2.1 ++ [IntKind.wrap .u32 (IntKind.wrap .i64 (IntKind.wrap .i64 (IntKind.wrap .i64 (IntKind.wrap .i64 v0 - x.1.2.2.1) - IntKind.wrap .i64 v1) + (4294967296 : Int)))], v2)))))))))
      (.need (List.length x.2.2.1 = List.length x.2.2.1 ∧ x.2.2.2 = x.2.2.2 ∧ (List.length x.2.2.1 + List.length [IntKind.wrap .u32 (IntKind.wrap .i64 (IntKind.wrap .i64 (IntKind.wrap .i64 v0 - x.1.2.2.1) - IntKind.wrap .i64 v1))]) * (nat_lit 3 + (1 : Nat)) ≤ (140737488355328 : Nat) ∧ List.length x.2.2.1 + List.length [IntKind.wrap .u32 (IntKind.wrap .i64 (IntKind.wrap .i64 (IntKind.wrap .i64 v0 - x.1.2.2.1) - IntKind.wrap .i64 v1))] ≤ Go.maxLen) (.and
        (.need (List.length x.2.2.1 + List.length [IntKind.wrap .u32 (IntKind.wrap .i64 (IntKind.wrap .i64 (IntKind.wrap .i64 v0 - x.1.2.2.1) - IntKind.wrap .i64 v1))] = List.length (x.2.2.1 ++ [IntKind.wrap .u32 (IntKind.wrap .i64 (IntKind.wrap .i64 (IntKind.wrap .i64 v0 - x.1.2.2.1) - IntKind.wrap .i64 v1))]) ∧ x.2.2.2 = x.2.2.2) (.ret (.again (x.1.1, (x.1.2.1, ((0 : Int), (IntKind.wrap .i64 (x.1.2.2.2.1 + (1 : Int)), ())))) () (some ((x.2.2.1 ++ [IntKind.wrap .u32 (IntKind.wrap .i64 (IntKind.wrap .i64 (IntKind.wrap .i64 v0 - x.1.2.2.1) - IntKind.wrap .i64 v1))], x.2.2.2))))))
        (.up (List.length x.2.2.1 + List.length [IntKind.wrap .u32 (IntKind.wrap .i64 (IntKind.wrap .i64 (IntKind.wrap .i64 v0 - x.1.2.2.1) - IntKind.wrap .i64 v1))]) (fun v2 =>
         .need (List.length x.2.2.1 + List.length [IntKind.wrap .u32 (IntKind.wrap .i64 (IntKind.wrap .i64 (IntKind.wrap .i64 v0 - x.1.2.2.1) - IntKind.wrap .i64 v1))] = List.length (x.2.2.1 ++ [IntKind.wrap .u32 (IntKind.wrap .i64 (IntKind.wrap .i64 (IntKind.wrap .i64 v0 - x.1.2.2.1) - IntKind.wrap .i64 v1))]) ∧ v2 = v2) (.ret (.again (x.1.1, (x.1.2.1, ((0 : Int), (IntKind.wrap .i64 (x.1.2.2.2.1 + (1 : Int)), ())))) () (some ((x.2.2.1 ++ [IntKind.wrap .u32 (IntKind.wrap .i64 (IntKind.wrap .i64 (IntKind.wrap .i64 v0 - x.1.2.2.1) - IntKind.wrap .i64 v1))], v2)))))))))))
    (.ite (decide (IntKind.wrap .i64 (IntKind.wrap .i64 v0 - x.1.2.2.1) < (0 : Int)))
     (.need (List.length x.2.2.1 = List.length x.2.2.1 ∧ x.2.2.2 = x.2.2.2 ∧ (List.length x.2.2.1 + List.length [IntKind.wrap .u32 (IntKind.wrap .i64 (IntKind.wrap .i64 (IntKind.wrap .i64 v0 - x.1.2.2.1) + (4294967296 : Int)))]) * (nat_lit 3 + (1 : Nat)) ≤ (140737488355328 : Nat) ∧ List.length x.2.2.1 + List.length [IntKind.wrap .u32 (IntKind.wrap .i64 (IntKind.wrap .i64 (IntKind.wrap .i64 v0 - x.1.2.2.1) + (4294967296 : Int)))] ≤ Go.maxLen) (.and
       (.need (List.length x.2.2.1 + List.length [IntKind.wrap .u32 (IntKind.wrap .i64 (IntKind.wrap .i64 (IntKind.wrap .i64 v0 - x.1.2.2.1) + (4294967296 : Int)))] = List.length (x.2.2.1 ++ [IntKind.wrap .u32 (IntKind.wrap .i64 (IntKind.wrap .i64 (IntKind.wrap .i64 v0 - x.1.2.2.1) + (4294967296 : Int)))]) ∧ x.2.2.2 = x.2.2.2) (.ret (.again (x.1.1, (x.1.2.1, ((1 : Int), (IntKind.wrap .i64 (x.1.2.2.2.1 + (1 : Int)), ())))) () (some ((x.2.2.1 ++ [IntKind.wrap .u32 (IntKind.wrap .i64 (IntKind.wrap .i64 (IntKind.wrap .i64 v0 - x.1.2.2.1) + (4294967296 : Int)))], x.2.2.2))))))
       (.up (List.length x.2.2.1 + List.length [IntKind.wrap .u32 (IntKind.wrap .i64 (IntKind.wrap .i64 (IntKind.wrap .i64 v0 - x.1.2.2.1) + (4294967296 : Int)))]) (fun v1 =>
        .need (List.length x.2.2.1 + List.length [IntKind.wrap .u32 (IntKind.wrap .i64 (IntKind.wrap .i64 (IntKind.wrap .i64 v0 - x.1.2.2.1) + (4294967296 : Int)))] = List.length (x.2.2.1 ++ [IntKind.wrap .u32 (IntKind.wrap .i64 (IntKind.wrap .i64 (IntKind.wrap .i64 v0 - x.1.2.2.1) + (4294967296 : Int)))]) ∧ v1 = v1) (.ret (.again (x.1.1, (x.1.2.1, ((1 : Int), (IntKind.wrap .i64 (x.1.2.2.2.1 + (1 : Int)), ())))) () (some ((x.2.2.1 ++ [IntKind.wrap .u32 (IntKind.wrap .i64 (IntKind.wrap .i64 (IntKind.wrap .i64 v0 - x.1.2.2.1) + (4294967296 : Int)))], v1)))))))))
     (.need (List.length x.2.2.1 = List.length x.2.2.1 ∧ x.2.2.2 = x.2.2.2 ∧ (List.length x.2.2.1 + List.length [IntKind.wrap .u32 (IntKind.wrap .i64 (IntKind.wrap .i64 v0 - x.1.2.2.1))]) * (nat_lit 3 + (1 : Nat)) ≤ (140737488355328 : Nat) ∧ List.length x.2.2.1 + List.length [IntKind.wrap .u32 (IntKind.wrap .i64 (IntKind.wrap .i64 v0 - x.1.2.2.1))] ≤ Go.maxLen) (.and
       (.need (List.length x.2.2.1 + List.length [IntKind.wrap .u32 (IntKind.wrap .i64 (IntKind.wrap .i64 v0 - x.1.2.2.1))] = List.length (x.2.2.1 ++ [IntKind.wrap .u32 (IntKind.wrap .i64 (IntKind.wrap .i64 v0 - x.1.2.2.1))]) ∧ x.2.2.2 = x.2.2.2) (.ret (.again (x.1.1, (x.1.2.1, ((0 : Int), (IntKind.wrap .i64 (x.1.2.2.2.1 + (1 : Int)), ())))) () (some ((x.2.2.1 ++ [IntKind.wrap .u32 (IntKind.wrap .i64 (IntKind.wrap .i64 v0 - x.1.2.2.1))], x.2.2.2))))))
       (.up (List.length x.2.2.1 + List.length [IntKind.wrap .u32 (IntKind.wrap .i64 (IntKind.wrap .i64 v0 - x.1.2.2.1))]) (fun v1 =>
        .need (List.length x.2.2.1 + List.length [IntKind.wrap .u32 (IntKind.wrap .i64 (IntKind.wrap .i64 v0 - x.1.2.2.1))] = List.length (x.2.2.1 ++ [IntKind.wrap .u32 (IntKind.wrap .i64 (IntKind.wrap .i64 v0 - x.1.2.2.1))]) ∧ v1 = v1) (.ret (.again (x.1.1, (x.1.2.1, ((0 : Int), (IntKind.wrap .i64 (x.1.2.2.2.1 + (1 : Int)), ())))) () (some ((x.2.2.1 ++ [IntKind.wrap .u32 (IntKind.wrap .i64 (IntKind.wrap .i64 v0 - x.1.2.2.1))], v1))))))))))))
  (.need (List.length x.2.2.1 = List.length x.2.2.1 ∧ x.2.2.2 = x.2.2.2) (.ret (.out (Go.Exit.exit (0 : Nat)) [] () (some x.2.2))))
theorem tr_psubL_eq (x : RSpec.X spSub × RSpec.Y spSub × (List (El (RSpec.c spSub)) × Nat)) : RSpec.round spSub E25 (fun _ => none) (bodyOf Tryz.f94 0) x.1 x.2.1 (some x.2.2) = tr_psubL x := by kernel_rfl
noncomputable def tr_psubL0 (x : RSpec.X spSub × RSpec.Y spSub) : T (RRd spSub) :=
 .ite (decide (x.1.2.2.2.1 < (↑(List.length x.1.1) : Int)))
  (.get x.1.1 x.1.2.2.2.1 (fun v0 =>
   .ite (decide (x.1.2.2.2.1 < (↑(List.length x.1.2.1) : Int)))
    (.get x.1.2.1 x.1.2.2.2.1 (fun v1 =>
     .ite (decide (IntKind.wrap .i64 (IntKind.wrap .i64 (IntKind.wrap .i64 v0 - x.1.2.2.1) - IntKind.wrap .i64 v1) < (0 : Int)))
      (.need (List.length [IntKind.wrap .u32 (IntKind.wrap .i64 (IntKind.wrap .i64 (IntKind.wrap .i64 (IntKind.wrap .i64 v0 - x.1.2.2.1) - IntKind.wrap .i64 v1) + (4294967296 : Int)))] * (nat_lit 3 + (1 : Nat)) ≤ (140737488355328 : Nat) ∧ List.length [IntKind.wrap .u32 (IntKind.wrap .i64 (IntKind.wrap .i64 (IntKind.wrap .i64 (IntKind.wrap .i64 v0 - x.1.2.2.1) - IntKind.wrap .i64 v1) + (4294967296 : Int)))] ≤ Go.maxLen) (.up (List.length [IntKind.wrap .u32 (IntKind.wrap .i64 (IntKind.wrap .i64 (IntKind.wrap .i64 (IntKind.wrap .i64 v0 - x.1.2.2.1) - IntKind.wrap .i64 v1) + (4294967296 : Int)))]) (fun v2 =>
        .need (List.length [IntKind.wrap .u32 (IntKind.wrap .i64 (IntKind.wrap .i64 (IntKind.wrap .i64 (IntKind.wrap .i64 v0 - x.1.2.2.1) - IntKind.wrap .i64 v1) + (4294967296 : Int)))] = List.length [IntKind.wrap .u32 (IntKind.wrap .i64 (IntKind.wrap .i64 (IntKind.wrap .i64 (IntKind.wrap .i64 v0 - x.1.2.2.1) - IntKind.wrap .i64 v1) + (4294967296 : Int)))] ∧ v2 = v2) (.ret (.again (x.1.1, (x.1.2.1, ((1 : Int), (IntKind.wrap .i64 (x.1.2.2.2.1 + (1 : Int)), ())))) () (some (([IntKind.wrap .u32 (IntKind.wrap .i64 (IntKind.wrap .i64 (IntKind.wrap .i64 (IntKind.wrap .i64 v0 - x.1.2.2.1) - IntKind.wrap .i64 v1) + (4294967296 : Int)))], v2))))))))
      (.need (List.length [IntKind.wrap .u32 (IntKind.wrap .i64 (IntKind.wrap .i64 (IntKind.wrap .i64 v0 - x.1.2.2.1) - IntKind.wrap .i64 v1))] * (nat_lit 3 + (1 : Nat)) ≤ (140737488355328 : Nat) ∧ List.length [IntKind.wrap .u32 (IntKind.wrap .i64 (IntKind.wrap .i64 (IntKind.wrap .i64 v0 - x.1.2.2.1) - IntKind.wrap .i64 v1))] ≤ Go.maxLen) (.up (List.length [IntKind.wrap .u32 (IntKind.wrap .i64 (IntKind.wrap .i64 (IntKind.wrap .i64 v0 - x.1.2.2.1) - IntKind.wrap .i64 v1))]) (fun v2 =>
        .need (List.length [IntKind.wrap .u32 (IntKind.wrap .i64 (IntKind.wrap .i64 (IntKind.wrap .i64 v0 - x.1.2.2.1) - IntKind.wrap .i64 v1))] = List.length [IntKind.wrap .u32 (IntKind.wrap .i64 (IntKind.wrap .i64 (IntKind.wrap .i64 v0 - x.1.2.2.1) - IntKind.wrap .i64 v1))] ∧ v2 = v2) (.ret (.again (x.1.1, (x.1.2.1, ((0 : Int), (IntKind.wrap .i64 (x.1.2.2.2.1 + (1 : Int)), ())))) () (some (([IntKind.wrap .u32 (IntKind.wrap .i64 (IntKind.wrap .i64 (IntKind.wrap .i64 v0 - x.1.2.2.1) - IntKind.wrap .i64 v1))], v2))))))))))
    (.ite (decide (IntKind.wrap .i64 (IntKind.wrap .i64 v0 - x.1.2.2.1) < (0 : Int)))
     (.need (List.length [IntKind.wrap .u32 (IntKind.wrap .i64 (IntKind.wrap .i64 (IntKind.wrap .i64 v0 - x.1.2.2.1) + (4294967296 : Int)))] * (nat_lit 3 + (1 : Nat)) ≤ (140737488355328 : Nat) ∧ List.length [IntKind.wrap .u32 (IntKind.wrap .i64 (IntKind.wrap .i64 (IntKind.wrap .i64 v0 - x.1.2.2.1) + (4294967296 : Int)))] ≤ Go.maxLen) (.up (List.length [IntKind.wrap .u32 (IntKind.wrap .i64 (IntKind.wrap .i64 (IntKind.wrap .i64 v0 - x.1.2.2.1) + (4294967296 : Int)))]) (fun v1 =>
       .need (List.length [IntKind.wrap .u32 (IntKind.wrap .i64 (IntKind.wrap .i64 (IntKind.wrap .i64 v0 - x.1.2.2.1) + (4294967296 : Int)))] = List.length [IntKind.wrap .u32 (IntKind.wrap .i64 (IntKind.wrap .i64 (IntKind.wrap .i64 v0 - x.1.2.2.1) + (4294967296 : Int)))] ∧ v1 = v1) (.ret (.again (x.1.1, (x.1.2.1, ((1 : Int), (IntKind.wrap .i64 (x.1.2.2.2.1 + (1 : Int)), ())))) () (some (([IntKind.wrap .u32 (IntKind.wrap .i64 (IntKind.wrap .i64 (IntKind.wrap .i64 v0 - x.1.2.2.1) + (4294967296 : Int)))], v1))))))))
     (.need (List.length [IntKind.wrap .u32 (IntKind.wrap .i64 (IntKind.wrap .i64 v0 - x.1.2.2.1))] * (nat_lit 3 + (1 : Nat)) ≤ (140737488355328 : Nat) ∧ List.length [IntKind.wrap .u32 (IntKind.wrap .i64 (IntKind.wrap .i64 v0 - x.1.2.2.1))] ≤ Go.maxLen) (.up (List.length [IntKind.wrap .u32 (IntKind.wrap .i64 (IntKind.wrap .i64 v0 - x.1.2.2.1))]) (fun v1 =>
       .need (List.length [IntKind.wrap .u32 (IntKind.wrap .i64 (IntKind.wrap .i64 v0 - x.1.2.2.1))] = List.length [IntKind.wrap .u32 (IntKind.wrap .i64 (IntKind.wrap .i64 v0 - x.1.2.2.1))] ∧ v1 = v1) (.ret (.again (x.1.1, (x.1.2.1, ((0 : Int), (IntKind.wrap .i64 (x.1.2.2.2.1 + (1 : Int)), ())))) () (some (([IntKind.wrap .u32 (IntKind.wrap .i64 (IntKind.wrap .i64 v0 - x.1.2.2.1))], v1)))))))))))
  (.need (True) (.ret (.out (Go.Exit.exit (0 : Nat)) [] () none)))
theorem tr_psubL0_eq (x : RSpec.X spSub × RSpec.Y spSub) : RSpec.round spSub E25 (fun _ => none) (bodyOf Tryz.f94 0) x.1 x.2 none = tr_psubL0 x := by kernel_rfl
noncomputable def tr_pcmpL (x : LSpec.X spCmp × LSpec.Y spCmp) : T (Rd spCmp) :=
 .ite (decide (x.1.2.2.1 ≥ (0 : Int)))
  (.get x.1.1 x.1.2.2.1 (fun v0 =>
   .get x.1.2.1 x.1.2.2.1 (fun v1 =>
    .ite (decide (v0 < v1))
     (.ret (.out (Go.Exit.ret) [(.one (.v (.int .i64 ((-1 : Int)))))] ()))
     (.get x.1.1 x.1.2.2.1 (fun v2 =>
      .get x.1.2.1 x.1.2.2.1 (fun v3 =>
       .ite (decide (v2 > v3))
        (.ret (.out (Go.Exit.ret) [(.one (.v (.int .i64 ((1 : Int)))))] ()))
        (.ret (.again (x.1.1, (x.1.2.1, (IntKind.wrap .i64 (x.1.2.2.1 - (1 : Int)), ()))) ()))))))))
  (.ret (.out (Go.Exit.exit (0 : Nat)) [] ()))
theorem tr_pcmpL_eq (x : LSpec.X spCmp × LSpec.Y spCmp) : LSpec.round spCmp E25 (fun _ => none) (bodyOf Tryz.f93 0) x.1 x.2 = tr_pcmpL x := by kernel_rfl
noncomputable def tr_pbitsL (x : LSpec.X spBits × LSpec.Y spBits) : T (Rd spBits) :=
 .ite (decide (x.1.2.1 > (0 : Int)))
  (.ret (.again (IntKind.wrap .i64 (x.1.1 + (1 : Int)), (Int.fdiv x.1.2.1 ((2 : Int) ^ Min.min (Int.toNat (1 : Int)) (IntKind.bits .u32)), ())) ()))
  (.ret (.out (Go.Exit.exit (0 : Nat)) [(.one (.v (.int .i64 x.1.1)))] ()))
theorem tr_pbitsL_eq (x : LSpec.X spBits × LSpec.Y spBits) : LSpec.round spBits E25 (fun _ => none) (bodyOf Tryz.f69 0) x.1 x.2 = tr_pbitsL x := by kernel_rfl
noncomputable def tr_pshlL (x : RSpec.X spShl × RSpec.Y spShl × (List (El (RSpec.c spShl)) × Nat)) : T (RRd spShl) :=
 .ite (decide (x.1.2.2.1 < (↑(List.length x.1.1) : Int)))
  (.get x.1.1 x.1.2.2.1 (fun v0 =>
   .need ((32 : Int) ≠ (0 : Int)) (.need ((0 : Int) ≤ IntKind.wrap .u64 (Int.tmod x.1.2.1 (32 : Int))) (.need ((32 : Int) ≠ (0 : Int)) (.need ((32 : Int) ≠ (0 : Int)) (.need ((0 : Int) ≤ IntKind.wrap .i64 (x.1.2.2.1 + IntKind.wrap .i64 (Int.tdiv x.1.2.1 (32 : Int))) ∧ IntKind.wrap .i64 (x.1.2.2.1 + IntKind.wrap .i64 (Int.tdiv x.1.2.1 (32 : Int))) < (↑(List.length x.2.2.1) : Int)) (.get x.2.2.1 (IntKind.wrap .i64 (x.1.2.2.1 + IntKind.wrap .i64 (Int.tdiv x.1.2.1 (32 : Int)))) (fun v1 =>
         .need ((0 : Int) ≤ IntKind.wrap .i64 (x.1.2.2.1 + IntKind.wrap .i64 (Int.tdiv x.1.2.1 (32 : Int))) ∧ IntKind.wrap .i64 (x.1.2.2.1 + IntKind.wrap .i64 (Int.tdiv x.1.2.1 (32 : Int))) < (↑(List.length x.2.2.1) : Int)) (.need (IntKind.wrap .i64 (x.1.2.2.1 + IntKind.wrap .i64 (Int.tdiv x.1.2.1 (32 : Int))) < (↑(List.length x.2.2.1) : Int)) (.need ((32 : Int) ≠ (0 : Int)) (.need ((0 : Int) ≤ IntKind.wrap .i64 (IntKind.wrap .i64 (x.1.2.2.1 + IntKind.wrap .i64 (Int.tdiv x.1.2.1 (32 : Int))) + (1 : Int)) ∧ IntKind.wrap .i64 (IntKind.wrap .i64 (x.1.2.2.1 + IntKind.wrap .i64 (Int.tdiv x.1.2.1 (32 : Int))) + (1 : Int)) < (↑(List.length x.2.2.1) : Int)) (.need (IntKind.wrap .i64 (IntKind.wrap .i64 (x.1.2.2.1 + IntKind.wrap .i64 (Int.tdiv x.1.2.1 (32 : Int))) + (1 : Int)) < (↑(List.length (List.set x.2.2.1 (Int.toNat (IntKind.wrap .i64 (x.1.2.2.1 + IntKind.wrap .i64 (Int.tdiv x.1.2.1 (32 : Int))))) (IntKind.wrap .u32 (↑(BitVec.toNat (BitVec.ofInt (IntKind.bits .u32) v1 ||| BitVec.ofInt (IntKind.bits .u32) (IntKind.wrap .u32 (IntKind.wrap .u64 (IntKind.wrap .u64 v0 * (2 : Int) ^ Min.min (Int.toNat (IntKind.wrap .u64 (Int.tmod x.1.2.1 (32 : Int)))) (IntKind.bits .u64)))))) : Int)))) : Int)) (.need (List.length x.2.2.1 = List.length (List.set (List.set x.2.2.1 (Int.toNat (IntKind.wrap .i64 (x.1.2.2.1 + IntKind.wrap .i64 (Int.tdiv x.1.2.1 (32 : Int))))) (IntKind.wrap .u32 (↑(BitVec.toNat (BitVec.ofInt (IntKind.bits .u32) v1 ||| BitVec.ofInt (IntKind.bits .u32) (IntKind.wrap .u32 (IntKind.wrap .u64 (IntKind.wrap .u64 v0 * (2 : Int) ^ Min.min (Int.toNat (IntKind.wrap .u64 (Int.tmod x.1.2.1 (32 : Int)))) (IntKind.bits .u64)))))) : Int))) (Int.toNat (IntKind.wrap .i64 (IntKind.wrap .i64 (x.1.2.2.1 + IntKind.wrap .i64 (Int.tdiv x.1.2.1 (32 : Int))) + (1 : Int)))) (IntKind.wrap .u32 (Int.fdiv (IntKind.wrap .u64 (IntKind.wrap .u64 v0 * (2 : Int) ^ Min.min (Int.toNat (IntKind.wrap .u64 (Int.tmod x.1.2.1 (32 : Int)))) (IntKind.bits .u64))) ((2 : Int) ^ Min.min (Int.toNat (32 : Int)) (IntKind.bits .u64))))) ∧ x.2.2.2 = x.2.2.2) (.ret (.again (x.1.1, (x.1.2.1, (IntKind.wrap .i64 (x.1.2.2.1 + (1 : Int)), ()))) () (some ((List.set (List.set x.2.2.1 (Int.toNat (IntKind.wrap .i64 (x.1.2.2.1 + IntKind.wrap .i64 (Int.tdiv x.1.2.1 (32 : Int))))) (IntKind.wrap .u32 (↑(BitVec.toNat (BitVec.ofInt (IntKind.bits .u32) v1 ||| BitVec.ofInt (IntKind.bits .u32) (IntKind.wrap .u32 (IntKind.wrap .u64 (IntKind.wrap .u64 v0 * (2 : Int) ^ Min.min (Int.toNat (IntKind.wrap .u64 (Int.tmod x.1.2.1 (32 : Int)))) (IntKind.bits .u64)))))) : Int))) (Int.toNat (IntKind.wrap .i64 (IntKind.wrap .i64 (x.1.2.2.1 + IntKind.wrap .i64 (Int.tdiv x.1.2.1 (32 : Int))) + (1 : Int)))) (IntKind.wrap .u32 (Int.fdiv (IntKind.wrap .u64 (IntKind.wrap .u64 v0 * (2 : Int) ^ Min.min (Int.toNat (IntKind.wrap .u64 (Int.tmod x.1.2.1 (32 : Int)))) (IntKind.bits .u64))) ((2 : Int) ^ Min.min (Int.toNat (32 : Int)) (IntKind.bits .u64)))), x.2.2.2))))))))))))))))))
  (.need (List.length x.2.2.1 = List.length x.2.2.1 ∧ x.2.2.2 = x.2.2.2) (.ret (.out (Go.Exit.exit (0 : Nat)) [] () (some x.2.2))))
theorem tr_pshlL_eq (x : RSpec.X spShl × RSpec.Y spShl × (List (El (RSpec.c spShl)) × Nat)) : RSpec.round spShl E25 (fun _ => none) (bodyOf Tryz.f92 0) x.1 x.2.1 (some x.2.2) = tr_pshlL x := by kernel_rfl
end Go.Proofs.YtokgbcachcmeaaaGreatDoor
/-
Plain laws: sums, differences, comparing, bits, shifts of rows of words.
-/
set_option linter.unusedSimpArgs false
set_option linter.unusedVariables false
namespace Go.Proofs.YtokgbcachcmeaaaGreatDoor
open Go.RowKit Ax
theorem words_nil : Words [] := fun v hv => by cases hv
theorem val_nil : valL [] = 0 := rfl
theorem cons_val {v : Int} (h : 0 ≤ v) (r : List Int) : (valL (v :: r) : Int) = v + 4294967296 * valL r := by rw [valL]; omega
theorem cons_words {v : Int} {r : List Int} (h : 0 ≤ v ∧ v < 4294967296) (hr : Words r) : Words (v :: r) := fun x hx => by
  rcases List.mem_cons.1 hx with rfl | hx
  · exact h
  · exact hr x hx
theorem tail_words {v : Int} {r : List Int} (h : Words (v :: r)) : Words r := fun x hx => h x (by simp [hx])
def sbD (d : Int) : Int := if d < 0 then d + 4294967296 else d
def sbC (d : Int) : Int := if d < 0 then 1 else 0
def sbW : List Int → List Int → Int → List Int
  | [], _, _ => []
  | x :: a, [], c => sbD (x - c) :: sbW a [] (sbC (x - c))
  | x :: a, y :: b, c => sbD (x - c - y) :: sbW a b (sbC (x - c - y))
theorem sbD_c (d : Int) : sbD d = d + 4294967296 * sbC d := by unfold sbD sbC; split <;> omega
theorem sbC_01 (d : Int) : sbC d = 0 ∨ sbC d = 1 := by unfold sbC; split <;> simp
theorem sbW_spec : ∀ (a b : List Int) (c : Int), Words a → Words b → (c = 0 ∨ c = 1) → b.length ≤ a.length → Words (sbW a b c) ∧ (sbW a b c).length = a.length ∧ ∃ e : Int, (e = 0 ∨ e = 1) ∧ (valL (sbW a b c) : Int) = valL a - valL b - c + Pq.bp a.length * e
  | [], b, c, _, _, hc, hl => by
    have : b = [] := List.length_eq_zero_iff.1 (by simpa using hl)
    subst this
    refine ⟨words_nil, rfl, c, hc, ?_⟩
    rw [List.length_nil, Pq.bp_zero]
    simp [sbW, valL]
    omega
  | x :: a, [], c, ha, hb, hc, hl => by
    have hx := ha x (by simp)
    obtain ⟨i1, i2, e, he, i3⟩ := sbW_spec a [] (sbC (x - c)) (tail_words ha) hb (sbC_01 _) (by simp)
    have h1 := sbD_c (x - c)
    have h2 : 0 ≤ sbD (x - c) ∧ sbD (x - c) < 4294967296 := by unfold sbD; split <;> omega
    rw [sbW]
    refine ⟨cons_words h2 i1, by simp [i2], e, he, ?_⟩
    rw [cons_val h2.1, i3, cons_val hx.1, List.length_cons, Pq.bp_succ]
    have e1 : ((Pq.bp a.length * 4294967296 : Nat) : Int) * e = 4294967296 * ((Pq.bp a.length : Nat) * e) := by rw [Int.natCast_mul, Int.mul_comm ((Pq.bp a.length : Nat) : Int), Int.mul_assoc]; rfl
    rw [e1, h1, val_nil]
    generalize ((Pq.bp a.length : Nat) : Int) * e = q
    omega
  | x :: a, y :: b, c, ha, hb, hc, hl => by
    have hx := ha x (by simp)
    have hy := hb y (by simp)
    obtain ⟨i1, i2, e, he, i3⟩ := sbW_spec a b (sbC (x - c - y)) (tail_words ha) (tail_words hb) (sbC_01 _) (by simpa using hl)
    have h1 := sbD_c (x - c - y)
    have h2 : 0 ≤ sbD (x - c - y) ∧ sbD (x - c - y) < 4294967296 := by unfold sbD; split <;> omega
    rw [sbW]
    refine ⟨cons_words h2 i1, by simp [i2], e, he, ?_⟩
    rw [cons_val h2.1, i3, cons_val hx.1, cons_val hy.1, List.length_cons, Pq.bp_succ]
    have e1 : ((Pq.bp a.length * 4294967296 : Nat) : Int) * e = 4294967296 * ((Pq.bp a.length : Nat) * e) := by rw [Int.natCast_mul, Int.mul_comm ((Pq.bp a.length : Nat) : Int), Int.mul_assoc]; rfl
    rw [e1, h1]
    generalize ((Pq.bp a.length : Nat) : Int) * e = q
    omega
theorem sbW_val {a b : List Int} (ha : Words a) (hb : Words b) (hl : b.length ≤ a.length) (h : valL b ≤ valL a) : valL (sbW a b 0) = valL a - valL b := by
  obtain ⟨h1, h2, e, he, h3⟩ := sbW_spec a b 0 ha hb (.inl rfl) hl
  have hlt := val_words h1
  rw [h2] at hlt
  rcases he with rfl | rfl
  · omega
  · omega
def cmW (a b : List Int) : Nat → Int
  | 0 => 0
  | n + 1 => if a.getD n 0 < b.getD n 0 then -1 else if a.getD n 0 > b.getD n 0 then 1 else cmW a b n
theorem take_val {a : List Int} {n : Nat} (h : n < a.length) : valL (a.take (n + 1)) = valL (a.take n) + Pq.bp n * (a.getD n 0).toNat := by
  have hp : a[n]? = some (a.getD n 0) := by rw [List.getD_eq_getElem?_getD, List.getElem?_eq_getElem h]; rfl
  have hta : a.take (n + 1) = a.take n ++ [a.getD n 0] := by rw [List.take_add_one, hp]; rfl
  have hlt : (a.take n).length = n := by rw [List.length_take]; omega
  rw [hta, val_app, hlt]
  simp [valL]
theorem take_words {a : List Int} (h : Words a) (n : Nat) : Words (a.take n) := fun v hv => h v (List.mem_of_mem_take hv)
theorem cmW_spec {a b : List Int} (ha : Words a) (hb : Words b) : ∀ n, n ≤ a.length → n ≤ b.length → cmW a b n = Pq.cz (valL (a.take n)) (valL (b.take n))
  | 0, _, _ => by simp [cmW, valL, Pq.cz]
  | n + 1, h1, h2 => by
    have va := val_words (take_words ha n)
    have vb := val_words (take_words hb n)
    rw [List.length_take, Nat.min_eq_left (by omega)] at va vb
    have wa := ha (a.getD n 0) (by rw [List.getD_eq_getElem?_getD, List.getElem?_eq_getElem (by omega : n < a.length)]; exact List.getElem_mem _)
    have wb := hb (b.getD n 0) (by rw [List.getD_eq_getElem?_getD, List.getElem?_eq_getElem (by omega : n < b.length)]; exact List.getElem_mem _)
    rw [cmW, cmW_spec ha hb n (by omega) (by omega), take_val (by omega : n < a.length), take_val (by omega : n < b.length)]
    generalize valL (a.take n) = x at *
    generalize valL (b.take n) = y at *
    generalize a.getD n 0 = u at *
    generalize b.getD n 0 = v at *
    generalize Pq.bp n = p at *
    have key : ∀ s t : Nat, s + 1 ≤ t → p * s + p ≤ p * t := fun s t h => by rw [← Nat.mul_succ]; exact Nat.mul_le_mul_left _ h
    unfold Pq.cz
    by_cases h3 : u < v
    · have := key u.toNat v.toNat (by omega)
      rw [if_pos h3, if_pos (by omega)]
    · by_cases h4 : v < u
      · have := key v.toNat u.toNat (by omega)
        rw [if_neg h3, if_pos h4, if_neg (by omega), if_pos (by omega)]
      · obtain rfl : u = v := by omega
        rw [if_neg h3, if_neg h4]
        by_cases h5 : (x : Int) < y
        · rw [if_pos h5, if_pos (by omega)]
        · by_cases h6 : (y : Int) < x
          · rw [if_neg h5, if_pos h6, if_neg (by omega), if_pos (by omega)]
          · rw [if_neg h5, if_neg h6, if_neg (by omega), if_neg (by omega)]
theorem bitn_half {x : Nat} (h : x ≠ 0) : Pq.bitn x = Pq.bitn (x / 2) + 1 := by
  by_cases h1 : x = 1
  · subst h1; rfl
  · unfold Pq.bitn
    rw [if_neg h, if_neg (by omega), Nat.log2_def, if_pos (by omega)]
theorem bitn_add {s lo w : Nat} (hl : lo < 2 ^ s) (hw : w ≠ 0) : Pq.bitn (lo + 2 ^ s * w) = s + Pq.bitn w := by
  obtain ⟨t, ht⟩ : ∃ t, Pq.bitn w = t + 1 := ⟨Pq.bitn w - 1, by have := Pq.bitn_eq0 (x := w); omega⟩
  have h1 : w < 2 ^ (t + 1) := Pq.bitn_le.1 (by omega)
  have h2 : 2 ^ t ≤ w := Nat.not_lt.1 fun h => by have := Pq.bitn_le.2 h; omega
  rw [ht, ← Nat.add_assoc]
  refine Pq.bitn_of ?_ ?_
  · rw [Nat.pow_add]
    exact Nat.le_trans (Nat.mul_le_mul_left _ h2) (Nat.le_add_left _ _)
  · have h3 : 2 ^ s * w + 2 ^ s ≤ 2 ^ s * 2 ^ (t + 1) := by rw [← Nat.mul_succ]; exact Nat.mul_le_mul_left _ h1
    rw [Nat.add_assoc s t 1, Nat.pow_add]
    omega
theorem bp_pow (k : Nat) : Pq.bp k = 2 ^ (32 * k) := by unfold Pq.bp; rw [Nat.pow_mul]
def rw' (L Q : Nat) : List Int := (List.range L).map fun j => ((Pq.wd Q j : Nat) : Int)
theorem rw_len (L Q : Nat) : (rw' L Q).length = L := by simp [rw']
theorem rw_words (L Q : Nat) : Words (rw' L Q) := fun v hv => by
  obtain ⟨j, _, rfl⟩ := List.mem_map.1 hv
  have := Pq.wd_lt Q j
  omega
theorem rw_val {L Q : Nat} (h : Q < Pq.bp L) : valL (rw' L Q) = Q := by unfold rw'; rw [val_range]; exact Nat.mod_eq_of_lt h
theorem rw_get {L Q i : Nat} (h : i < L) : (rw' L Q)[i]? = some ((Pq.wd Q i : Nat) : Int) := by simp [rw', h]
theorem words_inj : ∀ {l k : List Int}, Words l → Words k → l.length = k.length → valL l = valL k → l = k
  | [], [], _, _, _, _ => rfl
  | [], _ :: _, _, _, h, _ => by simp at h
  | _ :: _, [], _, _, h, _ => by simp at h
  | x :: l, y :: k, hl, hk, h, hv => by
    have hx := hl x (by simp)
    have hy := hk y (by simp)
    rw [valL, valL] at hv
    have e1 : valL l = valL k := by omega
    have e2 : x = y := by omega
    rw [e2, words_inj (tail_words hl) (tail_words hk) (by simpa using h) e1]
theorem rw_of {l : List Int} {L Q : Nat} (h : Words l) (hl : l.length = L) (hv : valL l = Q) : l = rw' L Q := by
  have hq : Q < Pq.bp L := by rw [← hv, ← hl]; exact val_words h
  exact words_inj h (rw_words _ _) (by rw [hl, rw_len]) (by rw [hv, rw_val hq])
theorem rw_zero (L : Nat) : List.replicate L 0 = rw' L 0 := rw_of (words_zero L) (by simp) (val_zero L)
theorem rw_set {L Q i : Nat} {v : Int} (hq : Q < Pq.bp L) (hi : i < L) (h0 : 0 ≤ v) (h1 : v < 4294967296) {Q' : Nat} (e : (Q' : Int) = Q + Pq.bp i * (v - (Pq.wd Q i : Nat))) : (rw' L Q).set i v = rw' L Q' := by
  refine rw_of (words_set (rw_words _ _) h0 h1) (by rw [List.length_set, rw_len]) ?_
  have := val_set (rw_words L Q) h0 (rw_get hi)
  rw [rw_val hq] at this
  omega
end Go.Proofs.YtokgbcachcmeaaaGreatDoor
/-
The reference: add's loop, sub's loop.
-/
set_option linter.unusedSimpArgs false
set_option linter.unusedVariables false
namespace Go.Proofs.YtokgbcachcmeaaaGreatDoor
open Go.RowKit Ax
theorem w_32 (z : Int) : IntKind.u32.wrap z = z % 4294967296 := by rw [IntKind.wrap_u32]
theorem p32_64 (z : Int) : Int.fdiv z ((2 : Int) ^ min (Int.toNat 32) (IntKind.bits .u64)) = z / 4294967296 := by
  have p32 : (2 : Int) ^ min (Int.toNat 32) (IntKind.bits .u64) = 4294967296 := by decide
  rw [p32]
  exact Int.fdiv_eq_ediv_of_nonneg _ (by decide)
theorem row_cases {l : List Int} {i : Int} (h : 0 ≤ i) (hw : Words l) : (i < (l.length : Int) ∧ ∃ u, l[i.toNat]? = some u ∧ l.drop i.toNat = u :: l.drop (i + 1).toNat ∧ 0 ≤ u ∧ u < 4294967296) ∨ (¬ i < (l.length : Int) ∧ l.drop i.toNat = [] ∧ l.drop (i + 1).toNat = []) := by
  by_cases hl : i < (l.length : Int)
  · obtain ⟨u, hu⟩ := elem_at h hl
    exact .inl ⟨hl, u, hu, drop_at h hu, hw u (List.mem_of_getElem? hu)⟩
  · exact .inr ⟨hl, drop_end (by omega), drop_end (by omega)⟩
end Go.Proofs.YtokgbcachcmeaaaGreatDoor
/-
The reference: sub's loop.
-/
set_option linter.unusedSimpArgs false
set_option linter.unusedVariables false
namespace Go.Proofs.YtokgbcachcmeaaaGreatDoor
open Go.RowKit Ax
def outSub (x : RSpec.X spSub) (y : RSpec.Y spSub) (g : RSpec.G spSub) : T (Exit × List Av × RSpec.Y spSub × RSpec.G spSub) :=
  .need (0 ≤ x.2.2.2.1 ∧ x.2.2.2.1 ≤ (List.length x.1 : Int) ∧ List.length x.1 ≤ 1000000 ∧ List.length x.2.1 ≤ 1000000 ∧ Words x.1 ∧ Words x.2.1 ∧ (x.2.2.1 = 0 ∨ x.2.2.1 = 1))
    (match g with
    | none => .need (x.2.2.2.1 = 0) (.ite (decide (sbW ((x.1 : List Int).drop x.2.2.2.1.toNat) ((x.2.1 : List Int).drop x.2.2.2.1.toNat) x.2.2.1 = [])) (.ret (.exit 0, [], y, none)) (.up 0 fun k => .ret (.exit 0, [], y, some (sbW ((x.1 : List Int).drop x.2.2.2.1.toNat) ((x.2.1 : List Int).drop x.2.2.2.1.toNat) x.2.2.1, k))))
    | some r => .need ((r.1.length : Int) = x.2.2.2.1) (.up 0 fun k => .ret (.exit 0, [], y, some ((r.1 : List Int) ++ sbW ((x.1 : List Int).drop x.2.2.2.1.toNat) ((x.2.1 : List Int).drop x.2.2.2.1.toNat) x.2.2.1, k))))
theorem psubL_core (a b : List Int) (c i : Int) (y : RSpec.Y spSub) (xs : List Int) (cap : Nat) (Q : Exit × List Av × RSpec.Y spSub × RSpec.G spSub → Prop) (h : (outSub (a, b, c, i, ()) y (some (xs, cap))).wp Q) : (tr_psubL ((a, b, c, i, ()), y, (xs, cap))).wp fun r => match r with
      | .again x' y' g' => ((List.length x'.1 : Int) - x'.2.2.2.1).toNat < ((a.length : Int) - i).toNat ∧ (outSub x' y' g').wp Q
      | .out e avs y' g' => Q (e, avs, y', g') := by
  unfold tr_psubL
  unfold outSub at h ⊢
  simp only [T.wp] at h ⊢
  dsimp only [El, vts, spSub] at h ⊢
  obtain ⟨⟨i0, i1, la, lb, wa, wb, hc⟩, hl, hq⟩ := h
  have c01 : 0 ≤ c ∧ c ≤ 1 := by omega
  rcases row_cases i0 wa with ⟨ha, u, hu, du, u0, u1⟩ | ⟨ha, du, du'⟩
  · rw [IntWalk.i64_in (i + 1) (by omega)]
    refine ⟨fun _ => ⟨u, i0, hu, ?_⟩, fun h => absurd ha (of_decide_eq_false h)⟩
    rw [IntWalk.i64_in u (by omega), IntWalk.i64_in (u - c) (by omega)]
    rcases row_cases i0 wb with ⟨hb, v, hv, dv, v0, v1⟩ | ⟨hb, dv, dv'⟩
    · refine ⟨fun _ => ⟨v, i0, hv, ?_⟩, fun h => absurd hb (of_decide_eq_false h)⟩
      rw [IntWalk.i64_in v (by omega), IntWalk.i64_in (u - c - v) (by omega)]
      rw [du, dv, sbW] at hq
      refine ⟨fun hd => ?_, fun hd => ?_⟩
      · have hd := of_decide_eq_true hd
        rw [show sbD (u - c - v) = u - c - v + 4294967296 from if_pos hd, show sbC (u - c - v) = 1 from if_pos hd] at hq
        rw [IntWalk.i64_in (u - c - v + 4294967296) (by omega), w_32, show (u - c - v + 4294967296) % 4294967296 = u - c - v + 4294967296 by omega]
        simp only [List.length_append, List.length_cons, List.length_nil, Go.maxLen, List.append_assoc, List.singleton_append, List.cons_append, List.nil_append, true_and, and_true] at hq ⊢
        exact ⟨⟨by omega, by omega⟩, ⟨by omega, ⟨by omega, by omega, la, lb, wa, wb, by simp⟩, by omega, hq⟩, fun k hk => ⟨by omega, ⟨by omega, by omega, la, lb, wa, wb, by simp⟩, by omega, hq⟩⟩
      · have hd := of_decide_eq_false hd
        rw [show sbD (u - c - v) = u - c - v from if_neg hd, show sbC (u - c - v) = 0 from if_neg hd] at hq
        rw [w_32, show (u - c - v) % 4294967296 = u - c - v by omega]
        simp only [List.length_append, List.length_cons, List.length_nil, Go.maxLen, List.append_assoc, List.singleton_append, List.cons_append, List.nil_append, true_and, and_true] at hq ⊢
        exact ⟨⟨by omega, by omega⟩, ⟨by omega, ⟨by omega, by omega, la, lb, wa, wb, by simp⟩, by omega, hq⟩, fun k hk => ⟨by omega, ⟨by omega, by omega, la, lb, wa, wb, by simp⟩, by omega, hq⟩⟩
    · refine ⟨fun h => absurd (of_decide_eq_true h) hb, fun _ => ?_⟩
      rw [du, dv, sbW] at hq
      refine ⟨fun hd => ?_, fun hd => ?_⟩
      · have hd := of_decide_eq_true hd
        rw [show sbD (u - c) = u - c + 4294967296 from if_pos hd, show sbC (u - c) = 1 from if_pos hd] at hq
        rw [IntWalk.i64_in (u - c + 4294967296) (by omega), w_32, show (u - c + 4294967296) % 4294967296 = u - c + 4294967296 by omega, dv']
        simp only [List.length_append, List.length_cons, List.length_nil, Go.maxLen, List.append_assoc, List.singleton_append, List.cons_append, List.nil_append, true_and, and_true] at hq ⊢
        exact ⟨⟨by omega, by omega⟩, ⟨by omega, ⟨by omega, by omega, la, lb, wa, wb, by simp⟩, by omega, hq⟩, fun k hk => ⟨by omega, ⟨by omega, by omega, la, lb, wa, wb, by simp⟩, by omega, hq⟩⟩
      · have hd := of_decide_eq_false hd
        rw [show sbD (u - c) = u - c from if_neg hd, show sbC (u - c) = 0 from if_neg hd] at hq
        rw [w_32, show (u - c) % 4294967296 = u - c by omega, dv']
        simp only [List.length_append, List.length_cons, List.length_nil, Go.maxLen, List.append_assoc, List.singleton_append, List.cons_append, List.nil_append, true_and, and_true] at hq ⊢
        exact ⟨⟨by omega, by omega⟩, ⟨by omega, ⟨by omega, by omega, la, lb, wa, wb, by simp⟩, by omega, hq⟩, fun k hk => ⟨by omega, ⟨by omega, by omega, la, lb, wa, wb, by simp⟩, by omega, hq⟩⟩
  · refine ⟨fun h => absurd (of_decide_eq_true h) ha, fun _ => ⟨⟨trivial, trivial⟩, ?_⟩⟩
    rw [du, sbW, List.append_nil] at hq
    exact hq cap (Nat.zero_le _)
theorem psubL_core0 (a b : List Int) (c i : Int) (y : RSpec.Y spSub) (Q : Exit × List Av × RSpec.Y spSub × RSpec.G spSub → Prop) (h : (outSub (a, b, c, i, ()) y none).wp Q) : (tr_psubL0 ((a, b, c, i, ()), y)).wp fun r => match r with
      | .again x' y' g' => ((List.length x'.1 : Int) - x'.2.2.2.1).toNat < ((a.length : Int) - i).toNat ∧ (outSub x' y' g').wp Q
      | .out e avs y' g' => Q (e, avs, y', g') := by
  unfold tr_psubL0
  unfold outSub at h ⊢
  simp only [T.wp] at h ⊢
  dsimp only [El, vts, spSub] at h ⊢
  obtain ⟨⟨i0, i1, la, lb, wa, wb, hc⟩, hi, hz, hq⟩ := h
  have c01 : 0 ≤ c ∧ c ≤ 1 := by omega
  rcases row_cases i0 wa with ⟨ha, u, hu, du, u0, u1⟩ | ⟨ha, du, du'⟩
  · rw [IntWalk.i64_in (i + 1) (by omega)]
    refine ⟨fun _ => ⟨u, i0, hu, ?_⟩, fun h => absurd ha (of_decide_eq_false h)⟩
    rw [IntWalk.i64_in u (by omega), IntWalk.i64_in (u - c) (by omega)]
    rcases row_cases i0 wb with ⟨hb, v, hv, dv, v0, v1⟩ | ⟨hb, dv, dv'⟩
    · refine ⟨fun _ => ⟨v, i0, hv, ?_⟩, fun h => absurd hb (of_decide_eq_false h)⟩
      rw [IntWalk.i64_in v (by omega), IntWalk.i64_in (u - c - v) (by omega)]
      rw [du, dv, sbW] at hq
      refine ⟨fun hd => ?_, fun hd => ?_⟩
      · have hd := of_decide_eq_true hd
        rw [show sbD (u - c - v) = u - c - v + 4294967296 from if_pos hd, show sbC (u - c - v) = 1 from if_pos hd] at hq
        rw [IntWalk.i64_in (u - c - v + 4294967296) (by omega), w_32, show (u - c - v + 4294967296) % 4294967296 = u - c - v + 4294967296 by omega]
        simp only [List.length_append, List.length_cons, List.length_nil, Go.maxLen, List.append_assoc, List.singleton_append, List.cons_append, List.nil_append, true_and, and_true, reduceCtorEq, decide_false, forall_const] at hq ⊢
        exact ⟨⟨by omega, by omega⟩, fun k hk => ⟨by omega, ⟨by omega, by omega, la, lb, wa, wb, by simp⟩, by omega, hq⟩⟩
      · have hd := of_decide_eq_false hd
        rw [show sbD (u - c - v) = u - c - v from if_neg hd, show sbC (u - c - v) = 0 from if_neg hd] at hq
        rw [w_32, show (u - c - v) % 4294967296 = u - c - v by omega]
        simp only [List.length_append, List.length_cons, List.length_nil, Go.maxLen, List.append_assoc, List.singleton_append, List.cons_append, List.nil_append, true_and, and_true, reduceCtorEq, decide_false, forall_const] at hq ⊢
        exact ⟨⟨by omega, by omega⟩, fun k hk => ⟨by omega, ⟨by omega, by omega, la, lb, wa, wb, by simp⟩, by omega, hq⟩⟩
    · refine ⟨fun h => absurd (of_decide_eq_true h) hb, fun _ => ?_⟩
      rw [du, dv, sbW] at hq
      refine ⟨fun hd => ?_, fun hd => ?_⟩
      · have hd := of_decide_eq_true hd
        rw [show sbD (u - c) = u - c + 4294967296 from if_pos hd, show sbC (u - c) = 1 from if_pos hd] at hq
        rw [IntWalk.i64_in (u - c + 4294967296) (by omega), w_32, show (u - c + 4294967296) % 4294967296 = u - c + 4294967296 by omega, dv']
        simp only [List.length_append, List.length_cons, List.length_nil, Go.maxLen, List.append_assoc, List.singleton_append, List.cons_append, List.nil_append, true_and, and_true, reduceCtorEq, decide_false, forall_const] at hq ⊢
        exact ⟨⟨by omega, by omega⟩, fun k hk => ⟨by omega, ⟨by omega, by omega, la, lb, wa, wb, by simp⟩, by omega, hq⟩⟩
      · have hd := of_decide_eq_false hd
        rw [show sbD (u - c) = u - c from if_neg hd, show sbC (u - c) = 0 from if_neg hd] at hq
        rw [w_32, show (u - c) % 4294967296 = u - c by omega, dv']
        simp only [List.length_append, List.length_cons, List.length_nil, Go.maxLen, List.append_assoc, List.singleton_append, List.cons_append, List.nil_append, true_and, and_true, reduceCtorEq, decide_false, forall_const] at hq ⊢
        exact ⟨⟨by omega, by omega⟩, fun k hk => ⟨by omega, ⟨by omega, by omega, la, lb, wa, wb, by simp⟩, by omega, hq⟩⟩
  · refine ⟨fun h => absurd (of_decide_eq_true h) ha, fun _ => ?_⟩
    rw [du, sbW] at hz
    exact ⟨trivial, hz rfl⟩
theorem psubL_ok : LoopOk Tryz.prog 0 (bodyOf Tryz.f94 0) (spSub.run outSub) :=
  loopR_ok (E := E25) (L := fun _ => none) mixed 0 (loops_none _ _ _) spSub (Nat.zero_le _) outSub (fun x _ _ => ((List.length x.1 : Int) - x.2.2.2.1).toNat) (by
    rintro ⟨a, b, c, i, ⟨⟩⟩ y g Q h
    match g, h with
    | some (xs, cap), h =>
      rw [tr_psubL_eq ((a, b, c, i, ()), y, (xs, cap))]
      exact psubL_core a b c i y xs cap Q h
    | none, h =>
      rw [tr_psubL0_eq ((a, b, c, i, ()), y)]
      exact psubL_core0 a b c i y Q h)
noncomputable def lpSub : Loops := manyL [(4, spSub.run outSub)]
end Go.Proofs.YtokgbcachcmeaaaGreatDoor
/-
The reference: the loops of cmp, bits, common, tiny.
-/
set_option linter.unusedSimpArgs false
set_option linter.unusedVariables false
namespace Go.Proofs.YtokgbcachcmeaaaGreatDoor
open Go.RowKit Ax
def outCmp (x : LSpec.X spCmp) (y : LSpec.Y spCmp) : T (Exit × List Av × LSpec.Y spCmp) :=
  .need (-1 ≤ x.2.2.1 ∧ x.2.2.1 < (List.length x.1 : Int) ∧ x.2.2.1 < (List.length x.2.1 : Int) ∧ List.length x.1 ≤ 1000000) (.ite (decide (cmW x.1 x.2.1 (x.2.2.1 + 1).toNat = 0)) (.ret (.exit 0, [], ())) (.ret (.ret, [aI .i64 (cmW x.1 x.2.1 (x.2.2.1 + 1).toNat)], ())))
theorem pcmpL_core (a b : List Int) (i : Int) (Q : Exit × List Av × LSpec.Y spCmp → Prop) (h : (outCmp (a, b, i, ()) ()).wp Q) : (tr_pcmpL ((a, b, i, ()), ())).wp fun r => match r with
      | .again x' y' => (x'.2.2.1 + 1).toNat < (i + 1).toNat ∧ (outCmp x' y').wp Q
      | .out e avs y' => Q (e, avs, y') := by
  unfold tr_pcmpL
  unfold outCmp at h ⊢
  simp only [T.wp] at h ⊢
  dsimp only [El, vts, spCmp] at h ⊢
  obtain ⟨⟨i0, i1, i2, la⟩, hz, hq⟩ := h
  refine ⟨fun hge => ?_, fun hlt => ?_⟩
  · have hge := of_decide_eq_true hge
    obtain ⟨u, hu⟩ := elem_at (l := a) (i := i) hge i1
    obtain ⟨v, hv⟩ := elem_at (l := b) (i := i) hge i2
    have eu : a.getD i.toNat 0 = u := by rw [List.getD_eq_getElem?_getD, hu]; rfl
    have ev : b.getD i.toNat 0 = v := by rw [List.getD_eq_getElem?_getD, hv]; rfl
    rw [show (i + 1).toNat = i.toNat + 1 by omega, cmW, eu, ev] at hz hq
    refine ⟨u, hge, hu, v, hge, hv, fun hd => ?_, fun hd => ⟨u, hge, hu, v, hge, hv, fun hd2 => ?_, fun hd2 => ?_⟩⟩
    · have hd := of_decide_eq_true hd
      rw [if_pos hd] at hq
      exact hq rfl
    · have hd := of_decide_eq_false hd
      have hd2 := of_decide_eq_true hd2
      rw [if_neg hd, if_pos hd2] at hq
      exact hq rfl
    · have hd := of_decide_eq_false hd
      have hd2 := of_decide_eq_false hd2
      rw [if_neg hd, if_neg hd2] at hz hq
      rw [IntWalk.i64_in (i - 1) (by omega), show (i - 1 + 1).toNat = i.toNat by omega]
      exact ⟨by omega, ⟨by omega, by omega, by omega, la⟩, hz, hq⟩
  · have hlt := of_decide_eq_false hlt
    rw [show (i + 1).toNat = 0 by omega] at hz
    exact hz rfl
theorem pcmpL_ok : LoopOk Tryz.prog 0 (bodyOf Tryz.f93 0) (spCmp.run outCmp) :=
  loop_ok (E := E25) (L := fun _ => none) mixed 0 (loops_none _ _ _) spCmp (Nat.zero_le _) outCmp (fun x _ => (x.2.2.1 + 1).toNat) (by
    rintro ⟨a, b, i, ⟨⟩⟩ ⟨⟩ Q h
    rw [tr_pcmpL_eq ((a, b, i, ()), ())]
    exact pcmpL_core a b i Q h)
noncomputable def lpCmp : Loops := oneL 6 (spCmp.run outCmp)
def outBits (x : LSpec.X spBits) (y : LSpec.Y spBits) : T (Exit × List Av × LSpec.Y spBits) :=
  .need (0 ≤ x.1 ∧ x.1 + Pq.bitn x.2.1.toNat ≤ 1000000000 ∧ 0 ≤ x.2.1) (.ret (.exit 0, [aI .i64 (x.1 + Pq.bitn x.2.1.toNat)], ()))
theorem pbitsL_core (n x : Int) (Q : Exit × List Av × LSpec.Y spBits → Prop) (h : (outBits (n, x, ()) ()).wp Q) : (tr_pbitsL ((n, x, ()), ())).wp fun r => match r with
      | .again x' y' => x'.2.1.toNat < x.toNat ∧ (outBits x' y').wp Q
      | .out e avs y' => Q (e, avs, y') := by
  unfold tr_pbitsL
  unfold outBits at h ⊢
  simp only [T.wp] at h ⊢
  dsimp only [El, vts, spBits] at h ⊢
  obtain ⟨⟨n0, n1, x0⟩, hq⟩ := h
  refine ⟨fun hgt => ?_, fun hle => ?_⟩
  · have hgt := of_decide_eq_true hgt
    have p1 : (2 : Int) ^ min (Int.toNat 1) (IntKind.bits .u32) = 2 := by decide
    rw [bitn_half (show x.toNat ≠ 0 by omega)] at n1 hq
    rw [p1, Int.fdiv_eq_ediv_of_nonneg _ (by decide), IntWalk.i64_in (n + 1) (by omega), show (x / 2).toNat = x.toNat / 2 by omega]
    rw [show n + ((Pq.bitn (x.toNat / 2) + 1 : Nat) : Int) = n + 1 + Pq.bitn (x.toNat / 2) by omega] at hq
    exact ⟨by omega, ⟨by omega, by omega, by omega⟩, hq⟩
  · have hle := of_decide_eq_false hle
    have h0 : x = 0 := by omega
    subst h0
    rw [show n + ((Pq.bitn (Int.toNat 0) : Nat) : Int) = n by rw [show Pq.bitn (Int.toNat 0) = 0 from rfl]; omega] at hq
    exact hq
theorem pbitsL_ok : LoopOk Tryz.prog 0 (bodyOf Tryz.f69 0) (spBits.run outBits) :=
  loop_ok (E := E25) (L := fun _ => none) mixed 0 (loops_none _ _ _) spBits (Nat.zero_le _) outBits (fun x _ => x.2.1.toNat) (by
    rintro ⟨n, x, ⟨⟩⟩ ⟨⟩ Q h
    rw [tr_pbitsL_eq ((n, x, ()), ())]
    exact pbitsL_core n x Q h)
noncomputable def lpBits : Loops := oneL 5 (spBits.run outBits)
theorem wd_top {n m : Nat} (h : n < Pq.bp (m + 1)) : Pq.wd n m = 0 ↔ n < Pq.bp m := by
  rw [Pq.bp_succ, Nat.mul_comm] at h
  have hp := Pq.bp_pos m
  have h1 : n / Pq.bp m < 4294967296 := (Nat.div_lt_iff_lt_mul hp).2 h
  unfold Pq.wd
  rw [Nat.mod_eq_of_lt h1, Nat.div_eq_zero_iff]
  constructor
  · rintro (h | h)
    · omega
    · exact h
  · exact fun h => .inr h
end Go.Proofs.YtokgbcachcmeaaaGreatDoor
/-
The reference: shl's loop.
-/
set_option linter.unusedSimpArgs false
set_option linter.unusedVariables false
namespace Go.Proofs.YtokgbcachcmeaaaGreatDoor
open Go.RowKit Ax
theorem shl_lt {V i k s : Nat} (hV : V < Pq.bp i) (hs : s < 32) : V * 2 ^ s * Pq.bp k / Pq.bp (i + k) < 2 ^ s ∧ V * 2 ^ s * Pq.bp k < Pq.bp (i + k + 1) := by
  have h2 : 2 ^ s ≤ 4294967296 := by
    rw [show 4294967296 = 2 ^ 32 from rfl]; exact Nat.pow_le_pow_right (by decide) (by omega)
  have h1 : V * 2 ^ s < Pq.bp i * 2 ^ s := Nat.mul_lt_mul_of_pos_right hV (Nat.two_pow_pos s)
  refine ⟨?_, ?_⟩
  · rw [Pq.bp_add, Nat.mul_div_mul_right _ _ (Pq.bp_pos k)]
    rw [Nat.div_lt_iff_lt_mul (Pq.bp_pos i), Nat.mul_comm (2 ^ s)]
    exact h1
  · rw [Pq.bp_succ, Pq.bp_add, Nat.mul_right_comm (Pq.bp i)]
    refine Nat.mul_lt_mul_of_pos_right ?_ (Pq.bp_pos k)
    exact Nat.lt_of_lt_of_le h1 (Nat.mul_le_mul_left _ h2)
theorem or_low {t m s : Nat} (hs : s < 32) (ht : t < 2 ^ s) (hm : m < 4294967296) (hd : 2 ^ s ∣ m) : ((BitVec.ofInt (IntKind.bits .u32) (t : Int) ||| BitVec.ofInt (IntKind.bits .u32) (m : Int)).toNat = t + m) ∧ t + m < 4294967296 := by
  have h2 : 2 ^ s ≤ 4294967296 := by
    rw [show 4294967296 = 2 ^ 32 from rfl]; exact Nat.pow_le_pow_right (by decide) (by omega)
  obtain ⟨q, rfl⟩ := hd
  have hp : 4294967296 = 2 ^ s * 2 ^ (32 - s) := by rw [← Nat.pow_add, show s + (32 - s) = 32 by omega]
  have hsum : t + 2 ^ s * q < 4294967296 := by
    have hq : q < 2 ^ (32 - s) := by
      rw [hp] at hm
      exact Nat.lt_of_mul_lt_mul_left hm
    have : 2 ^ s * q + 2 ^ s ≤ 2 ^ s * 2 ^ (32 - s) := by rw [← Nat.mul_succ]; exact Nat.mul_le_mul_left _ hq
    rw [hp]
    omega
  have e1 : (BitVec.ofInt (IntKind.bits .u32) (t : Int)).toNat = t := by
    rw [BitVec.toNat_ofInt]
    show ((t : Int) % 4294967296).toNat = _
    omega
  have e2 : (BitVec.ofInt (IntKind.bits .u32) ((2 ^ s * q : Nat) : Int)).toNat = 2 ^ s * q := by
    rw [BitVec.toNat_ofInt]
    show (((2 ^ s * q : Nat) : Int) % 4294967296).toNat = _
    generalize 2 ^ s * q = z at *
    omega
  refine ⟨?_, hsum⟩
  rw [BitVec.toNat_or, e1, e2, Nat.or_comm, ← Nat.two_pow_add_eq_or_of_lt ht q, Nat.add_comm]
theorem shl_low {u s : Nat} (hs : s < 32) : 2 ^ s ∣ u * 2 ^ s % 4294967296 := by
  have hp : 4294967296 = 2 ^ (32 - s) * 2 ^ s := by rw [← Nat.pow_add, show 32 - s + s = 32 by omega]
  rw [hp, Nat.mul_mod_mul_right]
  exact Nat.dvd_mul_left _ _
theorem shl_step {V i k s u L t : Nat} (hV : V < Pq.bp i) (hs : s < 32) (hu : u < 4294967296) (hL : i + k + 1 < L) (ht : Pq.wd (V * 2 ^ s * Pq.bp k) (i + k) = t) :
    t < 2 ^ s ∧ ((rw' L (V * 2 ^ s * Pq.bp k)).set (i + k) ((t + u * 2 ^ s % 4294967296 : Nat) : Int)).set (i + k + 1) ((u * 2 ^ s / 4294967296 : Nat) : Int) = rw' L ((V + Pq.bp i * u) * 2 ^ s * Pq.bp k) := by
  obtain ⟨h1, h2⟩ := shl_lt (k := k) hV hs
  have h3 : 2 ^ s ≤ 4294967296 := by
    rw [show 4294967296 = 2 ^ 32 from rfl]; exact Nat.pow_le_pow_right (by decide) (by omega)
  have et : V * 2 ^ s * Pq.bp k / Pq.bp (i + k) = t := by
    unfold Pq.wd at ht
    rw [Nat.mod_eq_of_lt (by omega)] at ht
    exact ht
  rw [et] at h1
  refine ⟨h1, ?_⟩
  obtain ⟨o1, o2⟩ := or_low hs h1 (Nat.mod_lt (u * 2 ^ s) (by decide)) (shl_low (u := u) hs)
  have hbL : Pq.bp (i + k + 1) ≤ Pq.bp L := Pq.bp_mono (by omega)
  have hx : u * 2 ^ s / 4294967296 < 4294967296 := by
    rw [Nat.div_lt_iff_lt_mul (by decide)]
    exact Nat.mul_lt_mul_of_lt_of_le hu h3 (by decide)
  have edm := Nat.mod_add_div (u * 2 ^ s) 4294967296
  have eQ : (V + Pq.bp i * u) * 2 ^ s * Pq.bp k = V * 2 ^ s * Pq.bp k + Pq.bp (i + k) * (u * 2 ^ s) := by
    rw [Nat.add_mul, Nat.add_mul, Pq.bp_add]
    congr 1
    simp only [Nat.mul_assoc, Nat.mul_comm, Nat.mul_left_comm]
  rw [eQ]
  have hQb : V * 2 ^ s * Pq.bp k < Pq.bp (i + k) * (t + 1) := by
    rw [← et]; exact Nat.lt_mul_div_succ _ (Pq.bp_pos _)
  generalize V * 2 ^ s * Pq.bp k = Q at *
  generalize u * 2 ^ s = x at *
  have hb := Pq.bp_succ (i + k)
  have r1 : (rw' L Q).set (i + k) ((t + x % 4294967296 : Nat) : Int) = rw' L (Q + Pq.bp (i + k) * (x % 4294967296)) := by
    refine rw_set (by omega) (by omega) (by omega) (by omega) ?_
    rw [ht]
    simp only [Int.natCast_add, Int.natCast_mul]
    congr 1
    rw [Int.add_comm, Int.add_sub_cancel]
  have hQ1 : Q + Pq.bp (i + k) * (x % 4294967296) < Pq.bp (i + k + 1) := by
    rw [hb]
    have : Pq.bp (i + k) * (t + 1) + Pq.bp (i + k) * (x % 4294967296) ≤ Pq.bp (i + k) * 4294967296 := by
      rw [← Nat.mul_add]; exact Nat.mul_le_mul_left _ (by omega)
    omega
  rw [r1]
  refine rw_set (by omega) (by omega) (by omega) (by omega) ?_
  rw [Pq.wd_top hQ1 (Nat.le_refl _), hb]
  have e1 : (x : Int) = (x % 4294967296 : Nat) + 4294967296 * (x / 4294967296 : Nat) := by omega
  generalize x % 4294967296 = lo at *
  generalize x / 4294967296 = hi at *
  simp only [Int.natCast_add, Int.natCast_mul, e1, Int.mul_add, Int.sub_zero, Int.ofNat_zero, Int.natCast_zero, Int.mul_assoc]
  rw [Int.add_assoc]
  rfl
def outShl (x : RSpec.X spShl) (y : RSpec.Y spShl) (g : RSpec.G spShl) : T (Exit × List Av × RSpec.Y spShl × RSpec.G spShl) :=
  match g with
  | none => .fail
  | some r => .need (0 ≤ x.2.2.1 ∧ x.2.2.1 ≤ (List.length x.1 : Int) ∧ List.length x.1 ≤ 1000000 ∧ 0 ≤ x.2.1 ∧ x.2.1 ≤ 100000000 ∧ Words x.1 ∧ (r.1 : List Int) = rw' (List.length x.1 + x.2.1.toNat / 32 + 1) (valL ((x.1 : List Int).take x.2.2.1.toNat) * 2 ^ (x.2.1.toNat % 32) * Pq.bp (x.2.1.toNat / 32)))
      (.ret (.exit 0, [], y, some (rw' (List.length x.1 + x.2.1.toNat / 32 + 1) (valL x.1 * 2 ^ (x.2.1.toNat % 32) * Pq.bp (x.2.1.toNat / 32)), r.2)))
theorem pshlL_core (a : List Int) (n i : Int) (y : RSpec.Y spShl) (xs : List Int) (cap : Nat) (Q : Exit × List Av × RSpec.Y spShl × RSpec.G spShl → Prop) (h : (outShl (a, n, i, ()) y (some (xs, cap))).wp Q) : (tr_pshlL ((a, n, i, ()), y, (xs, cap))).wp fun r => match r with
      | .again x' y' g' => ((List.length x'.1 : Int) - x'.2.2.1).toNat < ((a.length : Int) - i).toNat ∧ (outShl x' y' g').wp Q
      | .out e avs y' g' => Q (e, avs, y', g') := by
  unfold tr_pshlL
  unfold outShl at h ⊢
  simp only [T.wp] at h ⊢
  dsimp only [El, vts, spShl] at h ⊢
  obtain ⟨⟨i0, i1, la, n0, n1, wa, hx⟩, hq⟩ := h
  subst hx
  refine ⟨fun hlt => ?_, fun hge => ?_⟩
  · have hlt := of_decide_eq_true hlt
    obtain ⟨u, hu⟩ := elem_at (l := a) (i := i) i0 hlt
    obtain ⟨u0, u1⟩ := wa u (List.mem_of_getElem? hu)
    have eu : a.getD i.toNat 0 = u := by rw [List.getD_eq_getElem?_getD, hu]; rfl
    have hV := val_words (take_words wa i.toNat)
    rw [List.length_take, Nat.min_eq_left (by omega)] at hV
    have et := take_val (a := a) (n := i.toNat) (by omega)
    rw [eu] at et
    obtain ⟨st1, st2⟩ := shl_step (V := valL (a.take i.toNat)) (i := i.toNat) (k := n.toNat / 32) (s := n.toNat % 32) (u := u.toNat) (L := a.length + n.toNat / 32 + 1) hV (by omega) (by omega) (by omega) rfl
    have e1 : IntKind.i64.wrap (i + IntKind.i64.wrap (Int.tdiv n 32)) = i + ((n.toNat / 32 : Nat) : Int) := by
      rw [Int.tdiv_eq_ediv_of_nonneg n0, IntWalk.i64_in (n / 32) (by omega), IntWalk.i64_in _ (by omega)]; omega
    have e2 : IntKind.u64.wrap (Int.tmod n 32) = ((n.toNat % 32 : Nat) : Int) := by
      rw [Int.tmod_eq_emod_of_nonneg n0, w_u64 (by omega)]; omega
    have e3 : min (Int.toNat ((n.toNat % 32 : Nat) : Int)) (IntKind.bits .u64) = n.toNat % 32 := by
      show min (Int.toNat ((n.toNat % 32 : Nat) : Int)) 64 = n.toNat % 32
      omega
    have hs2 : 2 ^ (n.toNat % 32) ≤ 2147483648 := by
      rw [show 2147483648 = 2 ^ 31 from rfl]; exact Nat.pow_le_pow_right (by decide) (by omega)
    have hm : u.toNat * 2 ^ (n.toNat % 32) ≤ 4294967296 * 2147483648 := Nat.mul_le_mul (by omega) hs2
    have e4 : IntKind.u64.wrap (u * 2 ^ (n.toNat % 32)) = ((u.toNat * 2 ^ (n.toNat % 32) : Nat) : Int) := by
      have : u * 2 ^ (n.toNat % 32) = ((u.toNat * 2 ^ (n.toNat % 32) : Nat) : Int) := by
        rw [Int.natCast_mul, Int.toNat_of_nonneg u0, Int.natCast_pow]; rfl
      rw [this, w_u64 (by omega)]
    have e5 : IntKind.i64.wrap (i + ((n.toNat / 32 : Nat) : Int) + 1) = i + ((n.toNat / 32 : Nat) : Int) + 1 := IntWalk.i64_in _ (by omega)
    have e6 : IntKind.i64.wrap (i + 1) = i + 1 := IntWalk.i64_in _ (by omega)
    have e7 : (i + ((n.toNat / 32 : Nat) : Int)).toNat = i.toNat + n.toNat / 32 := by omega
    have e8 : (i + ((n.toNat / 32 : Nat) : Int) + 1).toNat = i.toNat + n.toNat / 32 + 1 := by omega
    obtain ⟨o1, o2⟩ := or_low (m := u.toNat * 2 ^ (n.toNat % 32) % 4294967296) (by omega) st1 (Nat.mod_lt _ (by decide)) (shl_low (by omega))
    have e9 : IntKind.u32.wrap ((u.toNat * 2 ^ (n.toNat % 32) : Nat) : Int) = ((u.toNat * 2 ^ (n.toNat % 32) % 4294967296 : Nat) : Int) := by rw [w_32]; omega
    have e10 : IntKind.u32.wrap (((u.toNat * 2 ^ (n.toNat % 32) : Nat) : Int) / 4294967296) = ((u.toNat * 2 ^ (n.toNat % 32) / 4294967296 : Nat) : Int) := by rw [w_32]; omega
    refine ⟨u, i0, hu, ?_⟩
    simp only [e1, e2, e3, e5, e6, e7, e8, w_u64 (show 0 ≤ u ∧ u < 18446744073709551616 by omega), e4, p32_64, e9, e10, rw_len, List.length_set]
    refine ⟨by decide, by omega, by decide, by decide, ⟨by omega, by omega⟩, _, by omega, rw_get (by omega), ?_⟩
    have e11 : ∀ z : Nat, z < 4294967296 → IntKind.u32.wrap (z : Int) = z := fun z hz => by rw [w_32]; omega
    rw [o1, e11 _ o2, st2]
    refine ⟨⟨by omega, by omega⟩, by omega, by decide, ⟨by omega, by omega⟩, by omega, ⟨trivial, trivial⟩, by omega, ⟨by omega, by omega, la, n0, n1, wa, ?_⟩, hq⟩
    rw [show (i + 1).toNat = i.toNat + 1 by omega, et]
  · have hge := of_decide_eq_false hge
    rw [show i.toNat = a.length by omega, List.take_length]
    exact ⟨⟨trivial, trivial⟩, hq⟩
theorem pshlL_ok : LoopOk Tryz.prog 0 (bodyOf Tryz.f92 0) (spShl.run outShl) :=
  loopR_ok (E := E25) (L := fun _ => none) mixed 0 (loops_none _ _ _) spShl (Nat.zero_le _) outShl (fun x _ _ => ((List.length x.1 : Int) - x.2.2.1).toNat) (by
    rintro ⟨a, n, i, ⟨⟩⟩ y g Q h
    match g, h with
    | some (xs, cap), h =>
      rw [tr_pshlL_eq ((a, n, i, ()), y, (xs, cap))]
      exact pshlL_core a n i y xs cap Q h
    | none, h => exact h.elim)
noncomputable def lpShl : Loops := manyL [(5, spShl.run outShl)]
noncomputable def E25s : Env Tryz.prog := E25.fz [(13, [5])]
noncomputable def E25h : Env Tryz.prog := E25.fz [(10, [5])]
end Go.Proofs.YtokgbcachcmeaaaGreatDoor
