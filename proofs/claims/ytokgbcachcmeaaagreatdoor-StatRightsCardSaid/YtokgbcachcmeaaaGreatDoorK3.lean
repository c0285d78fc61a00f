import Derived.Test.YtokgbcachcmeaaaGreatDoorK2
set_option linter.unusedSimpArgs false
set_option linter.unusedVariables false
namespace Go.Proofs.YtokgbcachcmeaaaGreatDoor
open Go.RowKit
theorem cf_guess (xs : Array Value) (w : World) : (callFunc 107 xs).run Tryz.prog w = .ok (.enter 107 xs) w := by kernel_rfl

set_option maxRecDepth 100000 in
set_option maxHeartbeats 1000000 in
theorem guess_any (b o lu cu c q lv cv : Nat) (u0 u1 u2 v0 v1 : Nat) (w : World) (h0 : u0 < 4294967296) (h1 : u1 < 4294967296) (h2 : u2 ≤ v1) (hv0 : v0 < 4294967296) (hv1 : v1 < 4294967296) (hv : 2147483648 ≤ v1) (hlu : 3 ≤ lu) (hlv : 2 ≤ lv)
    (hu0 : w.cell? ⟨b, o, none⟩ = some (.int .u32 u0)) (hu1 : w.cell? ⟨b, o + 1, none⟩ = some (.int .u32 u1)) (hu2 : w.cell? ⟨b, o + 2, none⟩ = some (.int .u32 u2)) (hc0 : w.cell? ⟨c, q, none⟩ = some (.int .u32 v0)) (hc1 : w.cell? ⟨c, q + 1, none⟩ = some (.int .u32 v1)) :
    Calls Tryz.prog 107 #[.slice (some ⟨b, o, none⟩) lu cu, .slice (some ⟨c, q, none⟩) lv cv] w (Pq.Ret w (.int .u64 (Pq.gw u0 u1 u2 v0 v1 : Nat))) := by
  obtain ⟨r, hr⟩ : ∃ r, r = Pq.gw u0 u1 u2 v0 v1 := ⟨_, rfl⟩
  rw [← hr]
  have HRr := Lib.hid hr; clear hr
  have HU0 := Lib.hid hu0; clear hu0
  have HU1 := Lib.hid hu1; clear hu1
  have HU2 := Lib.hid hu2; clear hu2
  have HC0 := Lib.hid hc0; clear hc0
  have HC1 := Lib.hid hc1; clear hc1
  have hl1 : (2 : Int) < lu := by omega
  have hl2 : (1 : Int) < lu := by omega
  have hl3 : (0 : Int) < lu := by omega
  have hl4 : (1 : Int) < lv := by omega
  have hl5 : (0 : Int) < lv := by omega
  have hi2 : (u2 : Int) < 4294967296 := by omega
  have hl6 : 0 < lv := by omega
  have hl7 : 0 < lu := by omega
  obtain ⟨T, hT⟩ : ∃ T, T = u2 * 4294967296 + u1 := ⟨_, rfl⟩
  have hor : bits .or .u64 ((u2 : Int) * 4294967296) (u1 : Int) = (T : Int) := by rw [hT]; exact Pq.or_hl (by omega) h1
  have hTl : (T : Int) < 18446744073709551616 := by omega
  have st := Pq.GI.start (u0 := u0) h0 h1 hv0 hv1 hv h2
  rw [← hT] at st
  have ST := Lib.hid st; clear st
  have HT := Lib.hid hT; clear hT
  have e1 : (T : Int) / (v1 : Int) = ((T / v1 : Nat) : Int) := by simp
  have e2 : (T : Int) % (v1 : Int) = ((T % v1 : Nat) : Int) := by simp
  obtain ⟨q0, hq0⟩ : ∃ q0, q0 = T / v1 := ⟨_, rfl⟩
  obtain ⟨r0, hr0⟩ : ∃ r0, r0 = T % v1 := ⟨_, rfl⟩
  rw [← hq0] at e1
  rw [← hr0] at e2
  have hq0l : q0 ≤ 4294967297 := by rw [hq0]; exact ST.out.top
  have hr0l : r0 ≤ 4294967295 := by rw [hr0]; exact ST.out.small
  have HQ0 := Lib.hid hq0; clear hq0
  have HR0 := Lib.hid hr0; clear hr0
  have w1 : IntKind.u64.wrap (v1 : Int) = (v1 : Int) := IntWalk.u64_in _ (by omega)
  have w2 : IntKind.u64.wrap (q0 : Int) = (q0 : Int) := IntWalk.u64_in _ (by omega)
  have w3 : IntKind.u64.wrap (r0 : Int) = (r0 : Int) := IntWalk.u64_in _ (by omega)
  have w7 : (T : Int).tmod (v1 : Int) = (T : Int) % (v1 : Int) := Int.tmod_eq_emod_of_nonneg (by omega)
  have w6 : ¬ (v1 = 0) := by omega
  have x1 : IntKind.u64.wrap (u2 : Int) = (u2 : Int) := IntWalk.u64_in _ (by omega)
  have x2 : IntKind.u64.wrap (u1 : Int) = (u1 : Int) := IntWalk.u64_in _ (by omega)
  have x3 : IntKind.u64.wrap ((u2 : Int) * 4294967296) = (u2 : Int) * 4294967296 := IntWalk.u64_in _ (by omega)
  have x4 : IntKind.u64.wrap (v0 : Int) = (v0 : Int) := IntWalk.u64_in _ (by omega)
  have x5 : IntKind.u64.wrap (u0 : Int) = (u0 : Int) := IntWalk.u64_in _ (by omega)
  go_enter Tryz.func107, Tryz.ntmps107
  go_upto_region 1 with fail
  refine Pq.wp_region_grown none [(0, true), (1, true), (2, true), (3, true), (4, true), (5, true), (6, true), (7, true), (8, true), (9, true), (10, true)] (by kernel_rfl) (by kernel_rfl) (fun _ _ d _ _ h => by cases d <;> exact h) (fun hS => ?_)
  simp only [Pq.pick, List.filterMap_cons, List.filterMap_nil, List.getElem?_cons_zero, List.getElem?_cons_succ, Option.map_some]
  iterate 2
    refine Pq.wpO_step (by rfl) ?_
    apply Exists.intro
    refine ⟨fun w' hw' => ?_, ?_⟩
    · go_simp; first | done | with_reducible rfl | exact ⟨rfl, rfl⟩
    simp only [Act.put, List.setIfInBounds_toArray, List.set_cons_zero, List.set_cons_succ]
  refine Pq.wpO_cell ⟨b, o + 2, none⟩ _ HU2.out (by simp) (by rfl) _ _ rfl rfl _ u_u32 rfl ?_
  simp only [Act.put, List.setIfInBounds_toArray, List.set_cons_zero, List.set_cons_succ]
  iterate 4
    refine Pq.wpO_step (by rfl) ?_
    apply Exists.intro
    refine ⟨fun w' hw' => ?_, ?_⟩
    · go_simp; first | done | with_reducible rfl | exact ⟨rfl, rfl⟩
    simp only [Act.put, List.setIfInBounds_toArray, List.set_cons_zero, List.set_cons_succ]
  refine Pq.wpO_cell ⟨b, o + 1, none⟩ _ HU1.out (by simp) (by rfl) _ _ rfl rfl _ u_u32 rfl ?_
  simp only [Act.put, List.setIfInBounds_toArray, List.set_cons_zero, List.set_cons_succ]
  iterate 3
    refine Pq.wpO_step (by rfl) ?_
    apply Exists.intro
    refine ⟨fun w' hw' => ?_, ?_⟩
    · go_simp; first | done | with_reducible rfl | exact ⟨rfl, rfl⟩
    simp only [Act.put, List.setIfInBounds_toArray, List.set_cons_zero, List.set_cons_succ]
  refine Pq.wpO_nil ?_
  go_upto_region 2 with fail
  refine Pq.wp_region_grown none [(0, true), (1, true), (2, true), (3, true), (4, true), (5, true), (6, true), (7, true), (8, true), (9, true), (10, true), (11, true), (12, true), (13, true)] (by kernel_rfl) (by kernel_rfl) (fun _ _ d _ _ h => by cases d <;> exact h) (fun hS => ?_)
  simp only [Pq.pick, List.filterMap_cons, List.filterMap_nil, List.getElem?_cons_zero, List.getElem?_cons_succ, Option.map_some]
  iterate 3
    refine Pq.wpO_step (by rfl) ?_
    apply Exists.intro
    refine ⟨fun w' hw' => ?_, ?_⟩
    · go_simp; first | done | with_reducible rfl | exact ⟨rfl, rfl⟩
    simp only [Act.put, List.setIfInBounds_toArray, List.set_cons_zero, List.set_cons_succ]
  refine Pq.wpO_cell ⟨c, q + 1, none⟩ _ HC1.out (by simp) (by rfl) _ _ rfl rfl _ u_u32 rfl ?_
  simp only [Act.put, List.setIfInBounds_toArray, List.set_cons_zero, List.set_cons_succ]
  iterate 5
    refine Pq.wpO_step (by rfl) ?_
    apply Exists.intro
    refine ⟨fun w' hw' => ?_, ?_⟩
    · go_simp; first | done | with_reducible rfl | exact ⟨rfl, rfl⟩
    simp only [Act.put, List.setIfInBounds_toArray, List.set_cons_zero, List.set_cons_succ]
  refine Pq.wpO_cell ⟨c, q + 1, none⟩ _ HC1.out (by simp) (by rfl) _ _ rfl rfl _ u_u32 rfl ?_
  simp only [Act.put, List.setIfInBounds_toArray, List.set_cons_zero, List.set_cons_succ]
  iterate 4
    refine Pq.wpO_step (by rfl) ?_
    apply Exists.intro
    refine ⟨fun w' hw' => ?_, ?_⟩
    · go_simp; first | done | with_reducible rfl | exact ⟨rfl, rfl⟩
    simp only [Act.put, List.setIfInBounds_toArray, List.set_cons_zero, List.set_cons_succ]
  refine Pq.wpO_nil ?_
  clear hor e1 e2 w2 w3 w7 w6 x1 x2 x3
  go_wp2
  go_loopw [6, 7] (fun qq rr wr => ∃ (qn rn : Nat), qq = .int .u64 (qn : Int) ∧ rr = .int .u64 (rn : Int) ∧ Hid (Pq.GI u0 u1 u2 v0 v1 qn rn) ∧ Hid (Below w.heap.size w wr)) (fun qq _ _ => (intOf qq).toNat)
  case atStart =>
    refine ⟨q0, r0, rfl, rfl, ?_, Lib.hid (Pq.below_drew (Pq.below_drew (Below.refl _ _)))⟩
    rw [HQ0.out, HR0.out]; exact ST
  case round =>
    obtain ⟨qn, rn, rfl, rfl, hg, hbl⟩ := hrel
    clear hS HU1 HU2 HT ST HQ0 HR0 hTl hq0l hr0l
    have C0 := Lib.hid (Pq.cell_in HC0.out hbl.out)
    have C1 := Lib.hid (Pq.cell_in HC1.out hbl.out)
    have CU := Lib.hid (Pq.cell_in HU0.out hbl.out)
    have hrl : rn ≤ 4294967295 := hg.out.small
    have hqt : qn ≤ 4294967297 := hg.out.top
    rcases Nat.lt_or_ge 4294967295 qn with hbig | hbig
    · have hcond : Hid (4294967295 < qn ∨ rn * 4294967296 + u0 < qn * v0) := Lib.hid (.inl hbig)
      have hd1 : decide ((4294967295 : Int) < (qn : Int)) = true := by simp; omega
      go_upto_region 3 with fail
      refine Pq.wp_region_grown none [(0, true), (1, true), (2, true), (3, true), (4, true), (5, true), (6, true), (7, true), (8, true), (9, true), (10, true), (11, true), (12, true), (13, true), (14, true), (15, true), (16, true), (17, true)] (by kernel_rfl) (by kernel_rfl) (fun _ _ d _ _ h => by cases d <;> exact h) (fun hS => ?_)
      simp only [Pq.pick, List.filterMap_cons, List.filterMap_nil, List.getElem?_cons_zero, List.getElem?_cons_succ, Option.map_some]
      iterate 3
        refine Pq.wpO_step (by rfl) ?_
        apply Exists.intro
        refine ⟨fun w' hw' => ?_, ?_⟩
        · go_simp; first | done | with_reducible rfl | exact ⟨rfl, rfl⟩
        simp only [Act.put, List.setIfInBounds_toArray, List.set_cons_zero, List.set_cons_succ]
      refine Pq.wpO_skip (by kernel_rfl) ?_
      simp only [Act.put, List.setIfInBounds_toArray, List.set_cons_zero, List.set_cons_succ]
      refine Pq.wpO_skip (by kernel_rfl) ?_
      simp only [Act.put, List.setIfInBounds_toArray, List.set_cons_zero, List.set_cons_succ]
      refine Pq.wpO_skip (by kernel_rfl) ?_
      simp only [Act.put, List.setIfInBounds_toArray, List.set_cons_zero, List.set_cons_succ]
      refine Pq.wpO_skip (by kernel_rfl) ?_
      simp only [Act.put, List.setIfInBounds_toArray, List.set_cons_zero, List.set_cons_succ]
      refine Pq.wpO_skip (by kernel_rfl) ?_
      simp only [Act.put, List.setIfInBounds_toArray, List.set_cons_zero, List.set_cons_succ]
      refine Pq.wpO_skip (by kernel_rfl) ?_
      simp only [Act.put, List.setIfInBounds_toArray, List.set_cons_zero, List.set_cons_succ]
      refine Pq.wpO_skip (by kernel_rfl) ?_
      simp only [Act.put, List.setIfInBounds_toArray, List.set_cons_zero, List.set_cons_succ]
      refine Pq.wpO_skip (by kernel_rfl) ?_
      simp only [Act.put, List.setIfInBounds_toArray, List.set_cons_zero, List.set_cons_succ]
      refine Pq.wpO_skip (by kernel_rfl) ?_
      simp only [Act.put, List.setIfInBounds_toArray, List.set_cons_zero, List.set_cons_succ]
      refine Pq.wpO_skip (by kernel_rfl) ?_
      simp only [Act.put, List.setIfInBounds_toArray, List.set_cons_zero, List.set_cons_succ]
      refine Pq.wpO_skip (by kernel_rfl) ?_
      simp only [Act.put, List.setIfInBounds_toArray, List.set_cons_zero, List.set_cons_succ]
      refine Pq.wpO_skip (by kernel_rfl) ?_
      simp only [Act.put, List.setIfInBounds_toArray, List.set_cons_zero, List.set_cons_succ]
      refine Pq.wpO_skip (by kernel_rfl) ?_
      simp only [Act.put, List.setIfInBounds_toArray, List.set_cons_zero, List.set_cons_succ]
      refine Pq.wpO_skip (by kernel_rfl) ?_
      simp only [Act.put, List.setIfInBounds_toArray, List.set_cons_zero, List.set_cons_succ]
      refine Pq.wpO_step (by rfl) ?_
      apply Exists.intro
      refine ⟨fun w' hw' => ?_, ?_⟩
      · go_simp; first | done | with_reducible rfl | exact ⟨rfl, rfl⟩
      simp only [Act.put, List.setIfInBounds_toArray, List.set_cons_zero, List.set_cons_succ]
      refine Pq.wpO_nil ?_
      have hqpos : 1 ≤ qn := by have := hg.out.lt hv hcond.out; omega
      have hsub : IntKind.u64.wrap ((qn : Int) - 1) = ((qn - 1 : Nat) : Int) := by rw [show (qn : Int) - 1 = ((qn - 1 : Nat) : Int) from by omega]; exact IntWalk.u64_in _ (by omega)
      obtain ⟨q1, hq1⟩ : ∃ q1, q1 = qn - 1 := ⟨_, rfl⟩
      obtain ⟨r1, hr1⟩ : ∃ r1, r1 = rn + v1 := ⟨_, rfl⟩
      rw [← hq1] at hsub
      have hadd : (rn : Int) + (v1 : Int) = (r1 : Int) := by omega
      have hwr : IntKind.u64.wrap (r1 : Int) = (r1 : Int) := IntWalk.u64_in _ (by omega)
      have hql : q1 < qn := by omega
      have HQ1 := Lib.hid hq1
      have HR1 := Lib.hid hr1
      clear hq1 hr1
      have C1' := Lib.hid (Pq.cell_in C1.out (Pq.grown_below hS))
      rcases Nat.lt_or_ge 4294967295 r1 with hbr | hbr
      · have hstop := hg.out.stop h1 hv0 hv h2 hcond.out (by rw [← HR1.out]; exact hbr)
        rw [← HQ1.out, ← HRr.out] at hstop
        subst hstop
        have hd3 : decide ((4294967295 : Int) < (r1 : Int)) = true := by simp; omega
        go_upto_region 5 with fail
        go_upto_region 5 with fail
        apply wp_region_lit
        iterate 3
          refine Pq.wpL_step (by rfl) ?_
          apply Exists.intro
          apply Exists.intro
          refine ⟨?_, ?_⟩
          · go_simp; first | done | with_reducible rfl | exact ⟨rfl, rfl⟩
          simp only [Act.put, List.setIfInBounds_toArray, List.set_cons_zero, List.set_cons_succ]
        refine Pq.wpL_cell ⟨c, q + 1, none⟩ _ C1'.out (by rfl) _ _ rfl rfl _ u_u32 rfl ?_
        simp only [Act.put, List.setIfInBounds_toArray, List.set_cons_zero, List.set_cons_succ]
        iterate 3
          refine Pq.wpL_step (by rfl) ?_
          apply Exists.intro
          apply Exists.intro
          refine ⟨?_, ?_⟩
          · go_simp; first | done | with_reducible rfl | exact ⟨rfl, rfl⟩
          simp only [Act.put, List.setIfInBounds_toArray, List.set_cons_zero, List.set_cons_succ]
        refine Pq.wpL_nil ?_
        go_upto_region 6 with fail
        apply wp_region_lit
        iterate 2
          refine Pq.wpL_step (by rfl) ?_
          apply Exists.intro
          apply Exists.intro
          refine ⟨?_, ?_⟩
          · go_simp; first | done | with_reducible rfl | exact ⟨rfl, rfl⟩
          simp only [Act.put, List.setIfInBounds_toArray, List.set_cons_zero, List.set_cons_succ]
        refine Pq.wpL_nil ?_
        go_wp2
        go_ret
        exact ⟨rfl, Pq.below_drew hbl.out⟩
      · have hnext := hg.out.next hv hcond.out (by rw [← HR1.out]; exact hbr)
        rw [← HQ1.out, ← HR1.out] at hnext
        have HN := Lib.hid hnext; clear hnext
        have hd3 : decide ((4294967295 : Int) < (r1 : Int)) = false := by simp; omega
        go_upto_region 5 with fail
        go_upto_region 5 with fail
        apply wp_region_lit
        iterate 3
          refine Pq.wpL_step (by rfl) ?_
          apply Exists.intro
          apply Exists.intro
          refine ⟨?_, ?_⟩
          · go_simp; first | done | with_reducible rfl | exact ⟨rfl, rfl⟩
          simp only [Act.put, List.setIfInBounds_toArray, List.set_cons_zero, List.set_cons_succ]
        refine Pq.wpL_cell ⟨c, q + 1, none⟩ _ C1'.out (by rfl) _ _ rfl rfl _ u_u32 rfl ?_
        simp only [Act.put, List.setIfInBounds_toArray, List.set_cons_zero, List.set_cons_succ]
        iterate 3
          refine Pq.wpL_step (by rfl) ?_
          apply Exists.intro
          apply Exists.intro
          refine ⟨?_, ?_⟩
          · go_simp; first | done | with_reducible rfl | exact ⟨rfl, rfl⟩
          simp only [Act.put, List.setIfInBounds_toArray, List.set_cons_zero, List.set_cons_succ]
        refine Pq.wpL_nil ?_
        go_upto_region 6 with fail
        apply wp_region_lit
        iterate 2
          refine Pq.wpL_step (by rfl) ?_
          apply Exists.intro
          apply Exists.intro
          refine ⟨?_, ?_⟩
          · go_simp; first | done | with_reducible rfl | exact ⟨rfl, rfl⟩
          simp only [Act.put, List.setIfInBounds_toArray, List.set_cons_zero, List.set_cons_succ]
        refine Pq.wpL_nil ?_
        clear hadd hwr hsub
        go_wp2
        go_roundw
        case rel => exact ⟨q1, r1, rfl, rfl, HN, Lib.hid (Pq.below_drew hbl.out)⟩
        case measure => simp [intOf]; omega
    · have hd1 : decide ((4294967295 : Int) < (qn : Int)) = false := by simp; omega
      obtain ⟨m, hm⟩ : ∃ m, m = qn * v0 := ⟨_, rfl⟩
      obtain ⟨z, hz⟩ : ∃ z, z = rn * 4294967296 + u0 := ⟨_, rfl⟩
      have hml : m ≤ 18446744065119617025 := by rw [hm]; exact Nat.le_trans (Nat.mul_le_mul hbig (show v0 ≤ 4294967295 by omega)) (by decide)
      have hmul : (qn : Int) * (v0 : Int) = (m : Int) := by rw [hm]; simp
      have hwm : IntKind.u64.wrap (m : Int) = (m : Int) := IntWalk.u64_in _ (by omega)
      have hwz : IntKind.u64.wrap ((rn : Int) * 4294967296) = (rn : Int) * 4294967296 := IntWalk.u64_in _ (by omega)
      have hor2 : bits .or .u64 ((rn : Int) * 4294967296) (u0 : Int) = (z : Int) := by rw [hz]; exact Pq.or_hl (by omega) h0
      rcases Nat.lt_or_ge z m with hzm | hzm
      · have hcond : Hid (4294967295 < qn ∨ rn * 4294967296 + u0 < qn * v0) := Lib.hid (.inr (by rw [← hm, ← hz]; exact hzm))
        have hd2 : decide (z < m) = true := by simpa using hzm
        clear hm hz
        go_upto_region 3 with fail
        refine Pq.wp_region_grown none [(0, true), (1, true), (2, true), (3, true), (4, true), (5, true), (6, true), (7, true), (8, true), (9, true), (10, true), (11, true), (12, true), (13, true), (14, true), (15, true), (16, true), (17, true)] (by kernel_rfl) (by kernel_rfl) (fun _ _ d _ _ h => by cases d <;> exact h) (fun hS => ?_)
        simp only [Pq.pick, List.filterMap_cons, List.filterMap_nil, List.getElem?_cons_zero, List.getElem?_cons_succ, Option.map_some]
        iterate 6
          refine Pq.wpO_step (by rfl) ?_
          apply Exists.intro
          refine ⟨fun w' hw' => ?_, ?_⟩
          · go_simp; first | done | with_reducible rfl | exact ⟨rfl, rfl⟩
          simp only [Act.put, List.setIfInBounds_toArray, List.set_cons_zero, List.set_cons_succ]
        refine Pq.wpO_cell ⟨c, q, none⟩ _ C0.out (by simp) (by rfl) _ _ rfl rfl _ u_u32 rfl ?_
        simp only [Act.put, List.setIfInBounds_toArray, List.set_cons_zero, List.set_cons_succ]
        iterate 6
          refine Pq.wpO_step (by rfl) ?_
          apply Exists.intro
          refine ⟨fun w' hw' => ?_, ?_⟩
          · go_simp; first | done | with_reducible rfl | exact ⟨rfl, rfl⟩
          simp only [Act.put, List.setIfInBounds_toArray, List.set_cons_zero, List.set_cons_succ]
        refine Pq.wpO_cell ⟨b, o, none⟩ _ CU.out (by simp) (by rfl) _ _ rfl rfl _ u_u32 rfl ?_
        simp only [Act.put, List.setIfInBounds_toArray, List.set_cons_zero, List.set_cons_succ]
        iterate 4
          refine Pq.wpO_step (by rfl) ?_
          apply Exists.intro
          refine ⟨fun w' hw' => ?_, ?_⟩
          · go_simp; first | done | with_reducible rfl | exact ⟨rfl, rfl⟩
          simp only [Act.put, List.setIfInBounds_toArray, List.set_cons_zero, List.set_cons_succ]
        refine Pq.wpO_nil ?_
        clear hmul hwm hwz hor2
        have hqpos : 1 ≤ qn := by have := hg.out.lt hv hcond.out; omega
        have hsub : IntKind.u64.wrap ((qn : Int) - 1) = ((qn - 1 : Nat) : Int) := by rw [show (qn : Int) - 1 = ((qn - 1 : Nat) : Int) from by omega]; exact IntWalk.u64_in _ (by omega)
        obtain ⟨q1, hq1⟩ : ∃ q1, q1 = qn - 1 := ⟨_, rfl⟩
        obtain ⟨r1, hr1⟩ : ∃ r1, r1 = rn + v1 := ⟨_, rfl⟩
        rw [← hq1] at hsub
        have hadd : (rn : Int) + (v1 : Int) = (r1 : Int) := by omega
        have hwr : IntKind.u64.wrap (r1 : Int) = (r1 : Int) := IntWalk.u64_in _ (by omega)
        have hql : q1 < qn := by omega
        have HQ1 := Lib.hid hq1
        have HR1 := Lib.hid hr1
        clear hq1 hr1
        have C1' := Lib.hid (Pq.cell_in C1.out (Pq.grown_below hS))
        rcases Nat.lt_or_ge 4294967295 r1 with hbr | hbr
        · have hstop := hg.out.stop h1 hv0 hv h2 hcond.out (by rw [← HR1.out]; exact hbr)
          rw [← HQ1.out, ← HRr.out] at hstop
          subst hstop
          have hd3 : decide ((4294967295 : Int) < (r1 : Int)) = true := by simp; omega
          go_upto_region 5 with fail
          go_upto_region 5 with fail
          apply wp_region_lit
          iterate 3
            refine Pq.wpL_step (by rfl) ?_
            apply Exists.intro
            apply Exists.intro
            refine ⟨?_, ?_⟩
            · go_simp; first | done | with_reducible rfl | exact ⟨rfl, rfl⟩
            simp only [Act.put, List.setIfInBounds_toArray, List.set_cons_zero, List.set_cons_succ]
          refine Pq.wpL_cell ⟨c, q + 1, none⟩ _ C1'.out (by rfl) _ _ rfl rfl _ u_u32 rfl ?_
          simp only [Act.put, List.setIfInBounds_toArray, List.set_cons_zero, List.set_cons_succ]
          iterate 3
            refine Pq.wpL_step (by rfl) ?_
            apply Exists.intro
            apply Exists.intro
            refine ⟨?_, ?_⟩
            · go_simp; first | done | with_reducible rfl | exact ⟨rfl, rfl⟩
            simp only [Act.put, List.setIfInBounds_toArray, List.set_cons_zero, List.set_cons_succ]
          refine Pq.wpL_nil ?_
          go_upto_region 6 with fail
          apply wp_region_lit
          iterate 2
            refine Pq.wpL_step (by rfl) ?_
            apply Exists.intro
            apply Exists.intro
            refine ⟨?_, ?_⟩
            · go_simp; first | done | with_reducible rfl | exact ⟨rfl, rfl⟩
            simp only [Act.put, List.setIfInBounds_toArray, List.set_cons_zero, List.set_cons_succ]
          refine Pq.wpL_nil ?_
          go_wp2
          go_ret
          exact ⟨rfl, Pq.below_drew hbl.out⟩
        · have hnext := hg.out.next hv hcond.out (by rw [← HR1.out]; exact hbr)
          rw [← HQ1.out, ← HR1.out] at hnext
          have HN := Lib.hid hnext; clear hnext
          have hd3 : decide ((4294967295 : Int) < (r1 : Int)) = false := by simp; omega
          go_upto_region 5 with fail
          go_upto_region 5 with fail
          apply wp_region_lit
          iterate 3
            refine Pq.wpL_step (by rfl) ?_
            apply Exists.intro
            apply Exists.intro
            refine ⟨?_, ?_⟩
            · go_simp; first | done | with_reducible rfl | exact ⟨rfl, rfl⟩
            simp only [Act.put, List.setIfInBounds_toArray, List.set_cons_zero, List.set_cons_succ]
          refine Pq.wpL_cell ⟨c, q + 1, none⟩ _ C1'.out (by rfl) _ _ rfl rfl _ u_u32 rfl ?_
          simp only [Act.put, List.setIfInBounds_toArray, List.set_cons_zero, List.set_cons_succ]
          iterate 3
            refine Pq.wpL_step (by rfl) ?_
            apply Exists.intro
            apply Exists.intro
            refine ⟨?_, ?_⟩
            · go_simp; first | done | with_reducible rfl | exact ⟨rfl, rfl⟩
            simp only [Act.put, List.setIfInBounds_toArray, List.set_cons_zero, List.set_cons_succ]
          refine Pq.wpL_nil ?_
          go_upto_region 6 with fail
          apply wp_region_lit
          iterate 2
            refine Pq.wpL_step (by rfl) ?_
            apply Exists.intro
            apply Exists.intro
            refine ⟨?_, ?_⟩
            · go_simp; first | done | with_reducible rfl | exact ⟨rfl, rfl⟩
            simp only [Act.put, List.setIfInBounds_toArray, List.set_cons_zero, List.set_cons_succ]
          refine Pq.wpL_nil ?_
          clear hadd hwr hsub
          go_wp2
          go_roundw
          case rel => exact ⟨q1, r1, rfl, rfl, HN, Lib.hid (Pq.below_drew hbl.out)⟩
          case measure => simp [intOf]; omega
      · have hdone := hg.out.done hv hbig (by rw [← hm, ← hz]; exact hzm)
        rw [← HRr.out] at hdone
        subst hdone
        have hd2 : decide (z < m) = false := by simpa using hzm
        clear hm hz
        go_upto_region 3 with fail
        refine Pq.wp_region_grown none [(0, true), (1, true), (2, true), (3, true), (4, true), (5, true), (6, true), (7, true), (8, true), (9, true), (10, true), (11, true), (12, true), (13, true), (14, true), (15, true), (16, true), (17, true)] (by kernel_rfl) (by kernel_rfl) (fun _ _ d _ _ h => by cases d <;> exact h) (fun hS => ?_)
        simp only [Pq.pick, List.filterMap_cons, List.filterMap_nil, List.getElem?_cons_zero, List.getElem?_cons_succ, Option.map_some]
        iterate 6
          refine Pq.wpO_step (by rfl) ?_
          apply Exists.intro
          refine ⟨fun w' hw' => ?_, ?_⟩
          · go_simp; first | done | with_reducible rfl | exact ⟨rfl, rfl⟩
          simp only [Act.put, List.setIfInBounds_toArray, List.set_cons_zero, List.set_cons_succ]
        refine Pq.wpO_cell ⟨c, q, none⟩ _ C0.out (by simp) (by rfl) _ _ rfl rfl _ u_u32 rfl ?_
        simp only [Act.put, List.setIfInBounds_toArray, List.set_cons_zero, List.set_cons_succ]
        iterate 6
          refine Pq.wpO_step (by rfl) ?_
          apply Exists.intro
          refine ⟨fun w' hw' => ?_, ?_⟩
          · go_simp; first | done | with_reducible rfl | exact ⟨rfl, rfl⟩
          simp only [Act.put, List.setIfInBounds_toArray, List.set_cons_zero, List.set_cons_succ]
        refine Pq.wpO_cell ⟨b, o, none⟩ _ CU.out (by simp) (by rfl) _ _ rfl rfl _ u_u32 rfl ?_
        simp only [Act.put, List.setIfInBounds_toArray, List.set_cons_zero, List.set_cons_succ]
        iterate 4
          refine Pq.wpO_step (by rfl) ?_
          apply Exists.intro
          refine ⟨fun w' hw' => ?_, ?_⟩
          · go_simp; first | done | with_reducible rfl | exact ⟨rfl, rfl⟩
          simp only [Act.put, List.setIfInBounds_toArray, List.set_cons_zero, List.set_cons_succ]
        refine Pq.wpO_nil ?_
        clear hmul hwm hwz hor2
        go_wp2
        go_ret
        exact ⟨rfl, Pq.below_drew hbl.out⟩
end Go.Proofs.YtokgbcachcmeaaaGreatDoor
set_option linter.unusedSimpArgs false
set_option linter.unusedVariables false
namespace Go.Proofs.YtokgbcachcmeaaaGreatDoor
open Go.RowKit
theorem cf_takes (xs : Array Value) (w : World) : (callFunc 108 xs).run Tryz.prog w = .ok (.enter 108 xs) w := by kernel_rfl
theorem cf_gives (xs : Array Value) (w : World) : (callFunc 109 xs).run Tryz.prog w = .ok (.enter 109 xs) w := by kernel_rfl

set_option maxRecDepth 100000 in
set_option maxHeartbeats 1000000 in
theorem takes_any (g o b q m cu cv X V qd : Nat) (p s : List Value) (w : World) (hm : m ≤ 40) (hX : X < Pq.bp (m + 1)) (hV : V < Pq.bp m) (hq : qd < 4294967296) (hp : p.length = o) (hbg : b ≠ g)
    (hrow : w.heap[g]? = some (.cells (p ++ (Pq.am (m + 1) X ++ s)).toArray 23 (0, 0))) (hv : w.rangeAt b q (Pq.am m V)) :
    Calls Tryz.prog 108 #[.slice (some ⟨g, o, none⟩) (m + 1) cu, .slice (some ⟨b, q, none⟩) m cv, .int .u64 qd] w
      (fun e w' => ∃ Z bf, Z < Pq.bp (m + 1) ∧ bf ≤ 1 ∧ Z + qd * V = X + Pq.bp (m + 1) * bf ∧ Pq.MidB w g 23 p s (m + 1) Z (.bool (((bf : Nat) : Int) == 0)) e w') := by
  have HX := Lib.hid hX; clear hX
  have HV := Lib.hid hV; clear hV
  have HBv := Lib.hid hv; clear hv
  have HROW := Lib.hid hrow; clear hrow
  have HP := Lib.hid hp; clear hp
  have hqI : (qd : Int) < 4294967296 := by omega
  have hmI : (m : Int) ≤ 40 := by omega
  obtain ⟨m1, hm1⟩ : ∃ m1, m1 = m + 1 := ⟨_, rfl⟩
  rw [← hm1]
  have hmm : (m : Int) < m1 := by omega
  have HM1 := Lib.hid hm1
  rw [← hm1] at HX HROW
  clear hm1
  go_enter Tryz.func108, Tryz.ntmps108
  go_wp2
  go_loopw [7, 8, 14] (fun cc bb i wr => ∃ (k c bo Y : Nat), i = .int .i64 k ∧ k ≤ m ∧ cc = .int .u64 (c : Int) ∧ bb = .int .u32 (bo : Int) ∧ Hid (Pq.TI X V qd k c bo Y) ∧ Hid (wr.heap[g]? = some (.cells (p ++ (Pq.am m1 Y ++ s)).toArray 23 (0, 0))) ∧ Hid (w.grownBy wr (some g))) (fun _ _ i _ => m - (intOf i).toNat)
  case atStart => exact ⟨0, 0, 0, X, rfl, by omega, rfl, rfl, Lib.hid (Pq.TI.start X V qd), HROW, Lib.hid ⟨rfl, rfl, rfl, Nat.le_refl _, fun _ _ _ => rfl⟩⟩
  case round =>
    obtain ⟨k, c, bo, Y, rfl, hk, rfl, rfl, hti, hrow, hgr⟩ := hrel
    have hcl : (c : Int) < 4294967296 := by have := hti.out.cl; omega
    have hbl : bo ≤ 1 := hti.out.bl
    by_cases hlt : k < m
    · have hk2 : (k : Int) < m := by omega
      have hk3 : (k : Int) < m1 := by omega
      have cv1 := Pq.range_by HBv.out hgr.out (by simp; omega) k _ (Pq.am_get (x := V) hlt)
      have hvl := Pq.wd_lt V k
      have hxl := Pq.wd_lt X k
      have cu1 : wr.cell? ⟨g, o + k, none⟩ = some (.int .u32 (Pq.wd X k : Nat)) := by
        rw [cell_of_row wr g _ _ _ _ hrow.out, List.getElem?_toArray, ← HP.out, Pq.get_mid p m1 Y s (by have := HM1.out; omega), hti.out.word]
      obtain ⟨t, ht⟩ : ∃ t, t = qd * Pq.wd V k + c := ⟨_, rfl⟩
      obtain ⟨tl, htl⟩ : ∃ tl, tl = t % 4294967296 := ⟨_, rfl⟩
      obtain ⟨th, hth⟩ : ∃ th, th = t / 4294967296 := ⟨_, rfl⟩
      have htb : t < 18446744073709551616 := by rw [ht]; exact (Pq.tmul_lt hq hvl hti.out.cl).1
      have hnext := hti.out.next hq
      rw [← ht, ← htl, ← hth] at hnext
      obtain ⟨vw, hvw⟩ : ∃ vw, vw = Pq.wd V k := ⟨_, rfl⟩
      obtain ⟨xw, hxw⟩ : ∃ xw, xw = Pq.wd X k := ⟨_, rfl⟩
      rw [← hvw] at cv1 hvl ht
      rw [← hxw] at cu1 hxl hnext
      have HNX := Lib.hid hnext; clear hnext
      have e1 : (qd : Int) * (vw : Int) + (c : Int) = (t : Int) := by rw [ht]; simp
      have wm : IntKind.u64.wrap ((qd : Int) * (vw : Int)) = (qd : Int) * (vw : Int) := by
        have h1 : (qd : Int) * (vw : Int) ≤ (t : Int) := by omega
        have h2 : (0 : Int) ≤ (qd : Int) * (vw : Int) := Int.mul_nonneg (by omega) (by omega)
        exact IntWalk.u64_in _ (by omega)
      have wt : IntKind.u64.wrap (t : Int) = (t : Int) := IntWalk.u64_in _ (by omega)
      have hand : bits .and .u64 (t : Int) 4294967295 = (tl : Int) := by rw [Pq.and_lo htb, htl]
      have hsh : (t : Int) / 4294967296 = (th : Int) := by rw [hth]; simp
      have htl2 : tl < 4294967296 := by rw [htl]; exact Nat.mod_lt _ (by decide)
      have wtl : IntKind.u32.wrap (tl : Int) = (tl : Int) := IntWalk.u32_in _ (by omega)
      have wv : IntKind.u64.wrap (vw : Int) = (vw : Int) := IntWalk.u64_in _ (by omega)
      have CV := Lib.hid cv1; clear cv1
      have CU := Lib.hid cu1; clear cu1
      clear ht htl hth hvw hxw hti
      go_upto_region 4 with fail
      go_upto_region 4 with fail
      apply wp_region_lit
      iterate 2
        refine Pq.wpL_step (by rfl) ?_
        apply Exists.intro
        apply Exists.intro
        refine ⟨?_, ?_⟩
        · go_simp; first | done | with_reducible rfl | exact ⟨rfl, rfl⟩
        simp only [Act.put, List.setIfInBounds_toArray, List.set_cons_zero, List.set_cons_succ]
      refine Pq.wpL_cell ⟨b, q + k, none⟩ _ CV.out (by rfl) _ _ rfl rfl _ u_u32 rfl ?_
      simp only [Act.put, List.setIfInBounds_toArray, List.set_cons_zero, List.set_cons_succ]
      iterate 2
        refine Pq.wpL_step (by rfl) ?_
        apply Exists.intro
        apply Exists.intro
        refine ⟨?_, ?_⟩
        · go_simp; first | done | with_reducible rfl | exact ⟨rfl, rfl⟩
        simp only [Act.put, List.setIfInBounds_toArray, List.set_cons_zero, List.set_cons_succ]
      refine Pq.wpL_nil ?_
      go_upto_region 5 with fail
      go_upto_region 5 with fail
      apply wp_region_lit
      iterate 7
        refine Pq.wpL_step (by rfl) ?_
        apply Exists.intro
        apply Exists.intro
        refine ⟨?_, ?_⟩
        · go_simp; first | done | with_reducible rfl | exact ⟨rfl, rfl⟩
        simp only [Act.put, List.setIfInBounds_toArray, List.set_cons_zero, List.set_cons_succ]
      refine Pq.wpL_nil ?_
      go_upto_region 6 with fail
      go_upto_region 6 with fail
      apply wp_region_lit
      iterate 3
        refine Pq.wpL_step (by rfl) ?_
        apply Exists.intro
        apply Exists.intro
        refine ⟨?_, ?_⟩
        · go_simp; first | done | with_reducible rfl | exact ⟨rfl, rfl⟩
        simp only [Act.put, List.setIfInBounds_toArray, List.set_cons_zero, List.set_cons_succ]
      refine Pq.wpL_nil ?_
      go_upto_region 7 with fail
      go_upto_region 7 with fail
      apply wp_region_lit
      iterate 5
        refine Pq.wpL_step (by rfl) ?_
        apply Exists.intro
        apply Exists.intro
        refine ⟨?_, ?_⟩
        · go_simp; first | done | with_reducible rfl | exact ⟨rfl, rfl⟩
        simp only [Act.put, List.setIfInBounds_toArray, List.set_cons_zero, List.set_cons_succ]
      refine Pq.wpL_cell ⟨g, o + k, none⟩ _ CU.out (by rfl) _ _ rfl rfl _ u_u32 rfl ?_
      simp only [Act.put, List.setIfInBounds_toArray, List.set_cons_zero, List.set_cons_succ]
      iterate 4
        refine Pq.wpL_step (by rfl) ?_
        apply Exists.intro
        apply Exists.intro
        refine ⟨?_, ?_⟩
        · go_simp; first | done | with_reducible rfl | exact ⟨rfl, rfl⟩
        simp only [Act.put, List.setIfInBounds_toArray, List.set_cons_zero, List.set_cons_succ]
      refine Pq.wpL_call (by rfl) cf_sub32 (sub32_any xw tl bo _ hxl htl2 hbl) rfl rfl ?_; rintro e w1 ⟨rfl, rfl⟩; refine ⟨_, rfl, ?_⟩
      simp only [Act.put, List.setIfInBounds_toArray, List.set_cons_zero, List.set_cons_succ]
      iterate 4
        refine Pq.wpL_step (by rfl) ?_
        apply Exists.intro
        apply Exists.intro
        refine ⟨?_, ?_⟩
        · go_simp; first | done | with_reducible rfl | exact ⟨rfl, rfl⟩
        simp only [Act.put, List.setIfInBounds_toArray, List.set_cons_zero, List.set_cons_succ]
      refine Pq.wpL_put (k := o + k) (.int .u32 (Pq.dif xw tl bo : Nat)) hrow.out (by rw [← HP.out]; exact Pq.len_mid p m1 Y s (by omega)) (by rfl) 23 _ _ rfl rfl rfl rfl rfl (by kernel_rfl) ?_
      try simp only [Act.put, List.setIfInBounds_toArray, List.set_cons_zero, List.set_cons_succ]
      refine Pq.wpL_step (by rfl) ?_
      apply Exists.intro
      apply Exists.intro
      refine ⟨?_, ?_⟩
      · go_simp; first | done | with_reducible rfl | exact ⟨rfl, rfl⟩
      simp only [Act.put, List.setIfInBounds_toArray, List.set_cons_zero, List.set_cons_succ]
      refine Pq.wpL_nil ?_
      clear e1 wm wt hand hsh wtl wv
      go_wp2
      go_roundw
      case rel => exact ⟨k + 1, th, Pq.bor xw tl bo, Pq.st Y k (Pq.dif xw tl bo), by go_num, by omega, rfl, rfl, HNX, by
        have e := Pq.setRow_at (cs := ((p ++ (Pq.am m1 Y ++ s)).set (o + k) (.int .u32 ((Pq.dif xw tl bo : Nat) : Int))).toArray) hrow.out
        rw [← HP.out, Pq.set_mid p m1 Y s (Pq.dif_lt _ _ _) (by omega)] at e
        rw [← HP.out, Pq.set_mid p m1 Y s (Pq.dif_lt _ _ _) (by omega)]; exact e, Lib.hid (Pq.grown_setRow hgr.out)⟩
      case measure => simp [intOf]; omega
    · obtain rfl : k = m := by omega
      have hlast := hti.out.last (by rw [← HM1.out]; exact HX.out) HV.out
      have hxl := Pq.wd_lt X k
      have cu1 : wr.cell? ⟨g, o + k, none⟩ = some (.int .u32 (Pq.wd X k : Nat)) := by
        rw [cell_of_row wr g _ _ _ _ hrow.out, List.getElem?_toArray, ← HP.out, Pq.get_mid p m1 Y s (by have := HM1.out; omega), hti.out.word]
      obtain ⟨xw, hxw⟩ : ∃ xw, xw = Pq.wd X k := ⟨_, rfl⟩
      rw [← hxw] at cu1 hxl hlast
      have HL := Lib.hid hlast; clear hlast
      have CU := Lib.hid cu1; clear cu1
      have wc1 : IntKind.u32.wrap (c : Int) = (c : Int) := IntWalk.u32_in _ (by omega)
      clear hxw hti
      go_upto_region 9 with fail
      go_upto_region 9 with fail
      apply wp_region_lit
      iterate 7
        refine Pq.wpL_step (by rfl) ?_
        apply Exists.intro
        apply Exists.intro
        refine ⟨?_, ?_⟩
        · go_simp; first | done | with_reducible rfl | exact ⟨rfl, rfl⟩
        simp only [Act.put, List.setIfInBounds_toArray, List.set_cons_zero, List.set_cons_succ]
      refine Pq.wpL_cell ⟨g, o + k, none⟩ _ CU.out (by rfl) _ _ rfl rfl _ u_u32 rfl ?_
      simp only [Act.put, List.setIfInBounds_toArray, List.set_cons_zero, List.set_cons_succ]
      iterate 3
        refine Pq.wpL_step (by rfl) ?_
        apply Exists.intro
        apply Exists.intro
        refine ⟨?_, ?_⟩
        · go_simp; first | done | with_reducible rfl | exact ⟨rfl, rfl⟩
        simp only [Act.put, List.setIfInBounds_toArray, List.set_cons_zero, List.set_cons_succ]
      refine Pq.wpL_call (by rfl) cf_sub32 (sub32_any xw c bo _ hxl (by omega) hbl) rfl rfl ?_; rintro e w1 ⟨rfl, rfl⟩; refine ⟨_, rfl, ?_⟩
      simp only [Act.put, List.setIfInBounds_toArray, List.set_cons_zero, List.set_cons_succ]
      iterate 4
        refine Pq.wpL_step (by rfl) ?_
        apply Exists.intro
        apply Exists.intro
        refine ⟨?_, ?_⟩
        · go_simp; first | done | with_reducible rfl | exact ⟨rfl, rfl⟩
        simp only [Act.put, List.setIfInBounds_toArray, List.set_cons_zero, List.set_cons_succ]
      refine Pq.wpL_put (k := o + k) (.int .u32 (Pq.dif xw c bo : Nat)) hrow.out (by rw [← HP.out]; exact Pq.len_mid p m1 Y s (by have := HM1.out; omega)) (by rfl) 23 _ _ rfl rfl rfl rfl rfl (by kernel_rfl) ?_
      try simp only [Act.put, List.setIfInBounds_toArray, List.set_cons_zero, List.set_cons_succ]
      refine Pq.wpL_step (by rfl) ?_
      apply Exists.intro
      apply Exists.intro
      refine ⟨?_, ?_⟩
      · go_simp; first | done | with_reducible rfl | exact ⟨rfl, rfl⟩
      simp only [Act.put, List.setIfInBounds_toArray, List.set_cons_zero, List.set_cons_succ]
      refine Pq.wpL_nil ?_
      clear wc1
      go_wp2
      go_ret
      refine ⟨Pq.st Y k (Pq.dif xw c bo), Pq.bor xw c bo, by rw [HM1.out]; exact HL.out.1, Pq.bor_le _ _ _, by rw [HM1.out]; exact HL.out.2, rfl, ?_, Pq.grown_setRow hgr.out⟩
      have e := Pq.setRow_at (cs := ((p ++ (Pq.am m1 Y ++ s)).set (o + k) (.int .u32 ((Pq.dif xw c bo : Nat) : Int))).toArray) hrow.out
      rw [← HP.out, Pq.set_mid p m1 Y s (Pq.dif_lt _ _ _) (by have := HM1.out; omega)] at e
      rw [← HP.out, Pq.set_mid p m1 Y s (Pq.dif_lt _ _ _) (by have := HM1.out; omega)]; exact e

set_option maxRecDepth 100000 in
set_option maxHeartbeats 1000000 in
theorem gives_any (g o b q m cu cv X V : Nat) (p s : List Value) (w : World) (hm : m ≤ 40) (hX : X < Pq.bp (m + 1)) (hV : V < Pq.bp m) (hp : p.length = o) (hbg : b ≠ g)
    (hrow : w.heap[g]? = some (.cells (p ++ (Pq.am (m + 1) X ++ s)).toArray 23 (0, 0))) (hv : w.rangeAt b q (Pq.am m V)) :
    Calls Tryz.prog 109 #[.slice (some ⟨g, o, none⟩) (m + 1) cu, .slice (some ⟨b, q, none⟩) m cv] w
      (Pq.MidB w g 23 p s (m + 1) ((X + V) % Pq.bp (m + 1)) (.tuple #[])) := by
  have HX := Lib.hid hX; clear hX
  have HV := Lib.hid hV; clear hV
  have HBv := Lib.hid hv; clear hv
  have HROW := Lib.hid hrow; clear hrow
  have HP := Lib.hid hp; clear hp
  have hmI : (m : Int) ≤ 40 := by omega
  obtain ⟨m1, hm1⟩ : ∃ m1, m1 = m + 1 := ⟨_, rfl⟩
  rw [← hm1]
  have hmm : (m : Int) < m1 := by omega
  have HM1 := Lib.hid hm1
  rw [← hm1] at HX HROW
  clear hm1
  go_enter Tryz.func109, Tryz.ntmps109
  go_wp2
  go_loopw [4, 9] (fun cc i wr => ∃ (k c Y : Nat), i = .int .i64 k ∧ k ≤ m ∧ cc = .int .u32 (c : Int) ∧ Hid (Pq.AI X V k c Y) ∧ Hid (wr.heap[g]? = some (.cells (p ++ (Pq.am m1 Y ++ s)).toArray 23 (0, 0))) ∧ Hid (w.grownBy wr (some g))) (fun _ i _ => m - (intOf i).toNat)
  case atStart => exact ⟨0, 0, X, rfl, by omega, rfl, Lib.hid (Pq.AI.start X V), HROW, Lib.hid ⟨rfl, rfl, rfl, Nat.le_refl _, fun _ _ _ => rfl⟩⟩
  case round =>
    obtain ⟨k, c, Y, rfl, hk, rfl, hti, hrow, hgr⟩ := hrel
    have hcl : c ≤ 1 := hti.out.cl
    by_cases hlt : k < m
    · have hk2 : (k : Int) < m := by omega
      have hk3 : (k : Int) < m1 := by omega
      have cv1 := Pq.range_by HBv.out hgr.out (by simp; omega) k _ (Pq.am_get (x := V) hlt)
      have hvl := Pq.wd_lt V k
      have hxl := Pq.wd_lt X k
      have cu1 : wr.cell? ⟨g, o + k, none⟩ = some (.int .u32 (Pq.wd X k : Nat)) := by
        rw [cell_of_row wr g _ _ _ _ hrow.out, List.getElem?_toArray, ← HP.out, Pq.get_mid p m1 Y s (by have := HM1.out; omega), hti.out.word]
      have hnext := hti.out.next
      obtain ⟨vw, hvw⟩ : ∃ vw, vw = Pq.wd V k := ⟨_, rfl⟩
      obtain ⟨xw, hxw⟩ : ∃ xw, xw = Pq.wd X k := ⟨_, rfl⟩
      rw [← hvw] at cv1 hvl hnext
      rw [← hxw] at cu1 hxl hnext
      have HNX := Lib.hid hnext; clear hnext
      have CV := Lib.hid cv1; clear cv1
      have CU := Lib.hid cu1; clear cu1
      clear hvw hxw hti
      go_upto_region 3 with fail
      go_upto_region 3 with fail
      apply wp_region_lit
      iterate 2
        refine Pq.wpL_step (by rfl) ?_
        apply Exists.intro
        apply Exists.intro
        refine ⟨?_, ?_⟩
        · go_simp; first | done | with_reducible rfl | exact ⟨rfl, rfl⟩
        simp only [Act.put, List.setIfInBounds_toArray, List.set_cons_zero, List.set_cons_succ]
      refine Pq.wpL_cell ⟨b, q + k, none⟩ _ CV.out (by rfl) _ _ rfl rfl _ u_u32 rfl ?_
      simp only [Act.put, List.setIfInBounds_toArray, List.set_cons_zero, List.set_cons_succ]
      iterate 2
        refine Pq.wpL_step (by rfl) ?_
        apply Exists.intro
        apply Exists.intro
        refine ⟨?_, ?_⟩
        · go_simp; first | done | with_reducible rfl | exact ⟨rfl, rfl⟩
        simp only [Act.put, List.setIfInBounds_toArray, List.set_cons_zero, List.set_cons_succ]
      refine Pq.wpL_nil ?_
      go_upto_region 4 with fail
      go_upto_region 4 with fail
      apply wp_region_lit
      iterate 5
        refine Pq.wpL_step (by rfl) ?_
        apply Exists.intro
        apply Exists.intro
        refine ⟨?_, ?_⟩
        · go_simp; first | done | with_reducible rfl | exact ⟨rfl, rfl⟩
        simp only [Act.put, List.setIfInBounds_toArray, List.set_cons_zero, List.set_cons_succ]
      refine Pq.wpL_cell ⟨g, o + k, none⟩ _ CU.out (by rfl) _ _ rfl rfl _ u_u32 rfl ?_
      simp only [Act.put, List.setIfInBounds_toArray, List.set_cons_zero, List.set_cons_succ]
      iterate 2
        refine Pq.wpL_step (by rfl) ?_
        apply Exists.intro
        apply Exists.intro
        refine ⟨?_, ?_⟩
        · go_simp; first | done | with_reducible rfl | exact ⟨rfl, rfl⟩
        simp only [Act.put, List.setIfInBounds_toArray, List.set_cons_zero, List.set_cons_succ]
      refine Pq.wpL_call (by rfl) cf_add32 (add32_any xw vw c _ hxl hvl hcl) rfl rfl ?_; rintro e w1 ⟨rfl, rfl⟩; refine ⟨_, rfl, ?_⟩
      simp only [Act.put, List.setIfInBounds_toArray, List.set_cons_zero, List.set_cons_succ]
      iterate 4
        refine Pq.wpL_step (by rfl) ?_
        apply Exists.intro
        apply Exists.intro
        refine ⟨?_, ?_⟩
        · go_simp; first | done | with_reducible rfl | exact ⟨rfl, rfl⟩
        simp only [Act.put, List.setIfInBounds_toArray, List.set_cons_zero, List.set_cons_succ]
      refine Pq.wpL_put (k := o + k) (.int .u32 (Pq.sww xw vw c : Nat)) hrow.out (by rw [← HP.out]; exact Pq.len_mid p m1 Y s (by omega)) (by rfl) 23 _ _ rfl rfl rfl rfl rfl (by kernel_rfl) ?_
      try simp only [Act.put, List.setIfInBounds_toArray, List.set_cons_zero, List.set_cons_succ]
      refine Pq.wpL_step (by rfl) ?_
      apply Exists.intro
      apply Exists.intro
      refine ⟨?_, ?_⟩
      · go_simp; first | done | with_reducible rfl | exact ⟨rfl, rfl⟩
      simp only [Act.put, List.setIfInBounds_toArray, List.set_cons_zero, List.set_cons_succ]
      refine Pq.wpL_nil ?_
      go_wp2
      go_roundw
      case rel => exact ⟨k + 1, Pq.swc xw vw c, Pq.st Y k (Pq.sww xw vw c), by go_num, by omega, rfl, HNX, by
        have e := Pq.setRow_at (cs := ((p ++ (Pq.am m1 Y ++ s)).set (o + k) (.int .u32 ((Pq.sww xw vw c : Nat) : Int))).toArray) hrow.out
        rw [← HP.out, Pq.set_mid p m1 Y s (Pq.sww_lt _ _ _) (by omega)] at e
        rw [← HP.out, Pq.set_mid p m1 Y s (Pq.sww_lt _ _ _) (by omega)]; exact e, Lib.hid (Pq.grown_setRow hgr.out)⟩
      case measure => simp [intOf]; omega
    · obtain rfl : k = m := by omega
      have hlast := hti.out.last (by rw [← HM1.out]; exact HX.out) HV.out
      have hxl := Pq.wd_lt X k
      have cu1 : wr.cell? ⟨g, o + k, none⟩ = some (.int .u32 (Pq.wd X k : Nat)) := by
        rw [cell_of_row wr g _ _ _ _ hrow.out, List.getElem?_toArray, ← HP.out, Pq.get_mid p m1 Y s (by have := HM1.out; omega), hti.out.word]
      obtain ⟨xw, hxw⟩ : ∃ xw, xw = Pq.wd X k := ⟨_, rfl⟩
      rw [← hxw] at cu1 hxl hlast
      obtain ⟨d, hd⟩ : ∃ d, d = (xw + c) % 4294967296 := ⟨_, rfl⟩
      have hdl : d < 4294967296 := by rw [hd]; exact Nat.mod_lt _ (by decide)
      have wd1 : IntKind.u32.wrap ((xw : Int) + (c : Int)) = (d : Int) := by rw [IntKind.wrap_u32, hd]; simp
      rw [← hd] at hlast
      have HL := Lib.hid hlast; clear hlast
      have CU := Lib.hid cu1; clear cu1
      clear hxw hti hd
      go_upto_region 6 with fail
      go_upto_region 6 with fail
      apply wp_region_lit
      iterate 4
        refine Pq.wpL_step (by rfl) ?_
        apply Exists.intro
        apply Exists.intro
        refine ⟨?_, ?_⟩
        · go_simp; first | done | with_reducible rfl | exact ⟨rfl, rfl⟩
        simp only [Act.put, List.setIfInBounds_toArray, List.set_cons_zero, List.set_cons_succ]
      refine Pq.wpL_cell ⟨g, o + k, none⟩ _ CU.out (by rfl) _ _ rfl rfl _ u_u32 rfl ?_
      simp only [Act.put, List.setIfInBounds_toArray, List.set_cons_zero, List.set_cons_succ]
      iterate 3
        refine Pq.wpL_step (by rfl) ?_
        apply Exists.intro
        apply Exists.intro
        refine ⟨?_, ?_⟩
        · go_simp; first | done | with_reducible rfl | exact ⟨rfl, rfl⟩
        simp only [Act.put, List.setIfInBounds_toArray, List.set_cons_zero, List.set_cons_succ]
      refine Pq.wpL_put (k := o + k) (.int .u32 (d : Int)) hrow.out (by rw [← HP.out]; exact Pq.len_mid p m1 Y s (by have := HM1.out; omega)) (by rfl) 23 _ _ rfl rfl rfl rfl rfl (by kernel_rfl) ?_
      try simp only [Act.put, List.setIfInBounds_toArray, List.set_cons_zero, List.set_cons_succ]
      refine Pq.wpL_nil ?_
      clear wd1
      go_wp2
      go_end0
      refine ⟨rfl, ?_, Pq.grown_setRow hgr.out⟩
      have e := Pq.setRow_at (cs := ((p ++ (Pq.am m1 Y ++ s)).set (o + k) (.int .u32 (d : Int))).toArray) hrow.out
      rw [← HP.out, Pq.set_mid p m1 Y s hdl (by have := HM1.out; omega), HL.out, ← HM1.out] at e
      rw [← HP.out, Pq.set_mid p m1 Y s hdl (by have := HM1.out; omega), HL.out, ← HM1.out]; exact e
end Go.Proofs.YtokgbcachcmeaaaGreatDoor
set_option linter.unusedSimpArgs false
set_option linter.unusedVariables false
namespace Pq
open Go Go.RowKit
section
variable {P : Program} {ops : Array Oper} {Q : Exit → Act → World → Prop} {S : World → Prop}
theorem wpO_slice {o : Oper} {r : List (Oper × Bool)} {a : Act} {w : World} (v : Value) (hw : Region.wanted o (yielded ops a.tmps) = true) (ty : TypeId) (x : Operand) (l h : Option Operand) (ho : o.op = .slice ty x l h none) (vx : Value) (hx : a.eval x = vx) (lv hv : Option Value) (hl : l.map a.eval = lv) (hh : h.map a.eval = hv)
    (hs : ∀ w, (Instr.sliceAt ty vx lv hv none).run P w = .ok v w) (k : wpO P ops S Q r (a.put o.dst v) w) : wpO P ops S Q ((o, true) :: r) a w :=
  wpO_take v hw (fun w' _ => by
    unfold execOp
    simp only [ho, hx, hl, hh, Option.map_none, Sem.run_bind, hs, Result.andThen_ok, Sem.run_pure]) k
theorem wpL_slice {rest : List Oper} {o : Oper} {a : Act} {w : World} (v : Value) (hw : Region.wanted o (yielded ops a.tmps) = true) (ty : TypeId) (x : Operand) (l h : Option Operand) (ho : o.op = .slice ty x l h none) (vx : Value) (hx : a.eval x = vx) (lv hv : Option Value) (hl : l.map a.eval = lv) (hh : h.map a.eval = hv)
    (hs : ∀ w, (Instr.sliceAt ty vx lv hv none).run P w = .ok v w) (k : wpList P ops Q rest (a.put o.dst v) w) : wpList P ops Q (o :: rest) a w :=
  wpL_val v w hw (by
    unfold execOp
    simp only [ho, hx, hl, hh, Option.map_none, Sem.run_bind, hs, Result.andThen_ok, Sem.run_pure]) k
end
theorem am_prefix {w : World} {b o n x : Nat} (hn : n ≤ 32) (h : w.rangeAt b o (am 32 x)) : w.rangeAt b o (am n x) := by
  have := am_split n (32 - n) x
  rw [show n + (32 - n) = 32 from by omega] at this
  rw [this] at h
  exact (range_app h).1
theorem am_prefix' {w : World} {b o n x : Nat} (h : w.rangeAt b o (am (n + 1) x)) : w.rangeAt b o (am n x) := by
  rw [am_split n 1 x] at h
  exact (range_app h).1
theorem row_cell {w : World} {g n x i : Nat} {t : TypeId} (h : w.heap[g]? = some (.cells (am n x).toArray t (0, 0))) (hi : i < n) : w.cell? ⟨g, i, none⟩ = some (.int .u32 (wd x i : Nat)) := by
  have := range_block h i _ (am_get (x := x) hi)
  rwa [Nat.zero_add] at this
theorem keep_row {w : World} {g g2 : Nat} {cs : Array Value} {o : Obj} (h : w.heap[g]? = some o) (hne : g ≠ g2) : (w.setRow g2 cs).heap[g]? = some o := (setRow_other w g2 g cs hne).trans h
theorem wd_div (U i k : Nat) : wd (U / bp i) k = wd U (i + k) := by
  unfold wd; rw [Nat.div_div_eq_div_mul, ← bp_add]
def Two (w : World) (x y : Nat) (e : Ending) (w' : World) : Prop :=
  ∃ g h, e = .returned (.tuple #[.pointer (some ⟨g, 0, none⟩), .pointer (some ⟨h, 0, none⟩)]) ∧ w'.rangeAt g 0 (am 32 x) ∧ w'.rangeAt h 0 (am 32 y) ∧ Below w.heap.size w w' ∧ w.heap.size ≤ g ∧ w.heap.size ≤ h
end Pq
namespace Go.Proofs.YtokgbcachcmeaaaGreatDoor
open Go.RowKit
theorem cf_divide (xs : Array Value) (w : World) : (callFunc 88 xs).run Tryz.prog w = .ok (.enter 88 xs) w := by kernel_rfl
theorem cf_lz32 (xs : Array Value) (w : World) : (callFunc 105 xs).run Tryz.prog w = .ok (.enter 105 xs) w := by kernel_rfl
theorem sl_arr (b o n : Nat) (hn : n ≤ 32) (w : World) : (Instr.sliceAt 111 (.pointer (some ⟨b, o, none⟩)) none (some (.int .i64 (n : Int))) none).run Tryz.prog w = .ok (.slice (some ⟨b, o, none⟩) n 32) w := by
  have ht : Tryz.prog.underlying 111 = some (.array 32 (Tryz.prog.elem 111)) := by kernel_rfl
  have hal : Tryz.prog.arrayLen 111 = 32 := by kernel_rfl
  have hel : Tryz.prog.elem 111 = 23 := by kernel_rfl
  rw [run_sliceAt_array_h w 111 ⟨b, o, none⟩ (by rw [hal, ht]) .i64 (n : Int) (by omega) (by rw [hal]; omega), hal, hel]
  simp [sliced, slicedAt, Addr.add, Tryz.sizeOf23, Go.sizeOf]
theorem sl_to (b o l c n : Nat) (hn : n ≤ c) (w : World) : (Instr.sliceAt 84 (.slice (some ⟨b, o, none⟩) l c) none (some (.int .i64 (n : Int))) none).run Tryz.prog w = .ok (.slice (some ⟨b, o, none⟩) n c) w := by
  have ht : Tryz.prog.underlying 84 = some (.slice (Tryz.prog.elem 84)) := by kernel_rfl
  have hel : Tryz.prog.elem 84 = 23 := by kernel_rfl
  rw [run_sliceAt_slice (h := ht), run_slice_h (ht := ht) (kh := .i64) (h := (n : Int)) (h0 := by omega) (h2 := by omega), hel]
  simp [sliced, slicedAt, Addr.add, Tryz.sizeOf23, Go.sizeOf]
theorem sl_from (b l c n : Nat) (hn : n ≤ l) (hc : n < c) (w : World) : (Instr.sliceAt 84 (.slice (some ⟨b, 0, none⟩) l c) (some (.int .i64 (n : Int))) none none).run Tryz.prog w = .ok (.slice (some ⟨b, n, none⟩) (l - n) (c - n)) w := by
  have ht : Tryz.prog.underlying 84 = some (.slice (Tryz.prog.elem 84)) := by kernel_rfl
  have hel : Tryz.prog.elem 84 = 23 := by kernel_rfl
  rw [run_sliceAt_slice (h := ht), run_slice_l (ht := ht) (kl := .i64) (l := (n : Int)) (h0 := by omega) (h1 := by omega), hel]
  have hz : Tryz.t23.size = 1 := by kernel_rfl
  simp [sliced, slicedAt, Addr.add, Tryz.sizeOf23, Go.sizeOf, show ¬ (c = n) from by omega, hz]
  intro h0; exact h0.symm
theorem sl_mid (b l c n h : Nat) (hn : n ≤ h) (hc : h ≤ c) (h2 : n < c) (w : World) : (Instr.sliceAt 84 (.slice (some ⟨b, 0, none⟩) l c) (some (.int .i64 (n : Int))) (some (.int .i64 (h : Int))) none).run Tryz.prog w = .ok (.slice (some ⟨b, n, none⟩) (h - n) (c - n)) w := by
  have ht : Tryz.prog.underlying 84 = some (.slice (Tryz.prog.elem 84)) := by kernel_rfl
  have hel : Tryz.prog.elem 84 = 23 := by kernel_rfl
  rw [run_sliceAt_slice (h := ht), run_slice_lh (ht := ht) (kl := .i64) (kh := .i64) (l := (n : Int)) (h := (h : Int)) (h0 := by omega) (h1 := by omega) (h2 := by omega), hel]
  have hz : Tryz.t23.size = 1 := by kernel_rfl
  simp [sliced, slicedAt, Addr.add, Tryz.sizeOf23, Go.sizeOf, show ¬ (c = n) from by omega, hz]
  intro h0; exact h0.symm
end Go.Proofs.YtokgbcachcmeaaaGreatDoor
set_option linter.unusedSimpArgs false
set_option linter.unusedVariables false
namespace Go.Proofs.YtokgbcachcmeaaaGreatDoor
open Go.RowKit

set_option maxRecDepth 100000 in
set_option maxHeartbeats 1000000 in
theorem divide_any (b o c q x y n m : Nat) (w : World) (hn : n = Pq.szn 32 x) (hm : m = Pq.szn 32 y) (hm2 : 2 ≤ m) (hx : x < Pq.bp 32) (hy : y < Pq.bp 32) (hxy : y ≤ x) (hb : w.rangeAt b o (Pq.am 32 x)) (hc : w.rangeAt c q (Pq.am 32 y)) :
    Calls Tryz.prog 88 #[.pointer (some ⟨b, o, none⟩), .pointer (some ⟨c, q, none⟩)] w (Pq.Two w (x / y) (x % y)) := by
  have hn32 : n ≤ 32 := by rw [hn]; exact Pq.szn_le 32 x
  have hm32 : m ≤ 32 := by rw [hm]; exact Pq.szn_le 32 y
  have hxn : x < Pq.bp n := by rw [hn]; exact Pq.szn_lt' hx
  have hym : y < Pq.bp m := by rw [hm]; exact Pq.szn_lt' hy
  have hmn : m ≤ n := by
    have h1 := Pq.szn_ge (n := 32) (x := y) (by omega)
    have h2 := Pq.szn_gt hx (Nat.le_trans h1 hxy)
    omega
  have hwt : Pq.wd y (m - 1) ≠ 0 := by rw [hm]; exact Pq.szn_top 32 y (by omega)
  obtain ⟨k, hk⟩ : ∃ k, m = k + 2 := ⟨m - 2, by omega⟩
  obtain ⟨j, hj⟩ : ∃ j, j = k + 1 := ⟨_, rfl⟩
  have hmj : m = j + 1 := by omega
  have hnt : ∃ up, Lib.bitLen (Pq.wd y j) + up = 32 ∧ up < 32 ∧ y * 2 ^ up < Pq.bp m ∧ 2147483648 ≤ Pq.wd (y * 2 ^ up) j := by
    rw [hmj] at hym hwt ⊢
    exact Pq.norm_top hym hwt
  obtain ⟨up, hup1, hup, hVb, hVt⟩ := hnt
  obtain ⟨V, hV⟩ : ∃ V, V = y * 2 ^ up := ⟨_, rfl⟩
  rw [← hV] at hVb hVt
  obtain ⟨X0, hX0⟩ : ∃ X0, X0 = x * 2 ^ up := ⟨_, rfl⟩
  have hst : Pq.DI X0 V (n - j) X0 0 := by
    rw [hX0]; exact Pq.DI.start hxn hup (by omega) hVt (by rw [← hmj]; exact hVb)
  have hquo := Pq.quot_pow x y up
  rw [← hX0, ← hV] at hquo
  rw [← hquo.1, ← hquo.2]
  have hVpos : 0 < V := by
    rcases Nat.eq_zero_or_pos V with h0 | h0
    · rw [h0, Pq.wd_zero] at hVt; exact absurd hVt (by decide)
    · exact h0
  have htl := Pq.wd_lt y j
  have C1 := Lib.hid (hc j _ (Pq.am_get (x := y) (show j < 32 by omega)))
  obtain ⟨tw, htw⟩ : ∃ tw, tw = Pq.wd y j := ⟨_, rfl⟩
  rw [← htw] at hup1 htl C1
  have hlz : (32 : Int) - (Lib.bitLen tw : Int) = (up : Int) := by omega
  have HX := Lib.hid hx; have HY := Lib.hid hy; have HXN := Lib.hid hxn; have HYM := Lib.hid hym
  have HN := Lib.hid hn; have HM := Lib.hid hm; have HB := Lib.hid hb; have HC := Lib.hid hc
  have HLZ := Lib.hid hlz; have HV := Lib.hid hV; have HX0 := Lib.hid hX0; have HST := Lib.hid hst; have HVB := Lib.hid hVb; have HVT := Lib.hid hVt
  have HK := Lib.hid hk; have HJ := Lib.hid hj; have HMJ := Lib.hid hmj
  have ej : (m : Int) - 1 = (j : Int) := by omega
  have hj32 : (j : Int) < 32 := by omega
  clear hk hj hmj
  clear hx hy hxn hym hn hm hb hc hlz hV hX0 hst hVb hVt hwt hquo htw hup1 hxy
  have wj : IntKind.i64.wrap (j : Int) = (j : Int) := IntWalk.i64_in _ (by omega)
  go_enter Tryz.func88, Tryz.ntmps88
  go_upto_region 1 with fail
  go_upto_region 1 with fail
  apply wp_region_lit
  refine Pq.wpL_step (by rfl) ?_
  apply Exists.intro
  apply Exists.intro
  refine ⟨?_, ?_⟩
  · go_simp; first | done | with_reducible rfl | exact ⟨rfl, rfl⟩
  simp only [Act.put, List.setIfInBounds_toArray, List.set_cons_zero, List.set_cons_succ]
  refine Pq.wpL_call (by rfl) cf_size (size_any b o x n HN.out _ HB.out) rfl rfl ?_; rintro e w1 ⟨rfl, rfl⟩; refine ⟨_, rfl, ?_⟩
  simp only [Act.put, List.setIfInBounds_toArray, List.set_cons_zero, List.set_cons_succ]
  refine Pq.wpL_step (by rfl) ?_
  apply Exists.intro
  apply Exists.intro
  refine ⟨?_, ?_⟩
  · go_simp; first | done | with_reducible rfl | exact ⟨rfl, rfl⟩
  simp only [Act.put, List.setIfInBounds_toArray, List.set_cons_zero, List.set_cons_succ]
  refine Pq.wpL_call (by rfl) cf_size (size_any c q y m HM.out _ HC.out) rfl rfl ?_; rintro e w1 ⟨rfl, rfl⟩; refine ⟨_, rfl, ?_⟩
  simp only [Act.put, List.setIfInBounds_toArray, List.set_cons_zero, List.set_cons_succ]
  iterate 2
    refine Pq.wpL_step (by rfl) ?_
    apply Exists.intro
    apply Exists.intro
    refine ⟨?_, ?_⟩
    · go_simp; first | done | with_reducible rfl | exact ⟨rfl, rfl⟩
    simp only [Act.put, List.setIfInBounds_toArray, List.set_cons_zero, List.set_cons_succ]
  refine Pq.wpL_nil ?_
  go_upto_region 2 with fail
  go_upto_region 2 with fail
  apply wp_region_lit
  iterate 5
    refine Pq.wpL_step (by rfl) ?_
    apply Exists.intro
    apply Exists.intro
    refine ⟨?_, ?_⟩
    · go_simp; first | done | with_reducible rfl | exact ⟨rfl, rfl⟩
    simp only [Act.put, List.setIfInBounds_toArray, List.set_cons_zero, List.set_cons_succ]
  refine Pq.wpL_cell ⟨c, q + j, none⟩ _ C1.out (by rfl) _ _ rfl rfl _ u_u32 rfl ?_
  simp only [Act.put, List.setIfInBounds_toArray, List.set_cons_zero, List.set_cons_succ]
  refine Pq.wpL_call (by rfl) cf_lz32 (Tryz.bits_LeadingZeros32 (tw : Int) _ (by omega) (by omega)) rfl rfl ?_; rintro e w1 ⟨rfl, hw1⟩; obtain rfl := hw1.symm; refine ⟨_, rfl, ?_⟩; rw [Int.toNat_natCast, HLZ.out]
  simp only [Act.put, List.setIfInBounds_toArray, List.set_cons_zero, List.set_cons_succ]
  refine Pq.wpL_step (by rfl) ?_
  apply Exists.intro
  apply Exists.intro
  refine ⟨?_, ?_⟩
  · go_simp; first | done | with_reducible rfl | exact ⟨rfl, rfl⟩
  simp only [Act.put, List.setIfInBounds_toArray, List.set_cons_zero, List.set_cons_succ]
  refine Pq.wpL_nil ?_
  clear ej wj
  go_upto_region 3 with fail
  refine Pq.wp_region_grown none [(0, true), (1, true), (2, true), (3, true), (4, true), (6, true), (7, true), (8, true), (9, true), (10, true), (12, true), (5, false), (11, false), (13, true), (14, true), (15, true)] (by kernel_rfl) (by kernel_rfl) (fun _ _ d _ _ h => by cases d <;> exact h) (fun hS => ?_)
  simp only [Pq.pick, List.filterMap_cons, List.filterMap_nil, List.getElem?_cons_zero, List.getElem?_cons_succ, Option.map_some]
  iterate 3
    refine Pq.wpO_step (by rfl) ?_
    apply Exists.intro
    refine ⟨fun w' hw' => ?_, ?_⟩
    · go_simp; first | done | with_reducible rfl | exact ⟨rfl, rfl⟩
    simp only [Act.put, List.setIfInBounds_toArray, List.set_cons_zero, List.set_cons_succ]
  refine Pq.wpO_slice _ (by rfl) _ _ _ _ rfl _ rfl none _ rfl rfl (sl_arr b o n hn32) ?_
  simp only [Act.put, List.setIfInBounds_toArray, List.set_cons_zero, List.set_cons_succ]
  iterate 4
    refine Pq.wpO_step (by rfl) ?_
    apply Exists.intro
    refine ⟨fun w' hw' => ?_, ?_⟩
    · go_simp; first | done | with_reducible rfl | exact ⟨rfl, rfl⟩
    simp only [Act.put, List.setIfInBounds_toArray, List.set_cons_zero, List.set_cons_succ]
  refine Pq.wpO_slice _ (by rfl) _ _ _ _ rfl _ rfl none _ rfl rfl (sl_arr c q m hm32) ?_
  simp only [Act.put, List.setIfInBounds_toArray, List.set_cons_zero, List.set_cons_succ]
  iterate 2
    refine Pq.wpO_step (by rfl) ?_
    apply Exists.intro
    refine ⟨fun w' hw' => ?_, ?_⟩
    · go_simp; first | done | with_reducible rfl | exact ⟨rfl, rfl⟩
    simp only [Act.put, List.setIfInBounds_toArray, List.set_cons_zero, List.set_cons_succ]
  refine Pq.wpO_call (by rfl) cf_shifted (shifted_any b o n 32 x up _ (by omega) HXN.out hup (Pq.am_prefix hn32 (Pq.dr_range HB.out))) rfl rfl ?_; rintro e w2 ⟨gu, rfl, hu2, hb2, hgu⟩; refine ⟨_, rfl, Pq.grown_then hS hb2, ?_⟩
  simp only [Act.put, List.setIfInBounds_toArray, List.set_cons_zero, List.set_cons_succ]
  refine Pq.wpO_call (by rfl) cf_shifted (shifted_any c q m 32 y up _ (by omega) HYM.out hup (Pq.am_prefix hm32 (Pq.range_in (Pq.dr_range HC.out) hb2))) rfl rfl ?_; rintro e w3 ⟨gv, rfl, hv3, hb3, hgv⟩; refine ⟨_, rfl, Pq.grown_then (Pq.grown_then hS hb2) hb3, ?_⟩
  simp only [Act.put, List.setIfInBounds_toArray, List.set_cons_zero, List.set_cons_succ]
  refine Pq.wpO_slice _ (by rfl) _ _ _ _ rfl _ rfl none _ rfl rfl (sl_to gv 0 (m + 1) (m + 1) m (by omega)) ?_
  simp only [Act.put, List.setIfInBounds_toArray, List.set_cons_zero, List.set_cons_succ]
  iterate 2
    refine Pq.wpO_step (by rfl) ?_
    apply Exists.intro
    refine ⟨fun w' hw' => ?_, ?_⟩
    · go_simp; first | done | with_reducible rfl | exact ⟨rfl, rfl⟩
    simp only [Act.put, List.setIfInBounds_toArray, List.set_cons_zero, List.set_cons_succ]
  refine Pq.wpO_nil ?_
  have hgu2 : gu < w2.heap.size := (Array.getElem?_eq_some_iff.1 hu2).1
  have hgv3 : gv < w3.heap.size := (Array.getElem?_eq_some_iff.1 hv3).1
  have hu3 := Pq.keep_block hu2 hb3
  have hbel := Pq.below_next (Pq.below_then (Pq.below_drew (Below.refl w.heap.size w)) (Nat.le_refl _) hb2) (Nat.le_refl _) hb3
  have hsz := hb2.size
  have hsz3 := hb3.size
  rw [← HX0.out] at hu3
  rw [← HV.out] at hv3
  obtain ⟨gq, hgq⟩ : ∃ gq, gq = w3.heap.size := ⟨_, rfl⟩
  have HGQ := Lib.hid hgq
  have hgu' : w.heap.size ≤ gu := hgu
  have hsz' : w.heap.size ≤ w2.heap.size := hsz
  have d1 : gu ≠ gv := by omega
  have d2 : gu ≠ gq := by omega
  have d3 : gu ≠ gq + 1 := by omega
  have d4 : gv ≠ gq := by omega
  have d5 : gv ≠ gq + 1 := by omega
  have e1 : w.heap.size ≤ gq := by omega
  have hgu0 : w.heap.size ≤ gu := hgu'
  have hgq0 : w.heap.size ≤ gq := e1
  clear hsz hsz3 hsz' hgu2 hgv3 hgv hgu hu2 hb2 hb3 hgq hS e1
  go_upto_region 4 with fail
  go_upto_region 4 with fail
  apply wp_region_lit
  refine Pq.wpL_alloc gq HGQ.out.symm (by rfl) _ rfl _ al_am ?_
  simp only [Act.put, List.setIfInBounds_toArray, List.set_cons_zero, List.set_cons_succ]
  refine Pq.wpL_alloc (gq + 1) (by simp [HGQ.out]) (by rfl) _ rfl _ al_am ?_
  simp only [Act.put, List.setIfInBounds_toArray, List.set_cons_zero, List.set_cons_succ]
  refine Pq.wpL_nil ?_
  have HU := Lib.hid (Pq.al_keep (Pq.al_keep hu3 (.cells (Pq.am 32 0).toArray 111)) (.cells (Pq.am 32 0).toArray 111))
  have HW := Lib.hid (Pq.al_keep (Pq.al_keep hv3 (.cells (Pq.am 32 0).toArray 111)) (.cells (Pq.am 32 0).toArray 111))
  have HQ := Lib.hid (Pq.al_keep (Pq.al_block w3 (.cells (Pq.am 32 0).toArray 111) gq HGQ.out) (.cells (Pq.am 32 0).toArray 111))
  have HR := Lib.hid (Pq.al_block (w3.alloc (.cells (Pq.am 32 0).toArray 111)) (.cells (Pq.am 32 0).toArray 111) (gq + 1) (by simp [HGQ.out]))
  have HBEL := Lib.hid (Pq.below_alloc (Pq.below_alloc hbel (Nat.le_refl _) (.cells (Pq.am 32 0).toArray 111)) (Nat.le_refl _) (.cells (Pq.am 32 0).toArray 111))
  clear hu3 hv3 hbel HGQ
  generalize (w3.alloc (.cells (Pq.am 32 0).toArray 111)).alloc (.cells (Pq.am 32 0).toArray 111) = w5 at *
  obtain ⟨n1, hn1⟩ : ∃ n1, n1 = n + 1 := ⟨_, rfl⟩
  obtain ⟨d0, hd0⟩ : ∃ d0, d0 = n - m := ⟨_, rfl⟩
  rw [← hn1] at HU
  rw [← hn1]
  have en : (n : Int) - (m : Int) = (d0 : Int) := by omega
  have wn : IntKind.i64.wrap (d0 : Int) = (d0 : Int) := IntWalk.i64_in _ (by omega)
  have HN1 := Lib.hid hn1; have HD0 := Lib.hid hd0
  have hst2 : Pq.DI X0 V (d0 + 1) X0 0 := by have := HST.out; rwa [show n - j = d0 + 1 from by have := HMJ.out; omega] at this
  have HST2 := Lib.hid hst2
  clear hn1 hd0 hst2 HST
  go_upto_region 5 with fail
  go_upto_region 5 with fail
  apply wp_region_lit
  iterate 4
    refine Pq.wpL_step (by rfl) ?_
    apply Exists.intro
    apply Exists.intro
    refine ⟨?_, ?_⟩
    · go_simp; first | done | with_reducible rfl | exact ⟨rfl, rfl⟩
    simp only [Act.put, List.setIfInBounds_toArray, List.set_cons_zero, List.set_cons_succ]
  refine Pq.wpL_nil ?_
  clear en wn
  go_wp2
  go_loopw [13] (fun i wr => ∃ (kk : Nat) (z : Int) (U Q : Nat), i = .int .i64 z ∧ Hid (z + 1 = kk) ∧ kk ≤ d0 + 1 ∧ Hid (Pq.DI X0 V kk U Q) ∧ Hid (wr.heap[gu]? = some (.cells (Pq.am n1 U).toArray 23 (0, 0))) ∧ Hid (wr.heap[gv]? = some (.cells (Pq.am (m + 1) V).toArray 23 (0, 0))) ∧ Hid (wr.heap[gq]? = some (.cells (Pq.am 32 Q).toArray 111 (0, 0))) ∧ Hid (wr.heap[gq + 1]? = some (.cells (Pq.am 32 0).toArray 111 (0, 0))) ∧ Hid (Below w.heap.size w wr)) (fun i _ => (intOf i + 1).toNat)
  case atStart => exact ⟨d0 + 1, (d0 : Int), X0, 0, rfl, Lib.hid (by omega), by omega, HST2, HU, HW, HQ, HR, HBEL⟩
  case round =>
    obtain ⟨kk, z, U, Q, rfl, hz, hkk, hdi, hu, hv, hq, hr, hbl⟩ := hrel
    rcases kk with _ | i
    · obtain rfl : z = -1 := by have := hz.out; omega
      clear hz
      obtain ⟨hQ, hU⟩ := hdi.out.done
      have hUl : U < V := by rw [hU]; exact Nat.mod_lt _ hVpos
      have hRl : U / 2 ^ up < Pq.bp m := Nat.lt_of_le_of_lt (Nat.div_le_self _ _) (Nat.lt_trans hUl HVB.out)
      obtain ⟨R, hR⟩ : ∃ R, R = U / 2 ^ up := ⟨_, rfl⟩
      rw [← hR] at hRl
      have HQ2 := Lib.hid hQ; have HU2 := Lib.hid hU
      have HRE := Lib.hid hR; have HRL := Lib.hid hRl
      have hr0 : wr.heap[gq + 1]? = some (.cells (Pq.am 32 (Pq.lo R 0)).toArray 111 (0, 0)) := by rw [Pq.lo_zero]; exact hr.out
      have HR0 := Lib.hid hr0
      clear hQ hU hUl hR hRl hr0 hdi hv hr
      go_wp2
      go_loopw [86] (fun i wr2 => ∃ jj : Nat, i = .int .i64 jj ∧ jj ≤ m ∧ Hid (wr2.heap[gu]? = some (.cells (Pq.am n1 U).toArray 23 (0, 0))) ∧ Hid (wr2.heap[gq]? = some (.cells (Pq.am 32 Q).toArray 111 (0, 0))) ∧ Hid (wr2.heap[gq + 1]? = some (.cells (Pq.am 32 (Pq.lo R jj)).toArray 111 (0, 0))) ∧ Hid (Below w.heap.size w wr2)) (fun i _ => m - (intOf i).toNat)
      case atStart => exact ⟨0, rfl, by omega, hu, hq, HR0, hbl⟩
      case round =>
        obtain ⟨jj, rfl, hjj, hu2, hq2, hr2, hbl2⟩ := hrel
        by_cases hlt : jj < m
        · have hlt2 : (jj : Int) < m := by omega
          obtain ⟨j1, hj1⟩ : ∃ j1, j1 = jj + 1 := ⟨_, rfl⟩
          have hn1' := HN1.out
          have p1 : j1 < n1 := by omega
          have p2 : jj < n1 := by omega
          have p3 : (jj : Int) < 32 := by omega
          have e1 : (jj : Int) + 1 = (j1 : Int) := by omega
          have w1 : IntKind.i64.wrap (j1 : Int) = (j1 : Int) := IntWalk.i64_in _ (by omega)
          have ca : wr.drew.cell? ⟨gu, j1, none⟩ = some (.int .u32 (Pq.wd U j1 : Nat)) := Pq.row_cell (Pq.dr_block hu2.out) p1
          have cc : wr.drew.cell? ⟨gu, jj, none⟩ = some (.int .u32 (Pq.wd U jj : Nat)) := Pq.row_cell (Pq.dr_block hu2.out) p2
          have hstep := Pq.shr_step (U := U) (i := jj) hup
          rw [← HRE.out, ← hj1] at hstep
          have hal := Pq.wd_lt U j1
          have hcl := Pq.wd_lt U jj
          obtain ⟨a, ha⟩ : ∃ a, a = Pq.wd U j1 := ⟨_, rfl⟩
          obtain ⟨c0, hc0⟩ : ∃ c0, c0 = Pq.wd U jj := ⟨_, rfl⟩
          rw [← ha] at ca hstep hal
          rw [← hc0] at cc hstep hcl
          obtain ⟨z, hz⟩ : ∃ z, z = a * 4294967296 + c0 := ⟨_, rfl⟩
          have hzl : z < 18446744073709551616 := by omega
          have hor : bits .or .u64 ((a : Int) * 4294967296) (c0 : Int) = (z : Int) := by rw [hz]; exact Pq.or_hl hal hcl
          rw [← hz] at hstep
          obtain ⟨sv, hsv⟩ : ∃ sv, sv = z / 2 ^ up := ⟨_, rfl⟩
          rw [← hsv] at hstep
          have hsvl : sv < 18446744073709551616 := by rw [hsv]; exact Nat.lt_of_le_of_lt (Nat.div_le_self _ _) hzl
          have hsh : (z : Int) / 2 ^ up = (sv : Int) := by rw [hsv]; simp
          obtain ⟨r, hr⟩ : ∃ r, r = Pq.wd R jj := ⟨_, rfl⟩
          have hand : bits .and .u64 (sv : Int) 4294967295 = (r : Int) := by rw [Pq.and_lo hsvl, hr, hstep]
          have hrl : r < 4294967296 := by rw [hr]; exact Pq.wd_lt _ _
          have wa : IntKind.u64.wrap (a : Int) = (a : Int) := IntWalk.u64_in _ (by omega)
          have wc : IntKind.u64.wrap (c0 : Int) = (c0 : Int) := IntWalk.u64_in _ (by omega)
          have wsh : IntKind.u64.wrap ((a : Int) * 4294967296) = (a : Int) * 4294967296 := IntWalk.u64_in _ (by omega)
          have wr1 : IntKind.u32.wrap (r : Int) = (r : Int) := IntWalk.u32_in _ (by omega)
          have hupI : (up : Int) ≤ 64 := by omega
          have CA := Lib.hid ca; have CC := Lib.hid cc; have HRR := Lib.hid hr; have HJ1 := Lib.hid hj1
          clear ca cc hstep ha hc0 hz hsv hr hj1 hn1'
          go_upto_region 15 with fail
          go_upto_region 15 with fail
          apply wp_region_lit
          iterate 2
            refine Pq.wpL_step (by rfl) ?_
            apply Exists.intro
            apply Exists.intro
            refine ⟨?_, ?_⟩
            · go_simp; first | done | with_reducible rfl | exact ⟨rfl, rfl⟩
            simp only [Act.put, List.setIfInBounds_toArray, List.set_cons_zero, List.set_cons_succ]
          refine Pq.wpL_nil ?_
          go_upto_region 16 with fail
          refine Pq.wp_region_grown (some (gq + 1)) [(0, true), (1, true), (2, true), (3, true), (4, true), (5, true), (6, true), (7, true), (8, true), (9, true), (10, true), (11, true), (12, true), (13, true), (14, true), (15, true), (16, true), (17, true), (18, true), (19, false)] (by kernel_rfl) (by kernel_rfl) (fun _ _ d _ _ h => by cases d <;> exact h) (fun hS => ?_)
          simp only [Pq.pick, List.filterMap_cons, List.filterMap_nil, List.getElem?_cons_zero, List.getElem?_cons_succ, Option.map_some]
          iterate 5
            refine Pq.wpO_step (by rfl) ?_
            apply Exists.intro
            refine ⟨fun w' hw' => ?_, ?_⟩
            · go_simp; first | done | with_reducible rfl | exact ⟨rfl, rfl⟩
            simp only [Act.put, List.setIfInBounds_toArray, List.set_cons_zero, List.set_cons_succ]
          refine Pq.wpO_cell ⟨gu, j1, none⟩ _ CA.out (by simp; omega) (by rfl) _ _ rfl rfl _ u_u32 rfl ?_
          simp only [Act.put, List.setIfInBounds_toArray, List.set_cons_zero, List.set_cons_succ]
          iterate 5
            refine Pq.wpO_step (by rfl) ?_
            apply Exists.intro
            refine ⟨fun w' hw' => ?_, ?_⟩
            · go_simp; first | done | with_reducible rfl | exact ⟨rfl, rfl⟩
            simp only [Act.put, List.setIfInBounds_toArray, List.set_cons_zero, List.set_cons_succ]
          refine Pq.wpO_cell ⟨gu, jj, none⟩ _ CC.out (by simp; omega) (by rfl) _ _ rfl rfl _ u_u32 rfl ?_
          simp only [Act.put, List.setIfInBounds_toArray, List.set_cons_zero, List.set_cons_succ]
          iterate 7
            refine Pq.wpO_step (by rfl) ?_
            apply Exists.intro
            refine ⟨fun w' hw' => ?_, ?_⟩
            · go_simp; first | done | with_reducible rfl | exact ⟨rfl, rfl⟩
            simp only [Act.put, List.setIfInBounds_toArray, List.set_cons_zero, List.set_cons_succ]
          refine Pq.wpO_put (k := jj) (.int .u32 (r : Int)) (Pq.dr_block hr2.out) (by rw [Pq.am_length]; omega) (by rfl) 23 _ _ rfl rfl rfl rfl rfl (by kernel_rfl) (Pq.grown_setRow hS) ?_
          try simp only [Act.put, List.setIfInBounds_toArray, List.set_cons_zero, List.set_cons_succ]
          refine Pq.wpO_nil ?_
          clear e1 w1 hor hsh hand wa wc wsh wr1
          go_wp2
          go_roundw
          case rel => exact ⟨jj + 1, by go_num, by omega, Lib.hid (Pq.keep_row (Pq.dr_block hu2.out) d3), Lib.hid (Pq.keep_row (Pq.dr_block hq2.out) (by omega)), Lib.hid (by
            have e := Pq.setRow_at (cs := ((Pq.am 32 (Pq.lo R jj)).set jj (.int .u32 (r : Int))).toArray) (Pq.dr_block hr2.out)
            rw [Pq.am_set hrl (by omega), HRR.out, Pq.st_lo] at e
            rw [Pq.am_set hrl (by omega), HRR.out, Pq.st_lo]; exact e), Lib.hid (Pq.below_setRow (Pq.below_drew hbl2.out) (by omega))⟩
          case measure => simp [intOf]; omega
        · obtain rfl : jj = m := by omega
          go_wp2
          go_ret2
          rw [← HQ2.out, ← HU2.out, ← HRE.out]
          refine ⟨gq, gq + 1, rfl, Pq.range_block hq2.out, ?_, hbl2.out, hgq0, by omega⟩
          have := hr2.out
          rw [Pq.lo_self HRL.out] at this
          exact Pq.range_block this
    · obtain rfl : z = (i : Int) := by have := hz.out; omega
      clear hz
      have hXl := hdi.out.head
      have hVk : V < Pq.bp (k + 2) := by rw [← HK.out]; exact HVB.out
      have hvt : 2147483648 ≤ Pq.wd V (k + 1) := by rw [← HJ.out]; exact HVT.out
      obtain ⟨X, hXe⟩ : ∃ X, X = U / Pq.bp i := ⟨_, rfl⟩
      rw [← hXe] at hXl
      have hgw := Pq.gw_bounds hXl hVk hvt
      have htop := Pq.gw_top hXl hVk
      have hfit : X < Pq.bp (m + 1) := by rw [HK.out]; exact Pq.gw_fit hXl hVk
      have hqdl : X / V < 4294967296 := (Nat.div_lt_iff_lt_mul hVpos).2 (by rw [Nat.mul_comm]; exact hXl)
      obtain ⟨u0, hu0⟩ : ∃ u0, u0 = Pq.wd X k := ⟨_, rfl⟩
      obtain ⟨u1, hu1⟩ : ∃ u1, u1 = Pq.wd X (k + 1) := ⟨_, rfl⟩
      obtain ⟨u2, hu2⟩ : ∃ u2, u2 = Pq.wd X (k + 2) := ⟨_, rfl⟩
      obtain ⟨v0, hv0⟩ : ∃ v0, v0 = Pq.wd V k := ⟨_, rfl⟩
      obtain ⟨v1, hv1⟩ : ∃ v1, v1 = Pq.wd V (k + 1) := ⟨_, rfl⟩
      have hi1 : i ≤ n - m := by have := HD0.out; omega
      have hk3 : k + 2 ≤ n := by have := HK.out; omega
      have hkm := HK.out
      have hn1' := HN1.out
      obtain ⟨s1, hs1⟩ : ∃ s1, s1 = i + m := ⟨_, rfl⟩
      obtain ⟨s2, hs2⟩ : ∃ s2, s2 = i + k := ⟨_, rfl⟩
      obtain ⟨s3, hs3⟩ : ∃ s3, s3 = i + m + 1 := ⟨_, rfl⟩
      have cu0 : wr.drew.cell? ⟨gu, s2, none⟩ = some (.int .u32 u0) := by
        rw [hu0, hXe, Pq.wd_div, ← hs2]; exact Pq.row_cell (Pq.dr_block hu.out) (by omega)
      have cu1 : wr.drew.cell? ⟨gu, s2 + 1, none⟩ = some (.int .u32 u1) := by
        rw [hu1, hXe, Pq.wd_div, show i + (k + 1) = s2 + 1 from by omega]; exact Pq.row_cell (Pq.dr_block hu.out) (by omega)
      have cu2 : wr.drew.cell? ⟨gu, s2 + 2, none⟩ = some (.int .u32 u2) := by
        rw [hu2, hXe, Pq.wd_div, show i + (k + 2) = s2 + 2 from by omega]; exact Pq.row_cell (Pq.dr_block hu.out) (by omega)
      have cv0 : wr.drew.cell? ⟨gv, k, none⟩ = some (.int .u32 v0) := by
        rw [hv0]; exact Pq.row_cell (Pq.dr_block hv.out) (by omega)
      have cv1 : wr.drew.cell? ⟨gv, k + 1, none⟩ = some (.int .u32 v1) := by
        rw [hv1]; exact Pq.row_cell (Pq.dr_block hv.out) (by omega)
      rw [← hu0, ← hu1, ← hu2, ← hv0, ← hv1] at hgw
      rw [← hu2, ← hv1] at htop
      rw [← hv1] at hvt
      have hcall := guess_any gu s2 (n1 - s2) (n1 - s2) gv k (m - k) (m + 1 - k) u0 u1 u2 v0 v1 wr.drew (by rw [hu0]; exact Pq.wd_lt _ _) (by rw [hu1]; exact Pq.wd_lt _ _) htop (by rw [hv0]; exact Pq.wd_lt _ _) (by rw [hv1]; exact Pq.wd_lt _ _) hvt (by omega) (by omega) cu0 cu1 cu2 cv0 cv1
      have hgl : Pq.gw u0 u1 u2 v0 v1 < 4294967296 := Nat.lt_of_le_of_lt (Nat.min_le_right _ _) (by decide)
      obtain ⟨g, hg⟩ : ∃ g, g = Pq.gw u0 u1 u2 v0 v1 := ⟨_, rfl⟩
      rw [← hg] at hcall hgw hgl
      have HCALL := Lib.hid hcall; have HGW := Lib.hid hgw; have HFIT := Lib.hid hfit; have HXE := Lib.hid hXe
      clear hcall hgw hfit hXl hVk hvt htop cu0 cu1 cu2 cv0 cv1 hu0 hu1 hu2 hv0 hv1 hg
      have HS3 := Lib.hid hs3
      have e1 : (i : Int) + (m : Int) = (s1 : Int) := by omega
      have e2 : (s1 : Int) - 2 = (s2 : Int) := by omega
      have e3 : (m : Int) - 2 = (k : Int) := by omega
      have e4 : (s1 : Int) + 1 = (s3 : Int) := by omega
      have w1 : IntKind.i64.wrap (s1 : Int) = (s1 : Int) := IntWalk.i64_in _ (by omega)
      have w2 : IntKind.i64.wrap (s2 : Int) = (s2 : Int) := IntWalk.i64_in _ (by omega)
      have w3 : IntKind.i64.wrap (k : Int) = (k : Int) := IntWalk.i64_in _ (by omega)
      have w4 : IntKind.i64.wrap (s3 : Int) = (s3 : Int) := IntWalk.i64_in _ (by omega)
      have p1 : s2 ≤ n1 := by omega
      have p2 : s2 < n1 := by omega
      have p3 : k ≤ m := by omega
      have p4 : k < m + 1 := by omega
      have p5 : s3 ≤ n1 := by omega
      have p6 : i < n1 := by omega
      have p7 : i ≤ s3 := by omega
      have p8 : i < 32 := by omega
      have p9 : (i : Int) < 32 := by omega
      have hkz : n1 = i + ((m + 1) + (n1 - s3)) := by omega
      have HKZ := Lib.hid hkz
      have hsl : ∀ w, (Instr.sliceAt 84 (.slice (some ⟨gu, 0, none⟩) n1 n1) (some (.int .i64 (i : Int))) (some (.int .i64 (s3 : Int))) none).run Tryz.prog w = .ok (.slice (some ⟨gu, i, none⟩) (m + 1) (n1 - i)) w := by
        intro w
        have := sl_mid gu n1 n1 i s3 p7 p5 p6 w
        rwa [show s3 - i = m + 1 from by omega] at this
      have HSL := Lib.hid hsl
      clear hs1 hs2 hs3 hkm hn1' hk3 hi1 hkz hsl
      go_upto_region 8 with fail
      refine Pq.wp_region_grown none [(0, true), (1, true), (2, true), (3, true), (4, true), (5, true), (6, true), (7, true), (8, true), (9, true), (10, false), (11, true)] (by kernel_rfl) (by kernel_rfl) (fun _ _ d _ _ h => by cases d <;> exact h) (fun hS => ?_)
      simp only [Pq.pick, List.filterMap_cons, List.filterMap_nil, List.getElem?_cons_zero, List.getElem?_cons_succ, Option.map_some]
      iterate 5
        refine Pq.wpO_step (by rfl) ?_
        apply Exists.intro
        refine ⟨fun w' hw' => ?_, ?_⟩
        · go_simp; first | done | with_reducible rfl | exact ⟨rfl, rfl⟩
        simp only [Act.put, List.setIfInBounds_toArray, List.set_cons_zero, List.set_cons_succ]
      refine Pq.wpO_slice _ (by rfl) _ _ _ _ rfl _ rfl _ none rfl rfl (sl_from gu n1 n1 s2 p1 p2) ?_
      simp only [Act.put, List.setIfInBounds_toArray, List.set_cons_zero, List.set_cons_succ]
      iterate 3
        refine Pq.wpO_step (by rfl) ?_
        apply Exists.intro
        refine ⟨fun w' hw' => ?_, ?_⟩
        · go_simp; first | done | with_reducible rfl | exact ⟨rfl, rfl⟩
        simp only [Act.put, List.setIfInBounds_toArray, List.set_cons_zero, List.set_cons_succ]
      refine Pq.wpO_slice _ (by rfl) _ _ _ _ rfl _ rfl _ none rfl rfl (sl_from gv m (m + 1) k p3 p4) ?_
      simp only [Act.put, List.setIfInBounds_toArray, List.set_cons_zero, List.set_cons_succ]
      refine Pq.wpO_ret (by rfl) cf_guess HCALL.out rfl rfl hS ?_; intro w6 hb6 hS6
      simp only [Act.put, List.setIfInBounds_toArray, List.set_cons_zero, List.set_cons_succ]
      refine Pq.wpO_step (by rfl) ?_
      apply Exists.intro
      refine ⟨fun w' hw' => ?_, ?_⟩
      · go_simp; first | done | with_reducible rfl | exact ⟨rfl, rfl⟩
      simp only [Act.put, List.setIfInBounds_toArray, List.set_cons_zero, List.set_cons_succ]
      refine Pq.wpO_nil ?_
      have hu6 := Lib.hid (Pq.keep_block (Pq.dr_block hu.out) hb6)
      have hv6 := Lib.hid (Pq.keep_block (Pq.dr_block hv.out) hb6)
      have hq6 := Lib.hid (Pq.keep_block (Pq.dr_block hq.out) hb6)
      have hr6 := Lib.hid (Pq.keep_block (Pq.dr_block hr.out) hb6)
      have hbl6 := Lib.hid (Pq.below_next (Pq.below_drew hbl.out) (Nat.le_refl _) hb6)
      have hrow6 : w6.heap[gu]? = some (.cells (Pq.am i U ++ (Pq.am (m + 1) X ++ Pq.am (n1 - s3) 0)).toArray 23 (0, 0)) := by
        rw [HXE.out, ← Pq.row_open HKZ.out (by rw [← HXE.out]; exact HFIT.out)]; exact hu6.out
      have HROW6 := Lib.hid hrow6
      clear hu hv hq hr hbl hb6 hS hS6 hrow6 hu6 HCALL
      go_upto_region 9 with fail
      go_upto_region 9 with fail
      apply wp_region_lit
      iterate 6
        refine Pq.wpL_step (by rfl) ?_
        apply Exists.intro
        apply Exists.intro
        refine ⟨?_, ?_⟩
        · go_simp; first | done | with_reducible rfl | exact ⟨rfl, rfl⟩
        simp only [Act.put, List.setIfInBounds_toArray, List.set_cons_zero, List.set_cons_succ]
      refine Pq.wpL_slice _ (by rfl) _ _ _ _ rfl _ rfl _ _ rfl rfl HSL.out ?_
      simp only [Act.put, List.setIfInBounds_toArray, List.set_cons_zero, List.set_cons_succ]
      iterate 2
        refine Pq.wpL_step (by rfl) ?_
        apply Exists.intro
        apply Exists.intro
        refine ⟨?_, ?_⟩
        · go_simp; first | done | with_reducible rfl | exact ⟨rfl, rfl⟩
        simp only [Act.put, List.setIfInBounds_toArray, List.set_cons_zero, List.set_cons_succ]
      refine Pq.wpL_call (by rfl) cf_takes (takes_any gu i gv 0 m (n1 - i) (m + 1) X V g (Pq.am i U) (Pq.am (n1 - s3) 0) _ (by omega) HFIT.out HVB.out hgl (Pq.am_length _ _) d1.symm HROW6.out (Pq.am_prefix' (Pq.range_block hv6.out))) rfl rfl ?_; rintro e w7 ⟨Z, bf, hZ, hbf, hE, rfl, hrow7, hgr7⟩; refine ⟨_, rfl, ?_⟩; obtain ⟨ok, hok⟩ : ∃ ok, ok = (((bf : Nat) : Int) == 0) := ⟨_, rfl⟩; rw [← hok]
      simp only [Act.put, List.setIfInBounds_toArray, List.set_cons_zero, List.set_cons_succ]
      refine Pq.wpL_step (by rfl) ?_
      apply Exists.intro
      apply Exists.intro
      refine ⟨?_, ?_⟩
      · go_simp; first | done | with_reducible rfl | exact ⟨rfl, rfl⟩
      simp only [Act.put, List.setIfInBounds_toArray, List.set_cons_zero, List.set_cons_succ]
      refine Pq.wpL_nil ?_
      have hv7 := Lib.hid (Pq.block_by hv6.out hgr7 (by simp [d1]))
      have hq7 := Lib.hid (Pq.block_by hq6.out hgr7 (by simp [d2]))
      have hr7 := Lib.hid (Pq.block_by hr6.out hgr7 (by simp [d3]))
      have hbl7 := Lib.hid (Pq.below_mid hbl6.out hgr7 (Nat.le_refl _) hgu0)
      clear hv6 hq6 hr6 hbl6 HROW6 hgr7
      have hvm : V < Pq.bp (m + 1) := Nat.lt_of_lt_of_le HVB.out (Pq.bp_mono (by omega))
      have HVM := Lib.hid hvm; clear hvm
      have e0 : w.heap.size ≤ gq := hgq0
      rcases (show bf = 0 ∨ bf = 1 from by omega) with rfl | rfl
      · obtain rfl : ok = true := by rw [hok]; rfl
        have ht := Pq.take_ok HGW.out.1 HGW.out.2 hE hVpos
        obtain ⟨rfl, rfl⟩ := ht
        have HU8 := Lib.hid hrow7; have HV8 := hv7; have HQ8 := hq7; have HR8 := hr7; have HBL8 := hbl7
        clear hok hE hrow7 hZ hbf e1 e2 e3 e4 w1 w2 w3 w4
        obtain ⟨qd, hqd⟩ : ∃ qd, qd = X / V := ⟨_, rfl⟩
        rw [← hqd] at hqdl
        have wq : IntKind.u32.wrap (qd : Int) = (qd : Int) := IntWalk.u32_in _ (by omega)
        rw [← hqd]
        have HQD := Lib.hid hqd; clear hqd
        go_upto_region 12 with fail
        go_upto_region 12 with fail
        apply wp_region_lit
        iterate 4
          refine Pq.wpL_step (by rfl) ?_
          apply Exists.intro
          apply Exists.intro
          refine ⟨?_, ?_⟩
          · go_simp; first | done | with_reducible rfl | exact ⟨rfl, rfl⟩
          simp only [Act.put, List.setIfInBounds_toArray, List.set_cons_zero, List.set_cons_succ]
        refine Pq.wpL_put (k := i) (.int .u32 (qd : Int)) HQ8.out (by rw [Pq.am_length]; omega) (by rfl) 23 _ _ rfl rfl rfl rfl rfl (by kernel_rfl) ?_
        try simp only [Act.put, List.setIfInBounds_toArray, List.set_cons_zero, List.set_cons_succ]
        refine Pq.wpL_nil ?_
        go_wp2
        go_roundw
        case rel => exact ⟨i, (i : Int) - 1, Pq.lo U i + Pq.bp i * (X % V), Pq.st Q i qd, rfl, Lib.hid (by omega), by omega, Lib.hid (by rw [HQD.out, HXE.out]; exact hdi.out.next hVpos), Lib.hid ((Pq.keep_row HU8.out d2).trans (by rw [Pq.row_close HKZ.out (Nat.lt_trans (Nat.mod_lt _ hVpos) HVM.out)])), Lib.hid (Pq.keep_row HV8.out d4), Lib.hid (by
          have e := Pq.setRow_at (cs := ((Pq.am 32 Q).set i (.int .u32 (qd : Int))).toArray) HQ8.out
          rw [Pq.am_set hqdl p8] at e
          rw [Pq.am_set hqdl p8]; exact e), Lib.hid (Pq.keep_row HR8.out (by omega)), Lib.hid (Pq.below_setRow HBL8.out e0)⟩
        case measure => simp [intOf]
      · obtain rfl : ok = false := by rw [hok]; rfl
        have ht := Pq.take_no HGW.out.1 HGW.out.2 hE hZ (Nat.le_of_lt HVM.out) hVpos
        obtain ⟨hg1, hZ1⟩ := ht
        obtain ⟨qe, hqe⟩ : ∃ qe, qe = X / V := ⟨_, rfl⟩
        have hqel : qe < 4294967296 := by rw [hqe]; exact hqdl
        rw [← hqe] at hg1
        have es : (g : Int) - 1 = (qe : Int) := by omega
        have ws : IntKind.u64.wrap (qe : Int) = (qe : Int) := IntWalk.u64_in _ (by omega)
        have HQE := Lib.hid hqe; have HZ := Lib.hid hZ; have HZ1 := Lib.hid hZ1; have HROW7 := Lib.hid hrow7
        clear hok hE hrow7 hZ hZ1 hbf hqe hg1
        go_upto_region 10 with fail
        go_upto_region 10 with fail
        apply wp_region_lit
        iterate 3
          refine Pq.wpL_step (by rfl) ?_
          apply Exists.intro
          apply Exists.intro
          refine ⟨?_, ?_⟩
          · go_simp; first | done | with_reducible rfl | exact ⟨rfl, rfl⟩
          simp only [Act.put, List.setIfInBounds_toArray, List.set_cons_zero, List.set_cons_succ]
        refine Pq.wpL_nil ?_
        go_upto_region 11 with fail
        go_upto_region 11 with fail
        apply wp_region_lit
        iterate 6
          refine Pq.wpL_step (by rfl) ?_
          apply Exists.intro
          apply Exists.intro
          refine ⟨?_, ?_⟩
          · go_simp; first | done | with_reducible rfl | exact ⟨rfl, rfl⟩
          simp only [Act.put, List.setIfInBounds_toArray, List.set_cons_zero, List.set_cons_succ]
        refine Pq.wpL_slice _ (by rfl) _ _ _ _ rfl _ rfl _ _ rfl rfl HSL.out ?_
        simp only [Act.put, List.setIfInBounds_toArray, List.set_cons_zero, List.set_cons_succ]
        refine Pq.wpL_step (by rfl) ?_
        apply Exists.intro
        apply Exists.intro
        refine ⟨?_, ?_⟩
        · go_simp; first | done | with_reducible rfl | exact ⟨rfl, rfl⟩
        simp only [Act.put, List.setIfInBounds_toArray, List.set_cons_zero, List.set_cons_succ]
        refine Pq.wpL_call (by rfl) cf_gives (gives_any gu i gv 0 m (n1 - i) (m + 1) Z V (Pq.am i U) (Pq.am (n1 - s3) 0) _ (by omega) HZ.out HVB.out (Pq.am_length _ _) d1.symm HROW7.out (Pq.am_prefix' (Pq.range_block hv7.out))) rfl rfl ?_; rintro e w8 ⟨rfl, hrow8, hgr8⟩; refine ⟨_, rfl, ?_⟩; rw [HZ1.out] at hrow8
        simp only [Act.put, List.setIfInBounds_toArray, List.set_cons_zero, List.set_cons_succ]
        refine Pq.wpL_nil ?_
        have HU8 := Lib.hid hrow8
        have HV8 := Lib.hid (Pq.block_by hv7.out hgr8 (by simp [d1]))
        have HQ8 := Lib.hid (Pq.block_by hq7.out hgr8 (by simp [d2]))
        have HR8 := Lib.hid (Pq.block_by hr7.out hgr8 (by simp [d3]))
        have HBL8 := Lib.hid (Pq.below_mid hbl7.out hgr8 (Nat.le_refl _) hgu0)
        clear hv7 hq7 hr7 hbl7 HROW7 hgr8 hrow8 es ws e1 e2 e3 e4 w1 w2 w3 w4
        obtain rfl := HQE.out
        obtain ⟨qd, hqd⟩ : ∃ qd, qd = X / V := ⟨_, rfl⟩
        rw [← hqd] at hqdl
        have wq : IntKind.u32.wrap (qd : Int) = (qd : Int) := IntWalk.u32_in _ (by omega)
        rw [← hqd]
        have HQD := Lib.hid hqd; clear hqd
        go_upto_region 12 with fail
        go_upto_region 12 with fail
        apply wp_region_lit
        iterate 4
          refine Pq.wpL_step (by rfl) ?_
          apply Exists.intro
          apply Exists.intro
          refine ⟨?_, ?_⟩
          · go_simp; first | done | with_reducible rfl | exact ⟨rfl, rfl⟩
          simp only [Act.put, List.setIfInBounds_toArray, List.set_cons_zero, List.set_cons_succ]
        refine Pq.wpL_put (k := i) (.int .u32 (qd : Int)) HQ8.out (by rw [Pq.am_length]; omega) (by rfl) 23 _ _ rfl rfl rfl rfl rfl (by kernel_rfl) ?_
        try simp only [Act.put, List.setIfInBounds_toArray, List.set_cons_zero, List.set_cons_succ]
        refine Pq.wpL_nil ?_
        go_wp2
        go_roundw
        case rel => exact ⟨i, (i : Int) - 1, Pq.lo U i + Pq.bp i * (X % V), Pq.st Q i qd, rfl, Lib.hid (by omega), by omega, Lib.hid (by rw [HQD.out, HXE.out]; exact hdi.out.next hVpos), Lib.hid ((Pq.keep_row HU8.out d2).trans (by rw [Pq.row_close HKZ.out (Nat.lt_trans (Nat.mod_lt _ hVpos) HVM.out)])), Lib.hid (Pq.keep_row HV8.out d4), Lib.hid (by
          have e := Pq.setRow_at (cs := ((Pq.am 32 Q).set i (.int .u32 (qd : Int))).toArray) HQ8.out
          rw [Pq.am_set hqdl p8] at e
          rw [Pq.am_set hqdl p8]; exact e), Lib.hid (Pq.keep_row HR8.out (by omega)), Lib.hid (Pq.below_setRow HBL8.out e0)⟩
        case measure => simp [intOf]
end Go.Proofs.YtokgbcachcmeaaaGreatDoor
set_option linter.unusedSimpArgs false
set_option linter.unusedVariables false
namespace Go.Proofs.YtokgbcachcmeaaaGreatDoor
open Go.RowKit
theorem cf_divmod (xs : Array Value) (w : World) : (callFunc 60 xs).run Tryz.prog w = .ok (.enter 60 xs) w := by kernel_rfl

set_option maxRecDepth 100000 in
set_option maxHeartbeats 1000000 in
theorem divmod_any (n : Bool) (x : Nat) (m : Bool) (y : Nat) (w : World) (hx : x < Pq.bp 32) (hy : y < Pq.bp 32) :
    Calls Tryz.prog 60 #[.agg (Pq.wc n x), .agg (Pq.wc m y)] w (Pq.Ret w (Pq.dmv (Pq.zv n x) (Pq.zv m y))) := by
  have HX := Lib.hid hx; clear hx
  have HY := Lib.hid hy; clear hy
  obtain ⟨g, hg⟩ : ∃ g, g = w.heap.size := ⟨_, rfl⟩
  have HG := Lib.hid hg; clear hg
  obtain ⟨sy, hsy⟩ : ∃ sy, sy = Pq.szn 32 y := ⟨_, rfl⟩
  have hsl : sy ≤ 32 := by rw [hsy]; exact Pq.szn_le 32 y
  have HSY := Lib.hid hsy; clear hsy
  obtain ⟨sx, hsx⟩ : ∃ sx, sx = Pq.szn 32 x := ⟨_, rfl⟩
  have HSX := Lib.hid hsx; clear hsx
  obtain ⟨res, hr⟩ : ∃ res, res = Pq.dmv (Pq.zv n x) (Pq.zv m y) := ⟨_, rfl⟩
  rw [← hr]
  have HRR := Lib.hid hr; clear hr
  go_enter Tryz.func60, Tryz.ntmps60
  go_upto_region 0 with fail
  go_upto_region 0 with fail
  apply wp_region_lit
  refine Pq.wpL_box g HG.out.symm (Pq.wc n x) (by rfl) _ _ rfl rfl (bx_wide n x) ?_
  simp only [Act.put, List.setIfInBounds_toArray, List.set_cons_zero, List.set_cons_succ]
  refine Pq.wpL_box (g + 1) (by simp [HG.out]) (Pq.wc m y) (by rfl) _ _ rfl rfl (bx_wide m y) ?_
  simp only [Act.put, List.setIfInBounds_toArray, List.set_cons_zero, List.set_cons_succ]
  refine Pq.wpL_alloc (g + 2) (by simp [HG.out]) (by rfl) _ rfl (Pq.wc false 0) al_wide ?_
  simp only [Act.put, List.setIfInBounds_toArray, List.set_cons_zero, List.set_cons_succ]
  refine Pq.wpL_alloc (g + 3) (by simp [HG.out]) (by rfl) _ rfl (Pq.wc false 0) al_wide ?_
  simp only [Act.put, List.setIfInBounds_toArray, List.set_cons_zero, List.set_cons_succ]
  refine Pq.wpL_step (by rfl) ?_
  apply Exists.intro
  apply Exists.intro
  refine ⟨?_, ?_⟩
  · go_simp; first | done | with_reducible rfl | exact ⟨rfl, rfl⟩
  simp only [Act.put, List.setIfInBounds_toArray, List.set_cons_zero, List.set_cons_succ]
  refine Pq.wpL_nil ?_
  have hw := Pq.four_blocks (T := 26) (T2 := 26) w g HG.out (Pq.wl n x) (Pq.wl m y) (Pq.wl false 0) (Pq.wl false 0)
  generalize hW : (((w.alloc (.cells (Pq.wc n x) 26)).alloc (.cells (Pq.wc m y) 26)).alloc (.cells (Pq.wc false 0) 26)).alloc (.cells (Pq.wc false 0) 26) = w0
  have hW' : (((w.alloc (.cells (Pq.wl n x).toArray 26)).alloc (.cells (Pq.wl m y).toArray 26)).alloc (.cells (Pq.wl false 0).toArray 26)).alloc (.cells (Pq.wl false 0).toArray 26) = w0 := hW
  rw [hW'] at hw
  clear hW hW'
  obtain ⟨hr1, hr2, hg2, hg3, hb0⟩ := hw
  have HR1 := Lib.hid hr1; have HR2 := Lib.hid hr2; have HG2 := Lib.hid hg2; have HG3 := Lib.hid hg3; have HB := Lib.hid hb0
  clear hr1 hr2 hg2 hg3 hb0
  go_upto_region 1 with fail
  refine Pq.wp_region_grown none [(0, true), (2, true), (1, false), (3, false), (4, true), (5, true)] (by kernel_rfl) (by kernel_rfl) (fun _ _ d _ _ h => by cases d <;> exact h) (fun hS => ?_)
  simp only [Pq.pick, List.filterMap_cons, List.filterMap_nil, List.getElem?_cons_zero, List.getElem?_cons_succ, Option.map_some]
  refine Pq.wpO_load g 0 (Pq.wl n x) HR1.out (by simp) (by rfl) _ _ rfl rfl _ u_wide rfl (s_wide _ _) ?_
  simp only [Act.put, List.setIfInBounds_toArray, List.set_cons_zero, List.set_cons_succ]
  refine Pq.wpO_load (g + 1) 0 (Pq.wl m y) HR2.out (by simp) (by rfl) _ _ rfl rfl _ u_wide rfl (s_wide _ _) ?_
  simp only [Act.put, List.setIfInBounds_toArray, List.set_cons_zero, List.set_cons_succ]
  refine Pq.wpO_call (by rfl) cf_of (of_ptr n x _) rfl rfl ?_; rintro e w3 ⟨b, rfl, hr3, hb3, _, hl3⟩; have HR3 := Lib.hid hr3; clear hr3; have hS3 := Pq.grown_then hS hb3; refine ⟨_, rfl, hS3, ?_⟩
  simp only [Act.put, List.setIfInBounds_toArray, List.set_cons_zero, List.set_cons_succ]
  refine Pq.wpO_call (by rfl) cf_of (of_ptr m y _) rfl rfl ?_; rintro e w4 ⟨c, rfl, hr4, hb4, _, hl4⟩; have HR4 := Lib.hid hr4; clear hr4; have hS4 := Pq.grown_then hS3 hb4; refine ⟨_, rfl, hS4, ?_⟩
  simp only [Act.put, List.setIfInBounds_toArray, List.set_cons_zero, List.set_cons_succ]
  iterate 2
    refine Pq.wpO_step (by rfl) ?_
    apply Exists.intro
    refine ⟨fun w' hw' => ?_, ?_⟩
    · go_simp; first | done | with_reducible rfl | exact ⟨rfl, rfl⟩
    simp only [Act.put, List.setIfInBounds_toArray, List.set_cons_zero, List.set_cons_succ]
  refine Pq.wpO_nil ?_
  have HBx := Lib.hid (Pq.range_in HR3.out hb4)
  have HCy := HR4
  have K := Pq.grown_below hS4
  have HA1 := Lib.hid (Pq.range_in HR1.out K)
  have HA2 := Lib.hid (Pq.range_in HR2.out K)
  have HG2' := Lib.hid (Pq.keep_block HG2.out K)
  have HG3' := Lib.hid (Pq.keep_block HG3.out K)
  have HB' := Lib.hid (Pq.below_next HB.out (Nat.le_refl _) K)
  clear HR3 HR4 HR1 HR2 HG2 HG3 HB hb3 hb4 hS hS3 hS4 hl3 hl4 K
  obtain ⟨d, hd⟩ : ∃ d, d = w4.heap.size := ⟨_, rfl⟩
  have HD := Lib.hid hd; clear hd
  go_upto_region 2 with fail
  go_upto_region 2 with fail
  apply wp_region_lit
  refine Pq.wpL_build (by rfl) _ [] rfl [] rfl _ built_am0 ?_
  simp only [Act.put, List.setIfInBounds_toArray, List.set_cons_zero, List.set_cons_succ]
  refine Pq.wpL_box d HD.out.symm (Pq.am 32 0).toArray (by rfl) _ _ rfl rfl (bx_am 0) ?_
  simp only [Act.put, List.setIfInBounds_toArray, List.set_cons_zero, List.set_cons_succ]
  iterate 3
    refine Pq.wpL_step (by rfl) ?_
    apply Exists.intro
    apply Exists.intro
    refine ⟨?_, ?_⟩
    · go_simp; first | done | with_reducible rfl | exact ⟨rfl, rfl⟩
    simp only [Act.put, List.setIfInBounds_toArray, List.set_cons_zero, List.set_cons_succ]
  refine Pq.wpL_nil ?_
  have HBx2 := Lib.hid (Pq.al_range HBx.out (.cells (Pq.am 32 0).toArray 111))
  have HCy2 := Lib.hid (Pq.al_range HCy.out (.cells (Pq.am 32 0).toArray 111))
  have HA12 := Lib.hid (Pq.al_range HA1.out (.cells (Pq.am 32 0).toArray 111))
  have HA22 := Lib.hid (Pq.al_range HA2.out (.cells (Pq.am 32 0).toArray 111))
  have HG22 := Lib.hid (Pq.al_keep HG2'.out (.cells (Pq.am 32 0).toArray 111))
  have HG32 := Lib.hid (Pq.al_keep HG3'.out (.cells (Pq.am 32 0).toArray 111))
  have HB2 := Lib.hid (Pq.below_alloc HB'.out (Nat.le_refl _) (.cells (Pq.am 32 0).toArray 111))
  have HZ2 := Lib.hid (Pq.al_anew w4 0 111 d HD.out)
  clear HBx HCy HA1 HA2 HG2' HG3' HB' HD
  generalize w4.alloc (.cells (Pq.am 32 0).toArray 111) = w5 at *
  by_cases hy0 : y = 0
  · have hs0 : sy = 0 := by rw [HSY.out]; exact (Pq.szn_zero HY.out).2 hy0
    subst hs0
    have hres : res = .tuple #[.agg (Pq.wc false 0), .agg (Pq.wc false 0), .bool false] := by
      rw [HRR.out, hy0, show Pq.zv m 0 = 0 from by unfold Pq.zv; split <;> rfl, Pq.dmv_zero]
    have HRES := Lib.hid hres
    clear hy0 hres
    go_upto_region 5 with (go_at_call 78; refine (size_any c 0 y 0 HSY.out _ HCy2.out).mono ?_; rintro e w7 ⟨rfl, rfl⟩)
    go_upto_region 5 with fail
    apply wp_region_lit
    refine Pq.wpL_build (by rfl) _ [] rfl [] rfl _ built_none ?_
    simp only [Act.put, List.setIfInBounds_toArray, List.set_cons_zero, List.set_cons_succ]
    refine Pq.wpL_build (by rfl) _ [] rfl [] rfl _ built_none ?_
    simp only [Act.put, List.setIfInBounds_toArray, List.set_cons_zero, List.set_cons_succ]
    refine Pq.wpL_store (by rfl) 26 _ _ rfl (g + 2) (Pq.wc _ _) rfl rfl 26 (Pq.wc _ _) HG22.out (s_widea _ _) (by simp only [Pq.wc_size]) (Pq.wc_one _ _) ?_
    try simp only [Act.put, List.setIfInBounds_toArray, List.set_cons_zero, List.set_cons_succ]
    refine Pq.wpL_store (by rfl) 26 _ _ rfl (g + 3) (Pq.wc _ _) rfl rfl 26 (Pq.wc _ _) (Pq.keep_row HG32.out (by omega)) (s_widea _ _) (by simp only [Pq.wc_size]) (Pq.wc_one _ _) ?_
    try simp only [Act.put, List.setIfInBounds_toArray, List.set_cons_zero, List.set_cons_succ]
    refine Pq.wpL_step (by rfl) ?_
    apply Exists.intro
    apply Exists.intro
    refine ⟨?_, ?_⟩
    · go_simp; first | done | with_reducible rfl | exact ⟨rfl, rfl⟩
    simp only [Act.put, List.setIfInBounds_toArray, List.set_cons_zero, List.set_cons_succ]
    refine Pq.wpL_nil ?_
    go_wp2
    refine Pq.ret_cell2_tmp rfl (g + 2) (g + 3) _ _ _ _ _ _ _ _ _ rfl rfl rfl (Pq.keep_row (Pq.setRow_at HG22.out) (by omega)) u_wide rfl (s_widea _ _) (Pq.setRow_at (Pq.keep_row HG32.out (by omega))) u_wide rfl (s_widea _ _) rfl ⟨by rw [HRES.out]; rfl, Pq.below_setRow (Pq.below_setRow HB2.out (by rw [← HG.out]; omega)) (by rw [← HG.out]; omega)⟩
  · have hyz := Pq.zv_ne m hy0
    have hs0 : sy ≠ 0 := by intro h; exact hy0 ((Pq.szn_zero HY.out).1 (by rw [← HSY.out]; exact h))
    have hbe : ((sy : Int) == 0) = false := by simpa using hs0
    obtain ⟨p0, hp0⟩ : ∃ p0, p0 = Pq.ng n x := ⟨_, rfl⟩
    obtain ⟨q0, hq0⟩ : ∃ q0, q0 = Pq.ng m y := ⟨_, rfl⟩
    have HNX := Lib.hid hp0; have HNY := Lib.hid hq0
    have HCyW := HCy2
    obtain ⟨cc, hcc⟩ : ∃ cc, cc = Pq.cm x y := ⟨_, rfl⟩
    have HCC := Lib.hid hcc
    clear hp0 hq0 hcc
    rcases Nat.lt_or_ge x y with hxy | hxy
    · have hc : decide (cc < 0) = true := by rw [HCC.out, Pq.cm_lt hxy]; rfl
      have HXY := Lib.hid hxy
      clear hxy hy0
      go_upto_region 10 with (first | (go_at_call 78; refine (size_any c 0 y sy HSY.out _ HCyW.out).mono ?_; rintro e w7 ⟨rfl, rfl⟩) | (go_at_call 76; refine (acmp_any b 0 c 0 x y _ HX.out HY.out HBx2.out HCy2.out).mono ?_; rw [← HCC.out]; rintro e w6 ⟨rfl, hb6⟩; have HCyV := Lib.hid (Pq.range_in HCy2.out hb6)))
      have HPz' := Lib.hid (Pq.range_in HZ2.out hb6); have HRz' := Lib.hid (Pq.range_in HBx2.out hb6)
      have hpz : w6.rangeAt d 0 (Pq.am 32 (x / y)) := by rw [Nat.div_eq_of_lt HXY.out]; exact HPz'.out
      have hrz : w6.rangeAt b 0 (Pq.am 32 (x % y)) := by rw [Nat.mod_eq_of_lt HXY.out]; exact HRz'.out
      have HPz := Lib.hid hpz; have HRz := Lib.hid hrz
      have HAz1 := Lib.hid (Pq.range_in HA12.out hb6); have HAz2 := Lib.hid (Pq.range_in HA22.out hb6)
      have HGz2 := Lib.hid (Pq.keep_block HG22.out hb6); have HGz3 := Lib.hid (Pq.keep_block HG32.out hb6)
      have HBz := Lib.hid (Pq.below_next HB2.out (Nat.le_refl _) hb6)
      clear HPz' HRz' hpz hrz HA12 HA22 HG22 HG32 HB2 hb6 HBx2 HCy2 HZ2 HCyW HCyV hc hbe
      obtain ⟨wz, rfl⟩ : ∃ wz, wz = w6 := ⟨_, rfl⟩
      obtain ⟨p, rfl⟩ : ∃ p, p = d := ⟨_, rfl⟩
      obtain ⟨r, rfl⟩ : ∃ r, r = b := ⟨_, rfl⟩
      have hpl := Pq.range_lt HPz.out
      have hrl := Pq.range_lt HRz.out
      have hB2 : g + 2 ≤ wz.heap.size := Nat.le_of_lt (Array.getElem?_eq_some_iff.1 HGz2.out).1
      go_upto_region 10 with fail
      refine Pq.wp_region_below (g + 2) [(0, true), (2, true), (5, true), (7, true), (9, true), (1, false), (3, false), (4, true), (6, false), (8, false), (10, false), (11, false), (12, false), (13, true)] (by kernel_rfl) (by kernel_rfl) (fun _ _ d _ _ h => by cases d <;> exact h) (fun hS => ?_)
      simp only [Pq.pick, List.filterMap_cons, List.filterMap_nil, List.getElem?_cons_zero, List.getElem?_cons_succ, Option.map_some]
      refine Pq.wpO_loadB g 0 (Pq.wl n x) HAz1.out (by omega) (by rfl) _ _ rfl rfl _ u_wide rfl (s_wide _ _) ?_
      simp only [Act.put, List.setIfInBounds_toArray, List.set_cons_zero, List.set_cons_succ]
      refine Pq.wpO_loadB (g + 1) 0 (Pq.wl m y) HAz2.out (by omega) (by rfl) _ _ rfl rfl _ u_wide rfl (s_wide _ _) ?_
      simp only [Act.put, List.setIfInBounds_toArray, List.set_cons_zero, List.set_cons_succ]
      refine Pq.wpO_step (by rfl) ?_
      apply Exists.intro
      refine ⟨fun w' hw' => ?_, ?_⟩
      · go_simp; first | done | with_reducible rfl | exact ⟨rfl, rfl⟩
      simp only [Act.put, List.setIfInBounds_toArray, List.set_cons_zero, List.set_cons_succ]
      refine Pq.wpO_loadB g 0 (Pq.wl n x) HAz1.out (by omega) (by rfl) _ _ rfl rfl _ u_wide rfl (s_wide _ _) ?_
      simp only [Act.put, List.setIfInBounds_toArray, List.set_cons_zero, List.set_cons_succ]
      refine Pq.wpO_step (by rfl) ?_
      apply Exists.intro
      refine ⟨fun w' hw' => ?_, ?_⟩
      · go_simp; first | done | with_reducible rfl | exact ⟨rfl, rfl⟩
      simp only [Act.put, List.setIfInBounds_toArray, List.set_cons_zero, List.set_cons_succ]
      refine Pq.wpO_retB (by rfl) cf_below (below_any n x _ HX.out) rfl rfl hB2 hS ?_; intro w8 hb8 hS8; rw [← HNX.out]
      simp only [Act.put, List.setIfInBounds_toArray, List.set_cons_zero, List.set_cons_succ]
      refine Pq.wpO_retB (by rfl) cf_below (below_any m y _ HY.out) rfl rfl hB2 hS8 ?_; intro w9 hb9 hS9; rw [← HNY.out]; have K9 := Pq.below_next (Pq.below_next (Pq.below_drew (Below.refl wz.heap.size wz)) (Nat.le_refl _) hb8) (Nat.le_refl _) hb9
      simp only [Act.put, List.setIfInBounds_toArray, List.set_cons_zero, List.set_cons_succ]
      refine Pq.wpO_step (by rfl) ?_
      apply Exists.intro
      refine ⟨fun w' hw' => ?_, ?_⟩
      · go_simp; first | done | with_reducible rfl | exact ⟨rfl, rfl⟩
      simp only [Act.put, List.setIfInBounds_toArray, List.set_cons_zero, List.set_cons_succ]
      refine Pq.wpO_retB (by rfl) cf_told (told_any _ p 0 (x / y) _ (Nat.lt_of_le_of_lt (Nat.div_le_self _ _) HX.out) (Pq.range_in HPz.out K9) (Nat.lt_of_lt_of_le hpl K9.size)) rfl rfl hB2 hS9 ?_; intro w10 hb10 hS10
      simp only [Act.put, List.setIfInBounds_toArray, List.set_cons_zero, List.set_cons_succ]
      refine Pq.wpO_retB (by rfl) cf_below (below_any n x _ HX.out) rfl rfl hB2 hS10 ?_; intro w11 hb11 hS11; rw [← HNX.out]; have K11 := Pq.below_next (Pq.below_next K9 (Nat.le_refl _) hb10) (Nat.le_refl _) hb11
      simp only [Act.put, List.setIfInBounds_toArray, List.set_cons_zero, List.set_cons_succ]
      refine Pq.wpO_retB (by rfl) cf_told (told_any _ r 0 (x % y) _ (Nat.lt_of_le_of_lt (Nat.mod_le _ _) HX.out) (Pq.range_in HRz.out K11) (Nat.lt_of_lt_of_le hrl K11.size)) rfl rfl hB2 hS11 ?_; intro w12 hb12 hS12; have K12 := Pq.below_next K11 (Nat.le_refl _) hb12
      simp only [Act.put, List.setIfInBounds_toArray, List.set_cons_zero, List.set_cons_succ]
      refine Pq.wpO_store (by rfl) 26 _ _ rfl (g + 2) (Pq.wc _ _) rfl rfl 26 (Pq.wc _ _) (Pq.keep_block HGz2.out K12) (s_widea _ _) (by simp only [Pq.wc_size]) (Pq.wc_one _ _) (Pq.below_setRow hS12 (Nat.le_refl _)) ?_
      try simp only [Act.put, List.setIfInBounds_toArray, List.set_cons_zero, List.set_cons_succ]
      refine Pq.wpO_store (by rfl) 26 _ _ rfl (g + 3) (Pq.wc _ _) rfl rfl 26 (Pq.wc _ _) (Pq.keep_row (Pq.keep_block HGz3.out K12) (by omega)) (s_widea _ _) (by simp only [Pq.wc_size]) (Pq.wc_one _ _) (Pq.below_setRow (Pq.below_setRow hS12 (Nat.le_refl _)) (by omega)) ?_
      try simp only [Act.put, List.setIfInBounds_toArray, List.set_cons_zero, List.set_cons_succ]
      refine Pq.wpO_step (by rfl) ?_
      apply Exists.intro
      refine ⟨fun w' hw' => ?_, ?_⟩
      · go_simp; first | done | with_reducible rfl | exact ⟨rfl, rfl⟩
      simp only [Act.put, List.setIfInBounds_toArray, List.set_cons_zero, List.set_cons_succ]
      refine Pq.wpO_nil ?_
      go_wp2
      refine Pq.ret_cell2_tmp rfl (g + 2) (g + 3) _ _ _ _ _ _ _ _ _ rfl rfl rfl (Pq.keep_row (Pq.setRow_at (Pq.keep_block HGz2.out K12)) (by omega)) u_wide rfl (s_widea _ _) (Pq.setRow_at (Pq.keep_row (Pq.keep_block HGz3.out K12) (by omega))) u_wide rfl (s_widea _ _) rfl ⟨?_, Pq.below_setRow (Pq.below_setRow (Pq.below_next HBz.out (Nat.le_refl _) K12) (by rw [← HG.out]; omega)) (by rw [← HG.out]; omega)⟩
      have e1 := Pq.dm_q n x m y
      have e2 := Pq.dm_r n x m y
      rw [← HNX.out, ← HNY.out] at e1
      rw [← HNX.out] at e2
      rw [HRR.out, Pq.dmv_ok _ hyz, ← e1, ← e2]; rfl
    · have hc : decide (cc < 0) = false := by
        rw [HCC.out]
        rcases Nat.eq_or_lt_of_le hxy with h | h
        · subst h; rw [Pq.cm_eq]; rfl
        · rw [Pq.cm_gt h]; rfl
      by_cases hs1 : sy = 1
      · obtain ⟨hyw, hyl⟩ := Pq.szn_one HY.out (by rw [← HSY.out]; exact hs1)
        have hbe1 : ((sy : Int) == 1) = true := by rw [hs1]; rfl
        have hyp : 0 < y := Nat.pos_of_ne_zero hy0
        have HYW := Lib.hid hyw
        clear hxy hs1 hyw
        go_upto_region 8 with (first | (go_at_call 78; refine (size_any c 0 y sy HSY.out _ (by first | exact HCyW.out | exact HCyV.out)).mono ?_; rintro e w7 ⟨rfl, rfl⟩) | (go_at_call 76; refine (acmp_any b 0 c 0 x y _ HX.out HY.out HBx2.out HCy2.out).mono ?_; rw [← HCC.out]; rintro e w6 ⟨rfl, hb6⟩; have HCyV := Lib.hid (Pq.range_in HCy2.out hb6)))
        have HBxv := Lib.hid (Pq.range_in HBx2.out hb6)
        have c1 : w6.cell? ⟨c, 0, none⟩ = some (.int .u32 (y : Nat)) := by
          have := HCyV.out 0 _ (Pq.am_get (x := y) (show 0 < 32 by decide))
          rwa [HYW.out, Nat.add_zero] at this
        have C1 := Lib.hid c1; clear c1
        go_upto_region 8 with fail
        apply wp_region_lit
        iterate 4
          refine Pq.wpL_step (by rfl) ?_
          apply Exists.intro
          apply Exists.intro
          refine ⟨?_, ?_⟩
          · go_simp; first | done | with_reducible rfl | exact ⟨rfl, rfl⟩
          simp only [Act.put, List.setIfInBounds_toArray, List.set_cons_zero, List.set_cons_succ]
        refine Pq.wpL_cell ⟨c, 0, none⟩ _ C1.out (by rfl) _ _ rfl rfl _ u_u32 rfl ?_
        simp only [Act.put, List.setIfInBounds_toArray, List.set_cons_zero, List.set_cons_succ]
        refine Pq.wpL_call (by rfl) cf_byw (byword_any b 0 x y _ HX.out hyp hyl HBxv.out) rfl rfl ?_; rintro e w7 ⟨p, rfl, hp7, hb7, _, _⟩; have HP7 := Lib.hid hp7; clear hp7; refine ⟨_, rfl, ?_⟩
        simp only [Act.put, List.setIfInBounds_toArray, List.set_cons_zero, List.set_cons_succ]
        iterate 5
          refine Pq.wpL_step (by rfl) ?_
          apply Exists.intro
          apply Exists.intro
          refine ⟨?_, ?_⟩
          · go_simp; first | done | with_reducible rfl | exact ⟨rfl, rfl⟩
          simp only [Act.put, List.setIfInBounds_toArray, List.set_cons_zero, List.set_cons_succ]
        refine Pq.wpL_nil ?_
        obtain ⟨r, hr⟩ : ∃ r, r = w7.heap.size := ⟨_, rfl⟩
        have HRs := Lib.hid hr
        have hml : x % y < 4294967296 := Nat.lt_trans (Nat.mod_lt _ hyp) hyl
        clear hr
        go_upto_region 9 with fail
        go_upto_region 9 with fail
        apply wp_region_lit
        iterate 2
          refine Pq.wpL_step (by rfl) ?_
          apply Exists.intro
          apply Exists.intro
          refine ⟨?_, ?_⟩
          · go_simp; first | done | with_reducible rfl | exact ⟨rfl, rfl⟩
          simp only [Act.put, List.setIfInBounds_toArray, List.set_cons_zero, List.set_cons_succ]
        refine Pq.wpL_build (by rfl) _ [(0, .tmp 51)] rfl [(0, .int .u32 ((x % y : Nat) : Int))] rfl _ (built_am1 hml) ?_
        simp only [Act.put, List.setIfInBounds_toArray, List.set_cons_zero, List.set_cons_succ]
        refine Pq.wpL_box r HRs.out.symm (Pq.am 32 (x % y)).toArray (by rfl) _ _ rfl rfl (bx_am (x % y)) ?_
        simp only [Act.put, List.setIfInBounds_toArray, List.set_cons_zero, List.set_cons_succ]
        iterate 2
          refine Pq.wpL_step (by rfl) ?_
          apply Exists.intro
          apply Exists.intro
          refine ⟨?_, ?_⟩
          · go_simp; first | done | with_reducible rfl | exact ⟨rfl, rfl⟩
          simp only [Act.put, List.setIfInBounds_toArray, List.set_cons_zero, List.set_cons_succ]
        refine Pq.wpL_nil ?_
        have kk := Pq.below_alloc (Below.refl w7.heap.size w7) (Nat.le_refl _) (.cells (Pq.am 32 (x % y)).toArray 111)
        have HRz := Lib.hid (Pq.al_anew w7 (x % y) 111 r HRs.out)
        generalize w7.alloc (.cells (Pq.am 32 (x % y)).toArray 111) = wz at *
        have K7 := Pq.below_next hb6 (Nat.le_refl _) (Pq.below_next hb7 (Nat.le_refl _) kk)
        have HPz := Lib.hid (Pq.range_in HP7.out kk)
        have HAz1 := Lib.hid (Pq.range_in HA12.out K7); have HAz2 := Lib.hid (Pq.range_in HA22.out K7)
        have HGz2 := Lib.hid (Pq.keep_block HG22.out K7); have HGz3 := Lib.hid (Pq.keep_block HG32.out K7)
        have HBz := Lib.hid (Pq.below_next HB2.out (Nat.le_refl _) K7)
        clear HA12 HA22 HG22 HG32 HB2 hb6 hb7 HBx2 HCy2 HZ2 HCyW HCyV hc hbe hbe1 C1 HBxv HP7 kk HRs K7 hyl hml
        have hpl := Pq.range_lt HPz.out
        have hrl := Pq.range_lt HRz.out
        have hB2 : g + 2 ≤ wz.heap.size := Nat.le_of_lt (Array.getElem?_eq_some_iff.1 HGz2.out).1
        go_upto_region 10 with fail
        refine Pq.wp_region_below (g + 2) [(0, true), (2, true), (5, true), (7, true), (9, true), (1, false), (3, false), (4, true), (6, false), (8, false), (10, false), (11, false), (12, false), (13, true)] (by kernel_rfl) (by kernel_rfl) (fun _ _ d _ _ h => by cases d <;> exact h) (fun hS => ?_)
        simp only [Pq.pick, List.filterMap_cons, List.filterMap_nil, List.getElem?_cons_zero, List.getElem?_cons_succ, Option.map_some]
        refine Pq.wpO_loadB g 0 (Pq.wl n x) HAz1.out (by omega) (by rfl) _ _ rfl rfl _ u_wide rfl (s_wide _ _) ?_
        simp only [Act.put, List.setIfInBounds_toArray, List.set_cons_zero, List.set_cons_succ]
        refine Pq.wpO_loadB (g + 1) 0 (Pq.wl m y) HAz2.out (by omega) (by rfl) _ _ rfl rfl _ u_wide rfl (s_wide _ _) ?_
        simp only [Act.put, List.setIfInBounds_toArray, List.set_cons_zero, List.set_cons_succ]
        refine Pq.wpO_step (by rfl) ?_
        apply Exists.intro
        refine ⟨fun w' hw' => ?_, ?_⟩
        · go_simp; first | done | with_reducible rfl | exact ⟨rfl, rfl⟩
        simp only [Act.put, List.setIfInBounds_toArray, List.set_cons_zero, List.set_cons_succ]
        refine Pq.wpO_loadB g 0 (Pq.wl n x) HAz1.out (by omega) (by rfl) _ _ rfl rfl _ u_wide rfl (s_wide _ _) ?_
        simp only [Act.put, List.setIfInBounds_toArray, List.set_cons_zero, List.set_cons_succ]
        refine Pq.wpO_step (by rfl) ?_
        apply Exists.intro
        refine ⟨fun w' hw' => ?_, ?_⟩
        · go_simp; first | done | with_reducible rfl | exact ⟨rfl, rfl⟩
        simp only [Act.put, List.setIfInBounds_toArray, List.set_cons_zero, List.set_cons_succ]
        refine Pq.wpO_retB (by rfl) cf_below (below_any n x _ HX.out) rfl rfl hB2 hS ?_; intro w8 hb8 hS8; rw [← HNX.out]
        simp only [Act.put, List.setIfInBounds_toArray, List.set_cons_zero, List.set_cons_succ]
        refine Pq.wpO_retB (by rfl) cf_below (below_any m y _ HY.out) rfl rfl hB2 hS8 ?_; intro w9 hb9 hS9; rw [← HNY.out]; have K9 := Pq.below_next (Pq.below_next (Pq.below_drew (Below.refl wz.heap.size wz)) (Nat.le_refl _) hb8) (Nat.le_refl _) hb9
        simp only [Act.put, List.setIfInBounds_toArray, List.set_cons_zero, List.set_cons_succ]
        refine Pq.wpO_step (by rfl) ?_
        apply Exists.intro
        refine ⟨fun w' hw' => ?_, ?_⟩
        · go_simp; first | done | with_reducible rfl | exact ⟨rfl, rfl⟩
        simp only [Act.put, List.setIfInBounds_toArray, List.set_cons_zero, List.set_cons_succ]
        refine Pq.wpO_retB (by rfl) cf_told (told_any _ p 0 (x / y) _ (Nat.lt_of_le_of_lt (Nat.div_le_self _ _) HX.out) (Pq.range_in HPz.out K9) (Nat.lt_of_lt_of_le hpl K9.size)) rfl rfl hB2 hS9 ?_; intro w10 hb10 hS10
        simp only [Act.put, List.setIfInBounds_toArray, List.set_cons_zero, List.set_cons_succ]
        refine Pq.wpO_retB (by rfl) cf_below (below_any n x _ HX.out) rfl rfl hB2 hS10 ?_; intro w11 hb11 hS11; rw [← HNX.out]; have K11 := Pq.below_next (Pq.below_next K9 (Nat.le_refl _) hb10) (Nat.le_refl _) hb11
        simp only [Act.put, List.setIfInBounds_toArray, List.set_cons_zero, List.set_cons_succ]
        refine Pq.wpO_retB (by rfl) cf_told (told_any _ r 0 (x % y) _ (Nat.lt_of_le_of_lt (Nat.mod_le _ _) HX.out) (Pq.range_in HRz.out K11) (Nat.lt_of_lt_of_le hrl K11.size)) rfl rfl hB2 hS11 ?_; intro w12 hb12 hS12; have K12 := Pq.below_next K11 (Nat.le_refl _) hb12
        simp only [Act.put, List.setIfInBounds_toArray, List.set_cons_zero, List.set_cons_succ]
        refine Pq.wpO_store (by rfl) 26 _ _ rfl (g + 2) (Pq.wc _ _) rfl rfl 26 (Pq.wc _ _) (Pq.keep_block HGz2.out K12) (s_widea _ _) (by simp only [Pq.wc_size]) (Pq.wc_one _ _) (Pq.below_setRow hS12 (Nat.le_refl _)) ?_
        try simp only [Act.put, List.setIfInBounds_toArray, List.set_cons_zero, List.set_cons_succ]
        refine Pq.wpO_store (by rfl) 26 _ _ rfl (g + 3) (Pq.wc _ _) rfl rfl 26 (Pq.wc _ _) (Pq.keep_row (Pq.keep_block HGz3.out K12) (by omega)) (s_widea _ _) (by simp only [Pq.wc_size]) (Pq.wc_one _ _) (Pq.below_setRow (Pq.below_setRow hS12 (Nat.le_refl _)) (by omega)) ?_
        try simp only [Act.put, List.setIfInBounds_toArray, List.set_cons_zero, List.set_cons_succ]
        refine Pq.wpO_step (by rfl) ?_
        apply Exists.intro
        refine ⟨fun w' hw' => ?_, ?_⟩
        · go_simp; first | done | with_reducible rfl | exact ⟨rfl, rfl⟩
        simp only [Act.put, List.setIfInBounds_toArray, List.set_cons_zero, List.set_cons_succ]
        refine Pq.wpO_nil ?_
        go_wp2
        refine Pq.ret_cell2_tmp rfl (g + 2) (g + 3) _ _ _ _ _ _ _ _ _ rfl rfl rfl (Pq.keep_row (Pq.setRow_at (Pq.keep_block HGz2.out K12)) (by omega)) u_wide rfl (s_widea _ _) (Pq.setRow_at (Pq.keep_row (Pq.keep_block HGz3.out K12) (by omega))) u_wide rfl (s_widea _ _) rfl ⟨?_, Pq.below_setRow (Pq.below_setRow (Pq.below_next HBz.out (Nat.le_refl _) K12) (by rw [← HG.out]; omega)) (by rw [← HG.out]; omega)⟩
        have e1 := Pq.dm_q n x m y
        have e2 := Pq.dm_r n x m y
        rw [← HNX.out, ← HNY.out] at e1
        rw [← HNX.out] at e2
        rw [HRR.out, Pq.dmv_ok _ hyz, ← e1, ← e2]; rfl
      · have hbe1 : ((sy : Int) == 1) = false := (by have h1 : ¬ (sy : Int) = 1 := (by omega); simpa using h1)
        have HXY := Lib.hid hxy
        have hs2 : 2 ≤ sy := by omega
        clear hxy hs1
        go_upto_region 3 with (first | (go_at_call 78; refine (size_any c 0 y sy HSY.out _ (by first | exact HCyW.out | exact HCyV.out)).mono ?_; rintro e w7 ⟨rfl, rfl⟩) | (go_at_call 76; refine (acmp_any b 0 c 0 x y _ HX.out HY.out HBx2.out HCy2.out).mono ?_; rw [← HCC.out]; rintro e w6 ⟨rfl, hb6⟩; have HCyV := Lib.hid (Pq.range_in HCy2.out hb6)))
        have HBxv := Lib.hid (Pq.range_in HBx2.out hb6)
        go_upto_region 3 with fail
        apply wp_region_lit
        iterate 2
          refine Pq.wpL_step (by rfl) ?_
          apply Exists.intro
          apply Exists.intro
          refine ⟨?_, ?_⟩
          · go_simp; first | done | with_reducible rfl | exact ⟨rfl, rfl⟩
          simp only [Act.put, List.setIfInBounds_toArray, List.set_cons_zero, List.set_cons_succ]
        refine Pq.wpL_call (by rfl) cf_divide (divide_any b 0 c 0 x y sx sy _ HSX.out HSY.out hs2 HX.out HY.out HXY.out HBxv.out HCyV.out) rfl rfl ?_; rintro e wz ⟨p, r, rfl, hp7, hr7, hb7, _, _⟩; have HPz := Lib.hid hp7; have HRz := Lib.hid hr7; clear hp7 hr7; refine ⟨_, rfl, ?_⟩
        simp only [Act.put, List.setIfInBounds_toArray, List.set_cons_zero, List.set_cons_succ]
        iterate 5
          refine Pq.wpL_step (by rfl) ?_
          apply Exists.intro
          apply Exists.intro
          refine ⟨?_, ?_⟩
          · go_simp; first | done | with_reducible rfl | exact ⟨rfl, rfl⟩
          simp only [Act.put, List.setIfInBounds_toArray, List.set_cons_zero, List.set_cons_succ]
        refine Pq.wpL_nil ?_
        have K7 := Pq.below_next hb6 (Nat.le_refl _) hb7
        have HAz1 := Lib.hid (Pq.range_in HA12.out K7); have HAz2 := Lib.hid (Pq.range_in HA22.out K7)
        have HGz2 := Lib.hid (Pq.keep_block HG22.out K7); have HGz3 := Lib.hid (Pq.keep_block HG32.out K7)
        have HBz := Lib.hid (Pq.below_next HB2.out (Nat.le_refl _) K7)
        clear HA12 HA22 HG22 HG32 HB2 hb6 hb7 HBx2 HCy2 HZ2 HCyW HCyV hc hbe hbe1 HBxv K7 HXY hs2
        have hpl := Pq.range_lt HPz.out
        have hrl := Pq.range_lt HRz.out
        have hB2 : g + 2 ≤ wz.heap.size := Nat.le_of_lt (Array.getElem?_eq_some_iff.1 HGz2.out).1
        go_upto_region 10 with fail
        refine Pq.wp_region_below (g + 2) [(0, true), (2, true), (5, true), (7, true), (9, true), (1, false), (3, false), (4, true), (6, false), (8, false), (10, false), (11, false), (12, false), (13, true)] (by kernel_rfl) (by kernel_rfl) (fun _ _ d _ _ h => by cases d <;> exact h) (fun hS => ?_)
        simp only [Pq.pick, List.filterMap_cons, List.filterMap_nil, List.getElem?_cons_zero, List.getElem?_cons_succ, Option.map_some]
        refine Pq.wpO_loadB g 0 (Pq.wl n x) HAz1.out (by omega) (by rfl) _ _ rfl rfl _ u_wide rfl (s_wide _ _) ?_
        simp only [Act.put, List.setIfInBounds_toArray, List.set_cons_zero, List.set_cons_succ]
        refine Pq.wpO_loadB (g + 1) 0 (Pq.wl m y) HAz2.out (by omega) (by rfl) _ _ rfl rfl _ u_wide rfl (s_wide _ _) ?_
        simp only [Act.put, List.setIfInBounds_toArray, List.set_cons_zero, List.set_cons_succ]
        refine Pq.wpO_step (by rfl) ?_
        apply Exists.intro
        refine ⟨fun w' hw' => ?_, ?_⟩
        · go_simp; first | done | with_reducible rfl | exact ⟨rfl, rfl⟩
        simp only [Act.put, List.setIfInBounds_toArray, List.set_cons_zero, List.set_cons_succ]
        refine Pq.wpO_loadB g 0 (Pq.wl n x) HAz1.out (by omega) (by rfl) _ _ rfl rfl _ u_wide rfl (s_wide _ _) ?_
        simp only [Act.put, List.setIfInBounds_toArray, List.set_cons_zero, List.set_cons_succ]
        refine Pq.wpO_step (by rfl) ?_
        apply Exists.intro
        refine ⟨fun w' hw' => ?_, ?_⟩
        · go_simp; first | done | with_reducible rfl | exact ⟨rfl, rfl⟩
        simp only [Act.put, List.setIfInBounds_toArray, List.set_cons_zero, List.set_cons_succ]
        refine Pq.wpO_retB (by rfl) cf_below (below_any n x _ HX.out) rfl rfl hB2 hS ?_; intro w8 hb8 hS8; rw [← HNX.out]
        simp only [Act.put, List.setIfInBounds_toArray, List.set_cons_zero, List.set_cons_succ]
        refine Pq.wpO_retB (by rfl) cf_below (below_any m y _ HY.out) rfl rfl hB2 hS8 ?_; intro w9 hb9 hS9; rw [← HNY.out]; have K9 := Pq.below_next (Pq.below_next (Pq.below_drew (Below.refl wz.heap.size wz)) (Nat.le_refl _) hb8) (Nat.le_refl _) hb9
        simp only [Act.put, List.setIfInBounds_toArray, List.set_cons_zero, List.set_cons_succ]
        refine Pq.wpO_step (by rfl) ?_
        apply Exists.intro
        refine ⟨fun w' hw' => ?_, ?_⟩
        · go_simp; first | done | with_reducible rfl | exact ⟨rfl, rfl⟩
        simp only [Act.put, List.setIfInBounds_toArray, List.set_cons_zero, List.set_cons_succ]
        refine Pq.wpO_retB (by rfl) cf_told (told_any _ p 0 (x / y) _ (Nat.lt_of_le_of_lt (Nat.div_le_self _ _) HX.out) (Pq.range_in HPz.out K9) (Nat.lt_of_lt_of_le hpl K9.size)) rfl rfl hB2 hS9 ?_; intro w10 hb10 hS10
        simp only [Act.put, List.setIfInBounds_toArray, List.set_cons_zero, List.set_cons_succ]
        refine Pq.wpO_retB (by rfl) cf_below (below_any n x _ HX.out) rfl rfl hB2 hS10 ?_; intro w11 hb11 hS11; rw [← HNX.out]; have K11 := Pq.below_next (Pq.below_next K9 (Nat.le_refl _) hb10) (Nat.le_refl _) hb11
        simp only [Act.put, List.setIfInBounds_toArray, List.set_cons_zero, List.set_cons_succ]
        refine Pq.wpO_retB (by rfl) cf_told (told_any _ r 0 (x % y) _ (Nat.lt_of_le_of_lt (Nat.mod_le _ _) HX.out) (Pq.range_in HRz.out K11) (Nat.lt_of_lt_of_le hrl K11.size)) rfl rfl hB2 hS11 ?_; intro w12 hb12 hS12; have K12 := Pq.below_next K11 (Nat.le_refl _) hb12
        simp only [Act.put, List.setIfInBounds_toArray, List.set_cons_zero, List.set_cons_succ]
        refine Pq.wpO_store (by rfl) 26 _ _ rfl (g + 2) (Pq.wc _ _) rfl rfl 26 (Pq.wc _ _) (Pq.keep_block HGz2.out K12) (s_widea _ _) (by simp only [Pq.wc_size]) (Pq.wc_one _ _) (Pq.below_setRow hS12 (Nat.le_refl _)) ?_
        try simp only [Act.put, List.setIfInBounds_toArray, List.set_cons_zero, List.set_cons_succ]
        refine Pq.wpO_store (by rfl) 26 _ _ rfl (g + 3) (Pq.wc _ _) rfl rfl 26 (Pq.wc _ _) (Pq.keep_row (Pq.keep_block HGz3.out K12) (by omega)) (s_widea _ _) (by simp only [Pq.wc_size]) (Pq.wc_one _ _) (Pq.below_setRow (Pq.below_setRow hS12 (Nat.le_refl _)) (by omega)) ?_
        try simp only [Act.put, List.setIfInBounds_toArray, List.set_cons_zero, List.set_cons_succ]
        refine Pq.wpO_step (by rfl) ?_
        apply Exists.intro
        refine ⟨fun w' hw' => ?_, ?_⟩
        · go_simp; first | done | with_reducible rfl | exact ⟨rfl, rfl⟩
        simp only [Act.put, List.setIfInBounds_toArray, List.set_cons_zero, List.set_cons_succ]
        refine Pq.wpO_nil ?_
        go_wp2
        refine Pq.ret_cell2_tmp rfl (g + 2) (g + 3) _ _ _ _ _ _ _ _ _ rfl rfl rfl (Pq.keep_row (Pq.setRow_at (Pq.keep_block HGz2.out K12)) (by omega)) u_wide rfl (s_widea _ _) (Pq.setRow_at (Pq.keep_row (Pq.keep_block HGz3.out K12) (by omega))) u_wide rfl (s_widea _ _) rfl ⟨?_, Pq.below_setRow (Pq.below_setRow (Pq.below_next HBz.out (Nat.le_refl _) K12) (by rw [← HG.out]; omega)) (by rw [← HG.out]; omega)⟩
        have e1 := Pq.dm_q n x m y
        have e2 := Pq.dm_r n x m y
        rw [← HNX.out, ← HNY.out] at e1
        rw [← HNX.out] at e2
        rw [HRR.out, Pq.dmv_ok _ hyz, ← e1, ← e2]; rfl
end Go.Proofs.YtokgbcachcmeaaaGreatDoor
set_option linter.unusedSimpArgs false
set_option linter.unusedVariables false
namespace Go.Proofs.YtokgbcachcmeaaaGreatDoor
open Go.RowKit
theorem cf_gcd (xs : Array Value) (w : World) : (callFunc 59 xs).run Tryz.prog w = .ok (.enter 59 xs) w := by kernel_rfl

set_option maxRecDepth 100000 in
set_option maxHeartbeats 1000000 in
theorem gcd_any (n : Bool) (x : Nat) (m : Bool) (y : Nat) (w : World) (hx : x < Pq.bp 32) (hy : y < Pq.bp 32) :
    Calls Tryz.prog 59 #[.agg (Pq.wc n x), .agg (Pq.wc m y)] w (Pq.Ret w (.agg (Pq.wc false (Nat.gcd x y)))) := by
  have HX := Lib.hid hx; clear hx
  have HY := Lib.hid hy; clear hy
  obtain ⟨g, hg⟩ : ∃ g, g = w.heap.size := ⟨_, rfl⟩
  have HG := Lib.hid hg; clear hg
  obtain ⟨G, hG⟩ : ∃ G, G = Nat.gcd x y := ⟨_, rfl⟩
  rw [← hG]
  have HGG := Lib.hid hG; clear hG
  go_enter Tryz.func59, Tryz.ntmps59
  go_upto_region 0 with fail
  go_upto_region 0 with fail
  apply wp_region_lit
  refine Pq.wpL_box g HG.out.symm (Pq.wc n x) (by rfl) _ _ rfl rfl (bx_wide n x) ?_
  simp only [Act.put, List.setIfInBounds_toArray, List.set_cons_zero, List.set_cons_succ]
  refine Pq.wpL_box (g + 1) (by simp [HG.out]) (Pq.wc m y) (by rfl) _ _ rfl rfl (bx_wide m y) ?_
  simp only [Act.put, List.setIfInBounds_toArray, List.set_cons_zero, List.set_cons_succ]
  refine Pq.wpL_alloc (g + 2) (by simp [HG.out]) (by rfl) _ rfl (Pq.wc false 0) al_wide ?_
  simp only [Act.put, List.setIfInBounds_toArray, List.set_cons_zero, List.set_cons_succ]
  refine Pq.wpL_nil ?_
  have HU1 := Lib.hid (Pq.al_keep (Pq.al_keep (Pq.al_block w (.cells (Pq.wc n x) 26) g HG.out) (.cells (Pq.wc m y) 26)) (.cells (Pq.wc false 0) 26))
  have HV1 := Lib.hid (Pq.al_keep (Pq.al_block (w.alloc (.cells (Pq.wc n x) 26)) (.cells (Pq.wc m y) 26) (g + 1) (by simp [HG.out])) (.cells (Pq.wc false 0) 26))
  have HG1 := Lib.hid (Pq.al_block ((w.alloc (.cells (Pq.wc n x) 26)).alloc (.cells (Pq.wc m y) 26)) (.cells (Pq.wc false 0) 26) (g + 2) (by simp [HG.out]))
  have HB1 := Lib.hid (Pq.below_alloc (Pq.below_alloc (Pq.below_alloc (Below.refl _ w) (Nat.le_refl _) (.cells (Pq.wc n x) 26)) (Nat.le_refl _) (.cells (Pq.wc m y) 26)) (Nat.le_refl _) (.cells (Pq.wc false 0) 26))
  generalize ((w.alloc (.cells (Pq.wc n x) 26)).alloc (.cells (Pq.wc m y) 26)).alloc (.cells (Pq.wc false 0) 26) = w0 at *
  have hwg0 : w.heap.size ≤ g := by rw [HG.out]; exact Nat.le_refl _
  go_upto_region 1 with fail
  go_upto_region 1 with fail
  apply wp_region_lit
  refine Pq.wpL_step (by rfl) ?_
  apply Exists.intro
  apply Exists.intro
  refine ⟨?_, ?_⟩
  · go_simp; first | done | with_reducible rfl | exact ⟨rfl, rfl⟩
  simp only [Act.put, List.setIfInBounds_toArray, List.set_cons_zero, List.set_cons_succ]
  refine Pq.wpL_put (l := Pq.wl n x) (k := 0) (.bool false) HU1.out (by rw [Pq.wl_length]; decide) (by rfl) 4 _ _ rfl rfl rfl rfl rfl (by kernel_rfl) ?_
  try simp only [Act.put, List.setIfInBounds_toArray, List.set_cons_zero, List.set_cons_succ]
  refine Pq.wpL_step (by rfl) ?_
  apply Exists.intro
  apply Exists.intro
  refine ⟨?_, ?_⟩
  · go_simp; first | done | with_reducible rfl | exact ⟨rfl, rfl⟩
  simp only [Act.put, List.setIfInBounds_toArray, List.set_cons_zero, List.set_cons_succ]
  refine Pq.wpL_put (l := Pq.wl m y) (k := 0) (.bool false) (Pq.keep_row HV1.out (by omega)) (by rw [Pq.wl_length]; decide) (by rfl) 4 _ _ rfl rfl rfl rfl rfl (by kernel_rfl) ?_
  try simp only [Act.put, List.setIfInBounds_toArray, List.set_cons_zero, List.set_cons_succ]
  refine Pq.wpL_nil ?_
  rw [Pq.wl_false, Pq.wl_false]
  have hu2 := Pq.keep_row (cs := Pq.wc false y) (g2 := g + 1) (Pq.setRow_at (cs := Pq.wc false x) HU1.out) (by omega)
  have hv2 := Pq.setRow_at (cs := Pq.wc false y) (Pq.keep_row (cs := Pq.wc false x) (g2 := g) HV1.out (by omega))
  have hg2 := Pq.keep_row (cs := Pq.wc false y) (g2 := g + 1) (Pq.keep_row (cs := Pq.wc false x) (g2 := g) HG1.out (by omega)) (by omega)
  have hb2 := Pq.below_setRow (cs := Pq.wc false y) (g := g + 1) (Pq.below_setRow (cs := Pq.wc false x) (g := g) HB1.out hwg0) (by omega)
  have HU2 := Lib.hid hu2; have HV2 := Lib.hid hv2; have HG2 := Lib.hid hg2; have HB2 := Lib.hid hb2
  clear hu2 hv2 hg2 hb2 HU1 HV1 HG1 HB1
  generalize (w0.setRow g (Pq.wc false x)).setRow (g + 1) (Pq.wc false y) = w2 at *
  go_wp2
  go_loopg [5, 6, 7] y (fun k p1 p2 p3 wr => ∃ u v : Nat, Hid (k = v) ∧ Hid (u < Pq.bp 32) ∧ Hid (v < Pq.bp 32) ∧ Hid (Nat.gcd u v = G) ∧ Hid (wr.heap[g]? = some (.cells (Pq.wc false u) 26 (0, 0))) ∧ Hid (wr.heap[g + 1]? = some (.cells (Pq.wc false v) 26 (0, 0))) ∧ Hid (wr.heap[g + 2]? = some (.cells (Pq.wc false 0) 26 (0, 0))) ∧ Hid (Below w.heap.size w wr))
  case atStart => exact ⟨x, y, Lib.hid rfl, HX, HY, Lib.hid HGG.out.symm, HU2, HV2, HG2, HB2⟩
  case round =>
    obtain ⟨u, v, HK, HUL, HVL, HGCD, HU0, HV0, HG0, HB0⟩ := hrel
    obtain ⟨su, hsu⟩ : ∃ su, su = Pq.szn 32 u := ⟨_, rfl⟩
    obtain ⟨sv, hsv⟩ : ∃ sv, sv = Pq.szn 32 v := ⟨_, rfl⟩
    have hvz : sv = 0 ↔ v = 0 := by rw [hsv]; exact Pq.szn_zero HVL.out
    have HVZ := Lib.hid hvz
    have HSU := Lib.hid hsu; have HSV := Lib.hid hsv
    clear hvz hsu hsv
    rcases Nat.lt_or_ge 2 sv with h1 | h1
    · have c1 : decide ((2 : Int) < (sv : Int)) = true := by simp; omega
      have hv0 : v ≠ 0 := fun h => by have := HVZ.out.2 h; omega
      go_upto_region 2 with fail
      go_upto_region 2 with fail
      apply Pq.wp_region_guard
      refine Pq.WL_load (g + 1) 0 (Pq.wl false v) (Pq.range_wide HV0.out) (by rfl) _ _ rfl rfl _ u_wide rfl (s_wide _ _) ?_
      simp only [Act.put, List.setIfInBounds_toArray, List.set_cons_zero, List.set_cons_succ]
      refine Pq.WL_call (by rfl) cf_of (of_ptr false v _) rfl rfl ?_; rintro e w3 ⟨c, rfl, hr3, hb3, _, _⟩; have HR3 := Lib.hid hr3; clear hr3; refine ⟨_, rfl, ?_⟩
      simp only [Act.put, List.setIfInBounds_toArray, List.set_cons_zero, List.set_cons_succ]
      refine Pq.WL_call (by rfl) cf_size (size_any c 0 v sv HSV.out _ HR3.out) rfl rfl ?_; rintro e w1 ⟨rfl, rfl⟩; refine ⟨_, rfl, ?_⟩
      simp only [Act.put, List.setIfInBounds_toArray, List.set_cons_zero, List.set_cons_succ]
      iterate 2
        refine Pq.WL_step (by rfl) ?_
        apply Exists.intro
        apply Exists.intro
        refine ⟨?_, ?_⟩
        · go_simp; first | done | with_reducible rfl | exact ⟨rfl, rfl⟩
        simp only [Act.put, List.setIfInBounds_toArray, List.set_cons_zero, List.set_cons_succ]
      refine Pq.WL_skip (by kernel_rfl) ?_
      simp only [Act.put, List.setIfInBounds_toArray, List.set_cons_zero, List.set_cons_succ]
      refine Pq.WL_skip (by kernel_rfl) ?_
      simp only [Act.put, List.setIfInBounds_toArray, List.set_cons_zero, List.set_cons_succ]
      refine Pq.WL_skip (by kernel_rfl) ?_
      simp only [Act.put, List.setIfInBounds_toArray, List.set_cons_zero, List.set_cons_succ]
      refine Pq.WL_skip (by kernel_rfl) ?_
      simp only [Act.put, List.setIfInBounds_toArray, List.set_cons_zero, List.set_cons_succ]
      refine Pq.WL_skip (by kernel_rfl) ?_
      simp only [Act.put, List.setIfInBounds_toArray, List.set_cons_zero, List.set_cons_succ]
      refine Pq.WL_skip (by kernel_rfl) ?_
      simp only [Act.put, List.setIfInBounds_toArray, List.set_cons_zero, List.set_cons_succ]
      refine Pq.WL_skip (by kernel_rfl) ?_
      simp only [Act.put, List.setIfInBounds_toArray, List.set_cons_zero, List.set_cons_succ]
      refine Pq.WL_skip (by kernel_rfl) ?_
      simp only [Act.put, List.setIfInBounds_toArray, List.set_cons_zero, List.set_cons_succ]
      refine Pq.WL_skip (by kernel_rfl) ?_
      simp only [Act.put, List.setIfInBounds_toArray, List.set_cons_zero, List.set_cons_succ]
      refine Pq.WL_skip (by kernel_rfl) ?_
      simp only [Act.put, List.setIfInBounds_toArray, List.set_cons_zero, List.set_cons_succ]
      refine Pq.WL_step (by rfl) ?_
      apply Exists.intro
      apply Exists.intro
      refine ⟨?_, ?_⟩
      · go_simp; first | done | with_reducible rfl | exact ⟨rfl, rfl⟩
      simp only [Act.put, List.setIfInBounds_toArray, List.set_cons_zero, List.set_cons_succ]
      refine Pq.WL_nil ?_
      have KK := hb3
      have HUq := Lib.hid (Pq.keep_block HU0.out KK); have HVq := Lib.hid (Pq.keep_block HV0.out KK); have HGq := Lib.hid (Pq.keep_block HG0.out KK)
      have HBq := Lib.hid (Pq.below_next HB0.out (Nat.le_refl _) KK)
      clear HU0 HV0 HG0 HB0 KK
      have hdm : Pq.dmv (Pq.zv false u) (Pq.zv false v) = .tuple #[.agg (Pq.wc false (u / v)), .agg (Pq.wc false (u % v)), .bool true] := by
        have e1 := Pq.dm_q false u false v
        have e2 := Pq.dm_r false u false v
        rw [Pq.dmv_ok _ (Pq.zv_ne false hv0), ← e1, ← e2]; rfl
      have HDM := Lib.hid hdm; clear hdm
      go_upto_region 3 with fail
      go_upto_region 3 with fail
      apply wp_region_lit
      refine Pq.wpL_load g 0 (Pq.wl false u) (Pq.range_wide HUq.out) (by rfl) _ _ rfl rfl _ u_wide rfl (s_wide _ _) ?_
      simp only [Act.put, List.setIfInBounds_toArray, List.set_cons_zero, List.set_cons_succ]
      refine Pq.wpL_load (g + 1) 0 (Pq.wl false v) (Pq.range_wide HVq.out) (by rfl) _ _ rfl rfl _ u_wide rfl (s_wide _ _) ?_
      simp only [Act.put, List.setIfInBounds_toArray, List.set_cons_zero, List.set_cons_succ]
      refine Pq.wpL_ret (by rfl) cf_divmod (divmod_any false u false v _ HUL.out HVL.out) rfl rfl ?_; intro w7 hb7; rw [HDM.out]; obtain ⟨d, hd⟩ : ∃ d, d = w7.heap.size := ⟨_, rfl⟩; have HD := Lib.hid hd; clear hd
      simp only [Act.put, List.setIfInBounds_toArray, List.set_cons_zero, List.set_cons_succ]
      iterate 4
        refine Pq.wpL_step (by rfl) ?_
        apply Exists.intro
        apply Exists.intro
        refine ⟨?_, ?_⟩
        · go_simp; first | done | with_reducible rfl | exact ⟨rfl, rfl⟩
        simp only [Act.put, List.setIfInBounds_toArray, List.set_cons_zero, List.set_cons_succ]
      refine Pq.wpL_alloc d HD.out.symm (by rfl) _ rfl (Pq.wc false 0) al_wide ?_
      simp only [Act.put, List.setIfInBounds_toArray, List.set_cons_zero, List.set_cons_succ]
      refine Pq.wpL_alloc (d + 1) (by simp [HD.out]) (by rfl) _ rfl (Pq.wc false 0) al_wide ?_
      simp only [Act.put, List.setIfInBounds_toArray, List.set_cons_zero, List.set_cons_succ]
      refine Pq.wpL_store (by rfl) 26 _ _ rfl d (Pq.wc _ _) rfl rfl 26 (Pq.wc _ _) (Pq.al_keep (Pq.al_block _ _ _ HD.out) _) (s_widea _ _) (by simp only [Pq.wc_size]) (Pq.wc_one _ _) ?_
      try simp only [Act.put, List.setIfInBounds_toArray, List.set_cons_zero, List.set_cons_succ]
      refine Pq.wpL_store (by rfl) 26 _ _ rfl (d + 1) (Pq.wc _ _) rfl rfl 26 (Pq.wc _ _) (Pq.keep_row (Pq.al_block _ _ _ (by simp [HD.out])) (by omega)) (s_widea _ _) (by simp only [Pq.wc_size]) (Pq.wc_one _ _) ?_
      try simp only [Act.put, List.setIfInBounds_toArray, List.set_cons_zero, List.set_cons_succ]
      refine Pq.wpL_step (by rfl) ?_
      apply Exists.intro
      apply Exists.intro
      refine ⟨?_, ?_⟩
      · go_simp; first | done | with_reducible rfl | exact ⟨rfl, rfl⟩
      simp only [Act.put, List.setIfInBounds_toArray, List.set_cons_zero, List.set_cons_succ]
      refine Pq.wpL_nil ?_
      have hgd : g + 2 < d := by have := (Array.getElem?_eq_some_iff.1 (Pq.keep_block HGq.out hb7)).1; rw [HD.out]; exact this
      have hwg : w.heap.size ≤ g := by rw [HG.out]; exact Nat.le_refl _
      have hu9 := Pq.keep_row (cs := Pq.wc false (u % v)) (g2 := d + 1) (Pq.keep_row (cs := Pq.wc false (u / v)) (g2 := d) (Pq.al_keep (Pq.al_keep (Pq.keep_block HUq.out hb7) (.cells (Pq.wc false 0) 26)) (.cells (Pq.wc false 0) 26)) (by omega)) (by omega)
      have hv9 := Pq.keep_row (cs := Pq.wc false (u % v)) (g2 := d + 1) (Pq.keep_row (cs := Pq.wc false (u / v)) (g2 := d) (Pq.al_keep (Pq.al_keep (Pq.keep_block HVq.out hb7) (.cells (Pq.wc false 0) 26)) (.cells (Pq.wc false 0) 26)) (by omega)) (by omega)
      have hg9 := Pq.keep_row (cs := Pq.wc false (u % v)) (g2 := d + 1) (Pq.keep_row (cs := Pq.wc false (u / v)) (g2 := d) (Pq.al_keep (Pq.al_keep (Pq.keep_block HGq.out hb7) (.cells (Pq.wc false 0) 26)) (.cells (Pq.wc false 0) 26)) (by omega)) (by omega)
      have hm9 := Pq.setRow_at (cs := Pq.wc false (u % v)) (g := d + 1) (Pq.keep_row (cs := Pq.wc false (u / v)) (g2 := d) (Pq.al_block (w7.alloc (.cells (Pq.wc false 0) 26)) (.cells (Pq.wc false 0) 26) (d + 1) (by simp [HD.out])) (by omega))
      have hb9 := Pq.below_setRow (cs := Pq.wc false (u % v)) (g := d + 1) (Pq.below_setRow (cs := Pq.wc false (u / v)) (g := d) (Pq.below_alloc (Pq.below_alloc (Pq.below_next HBq.out (Nat.le_refl _) hb7) (Nat.le_refl _) (.cells (Pq.wc false 0) 26)) (Nat.le_refl _) (.cells (Pq.wc false 0) 26)) (by omega)) (by omega)
      have HU9 := Lib.hid hu9; have HV9 := Lib.hid hv9; have HG9 := Lib.hid hg9; have HM9 := Lib.hid hm9; have HB9 := Lib.hid hb9
      clear hu9 hv9 hg9 hm9 hb9 hb7 HUq HVq HGq HBq HD
      generalize (((w7.alloc (.cells (Pq.wc false 0) 26)).alloc (.cells (Pq.wc false 0) 26)).setRow d (Pq.wc false (u / v))).setRow (d + 1) (Pq.wc false (u % v)) = w9 at *
      have HS0 : w9.drew.rangeAt (d + 1) 0 (Pq.wl false (u % v)) := Pq.dr_range (Pq.range_wide HM9.out)
      go_upto_region 4 with fail
      refine Pq.wp_region_order (fun w' => w'.rangeAt (d + 1) 0 (Pq.wl false (u % v))) [(1, true), (0, false), (2, false), (3, false)] (by kernel_rfl) (by kernel_rfl) (fun _ _ d _ _ h => by cases d <;> exact h) (HS0) ?_
      simp only [Pq.pick, List.filterMap_cons, List.filterMap_nil, List.getElem?_cons_zero, List.getElem?_cons_succ, Option.map_some]
      refine Pq.wpO_loadS (d + 1) 0 (Pq.wl false (u % v)) (fun _ h => h) (by rfl) _ _ rfl rfl _ u_wide rfl (s_wide _ _) ?_
      simp only [Act.put, List.setIfInBounds_toArray, List.set_cons_zero, List.set_cons_succ]
      refine Pq.wpO_loadU (g + 1) 0 (Pq.wl false v) (Pq.dr_range (Pq.range_wide HV9.out)) HS0 (by rfl) _ _ rfl rfl _ u_wide rfl (s_wide _ _) ?_
      simp only [Act.put, List.setIfInBounds_toArray, List.set_cons_zero, List.set_cons_succ]
      refine Pq.wpO_store (by rfl) 26 _ _ rfl g (Pq.wc false v) rfl rfl 26 (Pq.wc _ _) (Pq.dr_block HU9.out) (s_widea _ _) (by simp only [Pq.wc_size]) (Pq.wc_one _ _) (Pq.keep_range HS0 (by omega)) ?_
      try simp only [Act.put, List.setIfInBounds_toArray, List.set_cons_zero, List.set_cons_succ]
      refine Pq.wpO_store (by rfl) 26 _ _ rfl (g + 1) (Pq.wc false (u % v)) rfl rfl 26 (Pq.wc _ _) (Pq.keep_row (Pq.dr_block HV9.out) (by omega)) (s_widea _ _) (by simp only [Pq.wc_size]) (Pq.wc_one _ _) (Pq.keep_range (Pq.keep_range HS0 (by omega)) (by omega)) ?_
      try simp only [Act.put, List.setIfInBounds_toArray, List.set_cons_zero, List.set_cons_succ]
      refine Pq.wpO_nil ?_
      go_wp2
      go_roundg (u % v)
      case measure => rw [HK.out]; exact Nat.mod_lt _ (Nat.pos_of_ne_zero hv0)
      case rel => exact ⟨v, u % v, Lib.hid rfl, Lib.hid HVL.out, Lib.hid (Nat.lt_of_le_of_lt (Nat.mod_le _ _) HUL.out), Lib.hid ((Pq.gcd_step u v).trans HGCD.out), Lib.hid (Pq.keep_row (Pq.setRow_at (Pq.dr_block HU9.out)) (by omega)), Lib.hid (Pq.setRow_at (Pq.keep_row (Pq.dr_block HV9.out) (by omega))), Lib.hid (Pq.keep_row (Pq.keep_row (Pq.dr_block HG9.out) (by omega)) (by omega)), Lib.hid (Pq.below_setRow (Pq.below_setRow (Pq.below_drew HB9.out) hwg) (by omega))⟩
    · have c1 : decide ((2 : Int) < (sv : Int)) = false := by simp; omega
      rcases Nat.lt_or_ge 2 su with h2 | h2
      · have c2 : decide ((2 : Int) < (su : Int)) = true := by simp; omega
        by_cases h3 : sv = 0
        · have c3 : decide (0 < sv) = false := by simp; omega
          have c4 : ((sv : Int) == 0) = true := by rw [h3]; rfl
          have HV00 := Lib.hid (HVZ.out.1 h3)
          clear h3
          go_upto_region 2 with fail
          go_upto_region 2 with fail
          apply Pq.wp_region_guard
          refine Pq.WL_load (g + 1) 0 (Pq.wl false v) (Pq.range_wide HV0.out) (by rfl) _ _ rfl rfl _ u_wide rfl (s_wide _ _) ?_
          simp only [Act.put, List.setIfInBounds_toArray, List.set_cons_zero, List.set_cons_succ]
          refine Pq.WL_call (by rfl) cf_of (of_ptr false v _) rfl rfl ?_; rintro e w3 ⟨c, rfl, hr3, hb3, _, _⟩; have HR3 := Lib.hid hr3; clear hr3; refine ⟨_, rfl, ?_⟩
          simp only [Act.put, List.setIfInBounds_toArray, List.set_cons_zero, List.set_cons_succ]
          refine Pq.WL_call (by rfl) cf_size (size_any c 0 v sv HSV.out _ HR3.out) rfl rfl ?_; rintro e w1 ⟨rfl, rfl⟩; refine ⟨_, rfl, ?_⟩
          simp only [Act.put, List.setIfInBounds_toArray, List.set_cons_zero, List.set_cons_succ]
          iterate 2
            refine Pq.WL_step (by rfl) ?_
            apply Exists.intro
            apply Exists.intro
            refine ⟨?_, ?_⟩
            · go_simp; first | done | with_reducible rfl | exact ⟨rfl, rfl⟩
            simp only [Act.put, List.setIfInBounds_toArray, List.set_cons_zero, List.set_cons_succ]
          refine Pq.WL_load g 0 (Pq.wl false u) (Pq.range_wide (Pq.keep_block HU0.out hb3)) (by rfl) _ _ rfl rfl _ u_wide rfl (s_wide _ _) ?_
          simp only [Act.put, List.setIfInBounds_toArray, List.set_cons_zero, List.set_cons_succ]
          refine Pq.WL_call (by rfl) cf_of (of_ptr false u _) rfl rfl ?_; rintro e w4 ⟨b, rfl, hr4, hb4, _, _⟩; have HR4 := Lib.hid hr4; clear hr4; refine ⟨_, rfl, ?_⟩
          simp only [Act.put, List.setIfInBounds_toArray, List.set_cons_zero, List.set_cons_succ]
          refine Pq.WL_call (by rfl) cf_size (size_any b 0 u su HSU.out _ HR4.out) rfl rfl ?_; rintro e w1 ⟨rfl, rfl⟩; refine ⟨_, rfl, ?_⟩
          simp only [Act.put, List.setIfInBounds_toArray, List.set_cons_zero, List.set_cons_succ]
          iterate 2
            refine Pq.WL_step (by rfl) ?_
            apply Exists.intro
            apply Exists.intro
            refine ⟨?_, ?_⟩
            · go_simp; first | done | with_reducible rfl | exact ⟨rfl, rfl⟩
            simp only [Act.put, List.setIfInBounds_toArray, List.set_cons_zero, List.set_cons_succ]
          refine Pq.WL_load (g + 1) 0 (Pq.wl false v) (Pq.range_wide (Pq.keep_block (Pq.keep_block HV0.out hb3) hb4)) (by rfl) _ _ rfl rfl _ u_wide rfl (s_wide _ _) ?_
          simp only [Act.put, List.setIfInBounds_toArray, List.set_cons_zero, List.set_cons_succ]
          refine Pq.WL_call (by rfl) cf_of (of_ptr false v _) rfl rfl ?_; rintro e w5 ⟨d, rfl, hr5, hb5, _, _⟩; have HR5 := Lib.hid hr5; clear hr5; refine ⟨_, rfl, ?_⟩
          simp only [Act.put, List.setIfInBounds_toArray, List.set_cons_zero, List.set_cons_succ]
          refine Pq.WL_call (by rfl) cf_size (size_any d 0 v sv HSV.out _ HR5.out) rfl rfl ?_; rintro e w1 ⟨rfl, rfl⟩; refine ⟨_, rfl, ?_⟩
          simp only [Act.put, List.setIfInBounds_toArray, List.set_cons_zero, List.set_cons_succ]
          iterate 3
            refine Pq.WL_step (by rfl) ?_
            apply Exists.intro
            apply Exists.intro
            refine ⟨?_, ?_⟩
            · go_simp; first | done | with_reducible rfl | exact ⟨rfl, rfl⟩
            simp only [Act.put, List.setIfInBounds_toArray, List.set_cons_zero, List.set_cons_succ]
          refine Pq.WL_nil ?_
          have KK := Pq.below_next (Pq.below_next hb3 (Nat.le_refl _) hb4) (Nat.le_refl _) hb5
          have HUq := Lib.hid (Pq.keep_block HU0.out KK); have HVq := Lib.hid (Pq.keep_block HV0.out KK); have HGq := Lib.hid (Pq.keep_block HG0.out KK)
          have HBq := Lib.hid (Pq.below_next HB0.out (Nat.le_refl _) KK)
          clear HU0 HV0 HG0 HB0 KK
          go_upto_region 5 with fail
          go_upto_region 5 with fail
          apply wp_region_lit
          refine Pq.wpL_load (g + 1) 0 (Pq.wl false v) (Pq.range_wide HVq.out) (by rfl) _ _ rfl rfl _ u_wide rfl (s_wide _ _) ?_
          simp only [Act.put, List.setIfInBounds_toArray, List.set_cons_zero, List.set_cons_succ]
          refine Pq.wpL_call (by rfl) cf_of (of_ptr false v _) rfl rfl ?_; rintro e w6 ⟨c6, rfl, hr6, hb6, _, _⟩; have HR6 := Lib.hid hr6; clear hr6; refine ⟨_, rfl, ?_⟩
          simp only [Act.put, List.setIfInBounds_toArray, List.set_cons_zero, List.set_cons_succ]
          refine Pq.wpL_call (by rfl) cf_size (size_any c6 0 v sv HSV.out _ HR6.out) rfl rfl ?_; rintro e w1 ⟨rfl, rfl⟩; refine ⟨_, rfl, ?_⟩
          simp only [Act.put, List.setIfInBounds_toArray, List.set_cons_zero, List.set_cons_succ]
          refine Pq.wpL_step (by rfl) ?_
          apply Exists.intro
          apply Exists.intro
          refine ⟨?_, ?_⟩
          · go_simp; first | done | with_reducible rfl | exact ⟨rfl, rfl⟩
          simp only [Act.put, List.setIfInBounds_toArray, List.set_cons_zero, List.set_cons_succ]
          refine Pq.wpL_nil ?_
          go_upto_region 6 with fail
          go_upto_region 6 with fail
          apply wp_region_lit
          refine Pq.wpL_load g 0 (Pq.wl false u) (Pq.range_wide (Pq.keep_block HUq.out hb6)) (by rfl) _ _ rfl rfl _ u_wide rfl (s_wide _ _) ?_
          simp only [Act.put, List.setIfInBounds_toArray, List.set_cons_zero, List.set_cons_succ]
          refine Pq.wpL_store (by rfl) 26 _ _ rfl (g + 2) (Pq.wc _ _) rfl rfl 26 (Pq.wc _ _) (Pq.keep_block HGq.out hb6) (s_widea _ _) (by simp only [Pq.wc_size]) (Pq.wc_one _ _) ?_
          try simp only [Act.put, List.setIfInBounds_toArray, List.set_cons_zero, List.set_cons_succ]
          refine Pq.wpL_nil ?_
          go_wp2
          refine Pq.ret_cell rfl (g + 2) _ _ _ _ rfl (Pq.setRow_at (Pq.keep_block HGq.out hb6)) u_wide rfl (s_widea _ _) rfl ⟨?_, Pq.below_setRow (Pq.below_next HBq.out (Nat.le_refl _) hb6) (by rw [← HG.out]; omega)⟩
          rw [← HGCD.out, HV00.out, Nat.gcd_zero_right]
        · have c3 : decide (0 < sv) = true := by simp; omega
          have hv0 : v ≠ 0 := fun h => h3 (HVZ.out.2 h)
          clear h3
          go_upto_region 2 with fail
          go_upto_region 2 with fail
          apply Pq.wp_region_guard
          refine Pq.WL_load (g + 1) 0 (Pq.wl false v) (Pq.range_wide HV0.out) (by rfl) _ _ rfl rfl _ u_wide rfl (s_wide _ _) ?_
          simp only [Act.put, List.setIfInBounds_toArray, List.set_cons_zero, List.set_cons_succ]
          refine Pq.WL_call (by rfl) cf_of (of_ptr false v _) rfl rfl ?_; rintro e w3 ⟨c, rfl, hr3, hb3, _, _⟩; have HR3 := Lib.hid hr3; clear hr3; refine ⟨_, rfl, ?_⟩
          simp only [Act.put, List.setIfInBounds_toArray, List.set_cons_zero, List.set_cons_succ]
          refine Pq.WL_call (by rfl) cf_size (size_any c 0 v sv HSV.out _ HR3.out) rfl rfl ?_; rintro e w1 ⟨rfl, rfl⟩; refine ⟨_, rfl, ?_⟩
          simp only [Act.put, List.setIfInBounds_toArray, List.set_cons_zero, List.set_cons_succ]
          iterate 2
            refine Pq.WL_step (by rfl) ?_
            apply Exists.intro
            apply Exists.intro
            refine ⟨?_, ?_⟩
            · go_simp; first | done | with_reducible rfl | exact ⟨rfl, rfl⟩
            simp only [Act.put, List.setIfInBounds_toArray, List.set_cons_zero, List.set_cons_succ]
          refine Pq.WL_load g 0 (Pq.wl false u) (Pq.range_wide (Pq.keep_block HU0.out hb3)) (by rfl) _ _ rfl rfl _ u_wide rfl (s_wide _ _) ?_
          simp only [Act.put, List.setIfInBounds_toArray, List.set_cons_zero, List.set_cons_succ]
          refine Pq.WL_call (by rfl) cf_of (of_ptr false u _) rfl rfl ?_; rintro e w4 ⟨b, rfl, hr4, hb4, _, _⟩; have HR4 := Lib.hid hr4; clear hr4; refine ⟨_, rfl, ?_⟩
          simp only [Act.put, List.setIfInBounds_toArray, List.set_cons_zero, List.set_cons_succ]
          refine Pq.WL_call (by rfl) cf_size (size_any b 0 u su HSU.out _ HR4.out) rfl rfl ?_; rintro e w1 ⟨rfl, rfl⟩; refine ⟨_, rfl, ?_⟩
          simp only [Act.put, List.setIfInBounds_toArray, List.set_cons_zero, List.set_cons_succ]
          iterate 2
            refine Pq.WL_step (by rfl) ?_
            apply Exists.intro
            apply Exists.intro
            refine ⟨?_, ?_⟩
            · go_simp; first | done | with_reducible rfl | exact ⟨rfl, rfl⟩
            simp only [Act.put, List.setIfInBounds_toArray, List.set_cons_zero, List.set_cons_succ]
          refine Pq.WL_load (g + 1) 0 (Pq.wl false v) (Pq.range_wide (Pq.keep_block (Pq.keep_block HV0.out hb3) hb4)) (by rfl) _ _ rfl rfl _ u_wide rfl (s_wide _ _) ?_
          simp only [Act.put, List.setIfInBounds_toArray, List.set_cons_zero, List.set_cons_succ]
          refine Pq.WL_call (by rfl) cf_of (of_ptr false v _) rfl rfl ?_; rintro e w5 ⟨d, rfl, hr5, hb5, _, _⟩; have HR5 := Lib.hid hr5; clear hr5; refine ⟨_, rfl, ?_⟩
          simp only [Act.put, List.setIfInBounds_toArray, List.set_cons_zero, List.set_cons_succ]
          refine Pq.WL_call (by rfl) cf_size (size_any d 0 v sv HSV.out _ HR5.out) rfl rfl ?_; rintro e w1 ⟨rfl, rfl⟩; refine ⟨_, rfl, ?_⟩
          simp only [Act.put, List.setIfInBounds_toArray, List.set_cons_zero, List.set_cons_succ]
          iterate 3
            refine Pq.WL_step (by rfl) ?_
            apply Exists.intro
            apply Exists.intro
            refine ⟨?_, ?_⟩
            · go_simp; first | done | with_reducible rfl | exact ⟨rfl, rfl⟩
            simp only [Act.put, List.setIfInBounds_toArray, List.set_cons_zero, List.set_cons_succ]
          refine Pq.WL_nil ?_
          have KK := Pq.below_next (Pq.below_next hb3 (Nat.le_refl _) hb4) (Nat.le_refl _) hb5
          have HUq := Lib.hid (Pq.keep_block HU0.out KK); have HVq := Lib.hid (Pq.keep_block HV0.out KK); have HGq := Lib.hid (Pq.keep_block HG0.out KK)
          have HBq := Lib.hid (Pq.below_next HB0.out (Nat.le_refl _) KK)
          clear HU0 HV0 HG0 HB0 KK
          have hdm : Pq.dmv (Pq.zv false u) (Pq.zv false v) = .tuple #[.agg (Pq.wc false (u / v)), .agg (Pq.wc false (u % v)), .bool true] := by
            have e1 := Pq.dm_q false u false v
            have e2 := Pq.dm_r false u false v
            rw [Pq.dmv_ok _ (Pq.zv_ne false hv0), ← e1, ← e2]; rfl
          have HDM := Lib.hid hdm; clear hdm
          go_upto_region 3 with fail
          go_upto_region 3 with fail
          apply wp_region_lit
          refine Pq.wpL_load g 0 (Pq.wl false u) (Pq.range_wide HUq.out) (by rfl) _ _ rfl rfl _ u_wide rfl (s_wide _ _) ?_
          simp only [Act.put, List.setIfInBounds_toArray, List.set_cons_zero, List.set_cons_succ]
          refine Pq.wpL_load (g + 1) 0 (Pq.wl false v) (Pq.range_wide HVq.out) (by rfl) _ _ rfl rfl _ u_wide rfl (s_wide _ _) ?_
          simp only [Act.put, List.setIfInBounds_toArray, List.set_cons_zero, List.set_cons_succ]
          refine Pq.wpL_ret (by rfl) cf_divmod (divmod_any false u false v _ HUL.out HVL.out) rfl rfl ?_; intro w7 hb7; rw [HDM.out]; obtain ⟨d, hd⟩ : ∃ d, d = w7.heap.size := ⟨_, rfl⟩; have HD := Lib.hid hd; clear hd
          simp only [Act.put, List.setIfInBounds_toArray, List.set_cons_zero, List.set_cons_succ]
          iterate 4
            refine Pq.wpL_step (by rfl) ?_
            apply Exists.intro
            apply Exists.intro
            refine ⟨?_, ?_⟩
            · go_simp; first | done | with_reducible rfl | exact ⟨rfl, rfl⟩
            simp only [Act.put, List.setIfInBounds_toArray, List.set_cons_zero, List.set_cons_succ]
          refine Pq.wpL_alloc d HD.out.symm (by rfl) _ rfl (Pq.wc false 0) al_wide ?_
          simp only [Act.put, List.setIfInBounds_toArray, List.set_cons_zero, List.set_cons_succ]
          refine Pq.wpL_alloc (d + 1) (by simp [HD.out]) (by rfl) _ rfl (Pq.wc false 0) al_wide ?_
          simp only [Act.put, List.setIfInBounds_toArray, List.set_cons_zero, List.set_cons_succ]
          refine Pq.wpL_store (by rfl) 26 _ _ rfl d (Pq.wc _ _) rfl rfl 26 (Pq.wc _ _) (Pq.al_keep (Pq.al_block _ _ _ HD.out) _) (s_widea _ _) (by simp only [Pq.wc_size]) (Pq.wc_one _ _) ?_
          try simp only [Act.put, List.setIfInBounds_toArray, List.set_cons_zero, List.set_cons_succ]
          refine Pq.wpL_store (by rfl) 26 _ _ rfl (d + 1) (Pq.wc _ _) rfl rfl 26 (Pq.wc _ _) (Pq.keep_row (Pq.al_block _ _ _ (by simp [HD.out])) (by omega)) (s_widea _ _) (by simp only [Pq.wc_size]) (Pq.wc_one _ _) ?_
          try simp only [Act.put, List.setIfInBounds_toArray, List.set_cons_zero, List.set_cons_succ]
          refine Pq.wpL_step (by rfl) ?_
          apply Exists.intro
          apply Exists.intro
          refine ⟨?_, ?_⟩
          · go_simp; first | done | with_reducible rfl | exact ⟨rfl, rfl⟩
          simp only [Act.put, List.setIfInBounds_toArray, List.set_cons_zero, List.set_cons_succ]
          refine Pq.wpL_nil ?_
          have hgd : g + 2 < d := by have := (Array.getElem?_eq_some_iff.1 (Pq.keep_block HGq.out hb7)).1; rw [HD.out]; exact this
          have hwg : w.heap.size ≤ g := by rw [HG.out]; exact Nat.le_refl _
          have hu9 := Pq.keep_row (cs := Pq.wc false (u % v)) (g2 := d + 1) (Pq.keep_row (cs := Pq.wc false (u / v)) (g2 := d) (Pq.al_keep (Pq.al_keep (Pq.keep_block HUq.out hb7) (.cells (Pq.wc false 0) 26)) (.cells (Pq.wc false 0) 26)) (by omega)) (by omega)
          have hv9 := Pq.keep_row (cs := Pq.wc false (u % v)) (g2 := d + 1) (Pq.keep_row (cs := Pq.wc false (u / v)) (g2 := d) (Pq.al_keep (Pq.al_keep (Pq.keep_block HVq.out hb7) (.cells (Pq.wc false 0) 26)) (.cells (Pq.wc false 0) 26)) (by omega)) (by omega)
          have hg9 := Pq.keep_row (cs := Pq.wc false (u % v)) (g2 := d + 1) (Pq.keep_row (cs := Pq.wc false (u / v)) (g2 := d) (Pq.al_keep (Pq.al_keep (Pq.keep_block HGq.out hb7) (.cells (Pq.wc false 0) 26)) (.cells (Pq.wc false 0) 26)) (by omega)) (by omega)
          have hm9 := Pq.setRow_at (cs := Pq.wc false (u % v)) (g := d + 1) (Pq.keep_row (cs := Pq.wc false (u / v)) (g2 := d) (Pq.al_block (w7.alloc (.cells (Pq.wc false 0) 26)) (.cells (Pq.wc false 0) 26) (d + 1) (by simp [HD.out])) (by omega))
          have hb9 := Pq.below_setRow (cs := Pq.wc false (u % v)) (g := d + 1) (Pq.below_setRow (cs := Pq.wc false (u / v)) (g := d) (Pq.below_alloc (Pq.below_alloc (Pq.below_next HBq.out (Nat.le_refl _) hb7) (Nat.le_refl _) (.cells (Pq.wc false 0) 26)) (Nat.le_refl _) (.cells (Pq.wc false 0) 26)) (by omega)) (by omega)
          have HU9 := Lib.hid hu9; have HV9 := Lib.hid hv9; have HG9 := Lib.hid hg9; have HM9 := Lib.hid hm9; have HB9 := Lib.hid hb9
          clear hu9 hv9 hg9 hm9 hb9 hb7 HUq HVq HGq HBq HD
          generalize (((w7.alloc (.cells (Pq.wc false 0) 26)).alloc (.cells (Pq.wc false 0) 26)).setRow d (Pq.wc false (u / v))).setRow (d + 1) (Pq.wc false (u % v)) = w9 at *
          have HS0 : w9.drew.rangeAt (d + 1) 0 (Pq.wl false (u % v)) := Pq.dr_range (Pq.range_wide HM9.out)
          go_upto_region 4 with fail
          refine Pq.wp_region_order (fun w' => w'.rangeAt (d + 1) 0 (Pq.wl false (u % v))) [(1, true), (0, false), (2, false), (3, false)] (by kernel_rfl) (by kernel_rfl) (fun _ _ d _ _ h => by cases d <;> exact h) (HS0) ?_
          simp only [Pq.pick, List.filterMap_cons, List.filterMap_nil, List.getElem?_cons_zero, List.getElem?_cons_succ, Option.map_some]
          refine Pq.wpO_loadS (d + 1) 0 (Pq.wl false (u % v)) (fun _ h => h) (by rfl) _ _ rfl rfl _ u_wide rfl (s_wide _ _) ?_
          simp only [Act.put, List.setIfInBounds_toArray, List.set_cons_zero, List.set_cons_succ]
          refine Pq.wpO_loadU (g + 1) 0 (Pq.wl false v) (Pq.dr_range (Pq.range_wide HV9.out)) HS0 (by rfl) _ _ rfl rfl _ u_wide rfl (s_wide _ _) ?_
          simp only [Act.put, List.setIfInBounds_toArray, List.set_cons_zero, List.set_cons_succ]
          refine Pq.wpO_store (by rfl) 26 _ _ rfl g (Pq.wc false v) rfl rfl 26 (Pq.wc _ _) (Pq.dr_block HU9.out) (s_widea _ _) (by simp only [Pq.wc_size]) (Pq.wc_one _ _) (Pq.keep_range HS0 (by omega)) ?_
          try simp only [Act.put, List.setIfInBounds_toArray, List.set_cons_zero, List.set_cons_succ]
          refine Pq.wpO_store (by rfl) 26 _ _ rfl (g + 1) (Pq.wc false (u % v)) rfl rfl 26 (Pq.wc _ _) (Pq.keep_row (Pq.dr_block HV9.out) (by omega)) (s_widea _ _) (by simp only [Pq.wc_size]) (Pq.wc_one _ _) (Pq.keep_range (Pq.keep_range HS0 (by omega)) (by omega)) ?_
          try simp only [Act.put, List.setIfInBounds_toArray, List.set_cons_zero, List.set_cons_succ]
          refine Pq.wpO_nil ?_
          go_wp2
          go_roundg (u % v)
          case measure => rw [HK.out]; exact Nat.mod_lt _ (Nat.pos_of_ne_zero hv0)
          case rel => exact ⟨v, u % v, Lib.hid rfl, Lib.hid HVL.out, Lib.hid (Nat.lt_of_le_of_lt (Nat.mod_le _ _) HUL.out), Lib.hid ((Pq.gcd_step u v).trans HGCD.out), Lib.hid (Pq.keep_row (Pq.setRow_at (Pq.dr_block HU9.out)) (by omega)), Lib.hid (Pq.setRow_at (Pq.keep_row (Pq.dr_block HV9.out) (by omega))), Lib.hid (Pq.keep_row (Pq.keep_row (Pq.dr_block HG9.out) (by omega)) (by omega)), Lib.hid (Pq.below_setRow (Pq.below_setRow (Pq.below_drew HB9.out) hwg) (by omega))⟩
      · have c2 : decide ((2 : Int) < (su : Int)) = false := by simp; omega
        by_cases h3 : sv = 0
        · have c4 : ((sv : Int) == 0) = true := by rw [h3]; rfl
          have HV00 := Lib.hid (HVZ.out.1 h3)
          clear h3
          go_upto_region 2 with fail
          go_upto_region 2 with fail
          apply Pq.wp_region_guard
          refine Pq.WL_load (g + 1) 0 (Pq.wl false v) (Pq.range_wide HV0.out) (by rfl) _ _ rfl rfl _ u_wide rfl (s_wide _ _) ?_
          simp only [Act.put, List.setIfInBounds_toArray, List.set_cons_zero, List.set_cons_succ]
          refine Pq.WL_call (by rfl) cf_of (of_ptr false v _) rfl rfl ?_; rintro e w3 ⟨c, rfl, hr3, hb3, _, _⟩; have HR3 := Lib.hid hr3; clear hr3; refine ⟨_, rfl, ?_⟩
          simp only [Act.put, List.setIfInBounds_toArray, List.set_cons_zero, List.set_cons_succ]
          refine Pq.WL_call (by rfl) cf_size (size_any c 0 v sv HSV.out _ HR3.out) rfl rfl ?_; rintro e w1 ⟨rfl, rfl⟩; refine ⟨_, rfl, ?_⟩
          simp only [Act.put, List.setIfInBounds_toArray, List.set_cons_zero, List.set_cons_succ]
          iterate 2
            refine Pq.WL_step (by rfl) ?_
            apply Exists.intro
            apply Exists.intro
            refine ⟨?_, ?_⟩
            · go_simp; first | done | with_reducible rfl | exact ⟨rfl, rfl⟩
            simp only [Act.put, List.setIfInBounds_toArray, List.set_cons_zero, List.set_cons_succ]
          refine Pq.WL_load g 0 (Pq.wl false u) (Pq.range_wide (Pq.keep_block HU0.out hb3)) (by rfl) _ _ rfl rfl _ u_wide rfl (s_wide _ _) ?_
          simp only [Act.put, List.setIfInBounds_toArray, List.set_cons_zero, List.set_cons_succ]
          refine Pq.WL_call (by rfl) cf_of (of_ptr false u _) rfl rfl ?_; rintro e w4 ⟨b, rfl, hr4, hb4, _, _⟩; have HR4 := Lib.hid hr4; clear hr4; refine ⟨_, rfl, ?_⟩
          simp only [Act.put, List.setIfInBounds_toArray, List.set_cons_zero, List.set_cons_succ]
          refine Pq.WL_call (by rfl) cf_size (size_any b 0 u su HSU.out _ HR4.out) rfl rfl ?_; rintro e w1 ⟨rfl, rfl⟩; refine ⟨_, rfl, ?_⟩
          simp only [Act.put, List.setIfInBounds_toArray, List.set_cons_zero, List.set_cons_succ]
          iterate 2
            refine Pq.WL_step (by rfl) ?_
            apply Exists.intro
            apply Exists.intro
            refine ⟨?_, ?_⟩
            · go_simp; first | done | with_reducible rfl | exact ⟨rfl, rfl⟩
            simp only [Act.put, List.setIfInBounds_toArray, List.set_cons_zero, List.set_cons_succ]
          refine Pq.WL_skip (by kernel_rfl) ?_
          simp only [Act.put, List.setIfInBounds_toArray, List.set_cons_zero, List.set_cons_succ]
          refine Pq.WL_skip (by kernel_rfl) ?_
          simp only [Act.put, List.setIfInBounds_toArray, List.set_cons_zero, List.set_cons_succ]
          refine Pq.WL_skip (by kernel_rfl) ?_
          simp only [Act.put, List.setIfInBounds_toArray, List.set_cons_zero, List.set_cons_succ]
          refine Pq.WL_skip (by kernel_rfl) ?_
          simp only [Act.put, List.setIfInBounds_toArray, List.set_cons_zero, List.set_cons_succ]
          iterate 2
            refine Pq.WL_step (by rfl) ?_
            apply Exists.intro
            apply Exists.intro
            refine ⟨?_, ?_⟩
            · go_simp; first | done | with_reducible rfl | exact ⟨rfl, rfl⟩
            simp only [Act.put, List.setIfInBounds_toArray, List.set_cons_zero, List.set_cons_succ]
          refine Pq.WL_nil ?_
          have KK := Pq.below_next hb3 (Nat.le_refl _) hb4
          have HUq := Lib.hid (Pq.keep_block HU0.out KK); have HVq := Lib.hid (Pq.keep_block HV0.out KK); have HGq := Lib.hid (Pq.keep_block HG0.out KK)
          have HBq := Lib.hid (Pq.below_next HB0.out (Nat.le_refl _) KK)
          clear HU0 HV0 HG0 HB0 KK
          go_upto_region 5 with fail
          go_upto_region 5 with fail
          apply wp_region_lit
          refine Pq.wpL_load (g + 1) 0 (Pq.wl false v) (Pq.range_wide HVq.out) (by rfl) _ _ rfl rfl _ u_wide rfl (s_wide _ _) ?_
          simp only [Act.put, List.setIfInBounds_toArray, List.set_cons_zero, List.set_cons_succ]
          refine Pq.wpL_call (by rfl) cf_of (of_ptr false v _) rfl rfl ?_; rintro e w6 ⟨c6, rfl, hr6, hb6, _, _⟩; have HR6 := Lib.hid hr6; clear hr6; refine ⟨_, rfl, ?_⟩
          simp only [Act.put, List.setIfInBounds_toArray, List.set_cons_zero, List.set_cons_succ]
          refine Pq.wpL_call (by rfl) cf_size (size_any c6 0 v sv HSV.out _ HR6.out) rfl rfl ?_; rintro e w1 ⟨rfl, rfl⟩; refine ⟨_, rfl, ?_⟩
          simp only [Act.put, List.setIfInBounds_toArray, List.set_cons_zero, List.set_cons_succ]
          refine Pq.wpL_step (by rfl) ?_
          apply Exists.intro
          apply Exists.intro
          refine ⟨?_, ?_⟩
          · go_simp; first | done | with_reducible rfl | exact ⟨rfl, rfl⟩
          simp only [Act.put, List.setIfInBounds_toArray, List.set_cons_zero, List.set_cons_succ]
          refine Pq.wpL_nil ?_
          go_upto_region 6 with fail
          go_upto_region 6 with fail
          apply wp_region_lit
          refine Pq.wpL_load g 0 (Pq.wl false u) (Pq.range_wide (Pq.keep_block HUq.out hb6)) (by rfl) _ _ rfl rfl _ u_wide rfl (s_wide _ _) ?_
          simp only [Act.put, List.setIfInBounds_toArray, List.set_cons_zero, List.set_cons_succ]
          refine Pq.wpL_store (by rfl) 26 _ _ rfl (g + 2) (Pq.wc _ _) rfl rfl 26 (Pq.wc _ _) (Pq.keep_block HGq.out hb6) (s_widea _ _) (by simp only [Pq.wc_size]) (Pq.wc_one _ _) ?_
          try simp only [Act.put, List.setIfInBounds_toArray, List.set_cons_zero, List.set_cons_succ]
          refine Pq.wpL_nil ?_
          go_wp2
          refine Pq.ret_cell rfl (g + 2) _ _ _ _ rfl (Pq.setRow_at (Pq.keep_block HGq.out hb6)) u_wide rfl (s_widea _ _) rfl ⟨?_, Pq.below_setRow (Pq.below_next HBq.out (Nat.le_refl _) hb6) (by rw [← HG.out]; omega)⟩
          rw [← HGCD.out, HV00.out, Nat.gcd_zero_right]
        · have c4 : ((sv : Int) == 0) = false := (by have h4 : ¬ (sv : Int) = 0 := (by omega); simpa using h4)
          clear h3
          go_upto_region 2 with fail
          go_upto_region 2 with fail
          apply Pq.wp_region_guard
          refine Pq.WL_load (g + 1) 0 (Pq.wl false v) (Pq.range_wide HV0.out) (by rfl) _ _ rfl rfl _ u_wide rfl (s_wide _ _) ?_
          simp only [Act.put, List.setIfInBounds_toArray, List.set_cons_zero, List.set_cons_succ]
          refine Pq.WL_call (by rfl) cf_of (of_ptr false v _) rfl rfl ?_; rintro e w3 ⟨c, rfl, hr3, hb3, _, _⟩; have HR3 := Lib.hid hr3; clear hr3; refine ⟨_, rfl, ?_⟩
          simp only [Act.put, List.setIfInBounds_toArray, List.set_cons_zero, List.set_cons_succ]
          refine Pq.WL_call (by rfl) cf_size (size_any c 0 v sv HSV.out _ HR3.out) rfl rfl ?_; rintro e w1 ⟨rfl, rfl⟩; refine ⟨_, rfl, ?_⟩
          simp only [Act.put, List.setIfInBounds_toArray, List.set_cons_zero, List.set_cons_succ]
          iterate 2
            refine Pq.WL_step (by rfl) ?_
            apply Exists.intro
            apply Exists.intro
            refine ⟨?_, ?_⟩
            · go_simp; first | done | with_reducible rfl | exact ⟨rfl, rfl⟩
            simp only [Act.put, List.setIfInBounds_toArray, List.set_cons_zero, List.set_cons_succ]
          refine Pq.WL_load g 0 (Pq.wl false u) (Pq.range_wide (Pq.keep_block HU0.out hb3)) (by rfl) _ _ rfl rfl _ u_wide rfl (s_wide _ _) ?_
          simp only [Act.put, List.setIfInBounds_toArray, List.set_cons_zero, List.set_cons_succ]
          refine Pq.WL_call (by rfl) cf_of (of_ptr false u _) rfl rfl ?_; rintro e w4 ⟨b, rfl, hr4, hb4, _, _⟩; have HR4 := Lib.hid hr4; clear hr4; refine ⟨_, rfl, ?_⟩
          simp only [Act.put, List.setIfInBounds_toArray, List.set_cons_zero, List.set_cons_succ]
          refine Pq.WL_call (by rfl) cf_size (size_any b 0 u su HSU.out _ HR4.out) rfl rfl ?_; rintro e w1 ⟨rfl, rfl⟩; refine ⟨_, rfl, ?_⟩
          simp only [Act.put, List.setIfInBounds_toArray, List.set_cons_zero, List.set_cons_succ]
          iterate 2
            refine Pq.WL_step (by rfl) ?_
            apply Exists.intro
            apply Exists.intro
            refine ⟨?_, ?_⟩
            · go_simp; first | done | with_reducible rfl | exact ⟨rfl, rfl⟩
            simp only [Act.put, List.setIfInBounds_toArray, List.set_cons_zero, List.set_cons_succ]
          refine Pq.WL_skip (by kernel_rfl) ?_
          simp only [Act.put, List.setIfInBounds_toArray, List.set_cons_zero, List.set_cons_succ]
          refine Pq.WL_skip (by kernel_rfl) ?_
          simp only [Act.put, List.setIfInBounds_toArray, List.set_cons_zero, List.set_cons_succ]
          refine Pq.WL_skip (by kernel_rfl) ?_
          simp only [Act.put, List.setIfInBounds_toArray, List.set_cons_zero, List.set_cons_succ]
          refine Pq.WL_skip (by kernel_rfl) ?_
          simp only [Act.put, List.setIfInBounds_toArray, List.set_cons_zero, List.set_cons_succ]
          iterate 2
            refine Pq.WL_step (by rfl) ?_
            apply Exists.intro
            apply Exists.intro
            refine ⟨?_, ?_⟩
            · go_simp; first | done | with_reducible rfl | exact ⟨rfl, rfl⟩
            simp only [Act.put, List.setIfInBounds_toArray, List.set_cons_zero, List.set_cons_succ]
          refine Pq.WL_nil ?_
          have KK := Pq.below_next hb3 (Nat.le_refl _) hb4
          have HUq := Lib.hid (Pq.keep_block HU0.out KK); have HVq := Lib.hid (Pq.keep_block HV0.out KK); have HGq := Lib.hid (Pq.keep_block HG0.out KK)
          have HBq := Lib.hid (Pq.below_next HB0.out (Nat.le_refl _) KK)
          clear HU0 HV0 HG0 HB0 KK
          go_upto_region 5 with fail
          go_upto_region 5 with fail
          apply wp_region_lit
          refine Pq.wpL_load (g + 1) 0 (Pq.wl false v) (Pq.range_wide HVq.out) (by rfl) _ _ rfl rfl _ u_wide rfl (s_wide _ _) ?_
          simp only [Act.put, List.setIfInBounds_toArray, List.set_cons_zero, List.set_cons_succ]
          refine Pq.wpL_call (by rfl) cf_of (of_ptr false v _) rfl rfl ?_; rintro e w6 ⟨c6, rfl, hr6, hb6, _, _⟩; have HR6 := Lib.hid hr6; clear hr6; refine ⟨_, rfl, ?_⟩
          simp only [Act.put, List.setIfInBounds_toArray, List.set_cons_zero, List.set_cons_succ]
          refine Pq.wpL_call (by rfl) cf_size (size_any c6 0 v sv HSV.out _ HR6.out) rfl rfl ?_; rintro e w1 ⟨rfl, rfl⟩; refine ⟨_, rfl, ?_⟩
          simp only [Act.put, List.setIfInBounds_toArray, List.set_cons_zero, List.set_cons_succ]
          refine Pq.wpL_step (by rfl) ?_
          apply Exists.intro
          apply Exists.intro
          refine ⟨?_, ?_⟩
          · go_simp; first | done | with_reducible rfl | exact ⟨rfl, rfl⟩
          simp only [Act.put, List.setIfInBounds_toArray, List.set_cons_zero, List.set_cons_succ]
          refine Pq.wpL_nil ?_
          obtain ⟨hus, hul⟩ := Pq.szn_two HUL.out (by rw [← HSU.out]; exact h2)
          obtain ⟨hvs, hvl⟩ := Pq.szn_two HVL.out (by rw [← HSV.out]; exact h1)
          have ru := Pq.range_cons (Pq.dr_range (Pq.range_wide (Pq.keep_block HUq.out hb6)))
          have rv := Pq.range_cons (Pq.dr_range (Pq.range_wide (Pq.keep_block HVq.out hb6)))
          have cu0 := Lib.hid (ru.2 0 _ (Pq.am_get (x := u) (show 0 < 32 by decide)))
          have cu1 := Lib.hid (ru.2 1 _ (Pq.am_get (x := u) (show 1 < 32 by decide)))
          have cv0 := Lib.hid (rv.2 0 _ (Pq.am_get (x := v) (show 0 < 32 by decide)))
          have cv1 := Lib.hid (rv.2 1 _ (Pq.am_get (x := v) (show 1 < 32 by decide)))
          have hl0 := Pq.wd_lt u 0
          have hl1 := Pq.wd_lt u 1
          have hl2 := Pq.wd_lt v 0
          have hl3 := Pq.wd_lt v 1
          obtain ⟨u0, hu0⟩ : ∃ u0, u0 = Pq.wd u 0 := ⟨_, rfl⟩
          obtain ⟨u1, hu1⟩ : ∃ u1, u1 = Pq.wd u 1 := ⟨_, rfl⟩
          obtain ⟨v0, hv0⟩ : ∃ v0, v0 = Pq.wd v 0 := ⟨_, rfl⟩
          obtain ⟨v1, hv1⟩ : ∃ v1, v1 = Pq.wd v 1 := ⟨_, rfl⟩
          rw [← hu0] at hl0 hus cu0
          rw [← hu1] at hl1 hus cu1
          rw [← hv0] at hl2 hvs cv0
          rw [← hv1] at hl3 hvs cv1
          have hou : bits .or .u64 ((u1 : Int) * 4294967296) (u0 : Int) = (u : Int) := by rw [Pq.or_hl hl1 hl0]; exact congrArg _ (by omega)
          have hov : bits .or .u64 ((v1 : Int) * 4294967296) (v0 : Int) = (v : Int) := by rw [Pq.or_hl hl3 hl2]; exact congrArg _ (by omega)
          have x0 : IntKind.u64.wrap (u0 : Int) = (u0 : Int) := IntWalk.u64_in _ (by omega)
          have x1 : IntKind.u64.wrap (u1 : Int) = (u1 : Int) := IntWalk.u64_in _ (by omega)
          have x2 : IntKind.u64.wrap (v0 : Int) = (v0 : Int) := IntWalk.u64_in _ (by omega)
          have x3 : IntKind.u64.wrap (v1 : Int) = (v1 : Int) := IntWalk.u64_in _ (by omega)
          have x4 : IntKind.u64.wrap ((u1 : Int) * 4294967296) = (u1 : Int) * 4294967296 := IntWalk.u64_in _ (by omega)
          have x5 : IntKind.u64.wrap ((v1 : Int) * 4294967296) = (v1 : Int) * 4294967296 := IntWalk.u64_in _ (by omega)
          have HUS := Lib.hid hus; have HVS := Lib.hid hvs; have HULL := Lib.hid hul; have HVLL := Lib.hid hvl
          have HG6 := Lib.hid (Pq.keep_block HGq.out hb6)
          have HB6 := Lib.hid (Pq.below_next HBq.out (Nat.le_refl _) hb6)
          clear hus hvs hu0 hu1 hv0 hv1 ru rv hul hvl HUq HVq HGq HBq hb6
          go_upto_region 7 with fail
          refine Pq.wp_region_grown none [(0, true), (1, true), (2, true), (3, true), (4, true), (5, true), (6, true), (7, true), (8, true), (9, true), (10, true), (11, true), (12, true), (13, true), (14, true), (15, true), (16, true), (17, true), (18, true), (19, true), (20, true), (21, true)] (by kernel_rfl) (by kernel_rfl) (fun _ _ d _ _ h => by cases d <;> exact h) (fun hS => ?_)
          simp only [Pq.pick, List.filterMap_cons, List.filterMap_nil, List.getElem?_cons_zero, List.getElem?_cons_succ, Option.map_some]
          iterate 2
            refine Pq.wpO_step (by rfl) ?_
            apply Exists.intro
            refine ⟨fun w' hw' => ?_, ?_⟩
            · go_simp; first | done | with_reducible rfl | exact ⟨rfl, rfl⟩
            simp only [Act.put, List.setIfInBounds_toArray, List.set_cons_zero, List.set_cons_succ]
          refine Pq.wpO_cell ⟨g, 2, none⟩ _ cu1.out (by simp) (by rfl) _ _ rfl rfl _ u_u32 rfl ?_
          simp only [Act.put, List.setIfInBounds_toArray, List.set_cons_zero, List.set_cons_succ]
          iterate 4
            refine Pq.wpO_step (by rfl) ?_
            apply Exists.intro
            refine ⟨fun w' hw' => ?_, ?_⟩
            · go_simp; first | done | with_reducible rfl | exact ⟨rfl, rfl⟩
            simp only [Act.put, List.setIfInBounds_toArray, List.set_cons_zero, List.set_cons_succ]
          refine Pq.wpO_cell ⟨g, 1, none⟩ _ cu0.out (by simp) (by rfl) _ _ rfl rfl _ u_u32 rfl ?_
          simp only [Act.put, List.setIfInBounds_toArray, List.set_cons_zero, List.set_cons_succ]
          iterate 4
            refine Pq.wpO_step (by rfl) ?_
            apply Exists.intro
            refine ⟨fun w' hw' => ?_, ?_⟩
            · go_simp; first | done | with_reducible rfl | exact ⟨rfl, rfl⟩
            simp only [Act.put, List.setIfInBounds_toArray, List.set_cons_zero, List.set_cons_succ]
          refine Pq.wpO_cell ⟨g + 1, 2, none⟩ _ cv1.out (by simp) (by rfl) _ _ rfl rfl _ u_u32 rfl ?_
          simp only [Act.put, List.setIfInBounds_toArray, List.set_cons_zero, List.set_cons_succ]
          iterate 4
            refine Pq.wpO_step (by rfl) ?_
            apply Exists.intro
            refine ⟨fun w' hw' => ?_, ?_⟩
            · go_simp; first | done | with_reducible rfl | exact ⟨rfl, rfl⟩
            simp only [Act.put, List.setIfInBounds_toArray, List.set_cons_zero, List.set_cons_succ]
          refine Pq.wpO_cell ⟨g + 1, 1, none⟩ _ cv0.out (by simp) (by rfl) _ _ rfl rfl _ u_u32 rfl ?_
          simp only [Act.put, List.setIfInBounds_toArray, List.set_cons_zero, List.set_cons_succ]
          iterate 4
            refine Pq.wpO_step (by rfl) ?_
            apply Exists.intro
            refine ⟨fun w' hw' => ?_, ?_⟩
            · go_simp; first | done | with_reducible rfl | exact ⟨rfl, rfl⟩
            simp only [Act.put, List.setIfInBounds_toArray, List.set_cons_zero, List.set_cons_succ]
          refine Pq.wpO_nil ?_
          clear hou hov x0 x1 x2 x3 x4 x5 cu0 cu1 cv0 cv1 hl0 hl1 hl2 hl3 hS c1 c2 c4 h1 h2
          go_wp2
          go_loopw [8, 9] (fun aa bb wr => ∃ p q : Nat, aa = .int .u64 (p : Int) ∧ bb = .int .u64 (q : Int) ∧ Hid (p < 18446744073709551616) ∧ Hid (q < 18446744073709551616) ∧ Hid (Nat.gcd p q = G) ∧ Hid (wr.heap[g + 2]? = some (.cells (Pq.wc false 0) 26 (0, 0))) ∧ Hid (Below w.heap.size w wr)) (fun _ bb _ => (intOf bb).toNat)
          case atStart => exact ⟨u, v, rfl, rfl, HULL, HVLL, HGCD, Lib.hid (Pq.dr_block HG6.out), Lib.hid (Pq.below_drew HB6.out)⟩
          case round =>
            obtain ⟨p, q, rfl, rfl, hp, hq, hgc, hg6, hb6⟩ := hrel
            by_cases hq0 : q = 0
            · have hgp : p = G := by have := hgc.out; rw [hq0, Nat.gcd_zero_right] at this; exact this
              subst hq0
              have HGP := Lib.hid hgp; clear hgp
              obtain ⟨lo, hlo⟩ : ∃ lo, lo = p % 4294967296 := ⟨_, rfl⟩
              obtain ⟨hi, hhi⟩ : ∃ hi, hi = p / 4294967296 := ⟨_, rfl⟩
              have hpl := hp.out
              have hand : bits .and .u64 (p : Int) 4294967295 = (lo : Int) := by rw [Pq.and_lo hpl, hlo]
              have hsh : (p : Int) / 4294967296 = (hi : Int) := by rw [hhi]; simp
              have hll : lo < 4294967296 := by omega
              have hhl : hi < 4294967296 := by omega
              have hsum : lo + Pq.bp 1 * hi = p := by rw [Pq.bp_one]; omega
              have wl1 : IntKind.u32.wrap (lo : Int) = (lo : Int) := IntWalk.u32_in _ (by omega)
              have wh1 : IntKind.u32.wrap (hi : Int) = (hi : Int) := IntWalk.u32_in _ (by omega)
              obtain ⟨d, hd⟩ : ∃ d, d = wr.heap.size := ⟨_, rfl⟩
              have HD := Lib.hid hd; have HSUM := Lib.hid hsum
              clear hd hsum hlo hhi hpl
              go_upto_region 10 with fail
              go_upto_region 10 with fail
              apply wp_region_lit
              iterate 6
                refine Pq.wpL_step (by rfl) ?_
                apply Exists.intro
                apply Exists.intro
                refine ⟨?_, ?_⟩
                · go_simp; first | done | with_reducible rfl | exact ⟨rfl, rfl⟩
                simp only [Act.put, List.setIfInBounds_toArray, List.set_cons_zero, List.set_cons_succ]
              refine Pq.wpL_build (by rfl) _ [(0, .tmp 70), (1, .tmp 73)] rfl [(0, .int .u32 (lo : Int)), (1, .int .u32 (hi : Int))] rfl _ (built_am2 hll hhl) ?_
              simp only [Act.put, List.setIfInBounds_toArray, List.set_cons_zero, List.set_cons_succ]
              refine Pq.wpL_box d HD.out.symm (Pq.am 32 (lo + Pq.bp 1 * hi)).toArray (by rfl) _ _ rfl rfl (bx_am _) ?_
              simp only [Act.put, List.setIfInBounds_toArray, List.set_cons_zero, List.set_cons_succ]
              refine Pq.wpL_ret (by rfl) cf_told (told_any false d 0 (lo + Pq.bp 1 * hi) _ (Pq.bp_two_lt _ _ hll hhl) (Pq.al_anew _ _ _ _ HD.out) (by rw [Pq.size_alloc, ← HD.out]; exact Nat.lt_succ_self _)) rfl rfl ?_; intro w8 hb8
              simp only [Act.put, List.setIfInBounds_toArray, List.set_cons_zero, List.set_cons_succ]
              refine Pq.wpL_store (by rfl) 26 _ _ rfl (g + 2) (Pq.wc _ _) rfl rfl 26 (Pq.wc _ _) (Pq.keep_block (Pq.al_keep hg6.out _) hb8) (s_widea _ _) (by simp only [Pq.wc_size]) (Pq.wc_one _ _) ?_
              try simp only [Act.put, List.setIfInBounds_toArray, List.set_cons_zero, List.set_cons_succ]
              refine Pq.wpL_nil ?_
              go_wp2
              refine Pq.ret_cell rfl (g + 2) _ _ _ _ rfl (Pq.setRow_at (Pq.keep_block (Pq.al_keep hg6.out _) hb8)) u_wide rfl (s_widea _ _) rfl ⟨?_, Pq.below_setRow (Pq.below_next (Pq.below_alloc hb6.out (Nat.le_refl _) _) (Nat.le_refl _) hb8) (by rw [← HG.out]; omega)⟩
              rw [HSUM.out, HGP.out]; rfl
            · have hqb : ((q : Int) == 0) = false := (by have h4 : ¬ (q : Int) = 0 := (by omega); simpa using h4)
              have e2 : (p : Int) % (q : Int) = ((p % q : Nat) : Int) := by simp
              obtain ⟨r, hr⟩ : ∃ r, r = p % q := ⟨_, rfl⟩
              rw [← hr] at e2
              have w7 : (p : Int).tmod (q : Int) = (p : Int) % (q : Int) := Int.tmod_eq_emod_of_nonneg (by omega)
              have hrl : r < q := by rw [hr]; exact Nat.mod_lt _ (Nat.pos_of_ne_zero hq0)
              have hql := hq.out
              have w3 : IntKind.u64.wrap (r : Int) = (r : Int) := IntWalk.u64_in _ (by omega)
              have HRE := Lib.hid hr
              clear hr hql
              go_upto_region 9 with fail
              refine Pq.wp_region_grown none [(0, true), (1, true), (2, true), (3, true), (4, true), (5, true)] (by kernel_rfl) (by kernel_rfl) (fun _ _ d _ _ h => by cases d <;> exact h) (fun hS => ?_)
              simp only [Pq.pick, List.filterMap_cons, List.filterMap_nil, List.getElem?_cons_zero, List.getElem?_cons_succ, Option.map_some]
              iterate 6
                refine Pq.wpO_step (by rfl) ?_
                apply Exists.intro
                refine ⟨fun w' hw' => ?_, ?_⟩
                · go_simp; first | done | with_reducible rfl | exact ⟨rfl, rfl⟩
                simp only [Act.put, List.setIfInBounds_toArray, List.set_cons_zero, List.set_cons_succ]
              refine Pq.wpO_nil ?_
              clear e2 w7 w3 hqb
              go_wp2
              go_roundw
              case rel => exact ⟨q, r, rfl, rfl, hq, Lib.hid (Nat.lt_trans hrl hq.out), Lib.hid (by rw [HRE.out]; exact (Pq.gcd_step p q).trans hgc.out), Lib.hid (Pq.dr_block hg6.out), Lib.hid (Pq.below_drew hb6.out)⟩
              case measure => simp [intOf]; omega
end Go.Proofs.YtokgbcachcmeaaaGreatDoor
set_option linter.unusedSimpArgs false
set_option linter.unusedVariables false
namespace Go.Proofs.YtokgbcachcmeaaaGreatDoor
open Go.RowKit

set_option maxRecDepth 100000 in
set_option maxHeartbeats 1000000 in
theorem from_any (z : Int) (w : World) (h1 : -9223372036854775808 ≤ z) (h2 : z ≤ 9223372036854775807) :
    Calls Tryz.prog 29 #[.int .i64 z] w (Pq.Ret w (.agg (Pq.wz z))) := by
  obtain ⟨g, hg⟩ : ∃ g, g = w.heap.size := ⟨_, rfl⟩
  have HG := Lib.hid hg; clear hg
  rcases Int.lt_or_le z 0 with hz | hz
  · obtain ⟨p, hp⟩ : ∃ p : Nat, (p : Int) = -z := ⟨(-z).toNat, by omega⟩
    obtain ⟨q, hq⟩ : ∃ q : Nat, (q : Int) = 18446744073709551616 + z := ⟨(18446744073709551616 + z).toNat, by omega⟩
    have wz1 : IntKind.u64.wrap z = (q : Int) := by rw [IntKind.wrap_u64]; omega
    have wz2 : IntKind.u64.wrap (-(q : Int)) = (p : Int) := by rw [IntKind.wrap_u64]; omega
    have hpl : p ≤ 9223372036854775808 := by omega
    have hd : decide (z < 0) = true := by simpa using hz
    have hres : Pq.wz z = Pq.wz (Pq.zv true p) := by unfold Pq.zv; rw [if_pos rfl, hp, Int.neg_neg]
    rw [hres]
    clear hq hp hres h1 h2
    go_enter Tryz.func29, Tryz.ntmps29
    go_upto_region 0 with fail
    go_upto_region 0 with fail
    apply wp_region_lit
    refine Pq.wpL_alloc g HG.out.symm (by rfl) _ rfl (Pq.wc false 0) al_wide ?_
    simp only [Act.put, List.setIfInBounds_toArray, List.set_cons_zero, List.set_cons_succ]
    refine Pq.wpL_nil ?_
    go_upto_region 1 with fail
    go_upto_region 1 with fail
    apply wp_region_lit
    iterate 3
      refine Pq.wpL_step (by rfl) ?_
      apply Exists.intro
      apply Exists.intro
      refine ⟨?_, ?_⟩
      · go_simp; first | done | with_reducible rfl | exact ⟨rfl, rfl⟩
      simp only [Act.put, List.setIfInBounds_toArray, List.set_cons_zero, List.set_cons_succ]
    refine Pq.wpL_nil ?_
    go_upto_region 3 with fail
    go_upto_region 3 with fail
    apply wp_region_lit
    iterate 3
      refine Pq.wpL_step (by rfl) ?_
      apply Exists.intro
      apply Exists.intro
      refine ⟨?_, ?_⟩
      · go_simp; first | done | with_reducible rfl | exact ⟨rfl, rfl⟩
      simp only [Act.put, List.setIfInBounds_toArray, List.set_cons_zero, List.set_cons_succ]
    refine Pq.wpL_nil ?_
    obtain ⟨lo, hlo⟩ : ∃ lo, lo = p % 4294967296 := ⟨_, rfl⟩
    obtain ⟨hi, hhi⟩ : ∃ hi, hi = p / 4294967296 := ⟨_, rfl⟩
    have hand : bits .and .u64 (p : Int) 4294967295 = (lo : Int) := by rw [Pq.and_lo (by omega), hlo]
    have hsh : (p : Int) / 4294967296 = (hi : Int) := by rw [hhi]; simp
    have hll : lo < 4294967296 := by omega
    have hhl : hi < 4294967296 := by omega
    have hsum : lo + Pq.bp 1 * hi = p := by rw [Pq.bp_one]; omega
    have wl1 : IntKind.u32.wrap (lo : Int) = (lo : Int) := IntWalk.u32_in _ (by omega)
    have wh1 : IntKind.u32.wrap (hi : Int) = (hi : Int) := IntWalk.u32_in _ (by omega)
    have HSUM := Lib.hid hsum
    clear hsum hlo hhi
    go_upto_region 4 with fail
    go_upto_region 4 with fail
    apply wp_region_lit
    iterate 8
      refine Pq.wpL_step (by rfl) ?_
      apply Exists.intro
      apply Exists.intro
      refine ⟨?_, ?_⟩
      · go_simp; first | done | with_reducible rfl | exact ⟨rfl, rfl⟩
      simp only [Act.put, List.setIfInBounds_toArray, List.set_cons_zero, List.set_cons_succ]
    refine Pq.wpL_build (by rfl) _ [(0, .tmp 14), (1, .tmp 17)] rfl [(0, .int .u32 (lo : Int)), (1, .int .u32 (hi : Int))] rfl _ (built_am2 hll hhl) ?_
    simp only [Act.put, List.setIfInBounds_toArray, List.set_cons_zero, List.set_cons_succ]
    refine Pq.wpL_box (g + 1) (by simp [HG.out]) (Pq.am 32 (lo + Pq.bp 1 * hi)).toArray (by rfl) _ _ rfl rfl (bx_am _) ?_
    simp only [Act.put, List.setIfInBounds_toArray, List.set_cons_zero, List.set_cons_succ]
    refine Pq.wpL_ret (by rfl) cf_told (told_any true (g + 1) 0 (lo + Pq.bp 1 * hi) _ (Pq.bp_two_lt _ _ hll hhl) (Pq.al_anew _ _ _ _ (by simp [HG.out])) (by simp [HG.out])) rfl rfl ?_; intro w8 hb8
    simp only [Act.put, List.setIfInBounds_toArray, List.set_cons_zero, List.set_cons_succ]
    refine Pq.wpL_store (by rfl) 26 _ _ rfl g (Pq.wc _ _) rfl rfl 26 (Pq.wc _ _) (Pq.keep_block (Pq.al_keep (Pq.al_block w (.cells (Pq.wc false 0) 26) g HG.out) _) hb8) (s_widea _ _) (by simp only [Pq.wc_size]) (Pq.wc_one _ _) ?_
    try simp only [Act.put, List.setIfInBounds_toArray, List.set_cons_zero, List.set_cons_succ]
    refine Pq.wpL_nil ?_
    go_wp2
    refine Pq.ret_cell rfl g _ _ _ _ rfl (Pq.setRow_at (Pq.keep_block (Pq.al_keep (Pq.al_block w (.cells (Pq.wc false 0) 26) g HG.out) _) hb8)) u_wide rfl (s_widea _ _) rfl ⟨?_, Pq.below_setRow (Pq.below_next (Pq.below_alloc (Pq.below_alloc (Below.refl _ w) (Nat.le_refl _) _) (Nat.le_refl _) _) (Nat.le_refl _) hb8) (by rw [HG.out]; exact Nat.le_refl _)⟩
    rw [HSUM.out, Pq.wc_ng]
  · obtain ⟨p, hp⟩ : ∃ p : Nat, z = (p : Int) := ⟨z.toNat, by omega⟩
    subst hp
    have hpl : p ≤ 9223372036854775807 := by omega
    have wz1 : IntKind.u64.wrap (p : Int) = (p : Int) := IntWalk.u64_in _ (by omega)
    have hd : decide ((p : Int) < 0) = false := by simp
    have hres : Pq.wz (p : Int) = Pq.wz (Pq.zv false p) := rfl
    rw [hres]
    clear hres h1 h2
    go_enter Tryz.func29, Tryz.ntmps29
    go_upto_region 0 with fail
    go_upto_region 0 with fail
    apply wp_region_lit
    refine Pq.wpL_alloc g HG.out.symm (by rfl) _ rfl (Pq.wc false 0) al_wide ?_
    simp only [Act.put, List.setIfInBounds_toArray, List.set_cons_zero, List.set_cons_succ]
    refine Pq.wpL_nil ?_
    go_upto_region 1 with fail
    go_upto_region 1 with fail
    apply wp_region_lit
    iterate 3
      refine Pq.wpL_step (by rfl) ?_
      apply Exists.intro
      apply Exists.intro
      refine ⟨?_, ?_⟩
      · go_simp; first | done | with_reducible rfl | exact ⟨rfl, rfl⟩
      simp only [Act.put, List.setIfInBounds_toArray, List.set_cons_zero, List.set_cons_succ]
    refine Pq.wpL_nil ?_
    obtain ⟨lo, hlo⟩ : ∃ lo, lo = p % 4294967296 := ⟨_, rfl⟩
    obtain ⟨hi, hhi⟩ : ∃ hi, hi = p / 4294967296 := ⟨_, rfl⟩
    have hand : bits .and .u64 (p : Int) 4294967295 = (lo : Int) := by rw [Pq.and_lo (by omega), hlo]
    have hsh : (p : Int) / 4294967296 = (hi : Int) := by rw [hhi]; simp
    have hll : lo < 4294967296 := by omega
    have hhl : hi < 4294967296 := by omega
    have hsum : lo + Pq.bp 1 * hi = p := by rw [Pq.bp_one]; omega
    have wl1 : IntKind.u32.wrap (lo : Int) = (lo : Int) := IntWalk.u32_in _ (by omega)
    have wh1 : IntKind.u32.wrap (hi : Int) = (hi : Int) := IntWalk.u32_in _ (by omega)
    have HSUM := Lib.hid hsum
    clear hsum hlo hhi
    go_upto_region 4 with fail
    go_upto_region 4 with fail
    apply wp_region_lit
    iterate 8
      refine Pq.wpL_step (by rfl) ?_
      apply Exists.intro
      apply Exists.intro
      refine ⟨?_, ?_⟩
      · go_simp; first | done | with_reducible rfl | exact ⟨rfl, rfl⟩
      simp only [Act.put, List.setIfInBounds_toArray, List.set_cons_zero, List.set_cons_succ]
    refine Pq.wpL_build (by rfl) _ [(0, .tmp 14), (1, .tmp 17)] rfl [(0, .int .u32 (lo : Int)), (1, .int .u32 (hi : Int))] rfl _ (built_am2 hll hhl) ?_
    simp only [Act.put, List.setIfInBounds_toArray, List.set_cons_zero, List.set_cons_succ]
    refine Pq.wpL_box (g + 1) (by simp [HG.out]) (Pq.am 32 (lo + Pq.bp 1 * hi)).toArray (by rfl) _ _ rfl rfl (bx_am _) ?_
    simp only [Act.put, List.setIfInBounds_toArray, List.set_cons_zero, List.set_cons_succ]
    refine Pq.wpL_ret (by rfl) cf_told (told_any false (g + 1) 0 (lo + Pq.bp 1 * hi) _ (Pq.bp_two_lt _ _ hll hhl) (Pq.al_anew _ _ _ _ (by simp [HG.out])) (by simp [HG.out])) rfl rfl ?_; intro w8 hb8
    simp only [Act.put, List.setIfInBounds_toArray, List.set_cons_zero, List.set_cons_succ]
    refine Pq.wpL_store (by rfl) 26 _ _ rfl g (Pq.wc _ _) rfl rfl 26 (Pq.wc _ _) (Pq.keep_block (Pq.al_keep (Pq.al_block w (.cells (Pq.wc false 0) 26) g HG.out) _) hb8) (s_widea _ _) (by simp only [Pq.wc_size]) (Pq.wc_one _ _) ?_
    try simp only [Act.put, List.setIfInBounds_toArray, List.set_cons_zero, List.set_cons_succ]
    refine Pq.wpL_nil ?_
    go_wp2
    refine Pq.ret_cell rfl g _ _ _ _ rfl (Pq.setRow_at (Pq.keep_block (Pq.al_keep (Pq.al_block w (.cells (Pq.wc false 0) 26) g HG.out) _) hb8)) u_wide rfl (s_widea _ _) rfl ⟨?_, Pq.below_setRow (Pq.below_next (Pq.below_alloc (Pq.below_alloc (Below.refl _ w) (Nat.le_refl _) _) (Nat.le_refl _) _) (Nat.le_refl _) hb8) (by rw [HG.out]; exact Nat.le_refl _)⟩
    rw [HSUM.out, Pq.wc_ng]
end Go.Proofs.YtokgbcachcmeaaaGreatDoor
set_option linter.unusedSimpArgs false
set_option linter.unusedVariables false
namespace Pq
open Go Go.RowKit
theorem wpO_toPtr {P : Program} {ops : Array Oper} {Q : Exit → Act → World → Prop} {S : World → Prop} {o : Oper} {r : List (Oper × Bool)} {a : Act} {w : World} (v : Value) (hw : Region.wanted o (yielded ops a.tmps) = true) (ty : TypeId) (x : Operand) (ho : o.op = .sliceToArrayPointer ty x) (vx : Value) (hx : a.eval x = vx)
    (hs : ∀ w, (Instr.arrayAt ty vx).run P w = .ok v w) (k : wpO P ops S Q r (a.put o.dst v) w) : wpO P ops S Q ((o, true) :: r) a w :=
  wpO_take v hw (fun w' _ => by
    unfold execOp
    simp only [ho, hx, Sem.run_bind, hs, Result.andThen_ok, Sem.run_pure]) k
end Pq
namespace Go.Proofs.YtokgbcachcmeaaaGreatDoor
open Go.RowKit
theorem sl_ptr (d : Nat) (w : World) : (Instr.arrayAt 111 (.slice (some ⟨d, 0, none⟩) 32 64)).run Tryz.prog w = .ok (.pointer (some ⟨d, 0, none⟩)) w := by kernel_rfl
theorem cf_mul (xs : Array Value) (w : World) : (callFunc 67 xs).run Tryz.prog w = .ok (.enter 67 xs) w := by kernel_rfl
theorem al_a64 (w : World) : (Instr.alloc 149 true (.tuple #[])).run Tryz.prog w = .ok (.pointer (some ⟨w.heap.size, 0, none⟩)) (w.alloc (.cells (Pq.am 64 0).toArray 149)) := by kernel_rfl
theorem sl_hi (d : Nat) (w : World) : (Instr.sliceAt 149 (.pointer (some ⟨d, 0, none⟩)) (some (.int .i64 32)) none none).run Tryz.prog w = .ok (.slice (some ⟨d, 32, none⟩) 32 32) w := by kernel_rfl
theorem sl_lo (d : Nat) (w : World) : (Instr.sliceAt 149 (.pointer (some ⟨d, 0, none⟩)) none (some (.int .i64 32)) none).run Tryz.prog w = .ok (.slice (some ⟨d, 0, none⟩) 32 64) w := by kernel_rfl

set_option maxRecDepth 100000 in
set_option maxHeartbeats 1000000 in
theorem mul_any (n : Bool) (x : Nat) (m : Bool) (y : Nat) (w : World) (hx : x < Pq.bp 32) (hy : y < Pq.bp 32) :
    Calls Tryz.prog 67 #[.agg (Pq.wc n x), .agg (Pq.wc m y)] w (Pq.Ret w (Pq.rz (Pq.zv n x * Pq.zv m y))) := by
  obtain ⟨g, hg⟩ : ∃ g, g = w.heap.size := ⟨_, rfl⟩
  have HG := Lib.hid hg; clear hg
  obtain ⟨sx, hsx⟩ : ∃ sx, sx = Pq.szn 32 x := ⟨_, rfl⟩
  obtain ⟨sy, hsy⟩ : ∃ sy, sy = Pq.szn 32 y := ⟨_, rfl⟩
  have hxl : sx ≤ 32 := by rw [hsx]; exact Pq.szn_le 32 x
  have hyl : sy ≤ 32 := by rw [hsy]; exact Pq.szn_le 32 y
  have HXS := Lib.hid (show x < Pq.bp sx by rw [hsx]; exact Pq.szn_lt' hx)
  have HYS := Lib.hid (show y < Pq.bp sy by rw [hsy]; exact Pq.szn_lt' hy)
  have HSX := Lib.hid hsx; have HSY := Lib.hid hsy
  have HX := Lib.hid hx; have HY := Lib.hid hy
  clear hx hy hsx hsy
  obtain ⟨res, hr⟩ : ∃ res, res = Pq.rz (Pq.zv n x * Pq.zv m y) := ⟨_, rfl⟩
  rw [← hr]
  have HRR := Lib.hid hr; clear hr
  go_enter Tryz.func67, Tryz.ntmps67
  go_upto_region 0 with fail
  go_upto_region 0 with fail
  apply wp_region_lit
  refine Pq.wpL_box g HG.out.symm (Pq.wc n x) (by rfl) _ _ rfl rfl (bx_wide n x) ?_
  simp only [Act.put, List.setIfInBounds_toArray, List.set_cons_zero, List.set_cons_succ]
  refine Pq.wpL_box (g + 1) (by simp [HG.out]) (Pq.wc m y) (by rfl) _ _ rfl rfl (bx_wide m y) ?_
  simp only [Act.put, List.setIfInBounds_toArray, List.set_cons_zero, List.set_cons_succ]
  refine Pq.wpL_alloc (g + 2) (by simp [HG.out]) (by rfl) _ rfl (Pq.wc false 0) al_wide ?_
  simp only [Act.put, List.setIfInBounds_toArray, List.set_cons_zero, List.set_cons_succ]
  refine Pq.wpL_step (by rfl) ?_
  apply Exists.intro
  apply Exists.intro
  refine ⟨?_, ?_⟩
  · go_simp; first | done | with_reducible rfl | exact ⟨rfl, rfl⟩
  simp only [Act.put, List.setIfInBounds_toArray, List.set_cons_zero, List.set_cons_succ]
  refine Pq.wpL_nil ?_
  have HB := Lib.hid (Pq.below_alloc (Pq.below_alloc (Pq.below_alloc (Below.refl _ w) (Nat.le_refl _) (.cells (Pq.wc n x) 26)) (Nat.le_refl _) (.cells (Pq.wc m y) 26)) (Nat.le_refl _) (.cells (Pq.wc false 0) 26))
  have HR1 := Lib.hid (Pq.al_range (Pq.al_range (Pq.al_wnew w n x 26 g HG.out) (.cells (Pq.wc m y) 26)) (.cells (Pq.wc false 0) 26))
  have HR2 := Lib.hid (Pq.al_range (Pq.al_wnew (w.alloc (.cells (Pq.wc n x) 26)) m y 26 (g + 1) (by simp [HG.out])) (.cells (Pq.wc false 0) 26))
  have HG2 := Lib.hid (Pq.al_block ((w.alloc (.cells (Pq.wc n x) 26)).alloc (.cells (Pq.wc m y) 26)) (.cells (Pq.wc false 0) 26) (g + 2) (by simp [HG.out]))
  generalize ((w.alloc (.cells (Pq.wc n x) 26)).alloc (.cells (Pq.wc m y) 26)).alloc (.cells (Pq.wc false 0) 26) = w0 at *
  go_upto_region 1 with fail
  refine Pq.wp_region_grown none [(0, true), (2, true), (1, false), (3, false), (4, true), (5, true)] (by kernel_rfl) (by kernel_rfl) (fun _ _ d _ _ h => by cases d <;> exact h) (fun hS => ?_)
  simp only [Pq.pick, List.filterMap_cons, List.filterMap_nil, List.getElem?_cons_zero, List.getElem?_cons_succ, Option.map_some]
  refine Pq.wpO_load g 0 (Pq.wl n x) HR1.out (by simp) (by rfl) _ _ rfl rfl _ u_wide rfl (s_wide _ _) ?_
  simp only [Act.put, List.setIfInBounds_toArray, List.set_cons_zero, List.set_cons_succ]
  refine Pq.wpO_load (g + 1) 0 (Pq.wl m y) HR2.out (by simp) (by rfl) _ _ rfl rfl _ u_wide rfl (s_wide _ _) ?_
  simp only [Act.put, List.setIfInBounds_toArray, List.set_cons_zero, List.set_cons_succ]
  refine Pq.wpO_call (by rfl) cf_of (of_ptr n x _) rfl rfl ?_; rintro e w3 ⟨b, rfl, hr3, hb3, _, _⟩; have HR3 := Lib.hid hr3; clear hr3; have hS3 := Pq.grown_then hS hb3; refine ⟨_, rfl, hS3, ?_⟩
  simp only [Act.put, List.setIfInBounds_toArray, List.set_cons_zero, List.set_cons_succ]
  refine Pq.wpO_call (by rfl) cf_of (of_ptr m y _) rfl rfl ?_; rintro e w4 ⟨c, rfl, hr4, hb4, _, _⟩; have HR4 := Lib.hid hr4; clear hr4; have hS4 := Pq.grown_then hS3 hb4; refine ⟨_, rfl, hS4, ?_⟩
  simp only [Act.put, List.setIfInBounds_toArray, List.set_cons_zero, List.set_cons_succ]
  iterate 2
    refine Pq.wpO_step (by rfl) ?_
    apply Exists.intro
    refine ⟨fun w' hw' => ?_, ?_⟩
    · go_simp; first | done | with_reducible rfl | exact ⟨rfl, rfl⟩
    simp only [Act.put, List.setIfInBounds_toArray, List.set_cons_zero, List.set_cons_succ]
  refine Pq.wpO_nil ?_
  have HBx := Lib.hid (Pq.range_in HR3.out hb4)
  have HCy := HR4
  have K := Pq.grown_below hS4
  have HA1 := Lib.hid (Pq.range_in HR1.out K)
  have HA2 := Lib.hid (Pq.range_in HR2.out K)
  have HG2' := Lib.hid (Pq.keep_block HG2.out K)
  have HB' := Lib.hid (Pq.below_next HB.out (Nat.le_refl _) K)
  clear HR3 HR4 HR1 HR2 HG2 HB hb3 hb4 hS hS3 hS4 K
  go_upto_region 2 with fail
  go_upto_region 2 with fail
  apply wp_region_lit
  refine Pq.wpL_step (by rfl) ?_
  apply Exists.intro
  apply Exists.intro
  refine ⟨?_, ?_⟩
  · go_simp; first | done | with_reducible rfl | exact ⟨rfl, rfl⟩
  simp only [Act.put, List.setIfInBounds_toArray, List.set_cons_zero, List.set_cons_succ]
  refine Pq.wpL_call (by rfl) cf_size (size_any b 0 x sx HSX.out _ HBx.out) rfl rfl ?_; rintro e w1 ⟨rfl, rfl⟩; refine ⟨_, rfl, ?_⟩
  simp only [Act.put, List.setIfInBounds_toArray, List.set_cons_zero, List.set_cons_succ]
  refine Pq.wpL_step (by rfl) ?_
  apply Exists.intro
  apply Exists.intro
  refine ⟨?_, ?_⟩
  · go_simp; first | done | with_reducible rfl | exact ⟨rfl, rfl⟩
  simp only [Act.put, List.setIfInBounds_toArray, List.set_cons_zero, List.set_cons_succ]
  refine Pq.wpL_call (by rfl) cf_size (size_any c 0 y sy HSY.out _ HCy.out) rfl rfl ?_; rintro e w1 ⟨rfl, rfl⟩; refine ⟨_, rfl, ?_⟩
  simp only [Act.put, List.setIfInBounds_toArray, List.set_cons_zero, List.set_cons_succ]
  iterate 2
    refine Pq.wpL_step (by rfl) ?_
    apply Exists.intro
    apply Exists.intro
    refine ⟨?_, ?_⟩
    · go_simp; first | done | with_reducible rfl | exact ⟨rfl, rfl⟩
    simp only [Act.put, List.setIfInBounds_toArray, List.set_cons_zero, List.set_cons_succ]
  refine Pq.wpL_nil ?_
  obtain ⟨d, hd⟩ : ∃ d, d = w4.heap.size := ⟨_, rfl⟩
  have hbd : b < d := by rw [hd]; exact Pq.range_lt HBx.out
  have hcd : c < d := by rw [hd]; exact Pq.range_lt HCy.out
  have hgd : g + 2 < d := by rw [hd]; exact (Array.getElem?_eq_some_iff.1 HG2'.out).1
  have HD := Lib.hid hd; clear hd
  go_upto_region 3 with fail
  go_upto_region 3 with fail
  apply wp_region_lit
  refine Pq.wpL_alloc d HD.out.symm (by rfl) _ rfl _ al_a64 ?_
  simp only [Act.put, List.setIfInBounds_toArray, List.set_cons_zero, List.set_cons_succ]
  refine Pq.wpL_nil ?_
  have HBx2 := Lib.hid (Pq.al_range HBx.out (.cells (Pq.am 64 0).toArray 149))
  have HCy2 := Lib.hid (Pq.al_range HCy.out (.cells (Pq.am 64 0).toArray 149))
  have HA12 := Lib.hid (Pq.al_range HA1.out (.cells (Pq.am 64 0).toArray 149))
  have HA22 := Lib.hid (Pq.al_range HA2.out (.cells (Pq.am 64 0).toArray 149))
  have HG22 := Lib.hid (Pq.al_keep HG2'.out (.cells (Pq.am 64 0).toArray 149))
  have HB2 := Lib.hid (Pq.below_alloc HB'.out (Nat.le_refl _) (.cells (Pq.am 64 0).toArray 149))
  have ho : (w4.alloc (.cells (Pq.am 64 0).toArray 149)).heap[d]? = some (.cells (Pq.am 64 (Pq.lo x 0 * y)).toArray 149 (0, 0)) := by rw [Pq.lo_zero, Nat.zero_mul]; exact Pq.al_block w4 _ d HD.out
  have hsz : d + 1 = (w4.alloc (.cells (Pq.am 64 0).toArray 149)).heap.size := by rw [Pq.size_alloc, HD.out]
  have HO := Lib.hid ho; have HSZ := Lib.hid hsz
  clear HBx HCy HA1 HA2 HG2' HB' ho HD hsz
  generalize w4.alloc (.cells (Pq.am 64 0).toArray 149) = w5 at *
  go_wp2
  go_loopw [26] (fun ii wr => ∃ i : Nat, ii = .int .i64 i ∧ i ≤ sx ∧ Hid (wr.heap[d]? = some (.cells (Pq.am 64 (Pq.lo x i * y)).toArray 149 (0, 0))) ∧ Hid (Below d w5 wr)) (fun ii _ => sx - (intOf ii).toNat)
  case atStart => exact ⟨0, rfl, by omega, HO, Lib.hid (Below.refl d w5)⟩
  case round =>
    obtain ⟨i, rfl, hi, hro, hbl⟩ := hrel
    by_cases hlt : i < sx
    · have hi2 : (i : Int) < sx := by omega
      have hi3 : (i : Int) < 32 := by omega
      obtain ⟨Z, hZ⟩ : ∃ Z, Z = Pq.lo x i * y := ⟨_, rfl⟩
      obtain ⟨a, ha⟩ : ∃ a, a = Pq.wd x i := ⟨_, rfl⟩
      have hal : a < 4294967296 := by rw [ha]; exact Pq.wd_lt _ _
      rw [← hZ] at hro
      have HZ := Lib.hid hZ; have HAE := Lib.hid ha
      clear hZ ha
      go_wp2
      go_loopw [12, 30] (fun cc jj wr => ∃ j cv Zj : Nat, cc = .int .u64 (cv : Int) ∧ jj = .int .i64 j ∧ j ≤ sy ∧ Hid (Pq.MI Z i a y j cv Zj) ∧ Hid (wr.heap[d]? = some (.cells (Pq.am 64 Zj).toArray 149 (0, 0))) ∧ Hid (Below d w5 wr)) (fun _ jj _ => sy - (intOf jj).toNat)
      case atStart => exact ⟨0, 0, Z, rfl, rfl, by omega, Lib.hid (Pq.MI.start Z i a y), hro, hbl⟩
      case round =>
        obtain ⟨j, cv, Zj, rfl, rfl, hj, hmi, hrj, hbj⟩ := hrel
        have hcl := hmi.out.cl
        obtain ⟨k, hk⟩ : ∃ k, k = i + j := ⟨_, rfl⟩
        have e1 : (i : Int) + (j : Int) = (k : Int) := by omega
        have w1 : IntKind.i64.wrap (k : Int) = (k : Int) := IntWalk.i64_in _ (by omega)
        have hk2 : (k : Int) < 64 + 1 := by omega
        have HKK := Lib.hid hk
        by_cases hjt : j < sy
        · have hj2 : (j : Int) < sy := by omega
          have hj3 : (j : Int) < 32 := by omega
          have hk3 : (k : Int) < 64 := by omega
          have hk4 : k < 64 := by omega
          have htop := hmi.out.top hal
          rw [← hk] at htop
          have c1 : wr.drew.cell? ⟨b, i, none⟩ = some (.int .u32 (a : Nat)) := by
            have := Pq.range_under HBx2.out (Pq.below_drew hbj.out) hbd i _ (Pq.am_get (x := x) (show i < 32 by omega))
            rw [HAE.out]; rwa [Nat.zero_add] at this
          have c2 : wr.drew.cell? ⟨c, j, none⟩ = some (.int .u32 (Pq.wd y j : Nat)) := by
            have := Pq.range_under HCy2.out (Pq.below_drew hbj.out) hcd j _ (Pq.am_get (x := y) (show j < 32 by omega))
            rwa [Nat.zero_add] at this
          have c3 : wr.drew.cell? ⟨d, k, none⟩ = some (.int .u32 (Pq.wd Zj k : Nat)) := Pq.row_cell (Pq.dr_block hrj.out) hk4
          have hvl := Pq.wd_lt y j
          have hzl := Pq.wd_lt Zj k
          obtain ⟨t, ht⟩ : ∃ t, t = a * Pq.wd y j + Pq.wd Zj k + cv := ⟨_, rfl⟩
          have hnext := hmi.out.next (t := t) hal (by rw [ht, hk])
          rw [← hk] at hnext
          rw [← ht] at htop
          obtain ⟨vb, hvb⟩ : ∃ vb, vb = Pq.wd y j := ⟨_, rfl⟩
          obtain ⟨vz, hvz⟩ : ∃ vz, vz = Pq.wd Zj k := ⟨_, rfl⟩
          rw [← hvb] at c2 hvl ht
          rw [← hvz] at c3 hzl ht
          obtain ⟨p, hp⟩ : ∃ p, p = a * vb := ⟨_, rfl⟩
          rw [← hp] at ht
          have htl : t < 18446744073709551616 := htop
          obtain ⟨s, hs⟩ : ∃ s, s = p + vz := ⟨_, rfl⟩
          have ep : (a : Int) * (vb : Int) = (p : Int) := by rw [hp]; simp
          have es : (p : Int) + (vz : Int) = (s : Int) := by omega
          have et : (s : Int) + (cv : Int) = (t : Int) := by omega
          have wp : IntKind.u64.wrap (p : Int) = (p : Int) := IntWalk.u64_in _ (by omega)
          have ws : IntKind.u64.wrap (s : Int) = (s : Int) := IntWalk.u64_in _ (by omega)
          have wt : IntKind.u64.wrap (t : Int) = (t : Int) := IntWalk.u64_in _ (by omega)
          have wa : IntKind.u64.wrap (a : Int) = (a : Int) := IntWalk.u64_in _ (by omega)
          have wb : IntKind.u64.wrap (vb : Int) = (vb : Int) := IntWalk.u64_in _ (by omega)
          have wz : IntKind.u64.wrap (vz : Int) = (vz : Int) := IntWalk.u64_in _ (by omega)
          obtain ⟨lo, hlo⟩ : ∃ lo, lo = t % 4294967296 := ⟨_, rfl⟩
          obtain ⟨hh, hhi⟩ : ∃ hh, hh = t / 4294967296 := ⟨_, rfl⟩
          have hand : bits .and .u64 (t : Int) 4294967295 = (lo : Int) := by rw [Pq.and_lo htl, hlo]
          have hsh : (t : Int) / 4294967296 = (hh : Int) := by rw [hhi]; simp
          have hll : lo < 4294967296 := by omega
          have wl1 : IntKind.u32.wrap (lo : Int) = (lo : Int) := IntWalk.u32_in _ (by omega)
          rw [← hlo, ← hhi] at hnext
          have C1 := Lib.hid c1; have C2 := Lib.hid c2; have C3 := Lib.hid c3; have HNX := Lib.hid hnext
          clear c1 c2 c3 hnext hvb hvz ht hp hs hlo hhi hk htop htl hk2
          go_upto_region 11 with fail
          refine Pq.wp_region_grown none [(0, true), (1, true), (2, true), (3, true), (4, true), (5, true), (6, true), (7, true), (8, true), (9, true), (10, true), (11, true), (12, true), (13, true), (14, true), (15, true), (16, true), (17, true), (18, true), (19, true), (20, true), (21, true), (22, true)] (by kernel_rfl) (by kernel_rfl) (fun _ _ d _ _ h => by cases d <;> exact h) (fun hS => ?_)
          simp only [Pq.pick, List.filterMap_cons, List.filterMap_nil, List.getElem?_cons_zero, List.getElem?_cons_succ, Option.map_some]
          iterate 4
            refine Pq.wpO_step (by rfl) ?_
            apply Exists.intro
            refine ⟨fun w' hw' => ?_, ?_⟩
            · go_simp; first | done | with_reducible rfl | exact ⟨rfl, rfl⟩
            simp only [Act.put, List.setIfInBounds_toArray, List.set_cons_zero, List.set_cons_succ]
          refine Pq.wpO_cell ⟨b, i, none⟩ _ C1.out (by simp) (by rfl) _ _ rfl rfl _ u_u32 rfl ?_
          simp only [Act.put, List.setIfInBounds_toArray, List.set_cons_zero, List.set_cons_succ]
          iterate 5
            refine Pq.wpO_step (by rfl) ?_
            apply Exists.intro
            refine ⟨fun w' hw' => ?_, ?_⟩
            · go_simp; first | done | with_reducible rfl | exact ⟨rfl, rfl⟩
            simp only [Act.put, List.setIfInBounds_toArray, List.set_cons_zero, List.set_cons_succ]
          refine Pq.wpO_cell ⟨c, j, none⟩ _ C2.out (by simp) (by rfl) _ _ rfl rfl _ u_u32 rfl ?_
          simp only [Act.put, List.setIfInBounds_toArray, List.set_cons_zero, List.set_cons_succ]
          iterate 6
            refine Pq.wpO_step (by rfl) ?_
            apply Exists.intro
            refine ⟨fun w' hw' => ?_, ?_⟩
            · go_simp; first | done | with_reducible rfl | exact ⟨rfl, rfl⟩
            simp only [Act.put, List.setIfInBounds_toArray, List.set_cons_zero, List.set_cons_succ]
          refine Pq.wpO_cell ⟨d, k, none⟩ _ C3.out (by simp) (by rfl) _ _ rfl rfl _ u_u32 rfl ?_
          simp only [Act.put, List.setIfInBounds_toArray, List.set_cons_zero, List.set_cons_succ]
          iterate 5
            refine Pq.wpO_step (by rfl) ?_
            apply Exists.intro
            refine ⟨fun w' hw' => ?_, ?_⟩
            · go_simp; first | done | with_reducible rfl | exact ⟨rfl, rfl⟩
            simp only [Act.put, List.setIfInBounds_toArray, List.set_cons_zero, List.set_cons_succ]
          refine Pq.wpO_nil ?_
          go_upto_region 12 with fail
          go_upto_region 12 with fail
          apply wp_region_lit
          iterate 7
            refine Pq.wpL_step (by rfl) ?_
            apply Exists.intro
            apply Exists.intro
            refine ⟨?_, ?_⟩
            · go_simp; first | done | with_reducible rfl | exact ⟨rfl, rfl⟩
            simp only [Act.put, List.setIfInBounds_toArray, List.set_cons_zero, List.set_cons_succ]
          refine Pq.wpL_put (k := k) (.int .u32 (lo : Int)) (Pq.dr_block hrj.out) (by rw [Pq.am_length]; exact hk4) (by rfl) 23 _ _ rfl rfl rfl rfl rfl (by kernel_rfl) ?_
          try simp only [Act.put, List.setIfInBounds_toArray, List.set_cons_zero, List.set_cons_succ]
          refine Pq.wpL_nil ?_
          go_upto_region 13 with fail
          go_upto_region 13 with fail
          apply wp_region_lit
          iterate 3
            refine Pq.wpL_step (by rfl) ?_
            apply Exists.intro
            apply Exists.intro
            refine ⟨?_, ?_⟩
            · go_simp; first | done | with_reducible rfl | exact ⟨rfl, rfl⟩
            simp only [Act.put, List.setIfInBounds_toArray, List.set_cons_zero, List.set_cons_succ]
          refine Pq.wpL_nil ?_
          clear ep es et wp ws wt wa wb wz hand hsh wl1 e1 w1
          go_wp2
          go_roundw
          case rel => exact ⟨j + 1, hh, Pq.st Zj k lo, rfl, by go_num, by omega, HNX, Lib.hid (by
            have e := Pq.setRow_at (cs := ((Pq.am 64 Zj).set k (.int .u32 (lo : Int))).toArray) (Pq.dr_block hrj.out)
            rw [Pq.am_set hll hk4] at e
            rw [Pq.am_set hll hk4]; exact e), Lib.hid (Pq.below_setRow (Pq.below_drew hbj.out) (Nat.le_refl _))⟩
          case measure => simp [intOf]; omega
        · obtain rfl : j = sy := by omega
          have hk3 : (k : Int) < 64 := by omega
          have hk4 : k < 64 := by omega
          have hlast := hmi.out.last (by rw [HZ.out]; exact Pq.mul_fit HYS.out) HYS.out
          rw [HZ.out, HAE.out, Pq.mul_row, ← hk] at hlast
          have HLA := Lib.hid hlast
          have wl1 : IntKind.u32.wrap (cv : Int) = (cv : Int) := IntWalk.u32_in _ (by omega)
          clear hlast hk
          go_upto_region 15 with fail
          go_upto_region 15 with fail
          apply wp_region_lit
          iterate 6
            refine Pq.wpL_step (by rfl) ?_
            apply Exists.intro
            apply Exists.intro
            refine ⟨?_, ?_⟩
            · go_simp; first | done | with_reducible rfl | exact ⟨rfl, rfl⟩
            simp only [Act.put, List.setIfInBounds_toArray, List.set_cons_zero, List.set_cons_succ]
          refine Pq.wpL_put (k := k) (.int .u32 (cv : Int)) hrj.out (by rw [Pq.am_length]; exact hk4) (by rfl) 23 _ _ rfl rfl rfl rfl rfl (by kernel_rfl) ?_
          try simp only [Act.put, List.setIfInBounds_toArray, List.set_cons_zero, List.set_cons_succ]
          refine Pq.wpL_nil ?_
          clear wl1 e1 w1
          go_wp2
          go_roundw
          case rel => exact ⟨i + 1, by go_num, by omega, Lib.hid (by
            have e := Pq.setRow_at (cs := ((Pq.am 64 Zj).set k (.int .u32 (cv : Int))).toArray) hrj.out
            rw [Pq.am_set hcl hk4, HLA.out] at e
            rw [Pq.am_set hcl hk4, HLA.out]; exact e), Lib.hid (Pq.below_setRow hbj.out (Nat.le_refl _))⟩
          case measure => simp [intOf]; omega
    · obtain rfl : i = sx := by omega
      obtain ⟨P0, hP0⟩ : ∃ P0, P0 = x * y := ⟨_, rfl⟩
      have hrow : wr.heap[d]? = some (.cells (Pq.am 64 P0).toArray 149 (0, 0)) := by
        have := hro.out
        rwa [Pq.lo_self HXS.out, ← hP0] at this
      have hPl : P0 < Pq.bp 64 := by
        rw [hP0, show Pq.bp 64 = Pq.bp 32 * Pq.bp 32 from Pq.bp_add 32 32]
        exact Nat.mul_lt_mul'' HX.out HY.out
      have HROW := Lib.hid hrow; have HPL := Lib.hid hPl; have HP0 := Lib.hid hP0
      clear hrow hPl hP0 hro hlt
      go_upto_region 17 with fail
      go_upto_region 17 with fail
      apply wp_region_lit
      refine Pq.wpL_slice _ (by rfl) _ _ _ _ rfl _ rfl _ none rfl rfl (sl_hi d) ?_
      simp only [Act.put, List.setIfInBounds_toArray, List.set_cons_zero, List.set_cons_succ]
      iterate 2
        refine Pq.wpL_step (by rfl) ?_
        apply Exists.intro
        apply Exists.intro
        refine ⟨?_, ?_⟩
        · go_simp; first | done | with_reducible rfl | exact ⟨rfl, rfl⟩
        simp only [Act.put, List.setIfInBounds_toArray, List.set_cons_zero, List.set_cons_succ]
      refine Pq.wpL_nil ?_
      go_wp2
      go_loopw [74] (fun kk wr => ∃ k : Nat, kk = .int .i64 k ∧ k ≤ 32 ∧ Hid (∀ j, j < k → Pq.wd P0 (32 + j) = 0) ∧ Hid (wr.heap[d]? = some (.cells (Pq.am 64 P0).toArray 149 (0, 0))) ∧ Hid (Below d w5 wr)) (fun kk _ => 32 - (intOf kk).toNat)
      case atStart => exact ⟨0, rfl, by omega, Lib.hid (fun j hj => absurd hj (by omega)), HROW, hbl⟩
      case round =>
        obtain ⟨k, rfl, hk, hz, hrj, hbj⟩ := hrel
        by_cases hlt : k < 32
        · have hk2 : (k : Int) < 32 := by omega
          have c1 : wr.cell? ⟨d, 32 + k, none⟩ = some (.int .u32 (Pq.wd P0 (32 + k) : Nat)) := Pq.row_cell hrj.out (by omega)
          have hvl := Pq.wd_lt P0 (32 + k)
          obtain ⟨v, hv⟩ : ∃ v, v = Pq.wd P0 (32 + k) := ⟨_, rfl⟩
          rw [← hv] at c1 hvl
          have C1 := Lib.hid c1; have HV := Lib.hid hv
          clear c1 hv
          go_upto_region 19 with fail
          go_upto_region 19 with fail
          apply wp_region_lit
          refine Pq.wpL_step (by rfl) ?_
          apply Exists.intro
          apply Exists.intro
          refine ⟨?_, ?_⟩
          · go_simp; first | done | with_reducible rfl | exact ⟨rfl, rfl⟩
          simp only [Act.put, List.setIfInBounds_toArray, List.set_cons_zero, List.set_cons_succ]
          refine Pq.wpL_cell ⟨d, 32 + k, none⟩ _ C1.out (by rfl) _ _ rfl rfl _ u_u32 rfl ?_
          simp only [Act.put, List.setIfInBounds_toArray, List.set_cons_zero, List.set_cons_succ]
          refine Pq.wpL_step (by rfl) ?_
          apply Exists.intro
          apply Exists.intro
          refine ⟨?_, ?_⟩
          · go_simp; first | done | with_reducible rfl | exact ⟨rfl, rfl⟩
          simp only [Act.put, List.setIfInBounds_toArray, List.set_cons_zero, List.set_cons_succ]
          refine Pq.wpL_nil ?_
          by_cases hv0 : v = 0
          · have hvb : ((v : Int) == 0) = true := by rw [hv0]; rfl
            have HV0 := Lib.hid hv0
            clear hv0
            go_wp2
            go_roundw
            case rel => exact ⟨k + 1, by go_num, by omega, Lib.hid (fun j hj => by
              rcases Nat.lt_or_ge j k with h1 | h1
              · exact hz.out j h1
              · obtain rfl : j = k := by omega
                rw [← HV.out]; exact HV0.out), hrj, hbj⟩
            case measure => simp [intOf]; omega
          · have hvb : ((v : Int) == 0) = false := (by have h4 : ¬ (v : Int) = 0 := (by omega); simpa using h4)
            have hbig : ¬ P0 < Pq.bp 32 := Pq.big_of_word (i := k) (by rw [← HV.out]; exact hv0)
            have hres : res = .tuple #[.agg (Pq.wc false 0), .bool false] := by
              rw [HRR.out, Pq.rz_no (by rw [Pq.mul_abs, ← HP0.out]; exact hbig)]
            have HRES := Lib.hid hres
            clear hres hbig hv0
            have HGz := Lib.hid ((hbj.out.block (g + 2) hgd).trans HG22.out)
            have HBz := Lib.hid (Pq.below_of HB2.out hbj.out (by rw [← HG.out]; omega))
            go_upto_region 21 with fail
            go_upto_region 21 with fail
            apply wp_region_lit
            refine Pq.wpL_build (by rfl) _ [] rfl [] rfl _ built_none ?_
            simp only [Act.put, List.setIfInBounds_toArray, List.set_cons_zero, List.set_cons_succ]
            refine Pq.wpL_store (by rfl) 26 _ _ rfl (g + 2) (Pq.wc _ _) rfl rfl 26 (Pq.wc _ _) HGz.out (s_widea _ _) (by simp only [Pq.wc_size]) (Pq.wc_one _ _) ?_
            try simp only [Act.put, List.setIfInBounds_toArray, List.set_cons_zero, List.set_cons_succ]
            refine Pq.wpL_step (by rfl) ?_
            apply Exists.intro
            apply Exists.intro
            refine ⟨?_, ?_⟩
            · go_simp; first | done | with_reducible rfl | exact ⟨rfl, rfl⟩
            simp only [Act.put, List.setIfInBounds_toArray, List.set_cons_zero, List.set_cons_succ]
            refine Pq.wpL_nil ?_
            go_wp2
            refine Pq.ret_cell_tmp rfl (g + 2) _ _ _ _ _ rfl rfl (Pq.setRow_at HGz.out) u_wide rfl (s_widea _ _) rfl ⟨by rw [HRES.out]; rfl, Pq.below_setRow HBz.out (by rw [← HG.out]; omega)⟩
        · obtain rfl : k = 32 := by omega
          have hsm : P0 < Pq.bp 32 := Pq.small_of_words HPL.out hz.out
          have HSM := Lib.hid hsm
          have HGz := Lib.hid ((hbj.out.block (g + 2) hgd).trans HG22.out)
          have HBz := Lib.hid (Pq.below_of HB2.out hbj.out (by rw [← HG.out]; omega))
          have HA1z := Lib.hid (Pq.range_under HA12.out hbj.out (by omega))
          have HA2z := Lib.hid (Pq.range_under HA22.out hbj.out (by omega))
          have hds : d < wr.heap.size := (Array.getElem?_eq_some_iff.1 hrj.out).1
          have hro : wr.rangeAt d 0 (Pq.am 32 P0) := by
            have := Pq.range_block hrj.out
            rw [show (64 : Nat) = 32 + 32 from rfl, Pq.am_split 32 32 P0] at this
            exact (Pq.range_app this).1
          have HROz := Lib.hid hro
          obtain ⟨p0, hp0⟩ : ∃ p0, p0 = Pq.ng n x := ⟨_, rfl⟩
          obtain ⟨q0, hq0⟩ : ∃ q0, q0 = Pq.ng m y := ⟨_, rfl⟩
          have HNX := Lib.hid hp0; have HNY := Lib.hid hq0
          clear hp0 hq0 hro hsm hz hbl HROW HA12 HA22 HG22 HB2 hlt
          go_upto_region 23 with fail
          refine Pq.wp_region_grown (some (g + 2)) [(0, true), (2, true), (5, true), (6, true), (1, false), (3, false), (4, true), (7, false), (8, false), (9, true)] (by kernel_rfl) (by kernel_rfl) (fun _ _ d _ _ h => by cases d <;> exact h) (fun hS => ?_)
          simp only [Pq.pick, List.filterMap_cons, List.filterMap_nil, List.getElem?_cons_zero, List.getElem?_cons_succ, Option.map_some]
          refine Pq.wpO_load g 0 (Pq.wl n x) HA1z.out (by simp) (by rfl) _ _ rfl rfl _ u_wide rfl (s_wide _ _) ?_
          simp only [Act.put, List.setIfInBounds_toArray, List.set_cons_zero, List.set_cons_succ]
          refine Pq.wpO_load (g + 1) 0 (Pq.wl m y) HA2z.out (by simp) (by rfl) _ _ rfl rfl _ u_wide rfl (s_wide _ _) ?_
          simp only [Act.put, List.setIfInBounds_toArray, List.set_cons_zero, List.set_cons_succ]
          refine Pq.wpO_slice _ (by rfl) _ _ _ _ rfl _ rfl none _ rfl rfl (sl_lo d) ?_
          simp only [Act.put, List.setIfInBounds_toArray, List.set_cons_zero, List.set_cons_succ]
          refine Pq.wpO_toPtr _ (by rfl) _ _ rfl _ rfl (sl_ptr d) ?_
          simp only [Act.put, List.setIfInBounds_toArray, List.set_cons_zero, List.set_cons_succ]
          refine Pq.wpO_ret (by rfl) cf_below (below_any n x _ HX.out) rfl rfl hS ?_; intro w8 hb8 hS8; rw [← HNX.out]
          simp only [Act.put, List.setIfInBounds_toArray, List.set_cons_zero, List.set_cons_succ]
          refine Pq.wpO_ret (by rfl) cf_below (below_any m y _ HY.out) rfl rfl hS8 ?_; intro w9 hb9 hS9; rw [← HNY.out]; have K9 := Pq.below_next (Pq.below_next (Pq.below_drew (Below.refl wr.heap.size wr)) (Nat.le_refl _) hb8) (Nat.le_refl _) hb9
          simp only [Act.put, List.setIfInBounds_toArray, List.set_cons_zero, List.set_cons_succ]
          refine Pq.wpO_step (by rfl) ?_
          apply Exists.intro
          refine ⟨fun w' hw' => ?_, ?_⟩
          · go_simp; first | done | with_reducible rfl | exact ⟨rfl, rfl⟩
          simp only [Act.put, List.setIfInBounds_toArray, List.set_cons_zero, List.set_cons_succ]
          refine Pq.wpO_ret (by rfl) cf_told (told_any _ d 0 P0 _ HSM.out (Pq.range_in HROz.out K9) (Nat.lt_of_lt_of_le hds K9.size)) rfl rfl hS9 ?_; intro w10 hb10 hS10; have K10 := Pq.below_next K9 (Nat.le_refl _) hb10
          simp only [Act.put, List.setIfInBounds_toArray, List.set_cons_zero, List.set_cons_succ]
          refine Pq.wpO_store (by rfl) 26 _ _ rfl (g + 2) (Pq.wc _ _) rfl rfl 26 (Pq.wc _ _) (Pq.keep_block HGz.out K10) (s_widea _ _) (by simp only [Pq.wc_size]) (Pq.wc_one _ _) (Pq.grown_setRow hS10) ?_
          try simp only [Act.put, List.setIfInBounds_toArray, List.set_cons_zero, List.set_cons_succ]
          refine Pq.wpO_step (by rfl) ?_
          apply Exists.intro
          refine ⟨fun w' hw' => ?_, ?_⟩
          · go_simp; first | done | with_reducible rfl | exact ⟨rfl, rfl⟩
          simp only [Act.put, List.setIfInBounds_toArray, List.set_cons_zero, List.set_cons_succ]
          refine Pq.wpO_nil ?_
          go_wp2
          refine Pq.ret_cell_tmp rfl (g + 2) _ _ _ _ _ rfl rfl (Pq.setRow_at (Pq.keep_block HGz.out K10)) u_wide rfl (s_widea _ _) rfl ⟨?_, Pq.below_setRow (Pq.below_next HBz.out (Nat.le_refl _) K10) (by rw [← HG.out]; omega)⟩
          have e1 := Pq.mul_sign n x m y
          rw [← HNX.out, ← HNY.out, ← HP0.out] at e1
          rw [HRR.out, Pq.rz_ok (by rw [Pq.mul_abs, ← HP0.out]; exact HSM.out), ← e1]; rfl
end Go.Proofs.YtokgbcachcmeaaaGreatDoor
set_option linter.unusedSimpArgs false
set_option linter.unusedVariables false
namespace Pq
theorem bp_one_lt : 1 < bp 32 := by have := bp_mono (i := 1) (j := 32) (by decide); rw [bp_one] at this; omega
theorem cz_zero (a b : Int) : ((cz a b : Int) == 0) = decide (a = b) := by
  unfold cz
  by_cases h : a < b
  · rw [if_pos h]; simp; omega
  · rw [if_neg h]
    by_cases h2 : b < a
    · rw [if_pos h2]; simp; omega
    · rw [if_neg h2]; simp; omega
end Pq
namespace Go.Proofs.YtokgbcachcmeaaaGreatDoor
open Go.RowKit
theorem cf_one (xs : Array Value) (w : World) : (callFunc 30 xs).run Tryz.prog w = .ok (.enter 30 xs) w := by kernel_rfl
theorem cf_isone (xs : Array Value) (w : World) : (callFunc 49 xs).run Tryz.prog w = .ok (.enter 49 xs) w := by kernel_rfl

set_option maxRecDepth 100000 in
theorem one_any (w : World) : Calls Tryz.prog 30 #[] w (Pq.Ret w (.agg (Pq.wc false 1))) := by
  obtain ⟨g, hg⟩ : ∃ g, g = w.heap.size := ⟨_, rfl⟩
  have HG := Lib.hid hg; clear hg
  go_enter Tryz.func30, Tryz.ntmps30
  go_upto_region 0 with fail
  go_upto_region 0 with fail
  apply wp_region_lit
  refine Pq.wpL_alloc g HG.out.symm (by rfl) _ rfl (Pq.wc false 0) al_wide ?_
  simp only [Act.put, List.setIfInBounds_toArray, List.set_cons_zero, List.set_cons_succ]
  refine Pq.wpL_nil ?_
  go_upto_region 1 with fail
  go_upto_region 1 with fail
  apply wp_region_lit
  refine Pq.wpL_ret (by rfl) cf_from (from_any 1 _ (by decide) (by decide)) rfl rfl ?_; intro w1 hb1; rw [show Pq.wz 1 = Pq.wc false 1 from rfl]
  simp only [Act.put, List.setIfInBounds_toArray, List.set_cons_zero, List.set_cons_succ]
  refine Pq.wpL_store (by rfl) 26 _ _ rfl g (Pq.wc _ _) rfl rfl 26 (Pq.wc _ _) (Pq.keep_block (Pq.al_block w (.cells (Pq.wc false 0) 26) g HG.out) hb1) (s_widea _ _) (by simp only [Pq.wc_size]) (Pq.wc_one _ _) ?_
  try simp only [Act.put, List.setIfInBounds_toArray, List.set_cons_zero, List.set_cons_succ]
  refine Pq.wpL_nil ?_
  go_wp2
  refine Pq.ret_cell rfl g _ _ _ _ rfl (Pq.setRow_at (Pq.keep_block (Pq.al_block w (.cells (Pq.wc false 0) 26) g HG.out) hb1)) u_wide rfl (s_widea _ _) rfl ⟨rfl, Pq.below_setRow (Pq.below_next (Pq.below_alloc (Below.refl _ w) (Nat.le_refl _) _) (Nat.le_refl _) hb1) (by rw [HG.out]; exact Nat.le_refl _)⟩

set_option maxRecDepth 100000 in
theorem isone_any (n : Bool) (x : Nat) (w : World) (hx : x < Pq.bp 32) : Calls Tryz.prog 49 #[.agg (Pq.wc n x)] w (Pq.Ret w (.bool (decide (Pq.zv n x = 1)))) := by
  have HX := Lib.hid hx; clear hx
  obtain ⟨g, hg⟩ : ∃ g, g = w.heap.size := ⟨_, rfl⟩
  have HG := Lib.hid hg; clear hg
  obtain ⟨r, hr⟩ : ∃ r, r = Pq.cz (Pq.zv n x) (Pq.zv false 1) := ⟨_, rfl⟩
  have HRe := Lib.hid hr; clear hr
  have hres : decide (Pq.zv n x = 1) = (r == 0) := by rw [HRe.out, Pq.cz_zero]; rfl
  rw [hres]
  clear hres
  go_enter Tryz.func49, Tryz.ntmps49
  go_upto_region 0 with fail
  go_upto_region 0 with fail
  apply wp_region_lit
  refine Pq.wpL_box g HG.out.symm (Pq.wc n x) (by rfl) _ _ rfl rfl (bx_wide n x) ?_
  simp only [Act.put, List.setIfInBounds_toArray, List.set_cons_zero, List.set_cons_succ]
  refine Pq.wpL_step (by rfl) ?_
  apply Exists.intro
  apply Exists.intro
  refine ⟨?_, ?_⟩
  · go_simp; first | done | with_reducible rfl | exact ⟨rfl, rfl⟩
  simp only [Act.put, List.setIfInBounds_toArray, List.set_cons_zero, List.set_cons_succ]
  refine Pq.wpL_nil ?_
  have HB := Lib.hid (Pq.below_alloc (Below.refl _ w) (Nat.le_refl _) (.cells (Pq.wc n x) 26))
  have HR1 := Lib.hid (Pq.al_wnew w n x 26 g HG.out)
  generalize w.alloc (.cells (Pq.wc n x) 26) = w0 at *
  go_upto_region 1 with fail
  refine Pq.wp_region_grown none [(0, true), (1, false), (2, false), (3, true), (4, true)] (by kernel_rfl) (by kernel_rfl) (fun _ _ d _ _ h => by cases d <;> exact h) (fun hS => ?_)
  simp only [Pq.pick, List.filterMap_cons, List.filterMap_nil, List.getElem?_cons_zero, List.getElem?_cons_succ, Option.map_some]
  refine Pq.wpO_load g 0 (Pq.wl n x) HR1.out (by simp) (by rfl) _ _ rfl rfl _ u_wide rfl (s_wide _ _) ?_
  simp only [Act.put, List.setIfInBounds_toArray, List.set_cons_zero, List.set_cons_succ]
  refine Pq.wpO_ret (by rfl) cf_one (one_any _) rfl rfl hS ?_; intro w1 hb1 hS1
  simp only [Act.put, List.setIfInBounds_toArray, List.set_cons_zero, List.set_cons_succ]
  refine Pq.wpO_ret (by rfl) cf_wcmp (cmp_any n x false 1 _ HX.out (Pq.bp_one_lt)) rfl rfl hS1 ?_; intro w2 hb2 hS2; rw [← HRe.out]
  simp only [Act.put, List.setIfInBounds_toArray, List.set_cons_zero, List.set_cons_succ]
  iterate 2
    refine Pq.wpO_step (by rfl) ?_
    apply Exists.intro
    refine ⟨fun w' hw' => ?_, ?_⟩
    · go_simp; first | done | with_reducible rfl | exact ⟨rfl, rfl⟩
    simp only [Act.put, List.setIfInBounds_toArray, List.set_cons_zero, List.set_cons_succ]
  refine Pq.wpO_nil ?_
  go_wp2
  go_ret
  exact ⟨rfl, Pq.below_next HB.out (Nat.le_refl _) (Pq.grown_below hS2)⟩
end Go.Proofs.YtokgbcachcmeaaaGreatDoor
set_option linter.unusedSimpArgs false
set_option linter.unusedVariables false
namespace Pq
open Go Go.RowKit
theorem little_of {x : Nat} (hx : x < bp 32) : (wd x 0 < 1073741824 ∧ ∀ j, j < 31 → wd x (1 + j) = 0) ↔ x < 1073741824 := by
  constructor
  · rintro ⟨h1, h2⟩
    have : x = lo x 1 := eq_of_wd hx (Nat.lt_of_lt_of_le (lo_lt x 1) (bp_mono (by decide))) fun i hi => by
      rcases Nat.lt_or_ge i 1 with h | h
      · rw [wd_lo h]
      · rw [wd_top (lo_lt x 1) h, show i = 1 + (i - 1) from by omega]; exact h2 _ (by omega)
    have h3 := lo_succ x 0
    rw [lo_zero, bp_zero, Nat.one_mul, Nat.zero_add, ← this] at h3
    omega
  · intro h
    have h1 : x < bp 1 := by rw [bp_one]; omega
    exact ⟨by rw [wd_small (by omega)]; exact h, fun j _ => wd_top h1 (by omega)⟩
theorem or_zero {a b : Nat} : (a ||| b = 0) ↔ (a = 0 ∧ b = 0) := by simp
theorem or_small {a b : Nat} (ha : a < 4294967296) (hb : b < 4294967296) : a ||| b < 4294967296 := Nat.or_lt_two_pow (n := 32) ha hb
end Pq
namespace Go.Proofs.YtokgbcachcmeaaaGreatDoor
open Go.RowKit
theorem cf_little (xs : Array Value) (w : World) : (callFunc 91 xs).run Tryz.prog w = .ok (.enter 91 xs) w := by kernel_rfl
theorem sl_tail (b o : Nat) (w : World) : (Instr.sliceAt 24 (.pointer (some ⟨b, o, none⟩)) (some (.int .i64 1)) none none).run Tryz.prog w = .ok (.slice (some ⟨b, o + 1, none⟩) 31 31) w := by kernel_rfl

set_option maxRecDepth 100000 in
set_option maxHeartbeats 1000000 in
theorem little_any (b o : Nat) (n : Bool) (x : Nat) (w : World) (hx : x < Pq.bp 32) (hb : w.rangeAt b o (Pq.wl n x)) :
    Calls Tryz.prog 91 #[.pointer (some ⟨b, o, none⟩)] w (Pq.Ret w (.tuple #[.int .i64 (Pq.zv n (Pq.wd x 0)), .bool (decide (x < 1073741824))])) := by
  have hc := Pq.range_cons hb
  have C0 := Lib.hid hc.1
  have HR := Lib.hid hc.2
  have HX := Lib.hid hx
  have hq := Pq.wd_lt x 0
  have c1 := HR.out 0 _ (Pq.am_get (x := x) (show 0 < 32 by decide))
  obtain ⟨q, hqq⟩ : ∃ q, q = Pq.wd x 0 := ⟨_, rfl⟩
  rw [← hqq] at hq c1
  rw [← hqq]
  have C1 := Lib.hid c1; have HQ := Lib.hid hqq
  clear hc hx hb c1 hqq
  obtain ⟨s0, hs0⟩ : ∃ s0, s0 = q / 1073741824 := ⟨_, rfl⟩
  have hsh : (q : Int) / 1073741824 = (s0 : Int) := by rw [hs0]; simp
  have hz0 : s0 = 0 ↔ q < 1073741824 := by omega
  have hs0l : s0 < 4294967296 := by omega
  have HZ0 := Lib.hid hz0
  obtain ⟨res, hres⟩ : ∃ res, res = decide (x < 1073741824) := ⟨_, rfl⟩
  rw [← hres]
  have HRES := Lib.hid hres
  clear hs0 hz0 hres
  go_enter Tryz.func91, Tryz.ntmps91
  go_upto_region 1 with fail
  go_upto_region 1 with fail
  apply wp_region_lit
  iterate 4
    refine Pq.wpL_step (by rfl) ?_
    apply Exists.intro
    apply Exists.intro
    refine ⟨?_, ?_⟩
    · go_simp; first | done | with_reducible rfl | exact ⟨rfl, rfl⟩
    simp only [Act.put, List.setIfInBounds_toArray, List.set_cons_zero, List.set_cons_succ]
  refine Pq.wpL_cell ⟨b, o + 1, none⟩ _ C1.out (by rfl) _ _ rfl rfl _ u_u32 rfl ?_
  simp only [Act.put, List.setIfInBounds_toArray, List.set_cons_zero, List.set_cons_succ]
  iterate 2
    refine Pq.wpL_step (by rfl) ?_
    apply Exists.intro
    apply Exists.intro
    refine ⟨?_, ?_⟩
    · go_simp; first | done | with_reducible rfl | exact ⟨rfl, rfl⟩
    simp only [Act.put, List.setIfInBounds_toArray, List.set_cons_zero, List.set_cons_succ]
  refine Pq.wpL_nil ?_
  go_upto_region 2 with fail
  go_upto_region 2 with fail
  apply wp_region_lit
  iterate 3
    refine Pq.wpL_step (by rfl) ?_
    apply Exists.intro
    apply Exists.intro
    refine ⟨?_, ?_⟩
    · go_simp; first | done | with_reducible rfl | exact ⟨rfl, rfl⟩
    simp only [Act.put, List.setIfInBounds_toArray, List.set_cons_zero, List.set_cons_succ]
  refine Pq.wpL_slice _ (by rfl) _ _ _ _ rfl _ rfl _ none rfl rfl (sl_tail b (o + 1)) ?_
  simp only [Act.put, List.setIfInBounds_toArray, List.set_cons_zero, List.set_cons_succ]
  iterate 2
    refine Pq.wpL_step (by rfl) ?_
    apply Exists.intro
    apply Exists.intro
    refine ⟨?_, ?_⟩
    · go_simp; first | done | with_reducible rfl | exact ⟨rfl, rfl⟩
    simp only [Act.put, List.setIfInBounds_toArray, List.set_cons_zero, List.set_cons_succ]
  refine Pq.wpL_nil ?_
  clear hsh
  go_wp2
  go_loopw [4, 19] (fun rs ii wr => ∃ r k : Nat, rs = .int .u32 (r : Int) ∧ ii = .int .i64 k ∧ k ≤ 31 ∧ r < 4294967296 ∧ Hid (r = 0 ↔ (Pq.wd x 0 < 1073741824 ∧ ∀ j, j < k → Pq.wd x (1 + j) = 0)) ∧ Hid (wr = w)) (fun _ ii _ => 31 - (intOf ii).toNat)
  case atStart => exact ⟨s0, 0, rfl, rfl, by omega, hs0l, Lib.hid ⟨fun h => ⟨by rw [← HQ.out]; exact HZ0.out.1 h, fun j hj => absurd hj (by omega)⟩, fun h => HZ0.out.2 (by rw [HQ.out]; exact h.1)⟩, Lib.hid rfl⟩
  case round =>
    obtain ⟨r, k, rfl, rfl, hk, hrl, hiff, hw⟩ := hrel
    obtain rfl := hw.out
    clear hw
    by_cases hlt : k < 31
    · have hk2 : (k : Int) < 31 := by omega
      have c2 := HR.out (1 + k) _ (Pq.am_get (x := x) (show 1 + k < 32 by omega))
      have hvl := Pq.wd_lt x (1 + k)
      obtain ⟨v, hv⟩ : ∃ v, v = Pq.wd x (1 + k) := ⟨_, rfl⟩
      rw [← hv, show o + 1 + (1 + k) = o + 1 + 1 + k from by omega] at c2
      rw [← hv] at hvl
      have C2 := Lib.hid c2; have HV := Lib.hid hv
      obtain ⟨s, hs⟩ : ∃ s, s = r ||| v := ⟨_, rfl⟩
      have hor : bits .or .u32 (r : Int) (v : Int) = (s : Int) := by rw [u32_or_nat r v hrl hvl, hs]
      have hsl : s < 4294967296 := by rw [hs]; exact Pq.or_small hrl hvl
      have hsz : s = 0 ↔ (r = 0 ∧ v = 0) := by rw [hs]; exact Pq.or_zero
      have HSZ := Lib.hid hsz
      clear c2 hv hs hsz
      go_upto_region 4 with fail
      go_upto_region 4 with fail
      apply wp_region_lit
      refine Pq.wpL_step (by rfl) ?_
      apply Exists.intro
      apply Exists.intro
      refine ⟨?_, ?_⟩
      · go_simp; first | done | with_reducible rfl | exact ⟨rfl, rfl⟩
      simp only [Act.put, List.setIfInBounds_toArray, List.set_cons_zero, List.set_cons_succ]
      refine Pq.wpL_cell ⟨b, o + 1 + 1 + k, none⟩ _ C2.out (by rfl) _ _ rfl rfl _ u_u32 rfl ?_
      simp only [Act.put, List.setIfInBounds_toArray, List.set_cons_zero, List.set_cons_succ]
      refine Pq.wpL_step (by rfl) ?_
      apply Exists.intro
      apply Exists.intro
      refine ⟨?_, ?_⟩
      · go_simp; first | done | with_reducible rfl | exact ⟨rfl, rfl⟩
      simp only [Act.put, List.setIfInBounds_toArray, List.set_cons_zero, List.set_cons_succ]
      refine Pq.wpL_nil ?_
      go_upto_region 5 with fail
      go_upto_region 5 with fail
      apply wp_region_lit
      iterate 4
        refine Pq.wpL_step (by rfl) ?_
        apply Exists.intro
        apply Exists.intro
        refine ⟨?_, ?_⟩
        · go_simp; first | done | with_reducible rfl | exact ⟨rfl, rfl⟩
        simp only [Act.put, List.setIfInBounds_toArray, List.set_cons_zero, List.set_cons_succ]
      refine Pq.wpL_nil ?_
      clear hor
      go_wp2
      go_roundw
      case rel => exact ⟨s, k + 1, rfl, by go_num, by omega, hsl, Lib.hid ⟨fun h => by
          obtain ⟨h1, h2⟩ := HSZ.out.1 h
          obtain ⟨h3, h4⟩ := hiff.out.1 h1
          refine ⟨h3, fun j hj => ?_⟩
          rcases Nat.lt_or_ge j k with h5 | h5
          · exact h4 j h5
          · obtain rfl : j = k := by omega
            rw [← HV.out]; exact h2, fun h => HSZ.out.2 ⟨hiff.out.2 ⟨h.1, fun j hj => h.2 j (by omega)⟩, by rw [HV.out]; exact h.2 k (by omega)⟩⟩, (by first | exact Lib.hid rfl | exact Lib.hid trivial)⟩
      case measure => simp [intOf]; omega
    · obtain rfl : k = 31 := by omega
      have hfin : (r = 0) ↔ x < 1073741824 := hiff.out.trans (Pq.little_of HX.out)
      have hrr : ((r : Int) == 0) = res := by
        rw [HRES.out]
        by_cases h : r = 0
        · rw [decide_eq_true (hfin.1 h), h]; rfl
        · have h4 : ¬ (r : Int) = 0 := by omega
          rw [decide_eq_false (fun h2 => h (hfin.2 h2))]; simpa using h4
      have wq : IntKind.i64.wrap (q : Int) = (q : Int) := IntWalk.i64_in _ (by omega)
      have wn : IntKind.i64.wrap (-(q : Int)) = -(q : Int) := IntWalk.i64_in _ (by omega)
      clear hiff hfin hlt
      go_upto_region 7 with fail
      go_upto_region 7 with fail
      apply wp_region_lit
      iterate 4
        refine Pq.wpL_step (by rfl) ?_
        apply Exists.intro
        apply Exists.intro
        refine ⟨?_, ?_⟩
        · go_simp; first | done | with_reducible rfl | exact ⟨rfl, rfl⟩
        simp only [Act.put, List.setIfInBounds_toArray, List.set_cons_zero, List.set_cons_succ]
      refine Pq.wpL_cell ⟨b, o + 1, none⟩ _ C1.out (by rfl) _ _ rfl rfl _ u_u32 rfl ?_
      simp only [Act.put, List.setIfInBounds_toArray, List.set_cons_zero, List.set_cons_succ]
      iterate 2
        refine Pq.wpL_step (by rfl) ?_
        apply Exists.intro
        apply Exists.intro
        refine ⟨?_, ?_⟩
        · go_simp; first | done | with_reducible rfl | exact ⟨rfl, rfl⟩
        simp only [Act.put, List.setIfInBounds_toArray, List.set_cons_zero, List.set_cons_succ]
      refine Pq.wpL_nil ?_
      go_upto_region 8 with fail
      go_upto_region 8 with fail
      apply wp_region_lit
      iterate 3
        refine Pq.wpL_step (by rfl) ?_
        apply Exists.intro
        apply Exists.intro
        refine ⟨?_, ?_⟩
        · go_simp; first | done | with_reducible rfl | exact ⟨rfl, rfl⟩
        simp only [Act.put, List.setIfInBounds_toArray, List.set_cons_zero, List.set_cons_succ]
      refine Pq.wpL_cell ⟨b, o, none⟩ _ C0.out (by rfl) _ _ rfl rfl _ u_bool rfl ?_
      simp only [Act.put, List.setIfInBounds_toArray, List.set_cons_zero, List.set_cons_succ]
      refine Pq.wpL_nil ?_
      cases n
      · go_wp2
        go_ret2
        exact ⟨rfl, Below.refl _ _⟩
      · go_wp2
        go_ret2
        exact ⟨rfl, Below.refl _ _⟩
end Go.Proofs.YtokgbcachcmeaaaGreatDoor
set_option linter.unusedSimpArgs false
set_option linter.unusedVariables false
namespace Go.Proofs.YtokgbcachcmeaaaGreatDoor
open Go.RowKit
theorem cf_common (xs : Array Value) (w : World) : (callFunc 64 xs).run Tryz.prog w = .ok (.enter 64 xs) w := by kernel_rfl

set_option maxRecDepth 100000 in
set_option maxHeartbeats 1000000 in
theorem common_any (a b : Int) (w : World) (h1 : -9223372036854775807 ≤ a) (h2 : a ≤ 9223372036854775807) (h3 : -9223372036854775807 ≤ b) (h4 : b ≤ 9223372036854775807) :
    Calls Tryz.prog 64 #[.int .i64 a, .int .i64 b] w (Pq.Ret w (.int .i64 ((Nat.gcd a.natAbs b.natAbs : Nat) : Int))) := by
  obtain ⟨G, hG⟩ : ∃ G, G = Nat.gcd a.natAbs b.natAbs := ⟨_, rfl⟩
  rw [← hG]
  have HG := Lib.hid hG; clear hG
  have wa : IntKind.i64.wrap (-a) = -a := IntWalk.i64_in _ (by omega)
  have wb : IntKind.i64.wrap (-b) = -b := IntWalk.i64_in _ (by omega)
  have ma : max a (-a) = (a.natAbs : Int) := by omega
  have mb : max b (-b) = (b.natAbs : Int) := by omega
  obtain ⟨A, hA⟩ : ∃ A, A = a.natAbs := ⟨_, rfl⟩
  obtain ⟨B, hB⟩ : ∃ B, B = b.natAbs := ⟨_, rfl⟩
  rw [← hA] at ma
  rw [← hB] at mb
  have hAl : A ≤ 9223372036854775807 := by omega
  have hBl : B ≤ 9223372036854775807 := by omega
  have HA := Lib.hid hA; have HB := Lib.hid hB
  clear hA hB h1 h2 h3 h4
  go_enter Tryz.func64, Tryz.ntmps64
  go_upto_region 1 with fail
  go_upto_region 1 with fail
  apply wp_region_lit
  iterate 10
    refine Pq.wpL_step (by rfl) ?_
    apply Exists.intro
    apply Exists.intro
    refine ⟨?_, ?_⟩
    · go_simp; first | done | with_reducible rfl | exact ⟨rfl, rfl⟩
    simp only [Act.put, List.setIfInBounds_toArray, List.set_cons_zero, List.set_cons_succ]
  refine Pq.wpL_nil ?_
  clear wa wb ma mb
  go_wp2
  go_loopw [0, 1] (fun aa bb wr => ∃ p q : Nat, aa = .int .i64 (p : Int) ∧ bb = .int .i64 (q : Int) ∧ Hid (p ≤ 9223372036854775807) ∧ Hid (q ≤ 9223372036854775807) ∧ Hid (Nat.gcd p q = G) ∧ Hid (Below w.heap.size w wr)) (fun _ bb _ => (intOf bb).toNat)
  case atStart => exact ⟨A, B, rfl, rfl, Lib.hid hAl, Lib.hid hBl, Lib.hid (by rw [HG.out, HA.out, HB.out]), Lib.hid (Below.refl _ _)⟩
  case round =>
    obtain ⟨p, q, rfl, rfl, hp, hq, hgc, hb6⟩ := hrel
    by_cases hq0 : q = 0
    · have hgp : p = G := by have := hgc.out; rw [hq0, Nat.gcd_zero_right] at this; exact this
      subst hq0
      subst hgp
      go_wp2
      go_ret
      exact ⟨rfl, hb6.out⟩
    · have hqb : ((q : Int) == 0) = false := (by have h4 : ¬ (q : Int) = 0 := (by omega); simpa using h4)
      have e2 : (p : Int) % (q : Int) = ((p % q : Nat) : Int) := by simp
      obtain ⟨r, hr⟩ : ∃ r, r = p % q := ⟨_, rfl⟩
      rw [← hr] at e2
      have w7 : (p : Int).tmod (q : Int) = (p : Int) % (q : Int) := Int.tmod_eq_emod_of_nonneg (by omega)
      have hrl : r < q := by rw [hr]; exact Nat.mod_lt _ (Nat.pos_of_ne_zero hq0)
      have hql := hq.out
      have w3 : IntKind.i64.wrap (r : Int) = (r : Int) := IntWalk.i64_in _ (by omega)
      have HRE := Lib.hid hr
      clear hr hql
      go_upto_region 3 with fail
      refine Pq.wp_region_grown none [(0, true), (1, true), (2, true), (3, true), (4, true), (5, true)] (by kernel_rfl) (by kernel_rfl) (fun _ _ d _ _ h => by cases d <;> exact h) (fun hS => ?_)
      simp only [Pq.pick, List.filterMap_cons, List.filterMap_nil, List.getElem?_cons_zero, List.getElem?_cons_succ, Option.map_some]
      iterate 6
        refine Pq.wpO_step (by rfl) ?_
        apply Exists.intro
        refine ⟨fun w' hw' => ?_, ?_⟩
        · go_simp; first | done | with_reducible rfl | exact ⟨rfl, rfl⟩
        simp only [Act.put, List.setIfInBounds_toArray, List.set_cons_zero, List.set_cons_succ]
      refine Pq.wpO_nil ?_
      clear e2 w7 w3 hqb
      go_wp2
      go_roundw
      case rel => exact ⟨q, r, rfl, rfl, hq, Lib.hid (Nat.le_trans (Nat.le_of_lt hrl) hq.out), Lib.hid (by rw [HRE.out]; exact (Pq.gcd_step p q).trans hgc.out), Lib.hid (Pq.below_drew hb6.out)⟩
      case measure => simp [intOf]; omega
end Go.Proofs.YtokgbcachcmeaaaGreatDoor
set_option linter.unusedSimpArgs false
set_option linter.unusedVariables false
namespace Pq
open Go Go.RowKit
theorem i64_and_nat (a b : Nat) (ha : a < 9223372036854775808) (hb : b < 18446744073709551616) : bits .and .i64 (a : Int) (b : Int) = ((a &&& b : Nat) : Int) := by
  have hx : a &&& b ≤ a := Nat.and_le_left
  show IntKind.i64.wrap ((BitVec.ofInt 64 (a : Int) &&& BitVec.ofInt 64 (b : Int)).toNat : Int) = _
  rw [BitVec.toNat_and, ofInt_u64 a (by omega), ofInt_u64 b hb]
  generalize a &&& b = c at *
  exact IntWalk.i64_in _ (by omega)
theorem and_lo_i {t : Nat} (ht : t < 9223372036854775808) : bits .and .i64 (t : Int) 4294967295 = ((t % 4294967296 : Nat) : Int) := by
  have e : (4294967295 : Int) = ((4294967295 : Nat) : Int) := rfl
  rw [e, i64_and_nat _ _ ht (by decide)]
  congr 1
  have := Nat.and_two_pow_sub_one_eq_mod t 32
  simpa using this
theorem wl_put2 (s : Bool) {a b : Nat} (ha : a < 4294967296) (hb : b < 4294967296) : (((wl s 0).set 1 (.int .u32 (a : Int))).set 2 (.int .u32 (b : Int))).toArray = wc s (a + bp 1 * b) := by
  show (Value.bool s :: (((am 32 0).set 0 (.int .u32 (a : Int))).set 1 (.int .u32 (b : Int)))).toArray = (Value.bool s :: am 32 (a + bp 1 * b)).toArray
  rw [am_set ha (by decide), am_set hb (by decide), st_zero (show 0 < bp 0 from bp_pos 0), bp_zero, Nat.one_mul, Nat.zero_add, st_zero (by rw [bp_one]; exact ha)]
theorem wl_neg : ((wl false 0).set 0 (.bool true)).toArray = wc true 0 := rfl
end Pq
namespace Go.Proofs.YtokgbcachcmeaaaGreatDoor
open Go.RowKit
theorem cf_wideof (xs : Array Value) (w : World) : (callFunc 65 xs).run Tryz.prog w = .ok (.enter 65 xs) w := by kernel_rfl

set_option maxRecDepth 100000 in
set_option maxHeartbeats 1000000 in
theorem wideof_any (z : Int) (w : World) (h1 : -9223372036854775807 ≤ z) (h2 : z ≤ 9223372036854775807) :
    Calls Tryz.prog 65 #[.int .i64 z] w (Pq.Ret w (.agg (Pq.wz z))) := by
  obtain ⟨g, hg⟩ : ∃ g, g = w.heap.size := ⟨_, rfl⟩
  have HG := Lib.hid hg; clear hg
  obtain ⟨res, hr⟩ : ∃ res, res = Pq.wz z := ⟨_, rfl⟩
  rw [← hr]
  rcases Int.lt_or_le z 0 with hz | hz
  · obtain ⟨p, hp⟩ : ∃ p : Nat, (p : Int) = -z := ⟨(-z).toNat, by omega⟩
    have wz2 : IntKind.i64.wrap (-z) = (p : Int) := by rw [← hp]; exact IntWalk.i64_in _ (by omega)
    have hpl : p < 9223372036854775808 := by omega
    have hd : decide (z < 0) = true := by simpa using hz
    have hres : res = Pq.wc true p := by rw [hr]; unfold Pq.wz; rw [hd, show z.natAbs = p from by omega]
    have HRES := Lib.hid hres
    clear hp hres hr h1 h2
    go_enter Tryz.func65, Tryz.ntmps65
    go_upto_region 0 with fail
    go_upto_region 0 with fail
    apply wp_region_lit
    refine Pq.wpL_alloc g HG.out.symm (by rfl) _ rfl (Pq.wc false 0) al_wide ?_
    simp only [Act.put, List.setIfInBounds_toArray, List.set_cons_zero, List.set_cons_succ]
    refine Pq.wpL_nil ?_
    go_upto_region 1 with fail
    go_upto_region 1 with fail
    apply wp_region_lit
    refine Pq.wpL_alloc (g + 1) (by simp [HG.out]) (by rfl) _ rfl (Pq.wc false 0) al_wide ?_
    simp only [Act.put, List.setIfInBounds_toArray, List.set_cons_zero, List.set_cons_succ]
    refine Pq.wpL_nil ?_
    have hv0 := Pq.al_block (w.alloc (.cells (Pq.wc false 0) 26)) (.cells (Pq.wc false 0) 26) (g + 1) (by simp [HG.out])
    go_upto_region 3 with fail
    go_upto_region 3 with fail
    apply wp_region_lit
    refine Pq.wpL_step (by rfl) ?_
    apply Exists.intro
    apply Exists.intro
    refine ⟨?_, ?_⟩
    · go_simp; first | done | with_reducible rfl | exact ⟨rfl, rfl⟩
    simp only [Act.put, List.setIfInBounds_toArray, List.set_cons_zero, List.set_cons_succ]
    refine Pq.wpL_put (l := Pq.wl false 0) (k := 0) (.bool true) hv0 (by rw [Pq.wl_length]; decide) (by rfl) 4 _ _ rfl rfl rfl rfl rfl (by kernel_rfl) ?_
    try simp only [Act.put, List.setIfInBounds_toArray, List.set_cons_zero, List.set_cons_succ]
    refine Pq.wpL_nil ?_
    rw [Pq.wl_neg]
    have HV := Lib.hid (Pq.setRow_at (cs := Pq.wc true 0) hv0)
    have HG0 := Lib.hid (Pq.keep_row (cs := Pq.wc true 0) (g2 := g + 1) (Pq.al_keep (Pq.al_block w (.cells (Pq.wc false 0) 26) g HG.out) (.cells (Pq.wc false 0) 26)) (by omega))
    have HB := Lib.hid (Pq.below_setRow (cs := Pq.wc true 0) (g := g + 1) (Pq.below_alloc (Pq.below_alloc (Below.refl _ w) (Nat.le_refl _) (.cells (Pq.wc false 0) 26)) (Nat.le_refl _) (.cells (Pq.wc false 0) 26)) (by rw [← HG.out]; omega))
    clear hv0
    generalize ((w.alloc (.cells (Pq.wc false 0) 26)).alloc (.cells (Pq.wc false 0) 26)).setRow (g + 1) (Pq.wc true 0) = w0 at *
    go_upto_region 4 with fail
    go_upto_region 4 with fail
    apply wp_region_lit
    iterate 3
      refine Pq.wpL_step (by rfl) ?_
      apply Exists.intro
      apply Exists.intro
      refine ⟨?_, ?_⟩
      · go_simp; first | done | with_reducible rfl | exact ⟨rfl, rfl⟩
      simp only [Act.put, List.setIfInBounds_toArray, List.set_cons_zero, List.set_cons_succ]
    refine Pq.wpL_nil ?_
    obtain ⟨lo, hlo⟩ : ∃ lo, lo = p % 4294967296 := ⟨_, rfl⟩
    obtain ⟨hi, hhi⟩ : ∃ hi, hi = p / 4294967296 := ⟨_, rfl⟩
    have hand : bits .and .i64 (p : Int) 4294967295 = (lo : Int) := by rw [Pq.and_lo_i (by omega), hlo]
    have hsh : (p : Int) / 4294967296 = (hi : Int) := by rw [hhi]; simp
    have hll : lo < 4294967296 := by omega
    have hhl : hi < 4294967296 := by omega
    have hsum : lo + Pq.bp 1 * hi = p := by rw [Pq.bp_one]; omega
    have wl1 : IntKind.u32.wrap (lo : Int) = (lo : Int) := IntWalk.u32_in _ (by omega)
    have wh1 : IntKind.u32.wrap (hi : Int) = (hi : Int) := IntWalk.u32_in _ (by omega)
    have HSUM := Lib.hid hsum
    clear hsum hlo hhi
    go_upto_region 5 with fail
    go_upto_region 5 with fail
    apply wp_region_lit
    iterate 8
      refine Pq.wpL_step (by rfl) ?_
      apply Exists.intro
      apply Exists.intro
      refine ⟨?_, ?_⟩
      · go_simp; first | done | with_reducible rfl | exact ⟨rfl, rfl⟩
      simp only [Act.put, List.setIfInBounds_toArray, List.set_cons_zero, List.set_cons_succ]
    refine Pq.wpL_put (l := Pq.wl true 0) (k := 1) (.int .u32 (lo : Int)) HV.out (by rw [Pq.wl_length]; decide) (by rfl) 23 _ _ rfl rfl rfl rfl rfl (by kernel_rfl) ?_
    try simp only [Act.put, List.setIfInBounds_toArray, List.set_cons_zero, List.set_cons_succ]
    iterate 2
      refine Pq.wpL_step (by rfl) ?_
      apply Exists.intro
      apply Exists.intro
      refine ⟨?_, ?_⟩
      · go_simp; first | done | with_reducible rfl | exact ⟨rfl, rfl⟩
      simp only [Act.put, List.setIfInBounds_toArray, List.set_cons_zero, List.set_cons_succ]
    refine Pq.wpL_put (l := (Pq.wl true 0).set 1 (.int .u32 (lo : Int))) (k := 2) (.int .u32 (hi : Int)) (Pq.setRow_at HV.out) (by rw [List.length_set, Pq.wl_length]; decide) (by rfl) 23 _ _ rfl rfl rfl rfl rfl (by kernel_rfl) ?_
    try simp only [Act.put, List.setIfInBounds_toArray, List.set_cons_zero, List.set_cons_succ]
    refine Pq.wpL_nil ?_
    rw [Pq.wl_put2 true hll hhl, HSUM.out]
    have hv9 := Pq.setRow_at (cs := Pq.wc true p) (Pq.setRow_at (cs := ((Pq.wl true 0).set 1 (.int .u32 (lo : Int))).toArray) HV.out)
    have hg9 := Pq.keep_row (cs := Pq.wc true p) (g2 := g + 1) (Pq.keep_row (cs := ((Pq.wl true 0).set 1 (.int .u32 (lo : Int))).toArray) (g2 := g + 1) HG0.out (by omega)) (by omega)
    have hb9 := Pq.below_setRow (cs := Pq.wc true p) (g := g + 1) (Pq.below_setRow (cs := ((Pq.wl true 0).set 1 (.int .u32 (lo : Int))).toArray) (g := g + 1) HB.out (by rw [← HG.out]; omega)) (by rw [← HG.out]; omega)
    have HV9 := Lib.hid hv9; have HG9 := Lib.hid hg9; have HB9 := Lib.hid hb9
    clear hv9 hg9 hb9 HV HG0 HB
    go_upto_region 6 with fail
    go_upto_region 6 with fail
    apply wp_region_lit
    refine Pq.wpL_load (g + 1) 0 (Pq.wl true p) (Pq.range_wide HV9.out) (by rfl) _ _ rfl rfl _ u_wide rfl (s_wide _ _) ?_
    simp only [Act.put, List.setIfInBounds_toArray, List.set_cons_zero, List.set_cons_succ]
    refine Pq.wpL_store (by rfl) 26 _ _ rfl g (Pq.wc _ _) rfl rfl 26 (Pq.wc _ _) HG9.out (s_widea _ _) (by simp only [Pq.wc_size]) (Pq.wc_one _ _) ?_
    try simp only [Act.put, List.setIfInBounds_toArray, List.set_cons_zero, List.set_cons_succ]
    refine Pq.wpL_nil ?_
    go_wp2
    refine Pq.ret_cell rfl g _ _ _ _ rfl (Pq.setRow_at HG9.out) u_wide rfl (s_widea _ _) rfl ⟨by rw [HRES.out], Pq.below_setRow HB9.out (by rw [HG.out]; exact Nat.le_refl _)⟩
  · obtain ⟨p, hp⟩ : ∃ p : Nat, z = (p : Int) := ⟨z.toNat, by omega⟩
    subst hp
    have hpl : p < 9223372036854775808 := by omega
    have hd : decide ((p : Int) < 0) = false := by simp
    have hres : res = Pq.wc false p := by rw [hr]; rfl
    have HRES := Lib.hid hres
    clear hres hr h1 h2
    go_enter Tryz.func65, Tryz.ntmps65
    go_upto_region 0 with fail
    go_upto_region 0 with fail
    apply wp_region_lit
    refine Pq.wpL_alloc g HG.out.symm (by rfl) _ rfl (Pq.wc false 0) al_wide ?_
    simp only [Act.put, List.setIfInBounds_toArray, List.set_cons_zero, List.set_cons_succ]
    refine Pq.wpL_nil ?_
    go_upto_region 1 with fail
    go_upto_region 1 with fail
    apply wp_region_lit
    refine Pq.wpL_alloc (g + 1) (by simp [HG.out]) (by rfl) _ rfl (Pq.wc false 0) al_wide ?_
    simp only [Act.put, List.setIfInBounds_toArray, List.set_cons_zero, List.set_cons_succ]
    refine Pq.wpL_nil ?_
    have HV := Lib.hid (Pq.al_block (w.alloc (.cells (Pq.wc false 0) 26)) (.cells (Pq.wc false 0) 26) (g + 1) (by simp [HG.out]))
    have HG0 := Lib.hid (Pq.al_keep (Pq.al_block w (.cells (Pq.wc false 0) 26) g HG.out) (.cells (Pq.wc false 0) 26))
    have HB := Lib.hid (Pq.below_alloc (Pq.below_alloc (Below.refl _ w) (Nat.le_refl _) (.cells (Pq.wc false 0) 26)) (Nat.le_refl _) (.cells (Pq.wc false 0) 26))
    generalize (w.alloc (.cells (Pq.wc false 0) 26)).alloc (.cells (Pq.wc false 0) 26) = w0 at *
    obtain ⟨lo, hlo⟩ : ∃ lo, lo = p % 4294967296 := ⟨_, rfl⟩
    obtain ⟨hi, hhi⟩ : ∃ hi, hi = p / 4294967296 := ⟨_, rfl⟩
    have hand : bits .and .i64 (p : Int) 4294967295 = (lo : Int) := by rw [Pq.and_lo_i (by omega), hlo]
    have hsh : (p : Int) / 4294967296 = (hi : Int) := by rw [hhi]; simp
    have hll : lo < 4294967296 := by omega
    have hhl : hi < 4294967296 := by omega
    have hsum : lo + Pq.bp 1 * hi = p := by rw [Pq.bp_one]; omega
    have wl1 : IntKind.u32.wrap (lo : Int) = (lo : Int) := IntWalk.u32_in _ (by omega)
    have wh1 : IntKind.u32.wrap (hi : Int) = (hi : Int) := IntWalk.u32_in _ (by omega)
    have HSUM := Lib.hid hsum
    clear hsum hlo hhi
    go_upto_region 5 with fail
    go_upto_region 5 with fail
    apply wp_region_lit
    iterate 8
      refine Pq.wpL_step (by rfl) ?_
      apply Exists.intro
      apply Exists.intro
      refine ⟨?_, ?_⟩
      · go_simp; first | done | with_reducible rfl | exact ⟨rfl, rfl⟩
      simp only [Act.put, List.setIfInBounds_toArray, List.set_cons_zero, List.set_cons_succ]
    refine Pq.wpL_put (l := Pq.wl false 0) (k := 1) (.int .u32 (lo : Int)) HV.out (by rw [Pq.wl_length]; decide) (by rfl) 23 _ _ rfl rfl rfl rfl rfl (by kernel_rfl) ?_
    try simp only [Act.put, List.setIfInBounds_toArray, List.set_cons_zero, List.set_cons_succ]
    iterate 2
      refine Pq.wpL_step (by rfl) ?_
      apply Exists.intro
      apply Exists.intro
      refine ⟨?_, ?_⟩
      · go_simp; first | done | with_reducible rfl | exact ⟨rfl, rfl⟩
      simp only [Act.put, List.setIfInBounds_toArray, List.set_cons_zero, List.set_cons_succ]
    refine Pq.wpL_put (l := (Pq.wl false 0).set 1 (.int .u32 (lo : Int))) (k := 2) (.int .u32 (hi : Int)) (Pq.setRow_at HV.out) (by rw [List.length_set, Pq.wl_length]; decide) (by rfl) 23 _ _ rfl rfl rfl rfl rfl (by kernel_rfl) ?_
    try simp only [Act.put, List.setIfInBounds_toArray, List.set_cons_zero, List.set_cons_succ]
    refine Pq.wpL_nil ?_
    rw [Pq.wl_put2 false hll hhl, HSUM.out]
    have hv9 := Pq.setRow_at (cs := Pq.wc false p) (Pq.setRow_at (cs := ((Pq.wl false 0).set 1 (.int .u32 (lo : Int))).toArray) HV.out)
    have hg9 := Pq.keep_row (cs := Pq.wc false p) (g2 := g + 1) (Pq.keep_row (cs := ((Pq.wl false 0).set 1 (.int .u32 (lo : Int))).toArray) (g2 := g + 1) HG0.out (by omega)) (by omega)
    have hb9 := Pq.below_setRow (cs := Pq.wc false p) (g := g + 1) (Pq.below_setRow (cs := ((Pq.wl false 0).set 1 (.int .u32 (lo : Int))).toArray) (g := g + 1) HB.out (by rw [← HG.out]; omega)) (by rw [← HG.out]; omega)
    have HV9 := Lib.hid hv9; have HG9 := Lib.hid hg9; have HB9 := Lib.hid hb9
    clear hv9 hg9 hb9 HV HG0 HB
    go_upto_region 6 with fail
    go_upto_region 6 with fail
    apply wp_region_lit
    refine Pq.wpL_load (g + 1) 0 (Pq.wl false p) (Pq.range_wide HV9.out) (by rfl) _ _ rfl rfl _ u_wide rfl (s_wide _ _) ?_
    simp only [Act.put, List.setIfInBounds_toArray, List.set_cons_zero, List.set_cons_succ]
    refine Pq.wpL_store (by rfl) 26 _ _ rfl g (Pq.wc _ _) rfl rfl 26 (Pq.wc _ _) HG9.out (s_widea _ _) (by simp only [Pq.wc_size]) (Pq.wc_one _ _) ?_
    try simp only [Act.put, List.setIfInBounds_toArray, List.set_cons_zero, List.set_cons_succ]
    refine Pq.wpL_nil ?_
    go_wp2
    refine Pq.ret_cell rfl g _ _ _ _ rfl (Pq.setRow_at HG9.out) u_wide rfl (s_widea _ _) rfl ⟨by rw [HRES.out], Pq.below_setRow HB9.out (by rw [HG.out]; exact Nat.le_refl _)⟩
end Go.Proofs.YtokgbcachcmeaaaGreatDoor
set_option linter.unusedSimpArgs false
set_option linter.unusedVariables false
namespace Pq
open Go Go.RowKit
def fl (n : Bool) (x : Nat) (m : Bool) (y : Nat) : List Value := wl n x ++ wl m y
def fc (n : Bool) (x : Nat) (m : Bool) (y : Nat) : Array Value := (fl n x m y).toArray
theorem fl_length (n : Bool) (x : Nat) (m : Bool) (y : Nat) : (fl n x m y).length = 66 := by simp [fl, wl_length]
theorem fc_size (n : Bool) (x : Nat) (m : Bool) (y : Nat) : (fc n x m y).size = 66 := by simp [fc, fl_length]
theorem fc_one (n : Bool) (x : Nat) (m : Bool) (y : Nat) : (fc n x m y).all (·.oneCell') = true := by
  have h1 := wc_one n x
  have h2 := wc_one m y
  simp only [wc, List.all_toArray] at h1 h2
  simp only [fc, fl, List.all_toArray, List.all_append, h1, h2, Bool.and_self]
def rc (r : Rat) : Array Value := fc (decide (r.num < 0)) r.num.natAbs false r.den
theorem range_frac {w : World} {b o : Nat} {n : Bool} {x : Nat} {m : Bool} {y : Nat} (h : w.rangeAt b o (fl n x m y)) : w.rangeAt b o (wl n x) ∧ w.rangeAt b (o + 33) (wl m y) := by
  have := range_app h
  rw [wl_length] at this
  exact this
end Pq
namespace Go.Proofs.YtokgbcachcmeaaaGreatDoor
open Go.RowKit
theorem u_rat : Tryz.prog.underlying 28 = some (.struct ((match Tryz.prog.underlying 28 with | some (.struct fs) => fs | _ => #[]))) := by kernel_rfl
theorem s_rata (n : Bool) (x : Nat) (m : Bool) (y : Nat) : (Tryz.prog.info? 28).map (·.size) = some (Pq.fc n x m y).size := by rw [Pq.fc_size]; kernel_rfl
theorem built_rat (n : Bool) (x : Nat) (m : Bool) (y : Nat) : Tryz.prog.built 28 [(0, .agg (Pq.wc n x)), (1, .agg (Pq.wc m y))] = some (Pq.fc n x m y) := by kernel_rfl
theorem al_rat (w : World) : (Instr.alloc 28 true (.tuple #[])).run Tryz.prog w = .ok (.pointer (some ⟨w.heap.size, 0, none⟩)) (w.alloc (.cells (Pq.fc false 0 false 0) 28)) := by kernel_rfl
end Go.Proofs.YtokgbcachcmeaaaGreatDoor
set_option linter.unusedSimpArgs false
set_option linter.unusedVariables false
namespace Pq
open Go Go.RowKit
theorem rc_mk {p : Int} {q : Nat} (hq : q ≠ 0) : rc (mkRat p q) = fc (decide (p / (Nat.gcd p.natAbs q : Int) < 0)) (p / (Nat.gcd p.natAbs q : Int)).natAbs false (q / Nat.gcd p.natAbs q) := by
  unfold rc
  rw [← Rat.normalize_eq_mkRat hq, Rat.normalize_eq]
theorem wz_nat (d : Nat) : wz (d : Int) = wc false d := by
  unfold wz
  rw [show decide ((d : Int) < 0) = false from by simp, Int.natAbs_natCast]
end Pq
namespace Go.Proofs.YtokgbcachcmeaaaGreatDoor
open Go.RowKit
theorem cf_made (xs : Array Value) (w : World) : (callFunc 33 xs).run Tryz.prog w = .ok (.enter 33 xs) w := by kernel_rfl

set_option maxRecDepth 100000 in
set_option maxHeartbeats 1000000 in
theorem made_any (a b : Int) (w : World) (h1 : -9223372036854775807 ≤ a) (h2 : a ≤ 9223372036854775807) (h3 : -9223372036854775807 ≤ b) (h4 : b ≤ 9223372036854775807) (hb : b ≠ 0) :
    Calls Tryz.prog 33 #[.int .i64 a, .int .i64 b] w (Pq.Ret w (.agg (Pq.rc (Rat.divInt a b)))) := by
  obtain ⟨g, hg⟩ : ∃ g, g = w.heap.size := ⟨_, rfl⟩
  have HG := Lib.hid hg; clear hg
  obtain ⟨res, hr⟩ : ∃ res, res = Pq.rc (Rat.divInt a b) := ⟨_, rfl⟩
  rw [← hr]
  rcases Int.lt_or_le b 0 with hz | hz
  · obtain ⟨q, hqq⟩ : ∃ q : Nat, (q : Int) = -b := ⟨(-b).toNat, by omega⟩
    obtain ⟨p, hp⟩ : ∃ p : Int, p = -a := ⟨_, rfl⟩
    have hq : 0 < q := by omega
    have HRAT : Rat.divInt a b = mkRat p q := by
      have : b = -(q : Int) := by omega
      rw [this, hp, Rat.divInt_neg', Rat.divInt_ofNat]
    have wa : IntKind.i64.wrap (-a) = p := by rw [hp]; exact IntWalk.i64_in _ (by omega)
    have wb : IntKind.i64.wrap (-b) = (q : Int) := by rw [← hqq]; exact IntWalk.i64_in _ (by omega)
    have hd : decide (b < 0) = true := by simpa using hz
    have hpl : p.natAbs ≤ 9223372036854775807 := by omega
    have hql : q ≤ 9223372036854775807 := by omega
    obtain ⟨G, hG⟩ : ∃ G, G = Nat.gcd p.natAbs q := ⟨_, rfl⟩
    clear hp hqq h1 h2 h3 h4
    go_enter Tryz.func33, Tryz.ntmps33
    go_upto_region 0 with fail
    go_upto_region 0 with fail
    apply wp_region_lit
    refine Pq.wpL_alloc g HG.out.symm (by rfl) _ rfl (Pq.fc false 0 false 0) al_rat ?_
    simp only [Act.put, List.setIfInBounds_toArray, List.set_cons_zero, List.set_cons_succ]
    refine Pq.wpL_nil ?_
    go_upto_region 2 with fail
    go_upto_region 2 with fail
    apply wp_region_lit
    iterate 6
      refine Pq.wpL_step (by rfl) ?_
      apply Exists.intro
      apply Exists.intro
      refine ⟨?_, ?_⟩
      · go_simp; first | done | with_reducible rfl | exact ⟨rfl, rfl⟩
      simp only [Act.put, List.setIfInBounds_toArray, List.set_cons_zero, List.set_cons_succ]
    refine Pq.wpL_nil ?_
    have HGE := Lib.hid hG
    have hGp : 0 < G := by rw [hG]; exact Nat.gcd_pos_of_pos_right _ hq
    have hGn : ¬ (G = 0) := by omega
    obtain ⟨N, hN⟩ : ∃ N, N = p / (G : Int) := ⟨_, rfl⟩
    obtain ⟨D, hD⟩ : ∃ D, D = q / G := ⟨_, rfl⟩
    have hdp : (G : Int) ∣ p := by rw [hG]; exact Int.ofNat_dvd_left.2 (Nat.gcd_dvd_left _ _)
    have t1 : p.tdiv (G : Int) = N := by rw [hN]; exact Int.tdiv_eq_ediv_of_dvd hdp
    have t2 : (q : Int).tdiv (G : Int) = (D : Int) := by rw [hD, ← Int.ofNat_tdiv]
    have hNl : N.natAbs ≤ p.natAbs := by rw [hN]; exact Int.natAbs_ediv_le_natAbs _ _
    have hDl : D ≤ q := by rw [hD]; exact Nat.div_le_self _ _
    have n1 : IntKind.i64.wrap N = N := IntWalk.i64_in _ (by omega)
    have n2 : IntKind.i64.wrap (D : Int) = (D : Int) := IntWalk.i64_in _ (by omega)
    have hres : res = Pq.fc (decide (N < 0)) N.natAbs false D := by rw [hr, HRAT, Pq.rc_mk (by omega), ← hG, ← hN, ← hD]
    have HRES := Lib.hid hres
    have m1 : -9223372036854775807 ≤ N := by omega
    have m2 : N ≤ 9223372036854775807 := by omega
    have m3 : (D : Int) ≤ 9223372036854775807 := by omega
    have m4 : -9223372036854775807 ≤ (D : Int) := by omega
    clear hG hN hD hdp hNl hDl hres hr HRAT hGp
    go_upto_region 3 with fail
    go_upto_region 3 with fail
    apply wp_region_lit
    iterate 2
      refine Pq.wpL_step (by rfl) ?_
      apply Exists.intro
      apply Exists.intro
      refine ⟨?_, ?_⟩
      · go_simp; first | done | with_reducible rfl | exact ⟨rfl, rfl⟩
      simp only [Act.put, List.setIfInBounds_toArray, List.set_cons_zero, List.set_cons_succ]
    refine Pq.wpL_ret (by rfl) cf_common (common_any p (q : Int) _ (by omega) (by omega) (by omega) (by omega)) rfl rfl ?_; intro w1 hb1; rw [Int.natAbs_natCast, ← HGE.out]
    simp only [Act.put, List.setIfInBounds_toArray, List.set_cons_zero, List.set_cons_succ]
    refine Pq.wpL_step (by rfl) ?_
    apply Exists.intro
    apply Exists.intro
    refine ⟨?_, ?_⟩
    · go_simp; first | done | with_reducible rfl | exact ⟨rfl, rfl⟩
    simp only [Act.put, List.setIfInBounds_toArray, List.set_cons_zero, List.set_cons_succ]
    refine Pq.wpL_nil ?_
    go_upto_region 4 with fail
    refine Pq.wp_region_grown (some g) [(0, true), (1, true), (2, true), (4, true), (5, true), (6, true), (3, false), (7, false), (8, true), (9, false)] (by kernel_rfl) (by kernel_rfl) (fun _ _ d _ _ h => by cases d <;> exact h) (fun hS => ?_)
    simp only [Pq.pick, List.filterMap_cons, List.filterMap_nil, List.getElem?_cons_zero, List.getElem?_cons_succ, Option.map_some]
    iterate 6
      refine Pq.wpO_step (by rfl) ?_
      apply Exists.intro
      refine ⟨fun w' hw' => ?_, ?_⟩
      · go_simp; first | done | with_reducible rfl | exact ⟨rfl, rfl⟩
      simp only [Act.put, List.setIfInBounds_toArray, List.set_cons_zero, List.set_cons_succ]
    refine Pq.wpO_ret (by rfl) cf_wideof (wideof_any N _ m1 m2) rfl rfl hS ?_; intro w2 hb2 hS2; rw [Pq.wz_eq]
    simp only [Act.put, List.setIfInBounds_toArray, List.set_cons_zero, List.set_cons_succ]
    refine Pq.wpO_ret (by rfl) cf_wideof (wideof_any (D : Int) _ m4 m3) rfl rfl hS2 ?_; intro w3 hb3 hS3; rw [Pq.wz_nat]
    simp only [Act.put, List.setIfInBounds_toArray, List.set_cons_zero, List.set_cons_succ]
    refine Pq.wpO_build (by rfl) _ [(0, .tmp 18), (1, .tmp 22)] rfl _ rfl _ (built_rat _ _ _ _) ?_
    simp only [Act.put, List.setIfInBounds_toArray, List.set_cons_zero, List.set_cons_succ]
    refine Pq.wpO_store (by rfl) 28 _ _ rfl g (Pq.fc _ _ _ _) rfl rfl 28 (Pq.fc _ _ _ _) (Pq.keep_block (Pq.keep_block (Pq.dr_block (Pq.keep_block (Pq.al_block w (.cells (Pq.fc false 0 false 0) 28) g HG.out) hb1)) hb2) hb3) (s_rata _ _ _ _) (by simp only [Pq.fc_size]) (Pq.fc_one _ _ _ _) (Pq.grown_setRow hS3) ?_
    try simp only [Act.put, List.setIfInBounds_toArray, List.set_cons_zero, List.set_cons_succ]
    refine Pq.wpO_nil ?_
    go_wp2
    refine Pq.ret_cell rfl g _ _ _ _ rfl (Pq.setRow_at (Pq.keep_block (Pq.keep_block (Pq.dr_block (Pq.keep_block (Pq.al_block w (.cells (Pq.fc false 0 false 0) 28) g HG.out) hb1)) hb2) hb3)) u_rat rfl (s_rata _ _ _ _) rfl ⟨by rw [HRES.out], Pq.below_setRow (Pq.below_next (Pq.below_next (Pq.below_drew (Pq.below_next (Pq.below_alloc (Below.refl _ w) (Nat.le_refl _) _) (Nat.le_refl _) hb1)) (Nat.le_refl _) hb2) (Nat.le_refl _) hb3) (by rw [HG.out]; exact Nat.le_refl _)⟩
  · obtain ⟨q, hqq⟩ : ∃ q : Nat, b = (q : Int) := ⟨b.toNat, by omega⟩
    subst hqq
    obtain ⟨p, hp⟩ : ∃ p : Int, p = a := ⟨_, rfl⟩
    subst hp
    have hq : 0 < q := by omega
    have HRAT : Rat.divInt p (q : Int) = mkRat p q := Rat.divInt_ofNat p q
    have hd : decide ((q : Int) < 0) = false := by simp
    have hpl : p.natAbs ≤ 9223372036854775807 := by omega
    have hql : q ≤ 9223372036854775807 := by omega
    obtain ⟨G, hG⟩ : ∃ G, G = Nat.gcd p.natAbs q := ⟨_, rfl⟩
    clear h1 h2 h3 h4
    go_enter Tryz.func33, Tryz.ntmps33
    go_upto_region 0 with fail
    go_upto_region 0 with fail
    apply wp_region_lit
    refine Pq.wpL_alloc g HG.out.symm (by rfl) _ rfl (Pq.fc false 0 false 0) al_rat ?_
    simp only [Act.put, List.setIfInBounds_toArray, List.set_cons_zero, List.set_cons_succ]
    refine Pq.wpL_nil ?_
    have HGE := Lib.hid hG
    have hGp : 0 < G := by rw [hG]; exact Nat.gcd_pos_of_pos_right _ hq
    have hGn : ¬ (G = 0) := by omega
    obtain ⟨N, hN⟩ : ∃ N, N = p / (G : Int) := ⟨_, rfl⟩
    obtain ⟨D, hD⟩ : ∃ D, D = q / G := ⟨_, rfl⟩
    have hdp : (G : Int) ∣ p := by rw [hG]; exact Int.ofNat_dvd_left.2 (Nat.gcd_dvd_left _ _)
    have t1 : p.tdiv (G : Int) = N := by rw [hN]; exact Int.tdiv_eq_ediv_of_dvd hdp
    have t2 : (q : Int).tdiv (G : Int) = (D : Int) := by rw [hD, ← Int.ofNat_tdiv]
    have hNl : N.natAbs ≤ p.natAbs := by rw [hN]; exact Int.natAbs_ediv_le_natAbs _ _
    have hDl : D ≤ q := by rw [hD]; exact Nat.div_le_self _ _
    have n1 : IntKind.i64.wrap N = N := IntWalk.i64_in _ (by omega)
    have n2 : IntKind.i64.wrap (D : Int) = (D : Int) := IntWalk.i64_in _ (by omega)
    have hres : res = Pq.fc (decide (N < 0)) N.natAbs false D := by rw [hr, HRAT, Pq.rc_mk (by omega), ← hG, ← hN, ← hD]
    have HRES := Lib.hid hres
    have m1 : -9223372036854775807 ≤ N := by omega
    have m2 : N ≤ 9223372036854775807 := by omega
    have m3 : (D : Int) ≤ 9223372036854775807 := by omega
    have m4 : -9223372036854775807 ≤ (D : Int) := by omega
    clear hG hN hD hdp hNl hDl hres hr HRAT hGp
    go_upto_region 3 with fail
    go_upto_region 3 with fail
    apply wp_region_lit
    iterate 2
      refine Pq.wpL_step (by rfl) ?_
      apply Exists.intro
      apply Exists.intro
      refine ⟨?_, ?_⟩
      · go_simp; first | done | with_reducible rfl | exact ⟨rfl, rfl⟩
      simp only [Act.put, List.setIfInBounds_toArray, List.set_cons_zero, List.set_cons_succ]
    refine Pq.wpL_ret (by rfl) cf_common (common_any p (q : Int) _ (by omega) (by omega) (by omega) (by omega)) rfl rfl ?_; intro w1 hb1; rw [Int.natAbs_natCast, ← HGE.out]
    simp only [Act.put, List.setIfInBounds_toArray, List.set_cons_zero, List.set_cons_succ]
    refine Pq.wpL_step (by rfl) ?_
    apply Exists.intro
    apply Exists.intro
    refine ⟨?_, ?_⟩
    · go_simp; first | done | with_reducible rfl | exact ⟨rfl, rfl⟩
    simp only [Act.put, List.setIfInBounds_toArray, List.set_cons_zero, List.set_cons_succ]
    refine Pq.wpL_nil ?_
    go_upto_region 4 with fail
    refine Pq.wp_region_grown (some g) [(0, true), (1, true), (2, true), (4, true), (5, true), (6, true), (3, false), (7, false), (8, true), (9, false)] (by kernel_rfl) (by kernel_rfl) (fun _ _ d _ _ h => by cases d <;> exact h) (fun hS => ?_)
    simp only [Pq.pick, List.filterMap_cons, List.filterMap_nil, List.getElem?_cons_zero, List.getElem?_cons_succ, Option.map_some]
    iterate 6
      refine Pq.wpO_step (by rfl) ?_
      apply Exists.intro
      refine ⟨fun w' hw' => ?_, ?_⟩
      · go_simp; first | done | with_reducible rfl | exact ⟨rfl, rfl⟩
      simp only [Act.put, List.setIfInBounds_toArray, List.set_cons_zero, List.set_cons_succ]
    refine Pq.wpO_ret (by rfl) cf_wideof (wideof_any N _ m1 m2) rfl rfl hS ?_; intro w2 hb2 hS2; rw [Pq.wz_eq]
    simp only [Act.put, List.setIfInBounds_toArray, List.set_cons_zero, List.set_cons_succ]
    refine Pq.wpO_ret (by rfl) cf_wideof (wideof_any (D : Int) _ m4 m3) rfl rfl hS2 ?_; intro w3 hb3 hS3; rw [Pq.wz_nat]
    simp only [Act.put, List.setIfInBounds_toArray, List.set_cons_zero, List.set_cons_succ]
    refine Pq.wpO_build (by rfl) _ [(0, .tmp 18), (1, .tmp 22)] rfl _ rfl _ (built_rat _ _ _ _) ?_
    simp only [Act.put, List.setIfInBounds_toArray, List.set_cons_zero, List.set_cons_succ]
    refine Pq.wpO_store (by rfl) 28 _ _ rfl g (Pq.fc _ _ _ _) rfl rfl 28 (Pq.fc _ _ _ _) (Pq.keep_block (Pq.keep_block (Pq.dr_block (Pq.keep_block (Pq.al_block w (.cells (Pq.fc false 0 false 0) 28) g HG.out) hb1)) hb2) hb3) (s_rata _ _ _ _) (by simp only [Pq.fc_size]) (Pq.fc_one _ _ _ _) (Pq.grown_setRow hS3) ?_
    try simp only [Act.put, List.setIfInBounds_toArray, List.set_cons_zero, List.set_cons_succ]
    refine Pq.wpO_nil ?_
    go_wp2
    refine Pq.ret_cell rfl g _ _ _ _ rfl (Pq.setRow_at (Pq.keep_block (Pq.keep_block (Pq.dr_block (Pq.keep_block (Pq.al_block w (.cells (Pq.fc false 0 false 0) 28) g HG.out) hb1)) hb2) hb3)) u_rat rfl (s_rata _ _ _ _) rfl ⟨by rw [HRES.out], Pq.below_setRow (Pq.below_next (Pq.below_next (Pq.below_drew (Pq.below_next (Pq.below_alloc (Below.refl _ w) (Nat.le_refl _) _) (Nat.le_refl _) hb1)) (Nat.le_refl _) hb2) (Nat.le_refl _) hb3) (by rw [HG.out]; exact Nat.le_refl _)⟩
end Go.Proofs.YtokgbcachcmeaaaGreatDoor
