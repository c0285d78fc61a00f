import Derived.Test.YtjijakfcahhioaaK3
set_option linter.unusedSimpArgs false
set_option linter.unusedVariables false
namespace Pq
open Go Go.RowKit
theorem wpO_toPtr {P : Program} {ops : Array Oper} {Q : Exit → Act → World → Prop} {S : World → Prop} {o : Oper} {r : List (Oper × Bool)} {a : Act} {w : World} (v : Value) (hw : Region.wanted o (yielded ops a.tmps) = true) (ty : TypeId) (x : Operand) (ho : o.op = .sliceToArrayPointer ty x) (vx : Value) (hx : a.eval x = vx)
    (hs : ∀ w, (Instr.arrayAt ty vx).run P w = .ok v w) (k : wpO P ops S Q r (a.put o.dst v) w) : wpO P ops S Q ((o, true) :: r) a w :=
  wpO_take v hw (fun w' _ => by
    unfold execOp
    simp only [ho, hx, Sem.run_bind, hs, Result.andThen_ok, Sem.run_pure]) k
end Pq
namespace Go.Proofs.Ytjijakfcahhioaa
open Go.RowKit
theorem sl_ptr (d : Nat) (w : World) : (Instr.arrayAt 94 (.slice (some ⟨d, 0, none⟩) 32 64)).run Try.prog w = .ok (.pointer (some ⟨d, 0, none⟩)) w := by kernel_rfl
theorem cf_mul (xs : Array Value) (w : World) : (callFunc 68 xs).run Try.prog w = .ok (.enter 68 xs) w := by kernel_rfl
theorem al_a64 (w : World) : (Instr.alloc 120 true (.tuple #[])).run Try.prog w = .ok (.pointer (some ⟨w.heap.size, 0, none⟩)) (w.alloc (.cells (Pq.am 64 0).toArray 120)) := by kernel_rfl
theorem sl_hi (d : Nat) (w : World) : (Instr.sliceAt 120 (.pointer (some ⟨d, 0, none⟩)) (some (.int .i64 32)) none none).run Try.prog w = .ok (.slice (some ⟨d, 32, none⟩) 32 32) w := by kernel_rfl
theorem sl_lo (d : Nat) (w : World) : (Instr.sliceAt 120 (.pointer (some ⟨d, 0, none⟩)) none (some (.int .i64 32)) none).run Try.prog w = .ok (.slice (some ⟨d, 0, none⟩) 32 64) w := by kernel_rfl

set_option maxRecDepth 100000 in
set_option maxHeartbeats 1000000 in
theorem mul_any (n : Bool) (x : Nat) (m : Bool) (y : Nat) (w : World) (hx : x < Pq.bp 32) (hy : y < Pq.bp 32) :
    Calls Try.prog 68 #[.agg (Pq.wc n x), .agg (Pq.wc m y)] w (Pq.Ret w (Pq.rz (Pq.zv n x * Pq.zv m y))) := by
  obtain ⟨g, hg⟩ : ∃ g, g = w.heap.size := ⟨_, rfl⟩
  have HG := Lib.hid hg; clear hg
  obtain ⟨sx, hsx⟩ : ∃ sx, sx = Pq.szn 32 x := ⟨_, rfl⟩
  obtain ⟨sy, hsy⟩ : ∃ sy, sy = Pq.szn 32 y := ⟨_, rfl⟩
  have hxl : sx ≤ 32 := by rw [hsx]; exact Pq.szn_le 32 x
  have hyl : sy ≤ 32 := by rw [hsy]; exact Pq.szn_le 32 y
  have HXS := Lib.hid (show x < Pq.bp sx by rw [hsx]; exact Pq.szn_lt' hx)
  have HYS := Lib.hid (show y < Pq.bp sy by rw [hsy]; exact Pq.szn_lt' hy)
  have HSX := Lib.hid hsx; have HSY := Lib.hid hsy
  have HX := Lib.hid hx; have HY := Lib.hid hy
  clear hx hy hsx hsy
  obtain ⟨res, hr⟩ : ∃ res, res = Pq.rz (Pq.zv n x * Pq.zv m y) := ⟨_, rfl⟩
  rw [← hr]
  have HRR := Lib.hid hr; clear hr
  go_enter Try.func68, Try.ntmps68
  go_upto_region 0 with fail
  go_upto_region 0 with fail
  apply wp_region_lit
  refine Pq.wpL_box g HG.out.symm (Pq.wc n x) (by rfl) _ _ rfl rfl (bx_wide n x) ?_
  simp only [Act.put, List.setIfInBounds_toArray, List.set_cons_zero, List.set_cons_succ]
  refine Pq.wpL_box (g + 1) (by simp [HG.out]) (Pq.wc m y) (by rfl) _ _ rfl rfl (bx_wide m y) ?_
  simp only [Act.put, List.setIfInBounds_toArray, List.set_cons_zero, List.set_cons_succ]
  refine Pq.wpL_alloc (g + 2) (by simp [HG.out]) (by rfl) _ rfl (Pq.wc false 0) al_wide ?_
  simp only [Act.put, List.setIfInBounds_toArray, List.set_cons_zero, List.set_cons_succ]
  refine Pq.wpL_step (by rfl) ?_
  apply Exists.intro
  apply Exists.intro
  refine ⟨?_, ?_⟩
  · go_simp; first | done | with_reducible rfl | exact ⟨rfl, rfl⟩
  simp only [Act.put, List.setIfInBounds_toArray, List.set_cons_zero, List.set_cons_succ]
  refine Pq.wpL_nil ?_
  have HB := Lib.hid (Pq.below_alloc (Pq.below_alloc (Pq.below_alloc (Below.refl _ w) (Nat.le_refl _) (.cells (Pq.wc n x) 25)) (Nat.le_refl _) (.cells (Pq.wc m y) 25)) (Nat.le_refl _) (.cells (Pq.wc false 0) 25))
  have HR1 := Lib.hid (Pq.al_range (Pq.al_range (Pq.al_wnew w n x 25 g HG.out) (.cells (Pq.wc m y) 25)) (.cells (Pq.wc false 0) 25))
  have HR2 := Lib.hid (Pq.al_range (Pq.al_wnew (w.alloc (.cells (Pq.wc n x) 25)) m y 25 (g + 1) (by simp [HG.out])) (.cells (Pq.wc false 0) 25))
  have HG2 := Lib.hid (Pq.al_block ((w.alloc (.cells (Pq.wc n x) 25)).alloc (.cells (Pq.wc m y) 25)) (.cells (Pq.wc false 0) 25) (g + 2) (by simp [HG.out]))
  generalize ((w.alloc (.cells (Pq.wc n x) 25)).alloc (.cells (Pq.wc m y) 25)).alloc (.cells (Pq.wc false 0) 25) = w0 at *
  go_upto_region 1 with fail
  refine Pq.wp_region_grown none [(0, true), (2, true), (1, false), (3, false), (4, true), (5, true)] (by kernel_rfl) (by kernel_rfl) (fun _ _ d _ _ h => by cases d <;> exact h) (fun hS => ?_)
  simp only [Pq.pick, List.filterMap_cons, List.filterMap_nil, List.getElem?_cons_zero, List.getElem?_cons_succ, Option.map_some]
  refine Pq.wpO_load g 0 (Pq.wl n x) HR1.out (by simp) (by rfl) _ _ rfl rfl _ u_wide rfl (s_wide _ _) ?_
  simp only [Act.put, List.setIfInBounds_toArray, List.set_cons_zero, List.set_cons_succ]
  refine Pq.wpO_load (g + 1) 0 (Pq.wl m y) HR2.out (by simp) (by rfl) _ _ rfl rfl _ u_wide rfl (s_wide _ _) ?_
  simp only [Act.put, List.setIfInBounds_toArray, List.set_cons_zero, List.set_cons_succ]
  refine Pq.wpO_call (by rfl) cf_of (of_ptr n x _) rfl rfl ?_; rintro e w3 ⟨b, rfl, hr3, hb3, _, _⟩; have HR3 := Lib.hid hr3; clear hr3; have hS3 := Pq.grown_then hS hb3; refine ⟨_, rfl, hS3, ?_⟩
  simp only [Act.put, List.setIfInBounds_toArray, List.set_cons_zero, List.set_cons_succ]
  refine Pq.wpO_call (by rfl) cf_of (of_ptr m y _) rfl rfl ?_; rintro e w4 ⟨c, rfl, hr4, hb4, _, _⟩; have HR4 := Lib.hid hr4; clear hr4; have hS4 := Pq.grown_then hS3 hb4; refine ⟨_, rfl, hS4, ?_⟩
  simp only [Act.put, List.setIfInBounds_toArray, List.set_cons_zero, List.set_cons_succ]
  refine Pq.wpO_step (by rfl) ?_
  apply Exists.intro
  refine ⟨fun w' hw' => ?_, ?_⟩
  · go_simp; first | done | with_reducible rfl | exact ⟨rfl, rfl⟩
  simp only [Act.put, List.setIfInBounds_toArray, List.set_cons_zero, List.set_cons_succ]
  refine Pq.wpO_step (by rfl) ?_
  apply Exists.intro
  refine ⟨fun w' hw' => ?_, ?_⟩
  · go_simp; first | done | with_reducible rfl | exact ⟨rfl, rfl⟩
  simp only [Act.put, List.setIfInBounds_toArray, List.set_cons_zero, List.set_cons_succ]
  refine Pq.wpO_nil ?_
  have HBx := Lib.hid (Pq.range_in HR3.out hb4)
  have HCy := HR4
  have K := Pq.grown_below hS4
  have HA1 := Lib.hid (Pq.range_in HR1.out K)
  have HA2 := Lib.hid (Pq.range_in HR2.out K)
  have HG2' := Lib.hid (Pq.keep_block HG2.out K)
  have HB' := Lib.hid (Pq.below_next HB.out (Nat.le_refl _) K)
  clear HR3 HR4 HR1 HR2 HG2 HB hb3 hb4 hS hS3 hS4 K
  go_upto_region 2 with fail
  go_upto_region 2 with fail
  apply wp_region_lit
  refine Pq.wpL_step (by rfl) ?_
  apply Exists.intro
  apply Exists.intro
  refine ⟨?_, ?_⟩
  · go_simp; first | done | with_reducible rfl | exact ⟨rfl, rfl⟩
  simp only [Act.put, List.setIfInBounds_toArray, List.set_cons_zero, List.set_cons_succ]
  refine Pq.wpL_call (by rfl) cf_size (size_any b 0 x sx HSX.out _ HBx.out) rfl rfl ?_; rintro e w1 ⟨rfl, rfl⟩; refine ⟨_, rfl, ?_⟩
  simp only [Act.put, List.setIfInBounds_toArray, List.set_cons_zero, List.set_cons_succ]
  refine Pq.wpL_step (by rfl) ?_
  apply Exists.intro
  apply Exists.intro
  refine ⟨?_, ?_⟩
  · go_simp; first | done | with_reducible rfl | exact ⟨rfl, rfl⟩
  simp only [Act.put, List.setIfInBounds_toArray, List.set_cons_zero, List.set_cons_succ]
  refine Pq.wpL_call (by rfl) cf_size (size_any c 0 y sy HSY.out _ HCy.out) rfl rfl ?_; rintro e w1 ⟨rfl, rfl⟩; refine ⟨_, rfl, ?_⟩
  simp only [Act.put, List.setIfInBounds_toArray, List.set_cons_zero, List.set_cons_succ]
  refine Pq.wpL_step (by rfl) ?_
  apply Exists.intro
  apply Exists.intro
  refine ⟨?_, ?_⟩
  · go_simp; first | done | with_reducible rfl | exact ⟨rfl, rfl⟩
  simp only [Act.put, List.setIfInBounds_toArray, List.set_cons_zero, List.set_cons_succ]
  refine Pq.wpL_step (by rfl) ?_
  apply Exists.intro
  apply Exists.intro
  refine ⟨?_, ?_⟩
  · go_simp; first | done | with_reducible rfl | exact ⟨rfl, rfl⟩
  simp only [Act.put, List.setIfInBounds_toArray, List.set_cons_zero, List.set_cons_succ]
  refine Pq.wpL_nil ?_
  obtain ⟨d, hd⟩ : ∃ d, d = w4.heap.size := ⟨_, rfl⟩
  have hbd : b < d := by rw [hd]; exact Pq.range_lt HBx.out
  have hcd : c < d := by rw [hd]; exact Pq.range_lt HCy.out
  have hgd : g + 2 < d := by rw [hd]; exact (Array.getElem?_eq_some_iff.1 HG2'.out).1
  have HD := Lib.hid hd; clear hd
  go_upto_region 3 with fail
  go_upto_region 3 with fail
  apply wp_region_lit
  refine Pq.wpL_alloc d HD.out.symm (by rfl) _ rfl _ al_a64 ?_
  simp only [Act.put, List.setIfInBounds_toArray, List.set_cons_zero, List.set_cons_succ]
  refine Pq.wpL_nil ?_
  have HBx2 := Lib.hid (Pq.al_range HBx.out (.cells (Pq.am 64 0).toArray 120))
  have HCy2 := Lib.hid (Pq.al_range HCy.out (.cells (Pq.am 64 0).toArray 120))
  have HA12 := Lib.hid (Pq.al_range HA1.out (.cells (Pq.am 64 0).toArray 120))
  have HA22 := Lib.hid (Pq.al_range HA2.out (.cells (Pq.am 64 0).toArray 120))
  have HG22 := Lib.hid (Pq.al_keep HG2'.out (.cells (Pq.am 64 0).toArray 120))
  have HB2 := Lib.hid (Pq.below_alloc HB'.out (Nat.le_refl _) (.cells (Pq.am 64 0).toArray 120))
  have ho : (w4.alloc (.cells (Pq.am 64 0).toArray 120)).heap[d]? = some (.cells (Pq.am 64 (Pq.lo x 0 * y)).toArray 120 (0, 0)) := by rw [Pq.lo_zero, Nat.zero_mul]; exact Pq.al_block w4 _ d HD.out
  have hsz : d + 1 = (w4.alloc (.cells (Pq.am 64 0).toArray 120)).heap.size := by rw [Pq.size_alloc, HD.out]
  have HO := Lib.hid ho; have HSZ := Lib.hid hsz
  clear HBx HCy HA1 HA2 HG2' HB' ho HD hsz
  generalize w4.alloc (.cells (Pq.am 64 0).toArray 120) = w5 at *
  go_wp2
  go_loopw [26] (fun ii wr => ∃ i : Nat, ii = .int .i64 i ∧ i ≤ sx ∧ Hid (wr.heap[d]? = some (.cells (Pq.am 64 (Pq.lo x i * y)).toArray 120 (0, 0))) ∧ Hid (Below d w5 wr)) (fun ii _ => sx - (intOf ii).toNat)
  case atStart => exact ⟨0, rfl, by omega, HO, Lib.hid (Below.refl d w5)⟩
  case round =>
    obtain ⟨i, rfl, hi, hro, hbl⟩ := hrel
    by_cases hlt : i < sx
    · have hi2 : (i : Int) < sx := by omega
      have hi3 : (i : Int) < 32 := by omega
      obtain ⟨Z, hZ⟩ : ∃ Z, Z = Pq.lo x i * y := ⟨_, rfl⟩
      obtain ⟨a, ha⟩ : ∃ a, a = Pq.wd x i := ⟨_, rfl⟩
      have hal : a < 4294967296 := by rw [ha]; exact Pq.wd_lt _ _
      rw [← hZ] at hro
      have HZ := Lib.hid hZ; have HAE := Lib.hid ha
      clear hZ ha
      go_wp2
      go_loopw [12, 30] (fun cc jj wr => ∃ j cv Zj : Nat, cc = .int .u64 (cv : Int) ∧ jj = .int .i64 j ∧ j ≤ sy ∧ Hid (Pq.MI Z i a y j cv Zj) ∧ Hid (wr.heap[d]? = some (.cells (Pq.am 64 Zj).toArray 120 (0, 0))) ∧ Hid (Below d w5 wr)) (fun _ jj _ => sy - (intOf jj).toNat)
      case atStart => exact ⟨0, 0, Z, rfl, rfl, by omega, Lib.hid (Pq.MI.start Z i a y), hro, hbl⟩
      case round =>
        obtain ⟨j, cv, Zj, rfl, rfl, hj, hmi, hrj, hbj⟩ := hrel
        have hcl := hmi.out.cl
        obtain ⟨k, hk⟩ : ∃ k, k = i + j := ⟨_, rfl⟩
        have e1 : (i : Int) + (j : Int) = (k : Int) := by omega
        have w1 : IntKind.i64.wrap (k : Int) = (k : Int) := IntWalk.i64_in _ (by omega)
        have hk2 : (k : Int) < 64 + 1 := by omega
        have HKK := Lib.hid hk
        by_cases hjt : j < sy
        · have hj2 : (j : Int) < sy := by omega
          have hj3 : (j : Int) < 32 := by omega
          have hk3 : (k : Int) < 64 := by omega
          have hk4 : k < 64 := by omega
          have htop := hmi.out.top hal
          rw [← hk] at htop
          have c1 : wr.drew.cell? ⟨b, i, none⟩ = some (.int .u32 (a : Nat)) := by
            have := Pq.range_under HBx2.out (Pq.below_drew hbj.out) hbd i _ (Pq.am_get (x := x) (show i < 32 by omega))
            rw [HAE.out]; rwa [Nat.zero_add] at this
          have c2 : wr.drew.cell? ⟨c, j, none⟩ = some (.int .u32 (Pq.wd y j : Nat)) := by
            have := Pq.range_under HCy2.out (Pq.below_drew hbj.out) hcd j _ (Pq.am_get (x := y) (show j < 32 by omega))
            rwa [Nat.zero_add] at this
          have c3 : wr.drew.cell? ⟨d, k, none⟩ = some (.int .u32 (Pq.wd Zj k : Nat)) := Pq.row_cell (Pq.dr_block hrj.out) hk4
          have hvl := Pq.wd_lt y j
          have hzl := Pq.wd_lt Zj k
          obtain ⟨t, ht⟩ : ∃ t, t = a * Pq.wd y j + Pq.wd Zj k + cv := ⟨_, rfl⟩
          have hnext := hmi.out.next (t := t) hal (by rw [ht, hk])
          rw [← hk] at hnext
          rw [← ht] at htop
          obtain ⟨vb, hvb⟩ : ∃ vb, vb = Pq.wd y j := ⟨_, rfl⟩
          obtain ⟨vz, hvz⟩ : ∃ vz, vz = Pq.wd Zj k := ⟨_, rfl⟩
          rw [← hvb] at c2 hvl ht
          rw [← hvz] at c3 hzl ht
          obtain ⟨p, hp⟩ : ∃ p, p = a * vb := ⟨_, rfl⟩
          rw [← hp] at ht
          have htl : t < 18446744073709551616 := htop
          obtain ⟨s, hs⟩ : ∃ s, s = p + vz := ⟨_, rfl⟩
          have ep : (a : Int) * (vb : Int) = (p : Int) := by rw [hp]; simp
          have es : (p : Int) + (vz : Int) = (s : Int) := by omega
          have et : (s : Int) + (cv : Int) = (t : Int) := by omega
          have wp : IntKind.u64.wrap (p : Int) = (p : Int) := IntWalk.u64_in _ (by omega)
          have ws : IntKind.u64.wrap (s : Int) = (s : Int) := IntWalk.u64_in _ (by omega)
          have wt : IntKind.u64.wrap (t : Int) = (t : Int) := IntWalk.u64_in _ (by omega)
          have wa : IntKind.u64.wrap (a : Int) = (a : Int) := IntWalk.u64_in _ (by omega)
          have wb : IntKind.u64.wrap (vb : Int) = (vb : Int) := IntWalk.u64_in _ (by omega)
          have wz : IntKind.u64.wrap (vz : Int) = (vz : Int) := IntWalk.u64_in _ (by omega)
          obtain ⟨lo, hlo⟩ : ∃ lo, lo = t % 4294967296 := ⟨_, rfl⟩
          obtain ⟨hh, hhi⟩ : ∃ hh, hh = t / 4294967296 := ⟨_, rfl⟩
          have hand : bits .and .u64 (t : Int) 4294967295 = (lo : Int) := by rw [Pq.and_lo htl, hlo]
          have hsh : (t : Int) / 4294967296 = (hh : Int) := by rw [hhi]; simp
          have hll : lo < 4294967296 := by omega
          have wl1 : IntKind.u32.wrap (lo : Int) = (lo : Int) := IntWalk.u32_in _ (by omega)
          rw [← hlo, ← hhi] at hnext
          have C1 := Lib.hid c1; have C2 := Lib.hid c2; have C3 := Lib.hid c3; have HNX := Lib.hid hnext
          clear c1 c2 c3 hnext hvb hvz ht hp hs hlo hhi hk htop htl hk2
          go_upto_region 11 with fail
          refine Pq.wp_region_grown none [(0, true), (1, true), (2, true), (3, true), (4, true), (5, true), (6, true), (7, true), (8, true), (9, true), (10, true), (11, true), (12, true), (13, true), (14, true), (15, true), (16, true), (17, true), (18, true), (19, true), (20, true), (21, true), (22, true)] (by kernel_rfl) (by kernel_rfl) (fun _ _ d _ _ h => by cases d <;> exact h) (fun hS => ?_)
          simp only [Pq.pick, List.filterMap_cons, List.filterMap_nil, List.getElem?_cons_zero, List.getElem?_cons_succ, Option.map_some]
          refine Pq.wpO_step (by rfl) ?_
          apply Exists.intro
          refine ⟨fun w' hw' => ?_, ?_⟩
          · go_simp; first | done | with_reducible rfl | exact ⟨rfl, rfl⟩
          simp only [Act.put, List.setIfInBounds_toArray, List.set_cons_zero, List.set_cons_succ]
          refine Pq.wpO_step (by rfl) ?_
          apply Exists.intro
          refine ⟨fun w' hw' => ?_, ?_⟩
          · go_simp; first | done | with_reducible rfl | exact ⟨rfl, rfl⟩
          simp only [Act.put, List.setIfInBounds_toArray, List.set_cons_zero, List.set_cons_succ]
          refine Pq.wpO_step (by rfl) ?_
          apply Exists.intro
          refine ⟨fun w' hw' => ?_, ?_⟩
          · go_simp; first | done | with_reducible rfl | exact ⟨rfl, rfl⟩
          simp only [Act.put, List.setIfInBounds_toArray, List.set_cons_zero, List.set_cons_succ]
          refine Pq.wpO_step (by rfl) ?_
          apply Exists.intro
          refine ⟨fun w' hw' => ?_, ?_⟩
          · go_simp; first | done | with_reducible rfl | exact ⟨rfl, rfl⟩
          simp only [Act.put, List.setIfInBounds_toArray, List.set_cons_zero, List.set_cons_succ]
          refine Pq.wpO_cell ⟨b, i, none⟩ _ C1.out (by simp) (by rfl) _ _ rfl rfl _ u_u32 rfl ?_
          simp only [Act.put, List.setIfInBounds_toArray, List.set_cons_zero, List.set_cons_succ]
          refine Pq.wpO_step (by rfl) ?_
          apply Exists.intro
          refine ⟨fun w' hw' => ?_, ?_⟩
          · go_simp; first | done | with_reducible rfl | exact ⟨rfl, rfl⟩
          simp only [Act.put, List.setIfInBounds_toArray, List.set_cons_zero, List.set_cons_succ]
          refine Pq.wpO_step (by rfl) ?_
          apply Exists.intro
          refine ⟨fun w' hw' => ?_, ?_⟩
          · go_simp; first | done | with_reducible rfl | exact ⟨rfl, rfl⟩
          simp only [Act.put, List.setIfInBounds_toArray, List.set_cons_zero, List.set_cons_succ]
          refine Pq.wpO_step (by rfl) ?_
          apply Exists.intro
          refine ⟨fun w' hw' => ?_, ?_⟩
          · go_simp; first | done | with_reducible rfl | exact ⟨rfl, rfl⟩
          simp only [Act.put, List.setIfInBounds_toArray, List.set_cons_zero, List.set_cons_succ]
          refine Pq.wpO_step (by rfl) ?_
          apply Exists.intro
          refine ⟨fun w' hw' => ?_, ?_⟩
          · go_simp; first | done | with_reducible rfl | exact ⟨rfl, rfl⟩
          simp only [Act.put, List.setIfInBounds_toArray, List.set_cons_zero, List.set_cons_succ]
          refine Pq.wpO_step (by rfl) ?_
          apply Exists.intro
          refine ⟨fun w' hw' => ?_, ?_⟩
          · go_simp; first | done | with_reducible rfl | exact ⟨rfl, rfl⟩
          simp only [Act.put, List.setIfInBounds_toArray, List.set_cons_zero, List.set_cons_succ]
          refine Pq.wpO_cell ⟨c, j, none⟩ _ C2.out (by simp) (by rfl) _ _ rfl rfl _ u_u32 rfl ?_
          simp only [Act.put, List.setIfInBounds_toArray, List.set_cons_zero, List.set_cons_succ]
          refine Pq.wpO_step (by rfl) ?_
          apply Exists.intro
          refine ⟨fun w' hw' => ?_, ?_⟩
          · go_simp; first | done | with_reducible rfl | exact ⟨rfl, rfl⟩
          simp only [Act.put, List.setIfInBounds_toArray, List.set_cons_zero, List.set_cons_succ]
          refine Pq.wpO_step (by rfl) ?_
          apply Exists.intro
          refine ⟨fun w' hw' => ?_, ?_⟩
          · go_simp; first | done | with_reducible rfl | exact ⟨rfl, rfl⟩
          simp only [Act.put, List.setIfInBounds_toArray, List.set_cons_zero, List.set_cons_succ]
          refine Pq.wpO_step (by rfl) ?_
          apply Exists.intro
          refine ⟨fun w' hw' => ?_, ?_⟩
          · go_simp; first | done | with_reducible rfl | exact ⟨rfl, rfl⟩
          simp only [Act.put, List.setIfInBounds_toArray, List.set_cons_zero, List.set_cons_succ]
          refine Pq.wpO_step (by rfl) ?_
          apply Exists.intro
          refine ⟨fun w' hw' => ?_, ?_⟩
          · go_simp; first | done | with_reducible rfl | exact ⟨rfl, rfl⟩
          simp only [Act.put, List.setIfInBounds_toArray, List.set_cons_zero, List.set_cons_succ]
          refine Pq.wpO_step (by rfl) ?_
          apply Exists.intro
          refine ⟨fun w' hw' => ?_, ?_⟩
          · go_simp; first | done | with_reducible rfl | exact ⟨rfl, rfl⟩
          simp only [Act.put, List.setIfInBounds_toArray, List.set_cons_zero, List.set_cons_succ]
          refine Pq.wpO_step (by rfl) ?_
          apply Exists.intro
          refine ⟨fun w' hw' => ?_, ?_⟩
          · go_simp; first | done | with_reducible rfl | exact ⟨rfl, rfl⟩
          simp only [Act.put, List.setIfInBounds_toArray, List.set_cons_zero, List.set_cons_succ]
          refine Pq.wpO_cell ⟨d, k, none⟩ _ C3.out (by simp) (by rfl) _ _ rfl rfl _ u_u32 rfl ?_
          simp only [Act.put, List.setIfInBounds_toArray, List.set_cons_zero, List.set_cons_succ]
          refine Pq.wpO_step (by rfl) ?_
          apply Exists.intro
          refine ⟨fun w' hw' => ?_, ?_⟩
          · go_simp; first | done | with_reducible rfl | exact ⟨rfl, rfl⟩
          simp only [Act.put, List.setIfInBounds_toArray, List.set_cons_zero, List.set_cons_succ]
          refine Pq.wpO_step (by rfl) ?_
          apply Exists.intro
          refine ⟨fun w' hw' => ?_, ?_⟩
          · go_simp; first | done | with_reducible rfl | exact ⟨rfl, rfl⟩
          simp only [Act.put, List.setIfInBounds_toArray, List.set_cons_zero, List.set_cons_succ]
          refine Pq.wpO_step (by rfl) ?_
          apply Exists.intro
          refine ⟨fun w' hw' => ?_, ?_⟩
          · go_simp; first | done | with_reducible rfl | exact ⟨rfl, rfl⟩
          simp only [Act.put, List.setIfInBounds_toArray, List.set_cons_zero, List.set_cons_succ]
          refine Pq.wpO_step (by rfl) ?_
          apply Exists.intro
          refine ⟨fun w' hw' => ?_, ?_⟩
          · go_simp; first | done | with_reducible rfl | exact ⟨rfl, rfl⟩
          simp only [Act.put, List.setIfInBounds_toArray, List.set_cons_zero, List.set_cons_succ]
          refine Pq.wpO_step (by rfl) ?_
          apply Exists.intro
          refine ⟨fun w' hw' => ?_, ?_⟩
          · go_simp; first | done | with_reducible rfl | exact ⟨rfl, rfl⟩
          simp only [Act.put, List.setIfInBounds_toArray, List.set_cons_zero, List.set_cons_succ]
          refine Pq.wpO_nil ?_
          go_upto_region 12 with fail
          go_upto_region 12 with fail
          apply wp_region_lit
          refine Pq.wpL_step (by rfl) ?_
          apply Exists.intro
          apply Exists.intro
          refine ⟨?_, ?_⟩
          · go_simp; first | done | with_reducible rfl | exact ⟨rfl, rfl⟩
          simp only [Act.put, List.setIfInBounds_toArray, List.set_cons_zero, List.set_cons_succ]
          refine Pq.wpL_step (by rfl) ?_
          apply Exists.intro
          apply Exists.intro
          refine ⟨?_, ?_⟩
          · go_simp; first | done | with_reducible rfl | exact ⟨rfl, rfl⟩
          simp only [Act.put, List.setIfInBounds_toArray, List.set_cons_zero, List.set_cons_succ]
          refine Pq.wpL_step (by rfl) ?_
          apply Exists.intro
          apply Exists.intro
          refine ⟨?_, ?_⟩
          · go_simp; first | done | with_reducible rfl | exact ⟨rfl, rfl⟩
          simp only [Act.put, List.setIfInBounds_toArray, List.set_cons_zero, List.set_cons_succ]
          refine Pq.wpL_step (by rfl) ?_
          apply Exists.intro
          apply Exists.intro
          refine ⟨?_, ?_⟩
          · go_simp; first | done | with_reducible rfl | exact ⟨rfl, rfl⟩
          simp only [Act.put, List.setIfInBounds_toArray, List.set_cons_zero, List.set_cons_succ]
          refine Pq.wpL_step (by rfl) ?_
          apply Exists.intro
          apply Exists.intro
          refine ⟨?_, ?_⟩
          · go_simp; first | done | with_reducible rfl | exact ⟨rfl, rfl⟩
          simp only [Act.put, List.setIfInBounds_toArray, List.set_cons_zero, List.set_cons_succ]
          refine Pq.wpL_step (by rfl) ?_
          apply Exists.intro
          apply Exists.intro
          refine ⟨?_, ?_⟩
          · go_simp; first | done | with_reducible rfl | exact ⟨rfl, rfl⟩
          simp only [Act.put, List.setIfInBounds_toArray, List.set_cons_zero, List.set_cons_succ]
          refine Pq.wpL_step (by rfl) ?_
          apply Exists.intro
          apply Exists.intro
          refine ⟨?_, ?_⟩
          · go_simp; first | done | with_reducible rfl | exact ⟨rfl, rfl⟩
          simp only [Act.put, List.setIfInBounds_toArray, List.set_cons_zero, List.set_cons_succ]
          refine Pq.wpL_put (k := k) (.int .u32 (lo : Int)) (Pq.dr_block hrj.out) (by rw [Pq.am_length]; exact hk4) (by rfl) 22 _ _ rfl rfl rfl rfl rfl (by kernel_rfl) ?_
          try simp only [Act.put, List.setIfInBounds_toArray, List.set_cons_zero, List.set_cons_succ]
          refine Pq.wpL_nil ?_
          go_upto_region 13 with fail
          go_upto_region 13 with fail
          apply wp_region_lit
          refine Pq.wpL_step (by rfl) ?_
          apply Exists.intro
          apply Exists.intro
          refine ⟨?_, ?_⟩
          · go_simp; first | done | with_reducible rfl | exact ⟨rfl, rfl⟩
          simp only [Act.put, List.setIfInBounds_toArray, List.set_cons_zero, List.set_cons_succ]
          refine Pq.wpL_step (by rfl) ?_
          apply Exists.intro
          apply Exists.intro
          refine ⟨?_, ?_⟩
          · go_simp; first | done | with_reducible rfl | exact ⟨rfl, rfl⟩
          simp only [Act.put, List.setIfInBounds_toArray, List.set_cons_zero, List.set_cons_succ]
          refine Pq.wpL_step (by rfl) ?_
          apply Exists.intro
          apply Exists.intro
          refine ⟨?_, ?_⟩
          · go_simp; first | done | with_reducible rfl | exact ⟨rfl, rfl⟩
          simp only [Act.put, List.setIfInBounds_toArray, List.set_cons_zero, List.set_cons_succ]
          refine Pq.wpL_nil ?_
          clear ep es et wp ws wt wa wb wz hand hsh wl1 e1 w1
          go_wp2
          go_roundw
          case rel => exact ⟨j + 1, hh, Pq.st Zj k lo, rfl, by go_num, by omega, HNX, Lib.hid (by
            have e := Pq.setRow_at (cs := ((Pq.am 64 Zj).set k (.int .u32 (lo : Int))).toArray) (Pq.dr_block hrj.out)
            rw [Pq.am_set hll hk4] at e
            rw [Pq.am_set hll hk4]; exact e), Lib.hid (Pq.below_setRow (Pq.below_drew hbj.out) (Nat.le_refl _))⟩
          case measure => simp [intOf]; omega
        · obtain rfl : j = sy := by omega
          have hk3 : (k : Int) < 64 := by omega
          have hk4 : k < 64 := by omega
          have hlast := hmi.out.last (by rw [HZ.out]; exact Pq.mul_fit HYS.out) HYS.out
          rw [HZ.out, HAE.out, Pq.mul_row, ← hk] at hlast
          have HLA := Lib.hid hlast
          have wl1 : IntKind.u32.wrap (cv : Int) = (cv : Int) := IntWalk.u32_in _ (by omega)
          clear hlast hk
          go_upto_region 15 with fail
          go_upto_region 15 with fail
          apply wp_region_lit
          refine Pq.wpL_step (by rfl) ?_
          apply Exists.intro
          apply Exists.intro
          refine ⟨?_, ?_⟩
          · go_simp; first | done | with_reducible rfl | exact ⟨rfl, rfl⟩
          simp only [Act.put, List.setIfInBounds_toArray, List.set_cons_zero, List.set_cons_succ]
          refine Pq.wpL_step (by rfl) ?_
          apply Exists.intro
          apply Exists.intro
          refine ⟨?_, ?_⟩
          · go_simp; first | done | with_reducible rfl | exact ⟨rfl, rfl⟩
          simp only [Act.put, List.setIfInBounds_toArray, List.set_cons_zero, List.set_cons_succ]
          refine Pq.wpL_step (by rfl) ?_
          apply Exists.intro
          apply Exists.intro
          refine ⟨?_, ?_⟩
          · go_simp; first | done | with_reducible rfl | exact ⟨rfl, rfl⟩
          simp only [Act.put, List.setIfInBounds_toArray, List.set_cons_zero, List.set_cons_succ]
          refine Pq.wpL_step (by rfl) ?_
          apply Exists.intro
          apply Exists.intro
          refine ⟨?_, ?_⟩
          · go_simp; first | done | with_reducible rfl | exact ⟨rfl, rfl⟩
          simp only [Act.put, List.setIfInBounds_toArray, List.set_cons_zero, List.set_cons_succ]
          refine Pq.wpL_step (by rfl) ?_
          apply Exists.intro
          apply Exists.intro
          refine ⟨?_, ?_⟩
          · go_simp; first | done | with_reducible rfl | exact ⟨rfl, rfl⟩
          simp only [Act.put, List.setIfInBounds_toArray, List.set_cons_zero, List.set_cons_succ]
          refine Pq.wpL_step (by rfl) ?_
          apply Exists.intro
          apply Exists.intro
          refine ⟨?_, ?_⟩
          · go_simp; first | done | with_reducible rfl | exact ⟨rfl, rfl⟩
          simp only [Act.put, List.setIfInBounds_toArray, List.set_cons_zero, List.set_cons_succ]
          refine Pq.wpL_put (k := k) (.int .u32 (cv : Int)) hrj.out (by rw [Pq.am_length]; exact hk4) (by rfl) 22 _ _ rfl rfl rfl rfl rfl (by kernel_rfl) ?_
          try simp only [Act.put, List.setIfInBounds_toArray, List.set_cons_zero, List.set_cons_succ]
          refine Pq.wpL_nil ?_
          clear wl1 e1 w1
          go_wp2
          go_roundw
          case rel => exact ⟨i + 1, by go_num, by omega, Lib.hid (by
            have e := Pq.setRow_at (cs := ((Pq.am 64 Zj).set k (.int .u32 (cv : Int))).toArray) hrj.out
            rw [Pq.am_set hcl hk4, HLA.out] at e
            rw [Pq.am_set hcl hk4, HLA.out]; exact e), Lib.hid (Pq.below_setRow hbj.out (Nat.le_refl _))⟩
          case measure => simp [intOf]; omega
    · obtain rfl : i = sx := by omega
      obtain ⟨P0, hP0⟩ : ∃ P0, P0 = x * y := ⟨_, rfl⟩
      have hrow : wr.heap[d]? = some (.cells (Pq.am 64 P0).toArray 120 (0, 0)) := by
        have := hro.out
        rwa [Pq.lo_self HXS.out, ← hP0] at this
      have hPl : P0 < Pq.bp 64 := by
        rw [hP0, show Pq.bp 64 = Pq.bp 32 * Pq.bp 32 from Pq.bp_add 32 32]
        exact Nat.mul_lt_mul'' HX.out HY.out
      have HROW := Lib.hid hrow; have HPL := Lib.hid hPl; have HP0 := Lib.hid hP0
      clear hrow hPl hP0 hro hlt
      go_upto_region 17 with fail
      go_upto_region 17 with fail
      apply wp_region_lit
      refine Pq.wpL_slice _ (by rfl) _ _ _ _ rfl _ rfl _ none rfl rfl (sl_hi d) ?_
      simp only [Act.put, List.setIfInBounds_toArray, List.set_cons_zero, List.set_cons_succ]
      refine Pq.wpL_step (by rfl) ?_
      apply Exists.intro
      apply Exists.intro
      refine ⟨?_, ?_⟩
      · go_simp; first | done | with_reducible rfl | exact ⟨rfl, rfl⟩
      simp only [Act.put, List.setIfInBounds_toArray, List.set_cons_zero, List.set_cons_succ]
      refine Pq.wpL_step (by rfl) ?_
      apply Exists.intro
      apply Exists.intro
      refine ⟨?_, ?_⟩
      · go_simp; first | done | with_reducible rfl | exact ⟨rfl, rfl⟩
      simp only [Act.put, List.setIfInBounds_toArray, List.set_cons_zero, List.set_cons_succ]
      refine Pq.wpL_nil ?_
      go_wp2
      go_loopw [74] (fun kk wr => ∃ k : Nat, kk = .int .i64 k ∧ k ≤ 32 ∧ Hid (∀ j, j < k → Pq.wd P0 (32 + j) = 0) ∧ Hid (wr.heap[d]? = some (.cells (Pq.am 64 P0).toArray 120 (0, 0))) ∧ Hid (Below d w5 wr)) (fun kk _ => 32 - (intOf kk).toNat)
      case atStart => exact ⟨0, rfl, by omega, Lib.hid (fun j hj => absurd hj (by omega)), HROW, hbl⟩
      case round =>
        obtain ⟨k, rfl, hk, hz, hrj, hbj⟩ := hrel
        by_cases hlt : k < 32
        · have hk2 : (k : Int) < 32 := by omega
          have c1 : wr.cell? ⟨d, 32 + k, none⟩ = some (.int .u32 (Pq.wd P0 (32 + k) : Nat)) := Pq.row_cell hrj.out (by omega)
          have hvl := Pq.wd_lt P0 (32 + k)
          obtain ⟨v, hv⟩ : ∃ v, v = Pq.wd P0 (32 + k) := ⟨_, rfl⟩
          rw [← hv] at c1 hvl
          have C1 := Lib.hid c1; have HV := Lib.hid hv
          clear c1 hv
          go_upto_region 19 with fail
          go_upto_region 19 with fail
          apply wp_region_lit
          refine Pq.wpL_step (by rfl) ?_
          apply Exists.intro
          apply Exists.intro
          refine ⟨?_, ?_⟩
          · go_simp; first | done | with_reducible rfl | exact ⟨rfl, rfl⟩
          simp only [Act.put, List.setIfInBounds_toArray, List.set_cons_zero, List.set_cons_succ]
          refine Pq.wpL_cell ⟨d, 32 + k, none⟩ _ C1.out (by rfl) _ _ rfl rfl _ u_u32 rfl ?_
          simp only [Act.put, List.setIfInBounds_toArray, List.set_cons_zero, List.set_cons_succ]
          refine Pq.wpL_step (by rfl) ?_
          apply Exists.intro
          apply Exists.intro
          refine ⟨?_, ?_⟩
          · go_simp; first | done | with_reducible rfl | exact ⟨rfl, rfl⟩
          simp only [Act.put, List.setIfInBounds_toArray, List.set_cons_zero, List.set_cons_succ]
          refine Pq.wpL_nil ?_
          by_cases hv0 : v = 0
          · have hvb : ((v : Int) == 0) = true := by rw [hv0]; rfl
            have HV0 := Lib.hid hv0
            clear hv0
            go_wp2
            go_roundw
            case rel => exact ⟨k + 1, by go_num, by omega, Lib.hid (fun j hj => by
              rcases Nat.lt_or_ge j k with h1 | h1
              · exact hz.out j h1
              · obtain rfl : j = k := by omega
                rw [← HV.out]; exact HV0.out), hrj, hbj⟩
            case measure => simp [intOf]; omega
          · have hvb : ((v : Int) == 0) = false := (by have h4 : ¬ (v : Int) = 0 := (by omega); simpa using h4)
            have hbig : ¬ P0 < Pq.bp 32 := Pq.big_of_word (i := k) (by rw [← HV.out]; exact hv0)
            have hres : res = .tuple #[.agg (Pq.wc false 0), .bool false] := by
              rw [HRR.out, Pq.rz_no (by rw [Pq.mul_abs, ← HP0.out]; exact hbig)]
            have HRES := Lib.hid hres
            clear hres hbig hv0
            have HGz := Lib.hid ((hbj.out.block (g + 2) hgd).trans HG22.out)
            have HBz := Lib.hid (Pq.below_of HB2.out hbj.out (by rw [← HG.out]; omega))
            go_upto_region 21 with fail
            go_upto_region 21 with fail
            apply wp_region_lit
            refine Pq.wpL_build (by rfl) _ [] rfl [] rfl _ built_none ?_
            simp only [Act.put, List.setIfInBounds_toArray, List.set_cons_zero, List.set_cons_succ]
            refine Pq.wpL_store (by rfl) 25 _ _ rfl (g + 2) (Pq.wc _ _) rfl rfl 25 (Pq.wc _ _) HGz.out (s_widea _ _) (by simp only [Pq.wc_size]) (Pq.wc_one _ _) ?_
            try simp only [Act.put, List.setIfInBounds_toArray, List.set_cons_zero, List.set_cons_succ]
            refine Pq.wpL_step (by rfl) ?_
            apply Exists.intro
            apply Exists.intro
            refine ⟨?_, ?_⟩
            · go_simp; first | done | with_reducible rfl | exact ⟨rfl, rfl⟩
            simp only [Act.put, List.setIfInBounds_toArray, List.set_cons_zero, List.set_cons_succ]
            refine Pq.wpL_nil ?_
            go_wp2
            refine Pq.ret_cell_tmp rfl (g + 2) _ _ _ _ _ rfl rfl (Pq.setRow_at HGz.out) u_wide rfl (s_widea _ _) rfl ⟨by rw [HRES.out]; rfl, Pq.below_setRow HBz.out (by rw [← HG.out]; omega)⟩
        · obtain rfl : k = 32 := by omega
          have hsm : P0 < Pq.bp 32 := Pq.small_of_words HPL.out hz.out
          have HSM := Lib.hid hsm
          have HGz := Lib.hid ((hbj.out.block (g + 2) hgd).trans HG22.out)
          have HBz := Lib.hid (Pq.below_of HB2.out hbj.out (by rw [← HG.out]; omega))
          have HA1z := Lib.hid (Pq.range_under HA12.out hbj.out (by omega))
          have HA2z := Lib.hid (Pq.range_under HA22.out hbj.out (by omega))
          have hds : d < wr.heap.size := (Array.getElem?_eq_some_iff.1 hrj.out).1
          have hro : wr.rangeAt d 0 (Pq.am 32 P0) := by
            have := Pq.range_block hrj.out
            rw [show (64 : Nat) = 32 + 32 from rfl, Pq.am_split 32 32 P0] at this
            exact (Pq.range_app this).1
          have HROz := Lib.hid hro
          obtain ⟨p0, hp0⟩ : ∃ p0, p0 = Pq.ng n x := ⟨_, rfl⟩
          obtain ⟨q0, hq0⟩ : ∃ q0, q0 = Pq.ng m y := ⟨_, rfl⟩
          have HNX := Lib.hid hp0; have HNY := Lib.hid hq0
          clear hp0 hq0 hro hsm hz hbl HROW HA12 HA22 HG22 HB2 hlt
          go_upto_region 23 with fail
          refine Pq.wp_region_grown (some (g + 2)) [(0, true), (2, true), (5, true), (6, true), (1, false), (3, false), (4, true), (7, false), (8, false), (9, true)] (by kernel_rfl) (by kernel_rfl) (fun _ _ d _ _ h => by cases d <;> exact h) (fun hS => ?_)
          simp only [Pq.pick, List.filterMap_cons, List.filterMap_nil, List.getElem?_cons_zero, List.getElem?_cons_succ, Option.map_some]
          refine Pq.wpO_load g 0 (Pq.wl n x) HA1z.out (by simp) (by rfl) _ _ rfl rfl _ u_wide rfl (s_wide _ _) ?_
          simp only [Act.put, List.setIfInBounds_toArray, List.set_cons_zero, List.set_cons_succ]
          refine Pq.wpO_load (g + 1) 0 (Pq.wl m y) HA2z.out (by simp) (by rfl) _ _ rfl rfl _ u_wide rfl (s_wide _ _) ?_
          simp only [Act.put, List.setIfInBounds_toArray, List.set_cons_zero, List.set_cons_succ]
          refine Pq.wpO_slice _ (by rfl) _ _ _ _ rfl _ rfl none _ rfl rfl (sl_lo d) ?_
          simp only [Act.put, List.setIfInBounds_toArray, List.set_cons_zero, List.set_cons_succ]
          refine Pq.wpO_toPtr _ (by rfl) _ _ rfl _ rfl (sl_ptr d) ?_
          simp only [Act.put, List.setIfInBounds_toArray, List.set_cons_zero, List.set_cons_succ]
          refine Pq.wpO_ret (by rfl) cf_below (below_any n x _ HX.out) rfl rfl hS ?_; intro w8 hb8 hS8; rw [← HNX.out]
          simp only [Act.put, List.setIfInBounds_toArray, List.set_cons_zero, List.set_cons_succ]
          refine Pq.wpO_ret (by rfl) cf_below (below_any m y _ HY.out) rfl rfl hS8 ?_; intro w9 hb9 hS9; rw [← HNY.out]; have K9 := Pq.below_next (Pq.below_next (Pq.below_drew (Below.refl wr.heap.size wr)) (Nat.le_refl _) hb8) (Nat.le_refl _) hb9
          simp only [Act.put, List.setIfInBounds_toArray, List.set_cons_zero, List.set_cons_succ]
          refine Pq.wpO_step (by rfl) ?_
          apply Exists.intro
          refine ⟨fun w' hw' => ?_, ?_⟩
          · go_simp; first | done | with_reducible rfl | exact ⟨rfl, rfl⟩
          simp only [Act.put, List.setIfInBounds_toArray, List.set_cons_zero, List.set_cons_succ]
          refine Pq.wpO_ret (by rfl) cf_told (told_any _ d 0 P0 _ HSM.out (Pq.range_in HROz.out K9) (Nat.lt_of_lt_of_le hds K9.size)) rfl rfl hS9 ?_; intro w10 hb10 hS10; have K10 := Pq.below_next K9 (Nat.le_refl _) hb10
          simp only [Act.put, List.setIfInBounds_toArray, List.set_cons_zero, List.set_cons_succ]
          refine Pq.wpO_store (by rfl) 25 _ _ rfl (g + 2) (Pq.wc _ _) rfl rfl 25 (Pq.wc _ _) (Pq.keep_block HGz.out K10) (s_widea _ _) (by simp only [Pq.wc_size]) (Pq.wc_one _ _) (Pq.grown_setRow hS10) ?_
          try simp only [Act.put, List.setIfInBounds_toArray, List.set_cons_zero, List.set_cons_succ]
          refine Pq.wpO_step (by rfl) ?_
          apply Exists.intro
          refine ⟨fun w' hw' => ?_, ?_⟩
          · go_simp; first | done | with_reducible rfl | exact ⟨rfl, rfl⟩
          simp only [Act.put, List.setIfInBounds_toArray, List.set_cons_zero, List.set_cons_succ]
          refine Pq.wpO_nil ?_
          go_wp2
          refine Pq.ret_cell_tmp rfl (g + 2) _ _ _ _ _ rfl rfl (Pq.setRow_at (Pq.keep_block HGz.out K10)) u_wide rfl (s_widea _ _) rfl ⟨?_, Pq.below_setRow (Pq.below_next HBz.out (Nat.le_refl _) K10) (by rw [← HG.out]; omega)⟩
          have e1 := Pq.mul_sign n x m y
          rw [← HNX.out, ← HNY.out, ← HP0.out] at e1
          rw [HRR.out, Pq.rz_ok (by rw [Pq.mul_abs, ← HP0.out]; exact HSM.out), ← e1]; rfl
end Go.Proofs.Ytjijakfcahhioaa
set_option linter.unusedSimpArgs false
set_option linter.unusedVariables false
namespace Pq
theorem bp_one_lt : 1 < bp 32 := by have := bp_mono (i := 1) (j := 32) (by decide); rw [bp_one] at this; omega
theorem cz_zero (a b : Int) : ((cz a b : Int) == 0) = decide (a = b) := by
  unfold cz
  by_cases h : a < b
  · rw [if_pos h]; simp; omega
  · rw [if_neg h]
    by_cases h2 : b < a
    · rw [if_pos h2]; simp; omega
    · rw [if_neg h2]; simp; omega
end Pq
namespace Go.Proofs.Ytjijakfcahhioaa
open Go.RowKit
theorem cf_one (xs : Array Value) (w : World) : (callFunc 33 xs).run Try.prog w = .ok (.enter 33 xs) w := by kernel_rfl
theorem cf_isone (xs : Array Value) (w : World) : (callFunc 37 xs).run Try.prog w = .ok (.enter 37 xs) w := by kernel_rfl

set_option maxRecDepth 100000 in
theorem one_any (w : World) : Calls Try.prog 33 #[] w (Pq.Ret w (.agg (Pq.wc false 1))) := by
  obtain ⟨g, hg⟩ : ∃ g, g = w.heap.size := ⟨_, rfl⟩
  have HG := Lib.hid hg; clear hg
  go_enter Try.func33, Try.ntmps33
  go_upto_region 0 with fail
  go_upto_region 0 with fail
  apply wp_region_lit
  refine Pq.wpL_alloc g HG.out.symm (by rfl) _ rfl (Pq.wc false 0) al_wide ?_
  simp only [Act.put, List.setIfInBounds_toArray, List.set_cons_zero, List.set_cons_succ]
  refine Pq.wpL_nil ?_
  go_upto_region 1 with fail
  go_upto_region 1 with fail
  apply wp_region_lit
  refine Pq.wpL_ret (by rfl) cf_from (from_any 1 _ (by decide) (by decide)) rfl rfl ?_; intro w1 hb1; rw [show Pq.wz 1 = Pq.wc false 1 from rfl]
  simp only [Act.put, List.setIfInBounds_toArray, List.set_cons_zero, List.set_cons_succ]
  refine Pq.wpL_store (by rfl) 25 _ _ rfl g (Pq.wc _ _) rfl rfl 25 (Pq.wc _ _) (Pq.keep_block (Pq.al_block w (.cells (Pq.wc false 0) 25) g HG.out) hb1) (s_widea _ _) (by simp only [Pq.wc_size]) (Pq.wc_one _ _) ?_
  try simp only [Act.put, List.setIfInBounds_toArray, List.set_cons_zero, List.set_cons_succ]
  refine Pq.wpL_nil ?_
  go_wp2
  refine Pq.ret_cell rfl g _ _ _ _ rfl (Pq.setRow_at (Pq.keep_block (Pq.al_block w (.cells (Pq.wc false 0) 25) g HG.out) hb1)) u_wide rfl (s_widea _ _) rfl ⟨rfl, Pq.below_setRow (Pq.below_next (Pq.below_alloc (Below.refl _ w) (Nat.le_refl _) _) (Nat.le_refl _) hb1) (by rw [HG.out]; exact Nat.le_refl _)⟩

set_option maxRecDepth 100000 in
theorem isone_any (n : Bool) (x : Nat) (w : World) (hx : x < Pq.bp 32) : Calls Try.prog 37 #[.agg (Pq.wc n x)] w (Pq.Ret w (.bool (decide (Pq.zv n x = 1)))) := by
  have HX := Lib.hid hx; clear hx
  obtain ⟨g, hg⟩ : ∃ g, g = w.heap.size := ⟨_, rfl⟩
  have HG := Lib.hid hg; clear hg
  obtain ⟨r, hr⟩ : ∃ r, r = Pq.cz (Pq.zv n x) (Pq.zv false 1) := ⟨_, rfl⟩
  have HRe := Lib.hid hr; clear hr
  have hres : decide (Pq.zv n x = 1) = (r == 0) := by rw [HRe.out, Pq.cz_zero]; rfl
  rw [hres]
  clear hres
  go_enter Try.func37, Try.ntmps37
  go_upto_region 0 with fail
  go_upto_region 0 with fail
  apply wp_region_lit
  refine Pq.wpL_box g HG.out.symm (Pq.wc n x) (by rfl) _ _ rfl rfl (bx_wide n x) ?_
  simp only [Act.put, List.setIfInBounds_toArray, List.set_cons_zero, List.set_cons_succ]
  refine Pq.wpL_step (by rfl) ?_
  apply Exists.intro
  apply Exists.intro
  refine ⟨?_, ?_⟩
  · go_simp; first | done | with_reducible rfl | exact ⟨rfl, rfl⟩
  simp only [Act.put, List.setIfInBounds_toArray, List.set_cons_zero, List.set_cons_succ]
  refine Pq.wpL_nil ?_
  have HB := Lib.hid (Pq.below_alloc (Below.refl _ w) (Nat.le_refl _) (.cells (Pq.wc n x) 25))
  have HR1 := Lib.hid (Pq.al_wnew w n x 25 g HG.out)
  generalize w.alloc (.cells (Pq.wc n x) 25) = w0 at *
  go_upto_region 1 with fail
  refine Pq.wp_region_grown none [(0, true), (1, false), (2, false), (3, true), (4, true)] (by kernel_rfl) (by kernel_rfl) (fun _ _ d _ _ h => by cases d <;> exact h) (fun hS => ?_)
  simp only [Pq.pick, List.filterMap_cons, List.filterMap_nil, List.getElem?_cons_zero, List.getElem?_cons_succ, Option.map_some]
  refine Pq.wpO_load g 0 (Pq.wl n x) HR1.out (by simp) (by rfl) _ _ rfl rfl _ u_wide rfl (s_wide _ _) ?_
  simp only [Act.put, List.setIfInBounds_toArray, List.set_cons_zero, List.set_cons_succ]
  refine Pq.wpO_ret (by rfl) cf_one (one_any _) rfl rfl hS ?_; intro w1 hb1 hS1
  simp only [Act.put, List.setIfInBounds_toArray, List.set_cons_zero, List.set_cons_succ]
  refine Pq.wpO_ret (by rfl) cf_wcmp (cmp_any n x false 1 _ HX.out (Pq.bp_one_lt)) rfl rfl hS1 ?_; intro w2 hb2 hS2; rw [← HRe.out]
  simp only [Act.put, List.setIfInBounds_toArray, List.set_cons_zero, List.set_cons_succ]
  refine Pq.wpO_step (by rfl) ?_
  apply Exists.intro
  refine ⟨fun w' hw' => ?_, ?_⟩
  · go_simp; first | done | with_reducible rfl | exact ⟨rfl, rfl⟩
  simp only [Act.put, List.setIfInBounds_toArray, List.set_cons_zero, List.set_cons_succ]
  refine Pq.wpO_step (by rfl) ?_
  apply Exists.intro
  refine ⟨fun w' hw' => ?_, ?_⟩
  · go_simp; first | done | with_reducible rfl | exact ⟨rfl, rfl⟩
  simp only [Act.put, List.setIfInBounds_toArray, List.set_cons_zero, List.set_cons_succ]
  refine Pq.wpO_nil ?_
  go_wp2
  go_ret
  exact ⟨rfl, Pq.below_next HB.out (Nat.le_refl _) (Pq.grown_below hS2)⟩
end Go.Proofs.Ytjijakfcahhioaa
set_option linter.unusedSimpArgs false
set_option linter.unusedVariables false
namespace Pq
open Go Go.RowKit
theorem little_of {x : Nat} (hx : x < bp 32) : (wd x 0 < 1073741824 ∧ ∀ j, j < 31 → wd x (1 + j) = 0) ↔ x < 1073741824 := by
  constructor
  · rintro ⟨h1, h2⟩
    have : x = lo x 1 := eq_of_wd hx (Nat.lt_of_lt_of_le (lo_lt x 1) (bp_mono (by decide))) fun i hi => by
      rcases Nat.lt_or_ge i 1 with h | h
      · rw [wd_lo h]
      · rw [wd_top (lo_lt x 1) h, show i = 1 + (i - 1) from by omega]; exact h2 _ (by omega)
    have h3 := lo_succ x 0
    rw [lo_zero, bp_zero, Nat.one_mul, Nat.zero_add, ← this] at h3
    omega
  · intro h
    have h1 : x < bp 1 := by rw [bp_one]; omega
    exact ⟨by rw [wd_small (by omega)]; exact h, fun j _ => wd_top h1 (by omega)⟩
theorem or_zero {a b : Nat} : (a ||| b = 0) ↔ (a = 0 ∧ b = 0) := by simp
theorem or_small {a b : Nat} (ha : a < 4294967296) (hb : b < 4294967296) : a ||| b < 4294967296 := Nat.or_lt_two_pow (n := 32) ha hb
end Pq
namespace Go.Proofs.Ytjijakfcahhioaa
open Go.RowKit
theorem cf_little (xs : Array Value) (w : World) : (callFunc 72 xs).run Try.prog w = .ok (.enter 72 xs) w := by kernel_rfl
theorem sl_tail (b o : Nat) (w : World) : (Instr.sliceAt 23 (.pointer (some ⟨b, o, none⟩)) (some (.int .i64 1)) none none).run Try.prog w = .ok (.slice (some ⟨b, o + 1, none⟩) 31 31) w := by kernel_rfl

set_option maxRecDepth 100000 in
set_option maxHeartbeats 1000000 in
theorem little_any (b o : Nat) (n : Bool) (x : Nat) (w : World) (hx : x < Pq.bp 32) (hb : w.rangeAt b o (Pq.wl n x)) :
    Calls Try.prog 72 #[.pointer (some ⟨b, o, none⟩)] w (Pq.Ret w (.tuple #[.int .i64 (Pq.zv n (Pq.wd x 0)), .bool (decide (x < 1073741824))])) := by
  have hc := Pq.range_cons hb
  have C0 := Lib.hid hc.1
  have HR := Lib.hid hc.2
  have HX := Lib.hid hx
  have hq := Pq.wd_lt x 0
  have c1 := HR.out 0 _ (Pq.am_get (x := x) (show 0 < 32 by decide))
  obtain ⟨q, hqq⟩ : ∃ q, q = Pq.wd x 0 := ⟨_, rfl⟩
  rw [← hqq] at hq c1
  rw [← hqq]
  have C1 := Lib.hid c1; have HQ := Lib.hid hqq
  clear hc hx hb c1 hqq
  obtain ⟨s0, hs0⟩ : ∃ s0, s0 = q / 1073741824 := ⟨_, rfl⟩
  have hsh : (q : Int) / 1073741824 = (s0 : Int) := by rw [hs0]; simp
  have hz0 : s0 = 0 ↔ q < 1073741824 := by omega
  have hs0l : s0 < 4294967296 := by omega
  have HZ0 := Lib.hid hz0
  obtain ⟨res, hres⟩ : ∃ res, res = decide (x < 1073741824) := ⟨_, rfl⟩
  rw [← hres]
  have HRES := Lib.hid hres
  clear hs0 hz0 hres
  go_enter Try.func72, Try.ntmps72
  go_upto_region 1 with fail
  go_upto_region 1 with fail
  apply wp_region_lit
  refine Pq.wpL_step (by rfl) ?_
  apply Exists.intro
  apply Exists.intro
  refine ⟨?_, ?_⟩
  · go_simp; first | done | with_reducible rfl | exact ⟨rfl, rfl⟩
  simp only [Act.put, List.setIfInBounds_toArray, List.set_cons_zero, List.set_cons_succ]
  refine Pq.wpL_step (by rfl) ?_
  apply Exists.intro
  apply Exists.intro
  refine ⟨?_, ?_⟩
  · go_simp; first | done | with_reducible rfl | exact ⟨rfl, rfl⟩
  simp only [Act.put, List.setIfInBounds_toArray, List.set_cons_zero, List.set_cons_succ]
  refine Pq.wpL_step (by rfl) ?_
  apply Exists.intro
  apply Exists.intro
  refine ⟨?_, ?_⟩
  · go_simp; first | done | with_reducible rfl | exact ⟨rfl, rfl⟩
  simp only [Act.put, List.setIfInBounds_toArray, List.set_cons_zero, List.set_cons_succ]
  refine Pq.wpL_step (by rfl) ?_
  apply Exists.intro
  apply Exists.intro
  refine ⟨?_, ?_⟩
  · go_simp; first | done | with_reducible rfl | exact ⟨rfl, rfl⟩
  simp only [Act.put, List.setIfInBounds_toArray, List.set_cons_zero, List.set_cons_succ]
  refine Pq.wpL_cell ⟨b, o + 1, none⟩ _ C1.out (by rfl) _ _ rfl rfl _ u_u32 rfl ?_
  simp only [Act.put, List.setIfInBounds_toArray, List.set_cons_zero, List.set_cons_succ]
  refine Pq.wpL_step (by rfl) ?_
  apply Exists.intro
  apply Exists.intro
  refine ⟨?_, ?_⟩
  · go_simp; first | done | with_reducible rfl | exact ⟨rfl, rfl⟩
  simp only [Act.put, List.setIfInBounds_toArray, List.set_cons_zero, List.set_cons_succ]
  refine Pq.wpL_step (by rfl) ?_
  apply Exists.intro
  apply Exists.intro
  refine ⟨?_, ?_⟩
  · go_simp; first | done | with_reducible rfl | exact ⟨rfl, rfl⟩
  simp only [Act.put, List.setIfInBounds_toArray, List.set_cons_zero, List.set_cons_succ]
  refine Pq.wpL_nil ?_
  go_upto_region 2 with fail
  go_upto_region 2 with fail
  apply wp_region_lit
  refine Pq.wpL_step (by rfl) ?_
  apply Exists.intro
  apply Exists.intro
  refine ⟨?_, ?_⟩
  · go_simp; first | done | with_reducible rfl | exact ⟨rfl, rfl⟩
  simp only [Act.put, List.setIfInBounds_toArray, List.set_cons_zero, List.set_cons_succ]
  refine Pq.wpL_step (by rfl) ?_
  apply Exists.intro
  apply Exists.intro
  refine ⟨?_, ?_⟩
  · go_simp; first | done | with_reducible rfl | exact ⟨rfl, rfl⟩
  simp only [Act.put, List.setIfInBounds_toArray, List.set_cons_zero, List.set_cons_succ]
  refine Pq.wpL_step (by rfl) ?_
  apply Exists.intro
  apply Exists.intro
  refine ⟨?_, ?_⟩
  · go_simp; first | done | with_reducible rfl | exact ⟨rfl, rfl⟩
  simp only [Act.put, List.setIfInBounds_toArray, List.set_cons_zero, List.set_cons_succ]
  refine Pq.wpL_slice _ (by rfl) _ _ _ _ rfl _ rfl _ none rfl rfl (sl_tail b (o + 1)) ?_
  simp only [Act.put, List.setIfInBounds_toArray, List.set_cons_zero, List.set_cons_succ]
  refine Pq.wpL_step (by rfl) ?_
  apply Exists.intro
  apply Exists.intro
  refine ⟨?_, ?_⟩
  · go_simp; first | done | with_reducible rfl | exact ⟨rfl, rfl⟩
  simp only [Act.put, List.setIfInBounds_toArray, List.set_cons_zero, List.set_cons_succ]
  refine Pq.wpL_step (by rfl) ?_
  apply Exists.intro
  apply Exists.intro
  refine ⟨?_, ?_⟩
  · go_simp; first | done | with_reducible rfl | exact ⟨rfl, rfl⟩
  simp only [Act.put, List.setIfInBounds_toArray, List.set_cons_zero, List.set_cons_succ]
  refine Pq.wpL_nil ?_
  clear hsh
  go_wp2
  go_loopw [4, 19] (fun rs ii wr => ∃ r k : Nat, rs = .int .u32 (r : Int) ∧ ii = .int .i64 k ∧ k ≤ 31 ∧ r < 4294967296 ∧ Hid (r = 0 ↔ (Pq.wd x 0 < 1073741824 ∧ ∀ j, j < k → Pq.wd x (1 + j) = 0)) ∧ Hid (wr = w)) (fun _ ii _ => 31 - (intOf ii).toNat)
  case atStart => exact ⟨s0, 0, rfl, rfl, by omega, hs0l, Lib.hid ⟨fun h => ⟨by rw [← HQ.out]; exact HZ0.out.1 h, fun j hj => absurd hj (by omega)⟩, fun h => HZ0.out.2 (by rw [HQ.out]; exact h.1)⟩, Lib.hid rfl⟩
  case round =>
    obtain ⟨r, k, rfl, rfl, hk, hrl, hiff, hw⟩ := hrel
    obtain rfl := hw.out
    clear hw
    by_cases hlt : k < 31
    · have hk2 : (k : Int) < 31 := by omega
      have c2 := HR.out (1 + k) _ (Pq.am_get (x := x) (show 1 + k < 32 by omega))
      have hvl := Pq.wd_lt x (1 + k)
      obtain ⟨v, hv⟩ : ∃ v, v = Pq.wd x (1 + k) := ⟨_, rfl⟩
      rw [← hv, show o + 1 + (1 + k) = o + 1 + 1 + k from by omega] at c2
      rw [← hv] at hvl
      have C2 := Lib.hid c2; have HV := Lib.hid hv
      obtain ⟨s, hs⟩ : ∃ s, s = r ||| v := ⟨_, rfl⟩
      have hor : bits .or .u32 (r : Int) (v : Int) = (s : Int) := by rw [u32_or_nat r v hrl hvl, hs]
      have hsl : s < 4294967296 := by rw [hs]; exact Pq.or_small hrl hvl
      have hsz : s = 0 ↔ (r = 0 ∧ v = 0) := by rw [hs]; exact Pq.or_zero
      have HSZ := Lib.hid hsz
      clear c2 hv hs hsz
      go_upto_region 4 with fail
      go_upto_region 4 with fail
      apply wp_region_lit
      refine Pq.wpL_step (by rfl) ?_
      apply Exists.intro
      apply Exists.intro
      refine ⟨?_, ?_⟩
      · go_simp; first | done | with_reducible rfl | exact ⟨rfl, rfl⟩
      simp only [Act.put, List.setIfInBounds_toArray, List.set_cons_zero, List.set_cons_succ]
      refine Pq.wpL_cell ⟨b, o + 1 + 1 + k, none⟩ _ C2.out (by rfl) _ _ rfl rfl _ u_u32 rfl ?_
      simp only [Act.put, List.setIfInBounds_toArray, List.set_cons_zero, List.set_cons_succ]
      refine Pq.wpL_step (by rfl) ?_
      apply Exists.intro
      apply Exists.intro
      refine ⟨?_, ?_⟩
      · go_simp; first | done | with_reducible rfl | exact ⟨rfl, rfl⟩
      simp only [Act.put, List.setIfInBounds_toArray, List.set_cons_zero, List.set_cons_succ]
      refine Pq.wpL_nil ?_
      go_upto_region 5 with fail
      go_upto_region 5 with fail
      apply wp_region_lit
      refine Pq.wpL_step (by rfl) ?_
      apply Exists.intro
      apply Exists.intro
      refine ⟨?_, ?_⟩
      · go_simp; first | done | with_reducible rfl | exact ⟨rfl, rfl⟩
      simp only [Act.put, List.setIfInBounds_toArray, List.set_cons_zero, List.set_cons_succ]
      refine Pq.wpL_step (by rfl) ?_
      apply Exists.intro
      apply Exists.intro
      refine ⟨?_, ?_⟩
      · go_simp; first | done | with_reducible rfl | exact ⟨rfl, rfl⟩
      simp only [Act.put, List.setIfInBounds_toArray, List.set_cons_zero, List.set_cons_succ]
      refine Pq.wpL_step (by rfl) ?_
      apply Exists.intro
      apply Exists.intro
      refine ⟨?_, ?_⟩
      · go_simp; first | done | with_reducible rfl | exact ⟨rfl, rfl⟩
      simp only [Act.put, List.setIfInBounds_toArray, List.set_cons_zero, List.set_cons_succ]
      refine Pq.wpL_step (by rfl) ?_
      apply Exists.intro
      apply Exists.intro
      refine ⟨?_, ?_⟩
      · go_simp; first | done | with_reducible rfl | exact ⟨rfl, rfl⟩
      simp only [Act.put, List.setIfInBounds_toArray, List.set_cons_zero, List.set_cons_succ]
      refine Pq.wpL_nil ?_
      clear hor
      go_wp2
      go_roundw
      case rel => exact ⟨s, k + 1, rfl, by go_num, by omega, hsl, Lib.hid ⟨fun h => by
          obtain ⟨h1, h2⟩ := HSZ.out.1 h
          obtain ⟨h3, h4⟩ := hiff.out.1 h1
          refine ⟨h3, fun j hj => ?_⟩
          rcases Nat.lt_or_ge j k with h5 | h5
          · exact h4 j h5
          · obtain rfl : j = k := by omega
            rw [← HV.out]; exact h2, fun h => HSZ.out.2 ⟨hiff.out.2 ⟨h.1, fun j hj => h.2 j (by omega)⟩, by rw [HV.out]; exact h.2 k (by omega)⟩⟩, (by first | exact Lib.hid rfl | exact Lib.hid trivial)⟩
      case measure => simp [intOf]; omega
    · obtain rfl : k = 31 := by omega
      have hfin : (r = 0) ↔ x < 1073741824 := hiff.out.trans (Pq.little_of HX.out)
      have hrr : ((r : Int) == 0) = res := by
        rw [HRES.out]
        by_cases h : r = 0
        · rw [decide_eq_true (hfin.1 h), h]; rfl
        · have h4 : ¬ (r : Int) = 0 := by omega
          rw [decide_eq_false (fun h2 => h (hfin.2 h2))]; simpa using h4
      have wq : IntKind.i64.wrap (q : Int) = (q : Int) := IntWalk.i64_in _ (by omega)
      have wn : IntKind.i64.wrap (-(q : Int)) = -(q : Int) := IntWalk.i64_in _ (by omega)
      clear hiff hfin hlt
      go_upto_region 7 with fail
      go_upto_region 7 with fail
      apply wp_region_lit
      refine Pq.wpL_step (by rfl) ?_
      apply Exists.intro
      apply Exists.intro
      refine ⟨?_, ?_⟩
      · go_simp; first | done | with_reducible rfl | exact ⟨rfl, rfl⟩
      simp only [Act.put, List.setIfInBounds_toArray, List.set_cons_zero, List.set_cons_succ]
      refine Pq.wpL_step (by rfl) ?_
      apply Exists.intro
      apply Exists.intro
      refine ⟨?_, ?_⟩
      · go_simp; first | done | with_reducible rfl | exact ⟨rfl, rfl⟩
      simp only [Act.put, List.setIfInBounds_toArray, List.set_cons_zero, List.set_cons_succ]
      refine Pq.wpL_step (by rfl) ?_
      apply Exists.intro
      apply Exists.intro
      refine ⟨?_, ?_⟩
      · go_simp; first | done | with_reducible rfl | exact ⟨rfl, rfl⟩
      simp only [Act.put, List.setIfInBounds_toArray, List.set_cons_zero, List.set_cons_succ]
      refine Pq.wpL_step (by rfl) ?_
      apply Exists.intro
      apply Exists.intro
      refine ⟨?_, ?_⟩
      · go_simp; first | done | with_reducible rfl | exact ⟨rfl, rfl⟩
      simp only [Act.put, List.setIfInBounds_toArray, List.set_cons_zero, List.set_cons_succ]
      refine Pq.wpL_cell ⟨b, o + 1, none⟩ _ C1.out (by rfl) _ _ rfl rfl _ u_u32 rfl ?_
      simp only [Act.put, List.setIfInBounds_toArray, List.set_cons_zero, List.set_cons_succ]
      refine Pq.wpL_step (by rfl) ?_
      apply Exists.intro
      apply Exists.intro
      refine ⟨?_, ?_⟩
      · go_simp; first | done | with_reducible rfl | exact ⟨rfl, rfl⟩
      simp only [Act.put, List.setIfInBounds_toArray, List.set_cons_zero, List.set_cons_succ]
      refine Pq.wpL_step (by rfl) ?_
      apply Exists.intro
      apply Exists.intro
      refine ⟨?_, ?_⟩
      · go_simp; first | done | with_reducible rfl | exact ⟨rfl, rfl⟩
      simp only [Act.put, List.setIfInBounds_toArray, List.set_cons_zero, List.set_cons_succ]
      refine Pq.wpL_nil ?_
      go_upto_region 8 with fail
      go_upto_region 8 with fail
      apply wp_region_lit
      refine Pq.wpL_step (by rfl) ?_
      apply Exists.intro
      apply Exists.intro
      refine ⟨?_, ?_⟩
      · go_simp; first | done | with_reducible rfl | exact ⟨rfl, rfl⟩
      simp only [Act.put, List.setIfInBounds_toArray, List.set_cons_zero, List.set_cons_succ]
      refine Pq.wpL_step (by rfl) ?_
      apply Exists.intro
      apply Exists.intro
      refine ⟨?_, ?_⟩
      · go_simp; first | done | with_reducible rfl | exact ⟨rfl, rfl⟩
      simp only [Act.put, List.setIfInBounds_toArray, List.set_cons_zero, List.set_cons_succ]
      refine Pq.wpL_step (by rfl) ?_
      apply Exists.intro
      apply Exists.intro
      refine ⟨?_, ?_⟩
      · go_simp; first | done | with_reducible rfl | exact ⟨rfl, rfl⟩
      simp only [Act.put, List.setIfInBounds_toArray, List.set_cons_zero, List.set_cons_succ]
      refine Pq.wpL_cell ⟨b, o, none⟩ _ C0.out (by rfl) _ _ rfl rfl _ u_bool rfl ?_
      simp only [Act.put, List.setIfInBounds_toArray, List.set_cons_zero, List.set_cons_succ]
      refine Pq.wpL_nil ?_
      cases n
      · go_wp2
        go_ret2
        exact ⟨rfl, Below.refl _ _⟩
      · go_wp2
        go_ret2
        exact ⟨rfl, Below.refl _ _⟩
end Go.Proofs.Ytjijakfcahhioaa
set_option linter.unusedSimpArgs false
set_option linter.unusedVariables false
namespace Go.Proofs.Ytjijakfcahhioaa
open Go.RowKit
theorem cf_common (xs : Array Value) (w : World) : (callFunc 66 xs).run Try.prog w = .ok (.enter 66 xs) w := by kernel_rfl

set_option maxRecDepth 100000 in
set_option maxHeartbeats 1000000 in
theorem common_any (a b : Int) (w : World) (h1 : -9223372036854775807 ≤ a) (h2 : a ≤ 9223372036854775807) (h3 : -9223372036854775807 ≤ b) (h4 : b ≤ 9223372036854775807) :
    Calls Try.prog 66 #[.int .i64 a, .int .i64 b] w (Pq.Ret w (.int .i64 ((Nat.gcd a.natAbs b.natAbs : Nat) : Int))) := by
  obtain ⟨G, hG⟩ : ∃ G, G = Nat.gcd a.natAbs b.natAbs := ⟨_, rfl⟩
  rw [← hG]
  have HG := Lib.hid hG; clear hG
  have wa : IntKind.i64.wrap (-a) = -a := IntWalk.i64_in _ (by omega)
  have wb : IntKind.i64.wrap (-b) = -b := IntWalk.i64_in _ (by omega)
  have ma : max a (-a) = (a.natAbs : Int) := by omega
  have mb : max b (-b) = (b.natAbs : Int) := by omega
  obtain ⟨A, hA⟩ : ∃ A, A = a.natAbs := ⟨_, rfl⟩
  obtain ⟨B, hB⟩ : ∃ B, B = b.natAbs := ⟨_, rfl⟩
  rw [← hA] at ma
  rw [← hB] at mb
  have hAl : A ≤ 9223372036854775807 := by omega
  have hBl : B ≤ 9223372036854775807 := by omega
  have HA := Lib.hid hA; have HB := Lib.hid hB
  clear hA hB h1 h2 h3 h4
  go_enter Try.func66, Try.ntmps66
  go_upto_region 1 with fail
  go_upto_region 1 with fail
  apply wp_region_lit
  refine Pq.wpL_step (by rfl) ?_
  apply Exists.intro
  apply Exists.intro
  refine ⟨?_, ?_⟩
  · go_simp; first | done | with_reducible rfl | exact ⟨rfl, rfl⟩
  simp only [Act.put, List.setIfInBounds_toArray, List.set_cons_zero, List.set_cons_succ]
  refine Pq.wpL_step (by rfl) ?_
  apply Exists.intro
  apply Exists.intro
  refine ⟨?_, ?_⟩
  · go_simp; first | done | with_reducible rfl | exact ⟨rfl, rfl⟩
  simp only [Act.put, List.setIfInBounds_toArray, List.set_cons_zero, List.set_cons_succ]
  refine Pq.wpL_step (by rfl) ?_
  apply Exists.intro
  apply Exists.intro
  refine ⟨?_, ?_⟩
  · go_simp; first | done | with_reducible rfl | exact ⟨rfl, rfl⟩
  simp only [Act.put, List.setIfInBounds_toArray, List.set_cons_zero, List.set_cons_succ]
  refine Pq.wpL_step (by rfl) ?_
  apply Exists.intro
  apply Exists.intro
  refine ⟨?_, ?_⟩
  · go_simp; first | done | with_reducible rfl | exact ⟨rfl, rfl⟩
  simp only [Act.put, List.setIfInBounds_toArray, List.set_cons_zero, List.set_cons_succ]
  refine Pq.wpL_step (by rfl) ?_
  apply Exists.intro
  apply Exists.intro
  refine ⟨?_, ?_⟩
  · go_simp; first | done | with_reducible rfl | exact ⟨rfl, rfl⟩
  simp only [Act.put, List.setIfInBounds_toArray, List.set_cons_zero, List.set_cons_succ]
  refine Pq.wpL_step (by rfl) ?_
  apply Exists.intro
  apply Exists.intro
  refine ⟨?_, ?_⟩
  · go_simp; first | done | with_reducible rfl | exact ⟨rfl, rfl⟩
  simp only [Act.put, List.setIfInBounds_toArray, List.set_cons_zero, List.set_cons_succ]
  refine Pq.wpL_step (by rfl) ?_
  apply Exists.intro
  apply Exists.intro
  refine ⟨?_, ?_⟩
  · go_simp; first | done | with_reducible rfl | exact ⟨rfl, rfl⟩
  simp only [Act.put, List.setIfInBounds_toArray, List.set_cons_zero, List.set_cons_succ]
  refine Pq.wpL_step (by rfl) ?_
  apply Exists.intro
  apply Exists.intro
  refine ⟨?_, ?_⟩
  · go_simp; first | done | with_reducible rfl | exact ⟨rfl, rfl⟩
  simp only [Act.put, List.setIfInBounds_toArray, List.set_cons_zero, List.set_cons_succ]
  refine Pq.wpL_step (by rfl) ?_
  apply Exists.intro
  apply Exists.intro
  refine ⟨?_, ?_⟩
  · go_simp; first | done | with_reducible rfl | exact ⟨rfl, rfl⟩
  simp only [Act.put, List.setIfInBounds_toArray, List.set_cons_zero, List.set_cons_succ]
  refine Pq.wpL_step (by rfl) ?_
  apply Exists.intro
  apply Exists.intro
  refine ⟨?_, ?_⟩
  · go_simp; first | done | with_reducible rfl | exact ⟨rfl, rfl⟩
  simp only [Act.put, List.setIfInBounds_toArray, List.set_cons_zero, List.set_cons_succ]
  refine Pq.wpL_nil ?_
  clear wa wb ma mb
  go_wp2
  go_loopw [0, 1] (fun aa bb wr => ∃ p q : Nat, aa = .int .i64 (p : Int) ∧ bb = .int .i64 (q : Int) ∧ Hid (p ≤ 9223372036854775807) ∧ Hid (q ≤ 9223372036854775807) ∧ Hid (Nat.gcd p q = G) ∧ Hid (Below w.heap.size w wr)) (fun _ bb _ => (intOf bb).toNat)
  case atStart => exact ⟨A, B, rfl, rfl, Lib.hid hAl, Lib.hid hBl, Lib.hid (by rw [HG.out, HA.out, HB.out]), Lib.hid (Below.refl _ _)⟩
  case round =>
    obtain ⟨p, q, rfl, rfl, hp, hq, hgc, hb6⟩ := hrel
    by_cases hq0 : q = 0
    · have hgp : p = G := by have := hgc.out; rw [hq0, Nat.gcd_zero_right] at this; exact this
      subst hq0
      subst hgp
      go_wp2
      go_ret
      exact ⟨rfl, hb6.out⟩
    · have hqb : ((q : Int) == 0) = false := (by have h4 : ¬ (q : Int) = 0 := (by omega); simpa using h4)
      have e2 : (p : Int) % (q : Int) = ((p % q : Nat) : Int) := by simp
      obtain ⟨r, hr⟩ : ∃ r, r = p % q := ⟨_, rfl⟩
      rw [← hr] at e2
      have w7 : (p : Int).tmod (q : Int) = (p : Int) % (q : Int) := Int.tmod_eq_emod_of_nonneg (by omega)
      have hrl : r < q := by rw [hr]; exact Nat.mod_lt _ (Nat.pos_of_ne_zero hq0)
      have hql := hq.out
      have w3 : IntKind.i64.wrap (r : Int) = (r : Int) := IntWalk.i64_in _ (by omega)
      have HRE := Lib.hid hr
      clear hr hql
      go_upto_region 3 with fail
      refine Pq.wp_region_grown none [(0, true), (1, true), (2, true), (3, true), (4, true), (5, true)] (by kernel_rfl) (by kernel_rfl) (fun _ _ d _ _ h => by cases d <;> exact h) (fun hS => ?_)
      simp only [Pq.pick, List.filterMap_cons, List.filterMap_nil, List.getElem?_cons_zero, List.getElem?_cons_succ, Option.map_some]
      refine Pq.wpO_step (by rfl) ?_
      apply Exists.intro
      refine ⟨fun w' hw' => ?_, ?_⟩
      · go_simp; first | done | with_reducible rfl | exact ⟨rfl, rfl⟩
      simp only [Act.put, List.setIfInBounds_toArray, List.set_cons_zero, List.set_cons_succ]
      refine Pq.wpO_step (by rfl) ?_
      apply Exists.intro
      refine ⟨fun w' hw' => ?_, ?_⟩
      · go_simp; first | done | with_reducible rfl | exact ⟨rfl, rfl⟩
      simp only [Act.put, List.setIfInBounds_toArray, List.set_cons_zero, List.set_cons_succ]
      refine Pq.wpO_step (by rfl) ?_
      apply Exists.intro
      refine ⟨fun w' hw' => ?_, ?_⟩
      · go_simp; first | done | with_reducible rfl | exact ⟨rfl, rfl⟩
      simp only [Act.put, List.setIfInBounds_toArray, List.set_cons_zero, List.set_cons_succ]
      refine Pq.wpO_step (by rfl) ?_
      apply Exists.intro
      refine ⟨fun w' hw' => ?_, ?_⟩
      · go_simp; first | done | with_reducible rfl | exact ⟨rfl, rfl⟩
      simp only [Act.put, List.setIfInBounds_toArray, List.set_cons_zero, List.set_cons_succ]
      refine Pq.wpO_step (by rfl) ?_
      apply Exists.intro
      refine ⟨fun w' hw' => ?_, ?_⟩
      · go_simp; first | done | with_reducible rfl | exact ⟨rfl, rfl⟩
      simp only [Act.put, List.setIfInBounds_toArray, List.set_cons_zero, List.set_cons_succ]
      refine Pq.wpO_step (by rfl) ?_
      apply Exists.intro
      refine ⟨fun w' hw' => ?_, ?_⟩
      · go_simp; first | done | with_reducible rfl | exact ⟨rfl, rfl⟩
      simp only [Act.put, List.setIfInBounds_toArray, List.set_cons_zero, List.set_cons_succ]
      refine Pq.wpO_nil ?_
      clear e2 w7 w3 hqb
      go_wp2
      go_roundw
      case rel => exact ⟨q, r, rfl, rfl, hq, Lib.hid (Nat.le_trans (Nat.le_of_lt hrl) hq.out), Lib.hid (by rw [HRE.out]; exact (Pq.gcd_step p q).trans hgc.out), Lib.hid (Pq.below_drew hb6.out)⟩
      case measure => simp [intOf]; omega
end Go.Proofs.Ytjijakfcahhioaa
set_option linter.unusedSimpArgs false
set_option linter.unusedVariables false
namespace Pq
open Go Go.RowKit
theorem i64_and_nat (a b : Nat) (ha : a < 9223372036854775808) (hb : b < 18446744073709551616) : bits .and .i64 (a : Int) (b : Int) = ((a &&& b : Nat) : Int) := by
  have hx : a &&& b ≤ a := Nat.and_le_left
  show IntKind.i64.wrap ((BitVec.ofInt 64 (a : Int) &&& BitVec.ofInt 64 (b : Int)).toNat : Int) = _
  rw [BitVec.toNat_and, ofInt_u64 a (by omega), ofInt_u64 b hb]
  generalize a &&& b = c at *
  exact IntWalk.i64_in _ (by omega)
theorem and_lo_i {t : Nat} (ht : t < 9223372036854775808) : bits .and .i64 (t : Int) 4294967295 = ((t % 4294967296 : Nat) : Int) := by
  have e : (4294967295 : Int) = ((4294967295 : Nat) : Int) := rfl
  rw [e, i64_and_nat _ _ ht (by decide)]
  congr 1
  have := Nat.and_two_pow_sub_one_eq_mod t 32
  simpa using this
theorem wl_put2 (s : Bool) {a b : Nat} (ha : a < 4294967296) (hb : b < 4294967296) : (((wl s 0).set 1 (.int .u32 (a : Int))).set 2 (.int .u32 (b : Int))).toArray = wc s (a + bp 1 * b) := by
  show (Value.bool s :: (((am 32 0).set 0 (.int .u32 (a : Int))).set 1 (.int .u32 (b : Int)))).toArray = (Value.bool s :: am 32 (a + bp 1 * b)).toArray
  rw [am_set ha (by decide), am_set hb (by decide), st_zero (show 0 < bp 0 from bp_pos 0), bp_zero, Nat.one_mul, Nat.zero_add, st_zero (by rw [bp_one]; exact ha)]
theorem wl_neg : ((wl false 0).set 0 (.bool true)).toArray = wc true 0 := rfl
end Pq
namespace Go.Proofs.Ytjijakfcahhioaa
open Go.RowKit
theorem cf_wideof (xs : Array Value) (w : World) : (callFunc 67 xs).run Try.prog w = .ok (.enter 67 xs) w := by kernel_rfl

set_option maxRecDepth 100000 in
set_option maxHeartbeats 1000000 in
theorem wideof_any (z : Int) (w : World) (h1 : -9223372036854775807 ≤ z) (h2 : z ≤ 9223372036854775807) :
    Calls Try.prog 67 #[.int .i64 z] w (Pq.Ret w (.agg (Pq.wz z))) := by
  obtain ⟨g, hg⟩ : ∃ g, g = w.heap.size := ⟨_, rfl⟩
  have HG := Lib.hid hg; clear hg
  obtain ⟨res, hr⟩ : ∃ res, res = Pq.wz z := ⟨_, rfl⟩
  rw [← hr]
  rcases Int.lt_or_le z 0 with hz | hz
  · obtain ⟨p, hp⟩ : ∃ p : Nat, (p : Int) = -z := ⟨(-z).toNat, by omega⟩
    have wz2 : IntKind.i64.wrap (-z) = (p : Int) := by rw [← hp]; exact IntWalk.i64_in _ (by omega)
    have hpl : p < 9223372036854775808 := by omega
    have hd : decide (z < 0) = true := by simpa using hz
    have hres : res = Pq.wc true p := by rw [hr]; unfold Pq.wz; rw [hd, show z.natAbs = p from by omega]
    have HRES := Lib.hid hres
    clear hp hres hr h1 h2
    go_enter Try.func67, Try.ntmps67
    go_upto_region 0 with fail
    go_upto_region 0 with fail
    apply wp_region_lit
    refine Pq.wpL_alloc g HG.out.symm (by rfl) _ rfl (Pq.wc false 0) al_wide ?_
    simp only [Act.put, List.setIfInBounds_toArray, List.set_cons_zero, List.set_cons_succ]
    refine Pq.wpL_nil ?_
    go_upto_region 1 with fail
    go_upto_region 1 with fail
    apply wp_region_lit
    refine Pq.wpL_alloc (g + 1) (by simp [HG.out]) (by rfl) _ rfl (Pq.wc false 0) al_wide ?_
    simp only [Act.put, List.setIfInBounds_toArray, List.set_cons_zero, List.set_cons_succ]
    refine Pq.wpL_nil ?_
    have hv0 := Pq.al_block (w.alloc (.cells (Pq.wc false 0) 25)) (.cells (Pq.wc false 0) 25) (g + 1) (by simp [HG.out])
    go_upto_region 3 with fail
    go_upto_region 3 with fail
    apply wp_region_lit
    refine Pq.wpL_step (by rfl) ?_
    apply Exists.intro
    apply Exists.intro
    refine ⟨?_, ?_⟩
    · go_simp; first | done | with_reducible rfl | exact ⟨rfl, rfl⟩
    simp only [Act.put, List.setIfInBounds_toArray, List.set_cons_zero, List.set_cons_succ]
    refine Pq.wpL_put (l := Pq.wl false 0) (k := 0) (.bool true) hv0 (by rw [Pq.wl_length]; decide) (by rfl) 4 _ _ rfl rfl rfl rfl rfl (by kernel_rfl) ?_
    try simp only [Act.put, List.setIfInBounds_toArray, List.set_cons_zero, List.set_cons_succ]
    refine Pq.wpL_nil ?_
    rw [Pq.wl_neg]
    have HV := Lib.hid (Pq.setRow_at (cs := Pq.wc true 0) hv0)
    have HG0 := Lib.hid (Pq.keep_row (cs := Pq.wc true 0) (g2 := g + 1) (Pq.al_keep (Pq.al_block w (.cells (Pq.wc false 0) 25) g HG.out) (.cells (Pq.wc false 0) 25)) (by omega))
    have HB := Lib.hid (Pq.below_setRow (cs := Pq.wc true 0) (g := g + 1) (Pq.below_alloc (Pq.below_alloc (Below.refl _ w) (Nat.le_refl _) (.cells (Pq.wc false 0) 25)) (Nat.le_refl _) (.cells (Pq.wc false 0) 25)) (by rw [← HG.out]; omega))
    clear hv0
    generalize ((w.alloc (.cells (Pq.wc false 0) 25)).alloc (.cells (Pq.wc false 0) 25)).setRow (g + 1) (Pq.wc true 0) = w0 at *
    go_upto_region 4 with fail
    go_upto_region 4 with fail
    apply wp_region_lit
    refine Pq.wpL_step (by rfl) ?_
    apply Exists.intro
    apply Exists.intro
    refine ⟨?_, ?_⟩
    · go_simp; first | done | with_reducible rfl | exact ⟨rfl, rfl⟩
    simp only [Act.put, List.setIfInBounds_toArray, List.set_cons_zero, List.set_cons_succ]
    refine Pq.wpL_step (by rfl) ?_
    apply Exists.intro
    apply Exists.intro
    refine ⟨?_, ?_⟩
    · go_simp; first | done | with_reducible rfl | exact ⟨rfl, rfl⟩
    simp only [Act.put, List.setIfInBounds_toArray, List.set_cons_zero, List.set_cons_succ]
    refine Pq.wpL_step (by rfl) ?_
    apply Exists.intro
    apply Exists.intro
    refine ⟨?_, ?_⟩
    · go_simp; first | done | with_reducible rfl | exact ⟨rfl, rfl⟩
    simp only [Act.put, List.setIfInBounds_toArray, List.set_cons_zero, List.set_cons_succ]
    refine Pq.wpL_nil ?_
    obtain ⟨lo, hlo⟩ : ∃ lo, lo = p % 4294967296 := ⟨_, rfl⟩
    obtain ⟨hi, hhi⟩ : ∃ hi, hi = p / 4294967296 := ⟨_, rfl⟩
    have hand : bits .and .i64 (p : Int) 4294967295 = (lo : Int) := by rw [Pq.and_lo_i (by omega), hlo]
    have hsh : (p : Int) / 4294967296 = (hi : Int) := by rw [hhi]; simp
    have hll : lo < 4294967296 := by omega
    have hhl : hi < 4294967296 := by omega
    have hsum : lo + Pq.bp 1 * hi = p := by rw [Pq.bp_one]; omega
    have wl1 : IntKind.u32.wrap (lo : Int) = (lo : Int) := IntWalk.u32_in _ (by omega)
    have wh1 : IntKind.u32.wrap (hi : Int) = (hi : Int) := IntWalk.u32_in _ (by omega)
    have HSUM := Lib.hid hsum
    clear hsum hlo hhi
    go_upto_region 5 with fail
    go_upto_region 5 with fail
    apply wp_region_lit
    refine Pq.wpL_step (by rfl) ?_
    apply Exists.intro
    apply Exists.intro
    refine ⟨?_, ?_⟩
    · go_simp; first | done | with_reducible rfl | exact ⟨rfl, rfl⟩
    simp only [Act.put, List.setIfInBounds_toArray, List.set_cons_zero, List.set_cons_succ]
    refine Pq.wpL_step (by rfl) ?_
    apply Exists.intro
    apply Exists.intro
    refine ⟨?_, ?_⟩
    · go_simp; first | done | with_reducible rfl | exact ⟨rfl, rfl⟩
    simp only [Act.put, List.setIfInBounds_toArray, List.set_cons_zero, List.set_cons_succ]
    refine Pq.wpL_step (by rfl) ?_
    apply Exists.intro
    apply Exists.intro
    refine ⟨?_, ?_⟩
    · go_simp; first | done | with_reducible rfl | exact ⟨rfl, rfl⟩
    simp only [Act.put, List.setIfInBounds_toArray, List.set_cons_zero, List.set_cons_succ]
    refine Pq.wpL_step (by rfl) ?_
    apply Exists.intro
    apply Exists.intro
    refine ⟨?_, ?_⟩
    · go_simp; first | done | with_reducible rfl | exact ⟨rfl, rfl⟩
    simp only [Act.put, List.setIfInBounds_toArray, List.set_cons_zero, List.set_cons_succ]
    refine Pq.wpL_step (by rfl) ?_
    apply Exists.intro
    apply Exists.intro
    refine ⟨?_, ?_⟩
    · go_simp; first | done | with_reducible rfl | exact ⟨rfl, rfl⟩
    simp only [Act.put, List.setIfInBounds_toArray, List.set_cons_zero, List.set_cons_succ]
    refine Pq.wpL_step (by rfl) ?_
    apply Exists.intro
    apply Exists.intro
    refine ⟨?_, ?_⟩
    · go_simp; first | done | with_reducible rfl | exact ⟨rfl, rfl⟩
    simp only [Act.put, List.setIfInBounds_toArray, List.set_cons_zero, List.set_cons_succ]
    refine Pq.wpL_step (by rfl) ?_
    apply Exists.intro
    apply Exists.intro
    refine ⟨?_, ?_⟩
    · go_simp; first | done | with_reducible rfl | exact ⟨rfl, rfl⟩
    simp only [Act.put, List.setIfInBounds_toArray, List.set_cons_zero, List.set_cons_succ]
    refine Pq.wpL_step (by rfl) ?_
    apply Exists.intro
    apply Exists.intro
    refine ⟨?_, ?_⟩
    · go_simp; first | done | with_reducible rfl | exact ⟨rfl, rfl⟩
    simp only [Act.put, List.setIfInBounds_toArray, List.set_cons_zero, List.set_cons_succ]
    refine Pq.wpL_put (l := Pq.wl true 0) (k := 1) (.int .u32 (lo : Int)) HV.out (by rw [Pq.wl_length]; decide) (by rfl) 22 _ _ rfl rfl rfl rfl rfl (by kernel_rfl) ?_
    try simp only [Act.put, List.setIfInBounds_toArray, List.set_cons_zero, List.set_cons_succ]
    refine Pq.wpL_step (by rfl) ?_
    apply Exists.intro
    apply Exists.intro
    refine ⟨?_, ?_⟩
    · go_simp; first | done | with_reducible rfl | exact ⟨rfl, rfl⟩
    simp only [Act.put, List.setIfInBounds_toArray, List.set_cons_zero, List.set_cons_succ]
    refine Pq.wpL_step (by rfl) ?_
    apply Exists.intro
    apply Exists.intro
    refine ⟨?_, ?_⟩
    · go_simp; first | done | with_reducible rfl | exact ⟨rfl, rfl⟩
    simp only [Act.put, List.setIfInBounds_toArray, List.set_cons_zero, List.set_cons_succ]
    refine Pq.wpL_put (l := (Pq.wl true 0).set 1 (.int .u32 (lo : Int))) (k := 2) (.int .u32 (hi : Int)) (Pq.setRow_at HV.out) (by rw [List.length_set, Pq.wl_length]; decide) (by rfl) 22 _ _ rfl rfl rfl rfl rfl (by kernel_rfl) ?_
    try simp only [Act.put, List.setIfInBounds_toArray, List.set_cons_zero, List.set_cons_succ]
    refine Pq.wpL_nil ?_
    rw [Pq.wl_put2 true hll hhl, HSUM.out]
    have hv9 := Pq.setRow_at (cs := Pq.wc true p) (Pq.setRow_at (cs := ((Pq.wl true 0).set 1 (.int .u32 (lo : Int))).toArray) HV.out)
    have hg9 := Pq.keep_row (cs := Pq.wc true p) (g2 := g + 1) (Pq.keep_row (cs := ((Pq.wl true 0).set 1 (.int .u32 (lo : Int))).toArray) (g2 := g + 1) HG0.out (by omega)) (by omega)
    have hb9 := Pq.below_setRow (cs := Pq.wc true p) (g := g + 1) (Pq.below_setRow (cs := ((Pq.wl true 0).set 1 (.int .u32 (lo : Int))).toArray) (g := g + 1) HB.out (by rw [← HG.out]; omega)) (by rw [← HG.out]; omega)
    have HV9 := Lib.hid hv9; have HG9 := Lib.hid hg9; have HB9 := Lib.hid hb9
    clear hv9 hg9 hb9 HV HG0 HB
    go_upto_region 6 with fail
    go_upto_region 6 with fail
    apply wp_region_lit
    refine Pq.wpL_load (g + 1) 0 (Pq.wl true p) (Pq.range_wide HV9.out) (by rfl) _ _ rfl rfl _ u_wide rfl (s_wide _ _) ?_
    simp only [Act.put, List.setIfInBounds_toArray, List.set_cons_zero, List.set_cons_succ]
    refine Pq.wpL_store (by rfl) 25 _ _ rfl g (Pq.wc _ _) rfl rfl 25 (Pq.wc _ _) HG9.out (s_widea _ _) (by simp only [Pq.wc_size]) (Pq.wc_one _ _) ?_
    try simp only [Act.put, List.setIfInBounds_toArray, List.set_cons_zero, List.set_cons_succ]
    refine Pq.wpL_nil ?_
    go_wp2
    refine Pq.ret_cell rfl g _ _ _ _ rfl (Pq.setRow_at HG9.out) u_wide rfl (s_widea _ _) rfl ⟨by rw [HRES.out], Pq.below_setRow HB9.out (by rw [HG.out]; exact Nat.le_refl _)⟩
  · obtain ⟨p, hp⟩ : ∃ p : Nat, z = (p : Int) := ⟨z.toNat, by omega⟩
    subst hp
    have hpl : p < 9223372036854775808 := by omega
    have hd : decide ((p : Int) < 0) = false := by simp
    have hres : res = Pq.wc false p := by rw [hr]; rfl
    have HRES := Lib.hid hres
    clear hres hr h1 h2
    go_enter Try.func67, Try.ntmps67
    go_upto_region 0 with fail
    go_upto_region 0 with fail
    apply wp_region_lit
    refine Pq.wpL_alloc g HG.out.symm (by rfl) _ rfl (Pq.wc false 0) al_wide ?_
    simp only [Act.put, List.setIfInBounds_toArray, List.set_cons_zero, List.set_cons_succ]
    refine Pq.wpL_nil ?_
    go_upto_region 1 with fail
    go_upto_region 1 with fail
    apply wp_region_lit
    refine Pq.wpL_alloc (g + 1) (by simp [HG.out]) (by rfl) _ rfl (Pq.wc false 0) al_wide ?_
    simp only [Act.put, List.setIfInBounds_toArray, List.set_cons_zero, List.set_cons_succ]
    refine Pq.wpL_nil ?_
    have HV := Lib.hid (Pq.al_block (w.alloc (.cells (Pq.wc false 0) 25)) (.cells (Pq.wc false 0) 25) (g + 1) (by simp [HG.out]))
    have HG0 := Lib.hid (Pq.al_keep (Pq.al_block w (.cells (Pq.wc false 0) 25) g HG.out) (.cells (Pq.wc false 0) 25))
    have HB := Lib.hid (Pq.below_alloc (Pq.below_alloc (Below.refl _ w) (Nat.le_refl _) (.cells (Pq.wc false 0) 25)) (Nat.le_refl _) (.cells (Pq.wc false 0) 25))
    generalize (w.alloc (.cells (Pq.wc false 0) 25)).alloc (.cells (Pq.wc false 0) 25) = w0 at *
    obtain ⟨lo, hlo⟩ : ∃ lo, lo = p % 4294967296 := ⟨_, rfl⟩
    obtain ⟨hi, hhi⟩ : ∃ hi, hi = p / 4294967296 := ⟨_, rfl⟩
    have hand : bits .and .i64 (p : Int) 4294967295 = (lo : Int) := by rw [Pq.and_lo_i (by omega), hlo]
    have hsh : (p : Int) / 4294967296 = (hi : Int) := by rw [hhi]; simp
    have hll : lo < 4294967296 := by omega
    have hhl : hi < 4294967296 := by omega
    have hsum : lo + Pq.bp 1 * hi = p := by rw [Pq.bp_one]; omega
    have wl1 : IntKind.u32.wrap (lo : Int) = (lo : Int) := IntWalk.u32_in _ (by omega)
    have wh1 : IntKind.u32.wrap (hi : Int) = (hi : Int) := IntWalk.u32_in _ (by omega)
    have HSUM := Lib.hid hsum
    clear hsum hlo hhi
    go_upto_region 5 with fail
    go_upto_region 5 with fail
    apply wp_region_lit
    refine Pq.wpL_step (by rfl) ?_
    apply Exists.intro
    apply Exists.intro
    refine ⟨?_, ?_⟩
    · go_simp; first | done | with_reducible rfl | exact ⟨rfl, rfl⟩
    simp only [Act.put, List.setIfInBounds_toArray, List.set_cons_zero, List.set_cons_succ]
    refine Pq.wpL_step (by rfl) ?_
    apply Exists.intro
    apply Exists.intro
    refine ⟨?_, ?_⟩
    · go_simp; first | done | with_reducible rfl | exact ⟨rfl, rfl⟩
    simp only [Act.put, List.setIfInBounds_toArray, List.set_cons_zero, List.set_cons_succ]
    refine Pq.wpL_step (by rfl) ?_
    apply Exists.intro
    apply Exists.intro
    refine ⟨?_, ?_⟩
    · go_simp; first | done | with_reducible rfl | exact ⟨rfl, rfl⟩
    simp only [Act.put, List.setIfInBounds_toArray, List.set_cons_zero, List.set_cons_succ]
    refine Pq.wpL_step (by rfl) ?_
    apply Exists.intro
    apply Exists.intro
    refine ⟨?_, ?_⟩
    · go_simp; first | done | with_reducible rfl | exact ⟨rfl, rfl⟩
    simp only [Act.put, List.setIfInBounds_toArray, List.set_cons_zero, List.set_cons_succ]
    refine Pq.wpL_step (by rfl) ?_
    apply Exists.intro
    apply Exists.intro
    refine ⟨?_, ?_⟩
    · go_simp; first | done | with_reducible rfl | exact ⟨rfl, rfl⟩
    simp only [Act.put, List.setIfInBounds_toArray, List.set_cons_zero, List.set_cons_succ]
    refine Pq.wpL_step (by rfl) ?_
    apply Exists.intro
    apply Exists.intro
    refine ⟨?_, ?_⟩
    · go_simp; first | done | with_reducible rfl | exact ⟨rfl, rfl⟩
    simp only [Act.put, List.setIfInBounds_toArray, List.set_cons_zero, List.set_cons_succ]
    refine Pq.wpL_step (by rfl) ?_
    apply Exists.intro
    apply Exists.intro
    refine ⟨?_, ?_⟩
    · go_simp; first | done | with_reducible rfl | exact ⟨rfl, rfl⟩
    simp only [Act.put, List.setIfInBounds_toArray, List.set_cons_zero, List.set_cons_succ]
    refine Pq.wpL_step (by rfl) ?_
    apply Exists.intro
    apply Exists.intro
    refine ⟨?_, ?_⟩
    · go_simp; first | done | with_reducible rfl | exact ⟨rfl, rfl⟩
    simp only [Act.put, List.setIfInBounds_toArray, List.set_cons_zero, List.set_cons_succ]
    refine Pq.wpL_put (l := Pq.wl false 0) (k := 1) (.int .u32 (lo : Int)) HV.out (by rw [Pq.wl_length]; decide) (by rfl) 22 _ _ rfl rfl rfl rfl rfl (by kernel_rfl) ?_
    try simp only [Act.put, List.setIfInBounds_toArray, List.set_cons_zero, List.set_cons_succ]
    refine Pq.wpL_step (by rfl) ?_
    apply Exists.intro
    apply Exists.intro
    refine ⟨?_, ?_⟩
    · go_simp; first | done | with_reducible rfl | exact ⟨rfl, rfl⟩
    simp only [Act.put, List.setIfInBounds_toArray, List.set_cons_zero, List.set_cons_succ]
    refine Pq.wpL_step (by rfl) ?_
    apply Exists.intro
    apply Exists.intro
    refine ⟨?_, ?_⟩
    · go_simp; first | done | with_reducible rfl | exact ⟨rfl, rfl⟩
    simp only [Act.put, List.setIfInBounds_toArray, List.set_cons_zero, List.set_cons_succ]
    refine Pq.wpL_put (l := (Pq.wl false 0).set 1 (.int .u32 (lo : Int))) (k := 2) (.int .u32 (hi : Int)) (Pq.setRow_at HV.out) (by rw [List.length_set, Pq.wl_length]; decide) (by rfl) 22 _ _ rfl rfl rfl rfl rfl (by kernel_rfl) ?_
    try simp only [Act.put, List.setIfInBounds_toArray, List.set_cons_zero, List.set_cons_succ]
    refine Pq.wpL_nil ?_
    rw [Pq.wl_put2 false hll hhl, HSUM.out]
    have hv9 := Pq.setRow_at (cs := Pq.wc false p) (Pq.setRow_at (cs := ((Pq.wl false 0).set 1 (.int .u32 (lo : Int))).toArray) HV.out)
    have hg9 := Pq.keep_row (cs := Pq.wc false p) (g2 := g + 1) (Pq.keep_row (cs := ((Pq.wl false 0).set 1 (.int .u32 (lo : Int))).toArray) (g2 := g + 1) HG0.out (by omega)) (by omega)
    have hb9 := Pq.below_setRow (cs := Pq.wc false p) (g := g + 1) (Pq.below_setRow (cs := ((Pq.wl false 0).set 1 (.int .u32 (lo : Int))).toArray) (g := g + 1) HB.out (by rw [← HG.out]; omega)) (by rw [← HG.out]; omega)
    have HV9 := Lib.hid hv9; have HG9 := Lib.hid hg9; have HB9 := Lib.hid hb9
    clear hv9 hg9 hb9 HV HG0 HB
    go_upto_region 6 with fail
    go_upto_region 6 with fail
    apply wp_region_lit
    refine Pq.wpL_load (g + 1) 0 (Pq.wl false p) (Pq.range_wide HV9.out) (by rfl) _ _ rfl rfl _ u_wide rfl (s_wide _ _) ?_
    simp only [Act.put, List.setIfInBounds_toArray, List.set_cons_zero, List.set_cons_succ]
    refine Pq.wpL_store (by rfl) 25 _ _ rfl g (Pq.wc _ _) rfl rfl 25 (Pq.wc _ _) HG9.out (s_widea _ _) (by simp only [Pq.wc_size]) (Pq.wc_one _ _) ?_
    try simp only [Act.put, List.setIfInBounds_toArray, List.set_cons_zero, List.set_cons_succ]
    refine Pq.wpL_nil ?_
    go_wp2
    refine Pq.ret_cell rfl g _ _ _ _ rfl (Pq.setRow_at HG9.out) u_wide rfl (s_widea _ _) rfl ⟨by rw [HRES.out], Pq.below_setRow HB9.out (by rw [HG.out]; exact Nat.le_refl _)⟩
end Go.Proofs.Ytjijakfcahhioaa
set_option linter.unusedSimpArgs false
set_option linter.unusedVariables false
namespace Pq
open Go Go.RowKit
/-- a fraction's cells: the number above, the number below -/
def fl (n : Bool) (x : Nat) (m : Bool) (y : Nat) : List Value := wl n x ++ wl m y
def fc (n : Bool) (x : Nat) (m : Bool) (y : Nat) : Array Value := (fl n x m y).toArray
theorem fl_length (n : Bool) (x : Nat) (m : Bool) (y : Nat) : (fl n x m y).length = 66 := by simp [fl, wl_length]
theorem fc_size (n : Bool) (x : Nat) (m : Bool) (y : Nat) : (fc n x m y).size = 66 := by simp [fc, fl_length]
theorem fc_one (n : Bool) (x : Nat) (m : Bool) (y : Nat) : (fc n x m y).all (·.oneCell') = true := by
  have h1 := wc_one n x
  have h2 := wc_one m y
  simp only [wc, List.all_toArray] at h1 h2
  simp only [fc, fl, List.all_toArray, List.all_append, h1, h2, Bool.and_self]
/-- a rational's cells -/
def rc (r : Rat) : Array Value := fc (decide (r.num < 0)) r.num.natAbs false r.den
/-- the parts of a fraction in memory -/
theorem range_frac {w : World} {b o : Nat} {n : Bool} {x : Nat} {m : Bool} {y : Nat} (h : w.rangeAt b o (fl n x m y)) : w.rangeAt b o (wl n x) ∧ w.rangeAt b (o + 33) (wl m y) := by
  have := range_app h
  rw [wl_length] at this
  exact this
end Pq
namespace Go.Proofs.Ytjijakfcahhioaa
open Go.RowKit
theorem u_rat : Try.prog.underlying 27 = some (.struct ((match Try.prog.underlying 27 with | some (.struct fs) => fs | _ => #[]))) := by kernel_rfl
theorem s_rat (n : Bool) (x : Nat) (m : Bool) (y : Nat) : (Try.prog.info? 27).map (·.size) = some (Pq.fl n x m y).length := by rw [Pq.fl_length]; kernel_rfl
theorem s_rata (n : Bool) (x : Nat) (m : Bool) (y : Nat) : (Try.prog.info? 27).map (·.size) = some (Pq.fc n x m y).size := by rw [Pq.fc_size]; kernel_rfl
theorem built_rat (n : Bool) (x : Nat) (m : Bool) (y : Nat) : Try.prog.built 27 [(0, .agg (Pq.wc n x)), (1, .agg (Pq.wc m y))] = some (Pq.fc n x m y) := by kernel_rfl
theorem built_rat0 : Try.prog.built 27 [] = some (Pq.fc false 0 false 0) := by kernel_rfl
theorem al_rat (w : World) : (Instr.alloc 27 true (.tuple #[])).run Try.prog w = .ok (.pointer (some ⟨w.heap.size, 0, none⟩)) (w.alloc (.cells (Pq.fc false 0 false 0) 27)) := by kernel_rfl
theorem bx_rat (n : Bool) (x : Nat) (m : Bool) (y : Nat) (w : World) : (Instr.box 27 (.agg (Pq.fc n x m y))).run Try.prog w = .ok (.pointer (some ⟨w.heap.size, 0, none⟩)) (w.alloc (.cells (Pq.fc n x m y) 27)) := by kernel_rfl
end Go.Proofs.Ytjijakfcahhioaa
set_option linter.unusedSimpArgs false
set_option linter.unusedVariables false
namespace Pq
open Go Go.RowKit
theorem rc_mk {p : Int} {q : Nat} (hq : q ≠ 0) : rc (mkRat p q) = fc (decide (p / (Nat.gcd p.natAbs q : Int) < 0)) (p / (Nat.gcd p.natAbs q : Int)).natAbs false (q / Nat.gcd p.natAbs q) := by
  unfold rc
  rw [← Rat.normalize_eq_mkRat hq, Rat.normalize_eq]
theorem wz_nat (d : Nat) : wz (d : Int) = wc false d := by
  unfold wz
  rw [show decide ((d : Int) < 0) = false from by simp, Int.natAbs_natCast]
end Pq
namespace Go.Proofs.Ytjijakfcahhioaa
open Go.RowKit
theorem cf_made (xs : Array Value) (w : World) : (callFunc 40 xs).run Try.prog w = .ok (.enter 40 xs) w := by kernel_rfl

set_option maxRecDepth 100000 in
set_option maxHeartbeats 1000000 in
theorem made_any (a b : Int) (w : World) (h1 : -9223372036854775807 ≤ a) (h2 : a ≤ 9223372036854775807) (h3 : -9223372036854775807 ≤ b) (h4 : b ≤ 9223372036854775807) (hb : b ≠ 0) :
    Calls Try.prog 40 #[.int .i64 a, .int .i64 b] w (Pq.Ret w (.agg (Pq.rc (Rat.divInt a b)))) := by
  obtain ⟨g, hg⟩ : ∃ g, g = w.heap.size := ⟨_, rfl⟩
  have HG := Lib.hid hg; clear hg
  obtain ⟨res, hr⟩ : ∃ res, res = Pq.rc (Rat.divInt a b) := ⟨_, rfl⟩
  rw [← hr]
  rcases Int.lt_or_le b 0 with hz | hz
  · obtain ⟨q, hqq⟩ : ∃ q : Nat, (q : Int) = -b := ⟨(-b).toNat, by omega⟩
    obtain ⟨p, hp⟩ : ∃ p : Int, p = -a := ⟨_, rfl⟩
    have hq : 0 < q := by omega
    have HRAT : Rat.divInt a b = mkRat p q := by
      have : b = -(q : Int) := by omega
      rw [this, hp, Rat.divInt_neg', Rat.divInt_ofNat]
    have wa : IntKind.i64.wrap (-a) = p := by rw [hp]; exact IntWalk.i64_in _ (by omega)
    have wb : IntKind.i64.wrap (-b) = (q : Int) := by rw [← hqq]; exact IntWalk.i64_in _ (by omega)
    have hd : decide (b < 0) = true := by simpa using hz
    have hpl : p.natAbs ≤ 9223372036854775807 := by omega
    have hql : q ≤ 9223372036854775807 := by omega
    obtain ⟨G, hG⟩ : ∃ G, G = Nat.gcd p.natAbs q := ⟨_, rfl⟩
    clear hp hqq h1 h2 h3 h4
    go_enter Try.func40, Try.ntmps40
    go_upto_region 0 with fail
    go_upto_region 0 with fail
    apply wp_region_lit
    refine Pq.wpL_alloc g HG.out.symm (by rfl) _ rfl (Pq.fc false 0 false 0) al_rat ?_
    simp only [Act.put, List.setIfInBounds_toArray, List.set_cons_zero, List.set_cons_succ]
    refine Pq.wpL_nil ?_
    go_upto_region 2 with fail
    go_upto_region 2 with fail
    apply wp_region_lit
    refine Pq.wpL_step (by rfl) ?_
    apply Exists.intro
    apply Exists.intro
    refine ⟨?_, ?_⟩
    · go_simp; first | done | with_reducible rfl | exact ⟨rfl, rfl⟩
    simp only [Act.put, List.setIfInBounds_toArray, List.set_cons_zero, List.set_cons_succ]
    refine Pq.wpL_step (by rfl) ?_
    apply Exists.intro
    apply Exists.intro
    refine ⟨?_, ?_⟩
    · go_simp; first | done | with_reducible rfl | exact ⟨rfl, rfl⟩
    simp only [Act.put, List.setIfInBounds_toArray, List.set_cons_zero, List.set_cons_succ]
    refine Pq.wpL_step (by rfl) ?_
    apply Exists.intro
    apply Exists.intro
    refine ⟨?_, ?_⟩
    · go_simp; first | done | with_reducible rfl | exact ⟨rfl, rfl⟩
    simp only [Act.put, List.setIfInBounds_toArray, List.set_cons_zero, List.set_cons_succ]
    refine Pq.wpL_step (by rfl) ?_
    apply Exists.intro
    apply Exists.intro
    refine ⟨?_, ?_⟩
    · go_simp; first | done | with_reducible rfl | exact ⟨rfl, rfl⟩
    simp only [Act.put, List.setIfInBounds_toArray, List.set_cons_zero, List.set_cons_succ]
    refine Pq.wpL_step (by rfl) ?_
    apply Exists.intro
    apply Exists.intro
    refine ⟨?_, ?_⟩
    · go_simp; first | done | with_reducible rfl | exact ⟨rfl, rfl⟩
    simp only [Act.put, List.setIfInBounds_toArray, List.set_cons_zero, List.set_cons_succ]
    refine Pq.wpL_step (by rfl) ?_
    apply Exists.intro
    apply Exists.intro
    refine ⟨?_, ?_⟩
    · go_simp; first | done | with_reducible rfl | exact ⟨rfl, rfl⟩
    simp only [Act.put, List.setIfInBounds_toArray, List.set_cons_zero, List.set_cons_succ]
    refine Pq.wpL_nil ?_
    have HGE := Lib.hid hG
    have hGp : 0 < G := by rw [hG]; exact Nat.gcd_pos_of_pos_right _ hq
    have hGn : ¬ (G = 0) := by omega
    obtain ⟨N, hN⟩ : ∃ N, N = p / (G : Int) := ⟨_, rfl⟩
    obtain ⟨D, hD⟩ : ∃ D, D = q / G := ⟨_, rfl⟩
    have hdp : (G : Int) ∣ p := by rw [hG]; exact Int.ofNat_dvd_left.2 (Nat.gcd_dvd_left _ _)
    have t1 : p.tdiv (G : Int) = N := by rw [hN]; exact Int.tdiv_eq_ediv_of_dvd hdp
    have t2 : (q : Int).tdiv (G : Int) = (D : Int) := by rw [hD, ← Int.ofNat_tdiv]
    have hNl : N.natAbs ≤ p.natAbs := by rw [hN]; exact Int.natAbs_ediv_le_natAbs _ _
    have hDl : D ≤ q := by rw [hD]; exact Nat.div_le_self _ _
    have n1 : IntKind.i64.wrap N = N := IntWalk.i64_in _ (by omega)
    have n2 : IntKind.i64.wrap (D : Int) = (D : Int) := IntWalk.i64_in _ (by omega)
    have hres : res = Pq.fc (decide (N < 0)) N.natAbs false D := by rw [hr, HRAT, Pq.rc_mk (by omega), ← hG, ← hN, ← hD]
    have HRES := Lib.hid hres
    have m1 : -9223372036854775807 ≤ N := by omega
    have m2 : N ≤ 9223372036854775807 := by omega
    have m3 : (D : Int) ≤ 9223372036854775807 := by omega
    have m4 : -9223372036854775807 ≤ (D : Int) := by omega
    clear hG hN hD hdp hNl hDl hres hr HRAT hGp
    go_upto_region 3 with fail
    go_upto_region 3 with fail
    apply wp_region_lit
    refine Pq.wpL_step (by rfl) ?_
    apply Exists.intro
    apply Exists.intro
    refine ⟨?_, ?_⟩
    · go_simp; first | done | with_reducible rfl | exact ⟨rfl, rfl⟩
    simp only [Act.put, List.setIfInBounds_toArray, List.set_cons_zero, List.set_cons_succ]
    refine Pq.wpL_step (by rfl) ?_
    apply Exists.intro
    apply Exists.intro
    refine ⟨?_, ?_⟩
    · go_simp; first | done | with_reducible rfl | exact ⟨rfl, rfl⟩
    simp only [Act.put, List.setIfInBounds_toArray, List.set_cons_zero, List.set_cons_succ]
    refine Pq.wpL_ret (by rfl) cf_common (common_any p (q : Int) _ (by omega) (by omega) (by omega) (by omega)) rfl rfl ?_; intro w1 hb1; rw [Int.natAbs_natCast, ← HGE.out]
    simp only [Act.put, List.setIfInBounds_toArray, List.set_cons_zero, List.set_cons_succ]
    refine Pq.wpL_step (by rfl) ?_
    apply Exists.intro
    apply Exists.intro
    refine ⟨?_, ?_⟩
    · go_simp; first | done | with_reducible rfl | exact ⟨rfl, rfl⟩
    simp only [Act.put, List.setIfInBounds_toArray, List.set_cons_zero, List.set_cons_succ]
    refine Pq.wpL_nil ?_
    go_upto_region 4 with fail
    refine Pq.wp_region_grown (some g) [(0, true), (1, true), (2, true), (4, true), (5, true), (6, true), (3, false), (7, false), (8, true), (9, false)] (by kernel_rfl) (by kernel_rfl) (fun _ _ d _ _ h => by cases d <;> exact h) (fun hS => ?_)
    simp only [Pq.pick, List.filterMap_cons, List.filterMap_nil, List.getElem?_cons_zero, List.getElem?_cons_succ, Option.map_some]
    refine Pq.wpO_step (by rfl) ?_
    apply Exists.intro
    refine ⟨fun w' hw' => ?_, ?_⟩
    · go_simp; first | done | with_reducible rfl | exact ⟨rfl, rfl⟩
    simp only [Act.put, List.setIfInBounds_toArray, List.set_cons_zero, List.set_cons_succ]
    refine Pq.wpO_step (by rfl) ?_
    apply Exists.intro
    refine ⟨fun w' hw' => ?_, ?_⟩
    · go_simp; first | done | with_reducible rfl | exact ⟨rfl, rfl⟩
    simp only [Act.put, List.setIfInBounds_toArray, List.set_cons_zero, List.set_cons_succ]
    refine Pq.wpO_step (by rfl) ?_
    apply Exists.intro
    refine ⟨fun w' hw' => ?_, ?_⟩
    · go_simp; first | done | with_reducible rfl | exact ⟨rfl, rfl⟩
    simp only [Act.put, List.setIfInBounds_toArray, List.set_cons_zero, List.set_cons_succ]
    refine Pq.wpO_step (by rfl) ?_
    apply Exists.intro
    refine ⟨fun w' hw' => ?_, ?_⟩
    · go_simp; first | done | with_reducible rfl | exact ⟨rfl, rfl⟩
    simp only [Act.put, List.setIfInBounds_toArray, List.set_cons_zero, List.set_cons_succ]
    refine Pq.wpO_step (by rfl) ?_
    apply Exists.intro
    refine ⟨fun w' hw' => ?_, ?_⟩
    · go_simp; first | done | with_reducible rfl | exact ⟨rfl, rfl⟩
    simp only [Act.put, List.setIfInBounds_toArray, List.set_cons_zero, List.set_cons_succ]
    refine Pq.wpO_step (by rfl) ?_
    apply Exists.intro
    refine ⟨fun w' hw' => ?_, ?_⟩
    · go_simp; first | done | with_reducible rfl | exact ⟨rfl, rfl⟩
    simp only [Act.put, List.setIfInBounds_toArray, List.set_cons_zero, List.set_cons_succ]
    refine Pq.wpO_ret (by rfl) cf_wideof (wideof_any N _ m1 m2) rfl rfl hS ?_; intro w2 hb2 hS2; rw [Pq.wz_eq]
    simp only [Act.put, List.setIfInBounds_toArray, List.set_cons_zero, List.set_cons_succ]
    refine Pq.wpO_ret (by rfl) cf_wideof (wideof_any (D : Int) _ m4 m3) rfl rfl hS2 ?_; intro w3 hb3 hS3; rw [Pq.wz_nat]
    simp only [Act.put, List.setIfInBounds_toArray, List.set_cons_zero, List.set_cons_succ]
    refine Pq.wpO_build (by rfl) _ [(0, .tmp 18), (1, .tmp 22)] rfl _ rfl _ (built_rat _ _ _ _) ?_
    simp only [Act.put, List.setIfInBounds_toArray, List.set_cons_zero, List.set_cons_succ]
    refine Pq.wpO_store (by rfl) 27 _ _ rfl g (Pq.fc _ _ _ _) rfl rfl 27 (Pq.fc _ _ _ _) (Pq.keep_block (Pq.keep_block (Pq.dr_block (Pq.keep_block (Pq.al_block w (.cells (Pq.fc false 0 false 0) 27) g HG.out) hb1)) hb2) hb3) (s_rata _ _ _ _) (by simp only [Pq.fc_size]) (Pq.fc_one _ _ _ _) (Pq.grown_setRow hS3) ?_
    try simp only [Act.put, List.setIfInBounds_toArray, List.set_cons_zero, List.set_cons_succ]
    refine Pq.wpO_nil ?_
    go_wp2
    refine Pq.ret_cell rfl g _ _ _ _ rfl (Pq.setRow_at (Pq.keep_block (Pq.keep_block (Pq.dr_block (Pq.keep_block (Pq.al_block w (.cells (Pq.fc false 0 false 0) 27) g HG.out) hb1)) hb2) hb3)) u_rat rfl (s_rata _ _ _ _) rfl ⟨by rw [HRES.out], Pq.below_setRow (Pq.below_next (Pq.below_next (Pq.below_drew (Pq.below_next (Pq.below_alloc (Below.refl _ w) (Nat.le_refl _) _) (Nat.le_refl _) hb1)) (Nat.le_refl _) hb2) (Nat.le_refl _) hb3) (by rw [HG.out]; exact Nat.le_refl _)⟩
  · obtain ⟨q, hqq⟩ : ∃ q : Nat, b = (q : Int) := ⟨b.toNat, by omega⟩
    subst hqq
    obtain ⟨p, hp⟩ : ∃ p : Int, p = a := ⟨_, rfl⟩
    subst hp
    have hq : 0 < q := by omega
    have HRAT : Rat.divInt p (q : Int) = mkRat p q := Rat.divInt_ofNat p q
    have hd : decide ((q : Int) < 0) = false := by simp
    have hpl : p.natAbs ≤ 9223372036854775807 := by omega
    have hql : q ≤ 9223372036854775807 := by omega
    obtain ⟨G, hG⟩ : ∃ G, G = Nat.gcd p.natAbs q := ⟨_, rfl⟩
    clear h1 h2 h3 h4
    go_enter Try.func40, Try.ntmps40
    go_upto_region 0 with fail
    go_upto_region 0 with fail
    apply wp_region_lit
    refine Pq.wpL_alloc g HG.out.symm (by rfl) _ rfl (Pq.fc false 0 false 0) al_rat ?_
    simp only [Act.put, List.setIfInBounds_toArray, List.set_cons_zero, List.set_cons_succ]
    refine Pq.wpL_nil ?_
    have HGE := Lib.hid hG
    have hGp : 0 < G := by rw [hG]; exact Nat.gcd_pos_of_pos_right _ hq
    have hGn : ¬ (G = 0) := by omega
    obtain ⟨N, hN⟩ : ∃ N, N = p / (G : Int) := ⟨_, rfl⟩
    obtain ⟨D, hD⟩ : ∃ D, D = q / G := ⟨_, rfl⟩
    have hdp : (G : Int) ∣ p := by rw [hG]; exact Int.ofNat_dvd_left.2 (Nat.gcd_dvd_left _ _)
    have t1 : p.tdiv (G : Int) = N := by rw [hN]; exact Int.tdiv_eq_ediv_of_dvd hdp
    have t2 : (q : Int).tdiv (G : Int) = (D : Int) := by rw [hD, ← Int.ofNat_tdiv]
    have hNl : N.natAbs ≤ p.natAbs := by rw [hN]; exact Int.natAbs_ediv_le_natAbs _ _
    have hDl : D ≤ q := by rw [hD]; exact Nat.div_le_self _ _
    have n1 : IntKind.i64.wrap N = N := IntWalk.i64_in _ (by omega)
    have n2 : IntKind.i64.wrap (D : Int) = (D : Int) := IntWalk.i64_in _ (by omega)
    have hres : res = Pq.fc (decide (N < 0)) N.natAbs false D := by rw [hr, HRAT, Pq.rc_mk (by omega), ← hG, ← hN, ← hD]
    have HRES := Lib.hid hres
    have m1 : -9223372036854775807 ≤ N := by omega
    have m2 : N ≤ 9223372036854775807 := by omega
    have m3 : (D : Int) ≤ 9223372036854775807 := by omega
    have m4 : -9223372036854775807 ≤ (D : Int) := by omega
    clear hG hN hD hdp hNl hDl hres hr HRAT hGp
    go_upto_region 3 with fail
    go_upto_region 3 with fail
    apply wp_region_lit
    refine Pq.wpL_step (by rfl) ?_
    apply Exists.intro
    apply Exists.intro
    refine ⟨?_, ?_⟩
    · go_simp; first | done | with_reducible rfl | exact ⟨rfl, rfl⟩
    simp only [Act.put, List.setIfInBounds_toArray, List.set_cons_zero, List.set_cons_succ]
    refine Pq.wpL_step (by rfl) ?_
    apply Exists.intro
    apply Exists.intro
    refine ⟨?_, ?_⟩
    · go_simp; first | done | with_reducible rfl | exact ⟨rfl, rfl⟩
    simp only [Act.put, List.setIfInBounds_toArray, List.set_cons_zero, List.set_cons_succ]
    refine Pq.wpL_ret (by rfl) cf_common (common_any p (q : Int) _ (by omega) (by omega) (by omega) (by omega)) rfl rfl ?_; intro w1 hb1; rw [Int.natAbs_natCast, ← HGE.out]
    simp only [Act.put, List.setIfInBounds_toArray, List.set_cons_zero, List.set_cons_succ]
    refine Pq.wpL_step (by rfl) ?_
    apply Exists.intro
    apply Exists.intro
    refine ⟨?_, ?_⟩
    · go_simp; first | done | with_reducible rfl | exact ⟨rfl, rfl⟩
    simp only [Act.put, List.setIfInBounds_toArray, List.set_cons_zero, List.set_cons_succ]
    refine Pq.wpL_nil ?_
    go_upto_region 4 with fail
    refine Pq.wp_region_grown (some g) [(0, true), (1, true), (2, true), (4, true), (5, true), (6, true), (3, false), (7, false), (8, true), (9, false)] (by kernel_rfl) (by kernel_rfl) (fun _ _ d _ _ h => by cases d <;> exact h) (fun hS => ?_)
    simp only [Pq.pick, List.filterMap_cons, List.filterMap_nil, List.getElem?_cons_zero, List.getElem?_cons_succ, Option.map_some]
    refine Pq.wpO_step (by rfl) ?_
    apply Exists.intro
    refine ⟨fun w' hw' => ?_, ?_⟩
    · go_simp; first | done | with_reducible rfl | exact ⟨rfl, rfl⟩
    simp only [Act.put, List.setIfInBounds_toArray, List.set_cons_zero, List.set_cons_succ]
    refine Pq.wpO_step (by rfl) ?_
    apply Exists.intro
    refine ⟨fun w' hw' => ?_, ?_⟩
    · go_simp; first | done | with_reducible rfl | exact ⟨rfl, rfl⟩
    simp only [Act.put, List.setIfInBounds_toArray, List.set_cons_zero, List.set_cons_succ]
    refine Pq.wpO_step (by rfl) ?_
    apply Exists.intro
    refine ⟨fun w' hw' => ?_, ?_⟩
    · go_simp; first | done | with_reducible rfl | exact ⟨rfl, rfl⟩
    simp only [Act.put, List.setIfInBounds_toArray, List.set_cons_zero, List.set_cons_succ]
    refine Pq.wpO_step (by rfl) ?_
    apply Exists.intro
    refine ⟨fun w' hw' => ?_, ?_⟩
    · go_simp; first | done | with_reducible rfl | exact ⟨rfl, rfl⟩
    simp only [Act.put, List.setIfInBounds_toArray, List.set_cons_zero, List.set_cons_succ]
    refine Pq.wpO_step (by rfl) ?_
    apply Exists.intro
    refine ⟨fun w' hw' => ?_, ?_⟩
    · go_simp; first | done | with_reducible rfl | exact ⟨rfl, rfl⟩
    simp only [Act.put, List.setIfInBounds_toArray, List.set_cons_zero, List.set_cons_succ]
    refine Pq.wpO_step (by rfl) ?_
    apply Exists.intro
    refine ⟨fun w' hw' => ?_, ?_⟩
    · go_simp; first | done | with_reducible rfl | exact ⟨rfl, rfl⟩
    simp only [Act.put, List.setIfInBounds_toArray, List.set_cons_zero, List.set_cons_succ]
    refine Pq.wpO_ret (by rfl) cf_wideof (wideof_any N _ m1 m2) rfl rfl hS ?_; intro w2 hb2 hS2; rw [Pq.wz_eq]
    simp only [Act.put, List.setIfInBounds_toArray, List.set_cons_zero, List.set_cons_succ]
    refine Pq.wpO_ret (by rfl) cf_wideof (wideof_any (D : Int) _ m4 m3) rfl rfl hS2 ?_; intro w3 hb3 hS3; rw [Pq.wz_nat]
    simp only [Act.put, List.setIfInBounds_toArray, List.set_cons_zero, List.set_cons_succ]
    refine Pq.wpO_build (by rfl) _ [(0, .tmp 18), (1, .tmp 22)] rfl _ rfl _ (built_rat _ _ _ _) ?_
    simp only [Act.put, List.setIfInBounds_toArray, List.set_cons_zero, List.set_cons_succ]
    refine Pq.wpO_store (by rfl) 27 _ _ rfl g (Pq.fc _ _ _ _) rfl rfl 27 (Pq.fc _ _ _ _) (Pq.keep_block (Pq.keep_block (Pq.dr_block (Pq.keep_block (Pq.al_block w (.cells (Pq.fc false 0 false 0) 27) g HG.out) hb1)) hb2) hb3) (s_rata _ _ _ _) (by simp only [Pq.fc_size]) (Pq.fc_one _ _ _ _) (Pq.grown_setRow hS3) ?_
    try simp only [Act.put, List.setIfInBounds_toArray, List.set_cons_zero, List.set_cons_succ]
    refine Pq.wpO_nil ?_
    go_wp2
    refine Pq.ret_cell rfl g _ _ _ _ rfl (Pq.setRow_at (Pq.keep_block (Pq.keep_block (Pq.dr_block (Pq.keep_block (Pq.al_block w (.cells (Pq.fc false 0 false 0) 27) g HG.out) hb1)) hb2) hb3)) u_rat rfl (s_rata _ _ _ _) rfl ⟨by rw [HRES.out], Pq.below_setRow (Pq.below_next (Pq.below_next (Pq.below_drew (Pq.below_next (Pq.below_alloc (Below.refl _ w) (Nat.le_refl _) _) (Nat.le_refl _) hb1)) (Nat.le_refl _) hb2) (Nat.le_refl _) hb3) (by rw [HG.out]; exact Nat.le_refl _)⟩
end Go.Proofs.Ytjijakfcahhioaa
set_option linter.unusedSimpArgs false
set_option linter.unusedVariables false
namespace Pq
open Go Go.RowKit
theorem WL_cell {P : Program} {ops : Array Oper} {Q : Exit → Act → World → Prop} {rest : List Oper} {o : Oper} {a : Act} {w : World} (p : Addr) (v : Value) (hc : w.cell? p = some v) (hw : Region.wanted o (yielded ops a.tmps) = true) (ty : TypeId) (x : Operand) (ho : o.op = .load ty x)
    (hx : a.eval x = .pointer (some p)) (d : TypeDesc) (hu : P.underlying ty = some d) (hd : d.isRow = false) (h : WL P ops Q rest (a.put o.dst v) w) : WL P ops Q (o :: rest) a w := ⟨wpL_cell p v hc hw ty x ho hx d hu hd h.out⟩
/-- is the fraction small and in form -/
def smk (n : Bool) (x : Nat) (m : Bool) (y : Nat) : Prop := x < 1073741824 ∧ y < 1073741824 ∧ 0 < zv m y ∧ ¬ (x = 0 ∧ n = true) ∧ Nat.gcd x y = 1
instance (n : Bool) (x : Nat) (m : Bool) (y : Nat) : Decidable (smk n x m y) := by unfold smk; infer_instance
def smv (n : Bool) (x : Nat) (m : Bool) (y : Nat) : Value := .tuple #[.agg #[.int .i64 (if smk n x m y then zv n x else 0), .int .i64 (if smk n x m y then zv m y else 0)], .bool (decide (smk n x m y))]
theorem smv_no {n : Bool} {x : Nat} {m : Bool} {y : Nat} (h : ¬ smk n x m y) : smv n x m y = .tuple #[.agg #[.int .i64 0, .int .i64 0], .bool false] := by unfold smv; simp [h]
theorem smv_ok {n : Bool} {x : Nat} {m : Bool} {y : Nat} (h : smk n x m y) : smv n x m y = .tuple #[.agg #[.int .i64 (zv n x), .int .i64 (zv m y)], .bool true] := by unfold smv; simp [h]
end Pq
namespace Go.Proofs.Ytjijakfcahhioaa
open Go.RowKit
theorem cf_smallof (xs : Array Value) (w : World) : (callFunc 47 xs).run Try.prog w = .ok (.enter 47 xs) w := by kernel_rfl
theorem u_small : Try.prog.underlying 70 = some (.struct ((match Try.prog.underlying 70 with | some (.struct fs) => fs | _ => #[]))) := by kernel_rfl
theorem built_small (a d : Int) : Try.prog.built 70 [(0, .int .i64 a), (1, .int .i64 d)] = some #[.int .i64 a, .int .i64 d] := by kernel_rfl
theorem built_small0 : Try.prog.built 70 [] = some #[.int .i64 0, .int .i64 0] := by kernel_rfl
theorem al_small (w : World) : (Instr.alloc 70 true (.tuple #[])).run Try.prog w = .ok (.pointer (some ⟨w.heap.size, 0, none⟩)) (w.alloc (.cells #[.int .i64 0, .int .i64 0] 70)) := by kernel_rfl
theorem s_small (a d : Int) : (Try.prog.info? 70).map (·.size) = some (#[Value.int .i64 a, Value.int .i64 d]).size := by kernel_rfl
theorem small_one (a d : Int) : #[Value.int .i64 a, Value.int .i64 d].all (·.oneCell') = true := by simp [Value.oneCell']

set_option maxRecDepth 100000 in
set_option maxHeartbeats 1000000 in
theorem smallof_any (b o : Nat) (n : Bool) (x : Nat) (m : Bool) (y : Nat) (w : World) (hx : x < Pq.bp 32) (hy : y < Pq.bp 32) (hb : w.rangeAt b o (Pq.fl n x m y)) :
    Calls Try.prog 47 #[.pointer (some ⟨b, o, none⟩)] w (Pq.Ret w (Pq.smv n x m y)) := by
  obtain ⟨g, hg⟩ : ∃ g, g = w.heap.size := ⟨_, rfl⟩
  have HG := Lib.hid hg; clear hg
  obtain ⟨res, hr⟩ : ∃ res, res = Pq.smv n x m y := ⟨_, rfl⟩
  rw [← hr]
  have HRE := Lib.hid hr; clear hr
  have hf := Pq.range_frac hb
  have HN := Lib.hid hf.1; have HD := Lib.hid hf.2
  have HX := Lib.hid hx; have HY := Lib.hid hy
  clear hf hb hx hy
  have hq0 := Pq.wd_lt x 0
  have hq1 := Pq.wd_lt y 0
  obtain ⟨a, ha⟩ : ∃ a, a = Pq.zv n (Pq.wd x 0) := ⟨_, rfl⟩
  obtain ⟨d, hd⟩ : ∃ d, d = Pq.zv m (Pq.wd y 0) := ⟨_, rfl⟩
  have ha1 : a.natAbs < 4294967296 := by rw [ha, Pq.zv_abs]; exact hq0
  have hd1 : d.natAbs < 4294967296 := by rw [hd, Pq.zv_abs]; exact hq1
  obtain ⟨o1, ho1⟩ : ∃ o1, o1 = decide (x < 1073741824) := ⟨_, rfl⟩
  obtain ⟨o2, ho2⟩ : ∃ o2, o2 = decide (y < 1073741824) := ⟨_, rfl⟩
  have HA := Lib.hid ha; have HDD := Lib.hid hd; have HO1 := Lib.hid ho1; have HO2 := Lib.hid ho2
  obtain ⟨G, hG⟩ : ∃ G, G = Nat.gcd a.natAbs d.natAbs := ⟨_, rfl⟩
  have HGE := Lib.hid hG
  clear ha hd ho1 ho2 hG hq0 hq1
  go_enter Try.func47, Try.ntmps47
  go_upto_region 0 with fail
  go_upto_region 0 with fail
  apply wp_region_lit
  refine Pq.wpL_alloc g HG.out.symm (by rfl) _ rfl _ al_small ?_
  simp only [Act.put, List.setIfInBounds_toArray, List.set_cons_zero, List.set_cons_succ]
  refine Pq.wpL_step (by rfl) ?_
  apply Exists.intro
  apply Exists.intro
  refine ⟨?_, ?_⟩
  · go_simp; first | done | with_reducible rfl | exact ⟨rfl, rfl⟩
  simp only [Act.put, List.setIfInBounds_toArray, List.set_cons_zero, List.set_cons_succ]
  refine Pq.wpL_nil ?_
  go_upto_region 1 with fail
  go_upto_region 1 with fail
  apply wp_region_lit
  refine Pq.wpL_step (by rfl) ?_
  apply Exists.intro
  apply Exists.intro
  refine ⟨?_, ?_⟩
  · go_simp; first | done | with_reducible rfl | exact ⟨rfl, rfl⟩
  simp only [Act.put, List.setIfInBounds_toArray, List.set_cons_zero, List.set_cons_succ]
  refine Pq.wpL_step (by rfl) ?_
  apply Exists.intro
  apply Exists.intro
  refine ⟨?_, ?_⟩
  · go_simp; first | done | with_reducible rfl | exact ⟨rfl, rfl⟩
  simp only [Act.put, List.setIfInBounds_toArray, List.set_cons_zero, List.set_cons_succ]
  refine Pq.wpL_step (by rfl) ?_
  apply Exists.intro
  apply Exists.intro
  refine ⟨?_, ?_⟩
  · go_simp; first | done | with_reducible rfl | exact ⟨rfl, rfl⟩
  simp only [Act.put, List.setIfInBounds_toArray, List.set_cons_zero, List.set_cons_succ]
  refine Pq.wpL_ret (by rfl) cf_little (little_any b o n x _ HX.out (Pq.al_range HN.out _)) rfl rfl ?_; intro w1 hb1; rw [← HA.out, ← HO1.out]
  simp only [Act.put, List.setIfInBounds_toArray, List.set_cons_zero, List.set_cons_succ]
  refine Pq.wpL_step (by rfl) ?_
  apply Exists.intro
  apply Exists.intro
  refine ⟨?_, ?_⟩
  · go_simp; first | done | with_reducible rfl | exact ⟨rfl, rfl⟩
  simp only [Act.put, List.setIfInBounds_toArray, List.set_cons_zero, List.set_cons_succ]
  refine Pq.wpL_step (by rfl) ?_
  apply Exists.intro
  apply Exists.intro
  refine ⟨?_, ?_⟩
  · go_simp; first | done | with_reducible rfl | exact ⟨rfl, rfl⟩
  simp only [Act.put, List.setIfInBounds_toArray, List.set_cons_zero, List.set_cons_succ]
  refine Pq.wpL_step (by rfl) ?_
  apply Exists.intro
  apply Exists.intro
  refine ⟨?_, ?_⟩
  · go_simp; first | done | with_reducible rfl | exact ⟨rfl, rfl⟩
  simp only [Act.put, List.setIfInBounds_toArray, List.set_cons_zero, List.set_cons_succ]
  refine Pq.wpL_step (by rfl) ?_
  apply Exists.intro
  apply Exists.intro
  refine ⟨?_, ?_⟩
  · go_simp; first | done | with_reducible rfl | exact ⟨rfl, rfl⟩
  simp only [Act.put, List.setIfInBounds_toArray, List.set_cons_zero, List.set_cons_succ]
  refine Pq.wpL_step (by rfl) ?_
  apply Exists.intro
  apply Exists.intro
  refine ⟨?_, ?_⟩
  · go_simp; first | done | with_reducible rfl | exact ⟨rfl, rfl⟩
  simp only [Act.put, List.setIfInBounds_toArray, List.set_cons_zero, List.set_cons_succ]
  refine Pq.wpL_nil ?_
  go_upto_region 2 with fail
  go_upto_region 2 with fail
  apply wp_region_lit
  refine Pq.wpL_step (by rfl) ?_
  apply Exists.intro
  apply Exists.intro
  refine ⟨?_, ?_⟩
  · go_simp; first | done | with_reducible rfl | exact ⟨rfl, rfl⟩
  simp only [Act.put, List.setIfInBounds_toArray, List.set_cons_zero, List.set_cons_succ]
  refine Pq.wpL_step (by rfl) ?_
  apply Exists.intro
  apply Exists.intro
  refine ⟨?_, ?_⟩
  · go_simp; first | done | with_reducible rfl | exact ⟨rfl, rfl⟩
  simp only [Act.put, List.setIfInBounds_toArray, List.set_cons_zero, List.set_cons_succ]
  refine Pq.wpL_step (by rfl) ?_
  apply Exists.intro
  apply Exists.intro
  refine ⟨?_, ?_⟩
  · go_simp; first | done | with_reducible rfl | exact ⟨rfl, rfl⟩
  simp only [Act.put, List.setIfInBounds_toArray, List.set_cons_zero, List.set_cons_succ]
  refine Pq.wpL_ret (by rfl) cf_little (little_any b (o + 33) m y _ HY.out (Pq.range_in (Pq.al_range HD.out _) hb1)) rfl rfl ?_; intro w2 hb2; rw [← HDD.out, ← HO2.out]
  simp only [Act.put, List.setIfInBounds_toArray, List.set_cons_zero, List.set_cons_succ]
  refine Pq.wpL_step (by rfl) ?_
  apply Exists.intro
  apply Exists.intro
  refine ⟨?_, ?_⟩
  · go_simp; first | done | with_reducible rfl | exact ⟨rfl, rfl⟩
  simp only [Act.put, List.setIfInBounds_toArray, List.set_cons_zero, List.set_cons_succ]
  refine Pq.wpL_step (by rfl) ?_
  apply Exists.intro
  apply Exists.intro
  refine ⟨?_, ?_⟩
  · go_simp; first | done | with_reducible rfl | exact ⟨rfl, rfl⟩
  simp only [Act.put, List.setIfInBounds_toArray, List.set_cons_zero, List.set_cons_succ]
  refine Pq.wpL_step (by rfl) ?_
  apply Exists.intro
  apply Exists.intro
  refine ⟨?_, ?_⟩
  · go_simp; first | done | with_reducible rfl | exact ⟨rfl, rfl⟩
  simp only [Act.put, List.setIfInBounds_toArray, List.set_cons_zero, List.set_cons_succ]
  refine Pq.wpL_step (by rfl) ?_
  apply Exists.intro
  apply Exists.intro
  refine ⟨?_, ?_⟩
  · go_simp; first | done | with_reducible rfl | exact ⟨rfl, rfl⟩
  simp only [Act.put, List.setIfInBounds_toArray, List.set_cons_zero, List.set_cons_succ]
  refine Pq.wpL_step (by rfl) ?_
  apply Exists.intro
  apply Exists.intro
  refine ⟨?_, ?_⟩
  · go_simp; first | done | with_reducible rfl | exact ⟨rfl, rfl⟩
  simp only [Act.put, List.setIfInBounds_toArray, List.set_cons_zero, List.set_cons_succ]
  refine Pq.wpL_nil ?_
  have K := Pq.below_next (Pq.below_next (Pq.below_alloc (Below.refl _ w) (Nat.le_refl _) (.cells #[.int .i64 0, .int .i64 0] 70)) (Nat.le_refl _) hb1) (Nat.le_refl _) hb2
  have HB := Lib.hid K
  have HG0 := Lib.hid (Pq.keep_block (Pq.keep_block (Pq.al_block w (.cells #[.int .i64 0, .int .i64 0] 70) g HG.out) hb1) hb2)
  have CN := Lib.hid (Pq.range_cons HN.out).1
  clear hb1 hb2
  cases o1
  · have HRES : Hid (res = .tuple #[.agg #[.int .i64 0, .int .i64 0], .bool false]) := Lib.hid (by rw [HRE.out, Pq.smv_no (fun h => by have h9 := HO1.out; simp [h.1] at h9)])
    go_upto_region 3 with fail
    go_upto_region 3 with fail
    apply Pq.wp_region_guard
    refine Pq.WL_step (by rfl) ?_
    apply Exists.intro
    apply Exists.intro
    refine ⟨?_, ?_⟩
    · go_simp; first | done | with_reducible rfl | exact ⟨rfl, rfl⟩
    simp only [Act.put, List.setIfInBounds_toArray, List.set_cons_zero, List.set_cons_succ]
    refine Pq.WL_step (by rfl) ?_
    apply Exists.intro
    apply Exists.intro
    refine ⟨?_, ?_⟩
    · go_simp; first | done | with_reducible rfl | exact ⟨rfl, rfl⟩
    simp only [Act.put, List.setIfInBounds_toArray, List.set_cons_zero, List.set_cons_succ]
    refine Pq.WL_step (by rfl) ?_
    apply Exists.intro
    apply Exists.intro
    refine ⟨?_, ?_⟩
    · go_simp; first | done | with_reducible rfl | exact ⟨rfl, rfl⟩
    simp only [Act.put, List.setIfInBounds_toArray, List.set_cons_zero, List.set_cons_succ]
    refine Pq.WL_skip (by kernel_rfl) ?_
    simp only [Act.put, List.setIfInBounds_toArray, List.set_cons_zero, List.set_cons_succ]
    refine Pq.WL_skip (by kernel_rfl) ?_
    simp only [Act.put, List.setIfInBounds_toArray, List.set_cons_zero, List.set_cons_succ]
    refine Pq.WL_step (by rfl) ?_
    apply Exists.intro
    apply Exists.intro
    refine ⟨?_, ?_⟩
    · go_simp; first | done | with_reducible rfl | exact ⟨rfl, rfl⟩
    simp only [Act.put, List.setIfInBounds_toArray, List.set_cons_zero, List.set_cons_succ]
    refine Pq.WL_step (by rfl) ?_
    apply Exists.intro
    apply Exists.intro
    refine ⟨?_, ?_⟩
    · go_simp; first | done | with_reducible rfl | exact ⟨rfl, rfl⟩
    simp only [Act.put, List.setIfInBounds_toArray, List.set_cons_zero, List.set_cons_succ]
    refine Pq.WL_skip (by kernel_rfl) ?_
    simp only [Act.put, List.setIfInBounds_toArray, List.set_cons_zero, List.set_cons_succ]
    refine Pq.WL_skip (by kernel_rfl) ?_
    simp only [Act.put, List.setIfInBounds_toArray, List.set_cons_zero, List.set_cons_succ]
    refine Pq.WL_step (by rfl) ?_
    apply Exists.intro
    apply Exists.intro
    refine ⟨?_, ?_⟩
    · go_simp; first | done | with_reducible rfl | exact ⟨rfl, rfl⟩
    simp only [Act.put, List.setIfInBounds_toArray, List.set_cons_zero, List.set_cons_succ]
    refine Pq.WL_step (by rfl) ?_
    apply Exists.intro
    apply Exists.intro
    refine ⟨?_, ?_⟩
    · go_simp; first | done | with_reducible rfl | exact ⟨rfl, rfl⟩
    simp only [Act.put, List.setIfInBounds_toArray, List.set_cons_zero, List.set_cons_succ]
    refine Pq.WL_skip (by kernel_rfl) ?_
    simp only [Act.put, List.setIfInBounds_toArray, List.set_cons_zero, List.set_cons_succ]
    refine Pq.WL_skip (by kernel_rfl) ?_
    simp only [Act.put, List.setIfInBounds_toArray, List.set_cons_zero, List.set_cons_succ]
    refine Pq.WL_skip (by kernel_rfl) ?_
    simp only [Act.put, List.setIfInBounds_toArray, List.set_cons_zero, List.set_cons_succ]
    refine Pq.WL_skip (by kernel_rfl) ?_
    simp only [Act.put, List.setIfInBounds_toArray, List.set_cons_zero, List.set_cons_succ]
    refine Pq.WL_skip (by kernel_rfl) ?_
    simp only [Act.put, List.setIfInBounds_toArray, List.set_cons_zero, List.set_cons_succ]
    refine Pq.WL_skip (by kernel_rfl) ?_
    simp only [Act.put, List.setIfInBounds_toArray, List.set_cons_zero, List.set_cons_succ]
    refine Pq.WL_skip (by kernel_rfl) ?_
    simp only [Act.put, List.setIfInBounds_toArray, List.set_cons_zero, List.set_cons_succ]
    refine Pq.WL_skip (by kernel_rfl) ?_
    simp only [Act.put, List.setIfInBounds_toArray, List.set_cons_zero, List.set_cons_succ]
    refine Pq.WL_skip (by kernel_rfl) ?_
    simp only [Act.put, List.setIfInBounds_toArray, List.set_cons_zero, List.set_cons_succ]
    refine Pq.WL_step (by rfl) ?_
    apply Exists.intro
    apply Exists.intro
    refine ⟨?_, ?_⟩
    · go_simp; first | done | with_reducible rfl | exact ⟨rfl, rfl⟩
    simp only [Act.put, List.setIfInBounds_toArray, List.set_cons_zero, List.set_cons_succ]
    refine Pq.WL_step (by rfl) ?_
    apply Exists.intro
    apply Exists.intro
    refine ⟨?_, ?_⟩
    · go_simp; first | done | with_reducible rfl | exact ⟨rfl, rfl⟩
    simp only [Act.put, List.setIfInBounds_toArray, List.set_cons_zero, List.set_cons_succ]
    refine Pq.WL_skip (by kernel_rfl) ?_
    simp only [Act.put, List.setIfInBounds_toArray, List.set_cons_zero, List.set_cons_succ]
    refine Pq.WL_skip (by kernel_rfl) ?_
    simp only [Act.put, List.setIfInBounds_toArray, List.set_cons_zero, List.set_cons_succ]
    refine Pq.WL_skip (by kernel_rfl) ?_
    simp only [Act.put, List.setIfInBounds_toArray, List.set_cons_zero, List.set_cons_succ]
    refine Pq.WL_skip (by kernel_rfl) ?_
    simp only [Act.put, List.setIfInBounds_toArray, List.set_cons_zero, List.set_cons_succ]
    refine Pq.WL_step (by rfl) ?_
    apply Exists.intro
    apply Exists.intro
    refine ⟨?_, ?_⟩
    · go_simp; first | done | with_reducible rfl | exact ⟨rfl, rfl⟩
    simp only [Act.put, List.setIfInBounds_toArray, List.set_cons_zero, List.set_cons_succ]
    refine Pq.WL_nil ?_
    go_upto_region 4 with fail
    go_upto_region 4 with fail
    apply wp_region_lit
    refine Pq.wpL_build (by rfl) _ [] rfl [] rfl _ built_small0 ?_
    simp only [Act.put, List.setIfInBounds_toArray, List.set_cons_zero, List.set_cons_succ]
    refine Pq.wpL_store (by rfl) 70 _ _ rfl g #[.int .i64 0, .int .i64 0] rfl rfl 70 #[.int .i64 0, .int .i64 0] HG0.out (s_small _ _) rfl (small_one _ _) ?_
    try simp only [Act.put, List.setIfInBounds_toArray, List.set_cons_zero, List.set_cons_succ]
    refine Pq.wpL_step (by rfl) ?_
    apply Exists.intro
    apply Exists.intro
    refine ⟨?_, ?_⟩
    · go_simp; first | done | with_reducible rfl | exact ⟨rfl, rfl⟩
    simp only [Act.put, List.setIfInBounds_toArray, List.set_cons_zero, List.set_cons_succ]
    refine Pq.wpL_nil ?_
    go_wp2
    refine Pq.ret_cell_tmp rfl g _ _ _ _ _ rfl rfl (Pq.setRow_at HG0.out) u_small rfl (s_small _ _) rfl ⟨by rw [HRES.out]; rfl, Pq.below_setRow HB.out (by rw [HG.out]; exact Nat.le_refl _)⟩
  · have hx1 : x < 1073741824 := of_decide_eq_true HO1.out.symm
    cases o2
    · have HRES : Hid (res = .tuple #[.agg #[.int .i64 0, .int .i64 0], .bool false]) := Lib.hid (by rw [HRE.out, Pq.smv_no (fun h => by have h9 := HO2.out; simp [h.2.1] at h9)])
      go_upto_region 3 with fail
      go_upto_region 3 with fail
      apply Pq.wp_region_guard
      refine Pq.WL_step (by rfl) ?_
      apply Exists.intro
      apply Exists.intro
      refine ⟨?_, ?_⟩
      · go_simp; first | done | with_reducible rfl | exact ⟨rfl, rfl⟩
      simp only [Act.put, List.setIfInBounds_toArray, List.set_cons_zero, List.set_cons_succ]
      refine Pq.WL_step (by rfl) ?_
      apply Exists.intro
      apply Exists.intro
      refine ⟨?_, ?_⟩
      · go_simp; first | done | with_reducible rfl | exact ⟨rfl, rfl⟩
      simp only [Act.put, List.setIfInBounds_toArray, List.set_cons_zero, List.set_cons_succ]
      refine Pq.WL_step (by rfl) ?_
      apply Exists.intro
      apply Exists.intro
      refine ⟨?_, ?_⟩
      · go_simp; first | done | with_reducible rfl | exact ⟨rfl, rfl⟩
      simp only [Act.put, List.setIfInBounds_toArray, List.set_cons_zero, List.set_cons_succ]
      refine Pq.WL_step (by rfl) ?_
      apply Exists.intro
      apply Exists.intro
      refine ⟨?_, ?_⟩
      · go_simp; first | done | with_reducible rfl | exact ⟨rfl, rfl⟩
      simp only [Act.put, List.setIfInBounds_toArray, List.set_cons_zero, List.set_cons_succ]
      refine Pq.WL_step (by rfl) ?_
      apply Exists.intro
      apply Exists.intro
      refine ⟨?_, ?_⟩
      · go_simp; first | done | with_reducible rfl | exact ⟨rfl, rfl⟩
      simp only [Act.put, List.setIfInBounds_toArray, List.set_cons_zero, List.set_cons_succ]
      refine Pq.WL_step (by rfl) ?_
      apply Exists.intro
      apply Exists.intro
      refine ⟨?_, ?_⟩
      · go_simp; first | done | with_reducible rfl | exact ⟨rfl, rfl⟩
      simp only [Act.put, List.setIfInBounds_toArray, List.set_cons_zero, List.set_cons_succ]
      refine Pq.WL_step (by rfl) ?_
      apply Exists.intro
      apply Exists.intro
      refine ⟨?_, ?_⟩
      · go_simp; first | done | with_reducible rfl | exact ⟨rfl, rfl⟩
      simp only [Act.put, List.setIfInBounds_toArray, List.set_cons_zero, List.set_cons_succ]
      refine Pq.WL_skip (by kernel_rfl) ?_
      simp only [Act.put, List.setIfInBounds_toArray, List.set_cons_zero, List.set_cons_succ]
      refine Pq.WL_skip (by kernel_rfl) ?_
      simp only [Act.put, List.setIfInBounds_toArray, List.set_cons_zero, List.set_cons_succ]
      refine Pq.WL_step (by rfl) ?_
      apply Exists.intro
      apply Exists.intro
      refine ⟨?_, ?_⟩
      · go_simp; first | done | with_reducible rfl | exact ⟨rfl, rfl⟩
      simp only [Act.put, List.setIfInBounds_toArray, List.set_cons_zero, List.set_cons_succ]
      refine Pq.WL_step (by rfl) ?_
      apply Exists.intro
      apply Exists.intro
      refine ⟨?_, ?_⟩
      · go_simp; first | done | with_reducible rfl | exact ⟨rfl, rfl⟩
      simp only [Act.put, List.setIfInBounds_toArray, List.set_cons_zero, List.set_cons_succ]
      refine Pq.WL_skip (by kernel_rfl) ?_
      simp only [Act.put, List.setIfInBounds_toArray, List.set_cons_zero, List.set_cons_succ]
      refine Pq.WL_skip (by kernel_rfl) ?_
      simp only [Act.put, List.setIfInBounds_toArray, List.set_cons_zero, List.set_cons_succ]
      refine Pq.WL_skip (by kernel_rfl) ?_
      simp only [Act.put, List.setIfInBounds_toArray, List.set_cons_zero, List.set_cons_succ]
      refine Pq.WL_skip (by kernel_rfl) ?_
      simp only [Act.put, List.setIfInBounds_toArray, List.set_cons_zero, List.set_cons_succ]
      refine Pq.WL_skip (by kernel_rfl) ?_
      simp only [Act.put, List.setIfInBounds_toArray, List.set_cons_zero, List.set_cons_succ]
      refine Pq.WL_skip (by kernel_rfl) ?_
      simp only [Act.put, List.setIfInBounds_toArray, List.set_cons_zero, List.set_cons_succ]
      refine Pq.WL_skip (by kernel_rfl) ?_
      simp only [Act.put, List.setIfInBounds_toArray, List.set_cons_zero, List.set_cons_succ]
      refine Pq.WL_skip (by kernel_rfl) ?_
      simp only [Act.put, List.setIfInBounds_toArray, List.set_cons_zero, List.set_cons_succ]
      refine Pq.WL_skip (by kernel_rfl) ?_
      simp only [Act.put, List.setIfInBounds_toArray, List.set_cons_zero, List.set_cons_succ]
      refine Pq.WL_step (by rfl) ?_
      apply Exists.intro
      apply Exists.intro
      refine ⟨?_, ?_⟩
      · go_simp; first | done | with_reducible rfl | exact ⟨rfl, rfl⟩
      simp only [Act.put, List.setIfInBounds_toArray, List.set_cons_zero, List.set_cons_succ]
      refine Pq.WL_step (by rfl) ?_
      apply Exists.intro
      apply Exists.intro
      refine ⟨?_, ?_⟩
      · go_simp; first | done | with_reducible rfl | exact ⟨rfl, rfl⟩
      simp only [Act.put, List.setIfInBounds_toArray, List.set_cons_zero, List.set_cons_succ]
      refine Pq.WL_skip (by kernel_rfl) ?_
      simp only [Act.put, List.setIfInBounds_toArray, List.set_cons_zero, List.set_cons_succ]
      refine Pq.WL_skip (by kernel_rfl) ?_
      simp only [Act.put, List.setIfInBounds_toArray, List.set_cons_zero, List.set_cons_succ]
      refine Pq.WL_skip (by kernel_rfl) ?_
      simp only [Act.put, List.setIfInBounds_toArray, List.set_cons_zero, List.set_cons_succ]
      refine Pq.WL_skip (by kernel_rfl) ?_
      simp only [Act.put, List.setIfInBounds_toArray, List.set_cons_zero, List.set_cons_succ]
      refine Pq.WL_step (by rfl) ?_
      apply Exists.intro
      apply Exists.intro
      refine ⟨?_, ?_⟩
      · go_simp; first | done | with_reducible rfl | exact ⟨rfl, rfl⟩
      simp only [Act.put, List.setIfInBounds_toArray, List.set_cons_zero, List.set_cons_succ]
      refine Pq.WL_nil ?_
      go_upto_region 4 with fail
      go_upto_region 4 with fail
      apply wp_region_lit
      refine Pq.wpL_build (by rfl) _ [] rfl [] rfl _ built_small0 ?_
      simp only [Act.put, List.setIfInBounds_toArray, List.set_cons_zero, List.set_cons_succ]
      refine Pq.wpL_store (by rfl) 70 _ _ rfl g #[.int .i64 0, .int .i64 0] rfl rfl 70 #[.int .i64 0, .int .i64 0] HG0.out (s_small _ _) rfl (small_one _ _) ?_
      try simp only [Act.put, List.setIfInBounds_toArray, List.set_cons_zero, List.set_cons_succ]
      refine Pq.wpL_step (by rfl) ?_
      apply Exists.intro
      apply Exists.intro
      refine ⟨?_, ?_⟩
      · go_simp; first | done | with_reducible rfl | exact ⟨rfl, rfl⟩
      simp only [Act.put, List.setIfInBounds_toArray, List.set_cons_zero, List.set_cons_succ]
      refine Pq.wpL_nil ?_
      go_wp2
      refine Pq.ret_cell_tmp rfl g _ _ _ _ _ rfl rfl (Pq.setRow_at HG0.out) u_small rfl (s_small _ _) rfl ⟨by rw [HRES.out]; rfl, Pq.below_setRow HB.out (by rw [HG.out]; exact Nat.le_refl _)⟩
    · have hy1 : y < 1073741824 := of_decide_eq_true HO2.out.symm
      have HAZ : Hid (a = Pq.zv n x) := Lib.hid (by rw [HA.out, Pq.wd_small (by omega)])
      have HDZ : Hid (d = Pq.zv m y) := Lib.hid (by rw [HDD.out, Pq.wd_small (by omega)])
      have HGX : Hid (G = Nat.gcd x y) := Lib.hid (by rw [HGE.out, HAZ.out, HDZ.out, Pq.zv_abs, Pq.zv_abs])
      have HX1 := Lib.hid hx1; have HY1 := Lib.hid hy1
      clear hx1 hy1
      by_cases hd0 : d ≤ 0
      · have hdd : decide (d ≤ 0) = true := decide_eq_true hd0
        have HRES : Hid (res = .tuple #[.agg #[.int .i64 0, .int .i64 0], .bool false]) := Lib.hid (by rw [HRE.out, Pq.smv_no (fun h => by have h9 := h.2.2.1; rw [← HDZ.out] at h9; omega)])
        clear hd0
        go_upto_region 3 with fail
        go_upto_region 3 with fail
        apply Pq.wp_region_guard
        refine Pq.WL_step (by rfl) ?_
        apply Exists.intro
        apply Exists.intro
        refine ⟨?_, ?_⟩
        · go_simp; first | done | with_reducible rfl | exact ⟨rfl, rfl⟩
        simp only [Act.put, List.setIfInBounds_toArray, List.set_cons_zero, List.set_cons_succ]
        refine Pq.WL_step (by rfl) ?_
        apply Exists.intro
        apply Exists.intro
        refine ⟨?_, ?_⟩
        · go_simp; first | done | with_reducible rfl | exact ⟨rfl, rfl⟩
        simp only [Act.put, List.setIfInBounds_toArray, List.set_cons_zero, List.set_cons_succ]
        refine Pq.WL_step (by rfl) ?_
        apply Exists.intro
        apply Exists.intro
        refine ⟨?_, ?_⟩
        · go_simp; first | done | with_reducible rfl | exact ⟨rfl, rfl⟩
        simp only [Act.put, List.setIfInBounds_toArray, List.set_cons_zero, List.set_cons_succ]
        refine Pq.WL_step (by rfl) ?_
        apply Exists.intro
        apply Exists.intro
        refine ⟨?_, ?_⟩
        · go_simp; first | done | with_reducible rfl | exact ⟨rfl, rfl⟩
        simp only [Act.put, List.setIfInBounds_toArray, List.set_cons_zero, List.set_cons_succ]
        refine Pq.WL_step (by rfl) ?_
        apply Exists.intro
        apply Exists.intro
        refine ⟨?_, ?_⟩
        · go_simp; first | done | with_reducible rfl | exact ⟨rfl, rfl⟩
        simp only [Act.put, List.setIfInBounds_toArray, List.set_cons_zero, List.set_cons_succ]
        refine Pq.WL_step (by rfl) ?_
        apply Exists.intro
        apply Exists.intro
        refine ⟨?_, ?_⟩
        · go_simp; first | done | with_reducible rfl | exact ⟨rfl, rfl⟩
        simp only [Act.put, List.setIfInBounds_toArray, List.set_cons_zero, List.set_cons_succ]
        refine Pq.WL_step (by rfl) ?_
        apply Exists.intro
        apply Exists.intro
        refine ⟨?_, ?_⟩
        · go_simp; first | done | with_reducible rfl | exact ⟨rfl, rfl⟩
        simp only [Act.put, List.setIfInBounds_toArray, List.set_cons_zero, List.set_cons_succ]
        refine Pq.WL_step (by rfl) ?_
        apply Exists.intro
        apply Exists.intro
        refine ⟨?_, ?_⟩
        · go_simp; first | done | with_reducible rfl | exact ⟨rfl, rfl⟩
        simp only [Act.put, List.setIfInBounds_toArray, List.set_cons_zero, List.set_cons_succ]
        refine Pq.WL_step (by rfl) ?_
        apply Exists.intro
        apply Exists.intro
        refine ⟨?_, ?_⟩
        · go_simp; first | done | with_reducible rfl | exact ⟨rfl, rfl⟩
        simp only [Act.put, List.setIfInBounds_toArray, List.set_cons_zero, List.set_cons_succ]
        refine Pq.WL_step (by rfl) ?_
        apply Exists.intro
        apply Exists.intro
        refine ⟨?_, ?_⟩
        · go_simp; first | done | with_reducible rfl | exact ⟨rfl, rfl⟩
        simp only [Act.put, List.setIfInBounds_toArray, List.set_cons_zero, List.set_cons_succ]
        refine Pq.WL_step (by rfl) ?_
        apply Exists.intro
        apply Exists.intro
        refine ⟨?_, ?_⟩
        · go_simp; first | done | with_reducible rfl | exact ⟨rfl, rfl⟩
        simp only [Act.put, List.setIfInBounds_toArray, List.set_cons_zero, List.set_cons_succ]
        refine Pq.WL_skip (by kernel_rfl) ?_
        simp only [Act.put, List.setIfInBounds_toArray, List.set_cons_zero, List.set_cons_succ]
        refine Pq.WL_skip (by kernel_rfl) ?_
        simp only [Act.put, List.setIfInBounds_toArray, List.set_cons_zero, List.set_cons_succ]
        refine Pq.WL_skip (by kernel_rfl) ?_
        simp only [Act.put, List.setIfInBounds_toArray, List.set_cons_zero, List.set_cons_succ]
        refine Pq.WL_skip (by kernel_rfl) ?_
        simp only [Act.put, List.setIfInBounds_toArray, List.set_cons_zero, List.set_cons_succ]
        refine Pq.WL_skip (by kernel_rfl) ?_
        simp only [Act.put, List.setIfInBounds_toArray, List.set_cons_zero, List.set_cons_succ]
        refine Pq.WL_skip (by kernel_rfl) ?_
        simp only [Act.put, List.setIfInBounds_toArray, List.set_cons_zero, List.set_cons_succ]
        refine Pq.WL_skip (by kernel_rfl) ?_
        simp only [Act.put, List.setIfInBounds_toArray, List.set_cons_zero, List.set_cons_succ]
        refine Pq.WL_skip (by kernel_rfl) ?_
        simp only [Act.put, List.setIfInBounds_toArray, List.set_cons_zero, List.set_cons_succ]
        refine Pq.WL_skip (by kernel_rfl) ?_
        simp only [Act.put, List.setIfInBounds_toArray, List.set_cons_zero, List.set_cons_succ]
        refine Pq.WL_step (by rfl) ?_
        apply Exists.intro
        apply Exists.intro
        refine ⟨?_, ?_⟩
        · go_simp; first | done | with_reducible rfl | exact ⟨rfl, rfl⟩
        simp only [Act.put, List.setIfInBounds_toArray, List.set_cons_zero, List.set_cons_succ]
        refine Pq.WL_step (by rfl) ?_
        apply Exists.intro
        apply Exists.intro
        refine ⟨?_, ?_⟩
        · go_simp; first | done | with_reducible rfl | exact ⟨rfl, rfl⟩
        simp only [Act.put, List.setIfInBounds_toArray, List.set_cons_zero, List.set_cons_succ]
        refine Pq.WL_skip (by kernel_rfl) ?_
        simp only [Act.put, List.setIfInBounds_toArray, List.set_cons_zero, List.set_cons_succ]
        refine Pq.WL_skip (by kernel_rfl) ?_
        simp only [Act.put, List.setIfInBounds_toArray, List.set_cons_zero, List.set_cons_succ]
        refine Pq.WL_skip (by kernel_rfl) ?_
        simp only [Act.put, List.setIfInBounds_toArray, List.set_cons_zero, List.set_cons_succ]
        refine Pq.WL_skip (by kernel_rfl) ?_
        simp only [Act.put, List.setIfInBounds_toArray, List.set_cons_zero, List.set_cons_succ]
        refine Pq.WL_step (by rfl) ?_
        apply Exists.intro
        apply Exists.intro
        refine ⟨?_, ?_⟩
        · go_simp; first | done | with_reducible rfl | exact ⟨rfl, rfl⟩
        simp only [Act.put, List.setIfInBounds_toArray, List.set_cons_zero, List.set_cons_succ]
        refine Pq.WL_nil ?_
        go_upto_region 4 with fail
        go_upto_region 4 with fail
        apply wp_region_lit
        refine Pq.wpL_build (by rfl) _ [] rfl [] rfl _ built_small0 ?_
        simp only [Act.put, List.setIfInBounds_toArray, List.set_cons_zero, List.set_cons_succ]
        refine Pq.wpL_store (by rfl) 70 _ _ rfl g #[.int .i64 0, .int .i64 0] rfl rfl 70 #[.int .i64 0, .int .i64 0] HG0.out (s_small _ _) rfl (small_one _ _) ?_
        try simp only [Act.put, List.setIfInBounds_toArray, List.set_cons_zero, List.set_cons_succ]
        refine Pq.wpL_step (by rfl) ?_
        apply Exists.intro
        apply Exists.intro
        refine ⟨?_, ?_⟩
        · go_simp; first | done | with_reducible rfl | exact ⟨rfl, rfl⟩
        simp only [Act.put, List.setIfInBounds_toArray, List.set_cons_zero, List.set_cons_succ]
        refine Pq.wpL_nil ?_
        go_wp2
        refine Pq.ret_cell_tmp rfl g _ _ _ _ _ rfl rfl (Pq.setRow_at HG0.out) u_small rfl (s_small _ _) rfl ⟨by rw [HRES.out]; rfl, Pq.below_setRow HB.out (by rw [HG.out]; exact Nat.le_refl _)⟩
      · have hdd : decide (d ≤ 0) = false := decide_eq_false hd0
        have HDP := Lib.hid hd0
        clear hd0
        by_cases ha0 : a = 0
        · have hx0 : x = 0 := by have h9 := Pq.zv_abs n x; rw [← HAZ.out, ha0] at h9; omega
          have HX0 := Lib.hid hx0
          have hab : (a == 0) = true := by rw [ha0]; rfl
          clear hx0 ha0
          cases n
          · by_cases hg1 : G = 1
            · have hge : ((G : Int) == 1) = true := by rw [hg1]; rfl
              have HRES : Hid (res = .tuple #[.agg #[.int .i64 a, .int .i64 d], .bool true]) := Lib.hid (by rw [HRE.out, Pq.smv_ok ⟨HX1.out, HY1.out, by rw [← HDZ.out]; have := HDP.out; omega, (fun h => by simp at h), by rw [← HGX.out]; exact hg1⟩, HAZ.out, HDZ.out])
              clear hg1
              go_upto_region 3 with fail
              go_upto_region 3 with fail
              apply Pq.wp_region_guard
              refine Pq.WL_step (by rfl) ?_
              apply Exists.intro
              apply Exists.intro
              refine ⟨?_, ?_⟩
              · go_simp; first | done | with_reducible rfl | exact ⟨rfl, rfl⟩
              simp only [Act.put, List.setIfInBounds_toArray, List.set_cons_zero, List.set_cons_succ]
              refine Pq.WL_step (by rfl) ?_
              apply Exists.intro
              apply Exists.intro
              refine ⟨?_, ?_⟩
              · go_simp; first | done | with_reducible rfl | exact ⟨rfl, rfl⟩
              simp only [Act.put, List.setIfInBounds_toArray, List.set_cons_zero, List.set_cons_succ]
              refine Pq.WL_step (by rfl) ?_
              apply Exists.intro
              apply Exists.intro
              refine ⟨?_, ?_⟩
              · go_simp; first | done | with_reducible rfl | exact ⟨rfl, rfl⟩
              simp only [Act.put, List.setIfInBounds_toArray, List.set_cons_zero, List.set_cons_succ]
              refine Pq.WL_step (by rfl) ?_
              apply Exists.intro
              apply Exists.intro
              refine ⟨?_, ?_⟩
              · go_simp; first | done | with_reducible rfl | exact ⟨rfl, rfl⟩
              simp only [Act.put, List.setIfInBounds_toArray, List.set_cons_zero, List.set_cons_succ]
              refine Pq.WL_step (by rfl) ?_
              apply Exists.intro
              apply Exists.intro
              refine ⟨?_, ?_⟩
              · go_simp; first | done | with_reducible rfl | exact ⟨rfl, rfl⟩
              simp only [Act.put, List.setIfInBounds_toArray, List.set_cons_zero, List.set_cons_succ]
              refine Pq.WL_step (by rfl) ?_
              apply Exists.intro
              apply Exists.intro
              refine ⟨?_, ?_⟩
              · go_simp; first | done | with_reducible rfl | exact ⟨rfl, rfl⟩
              simp only [Act.put, List.setIfInBounds_toArray, List.set_cons_zero, List.set_cons_succ]
              refine Pq.WL_step (by rfl) ?_
              apply Exists.intro
              apply Exists.intro
              refine ⟨?_, ?_⟩
              · go_simp; first | done | with_reducible rfl | exact ⟨rfl, rfl⟩
              simp only [Act.put, List.setIfInBounds_toArray, List.set_cons_zero, List.set_cons_succ]
              refine Pq.WL_step (by rfl) ?_
              apply Exists.intro
              apply Exists.intro
              refine ⟨?_, ?_⟩
              · go_simp; first | done | with_reducible rfl | exact ⟨rfl, rfl⟩
              simp only [Act.put, List.setIfInBounds_toArray, List.set_cons_zero, List.set_cons_succ]
              refine Pq.WL_step (by rfl) ?_
              apply Exists.intro
              apply Exists.intro
              refine ⟨?_, ?_⟩
              · go_simp; first | done | with_reducible rfl | exact ⟨rfl, rfl⟩
              simp only [Act.put, List.setIfInBounds_toArray, List.set_cons_zero, List.set_cons_succ]
              refine Pq.WL_step (by rfl) ?_
              apply Exists.intro
              apply Exists.intro
              refine ⟨?_, ?_⟩
              · go_simp; first | done | with_reducible rfl | exact ⟨rfl, rfl⟩
              simp only [Act.put, List.setIfInBounds_toArray, List.set_cons_zero, List.set_cons_succ]
              refine Pq.WL_step (by rfl) ?_
              apply Exists.intro
              apply Exists.intro
              refine ⟨?_, ?_⟩
              · go_simp; first | done | with_reducible rfl | exact ⟨rfl, rfl⟩
              simp only [Act.put, List.setIfInBounds_toArray, List.set_cons_zero, List.set_cons_succ]
              refine Pq.WL_step (by rfl) ?_
              apply Exists.intro
              apply Exists.intro
              refine ⟨?_, ?_⟩
              · go_simp; first | done | with_reducible rfl | exact ⟨rfl, rfl⟩
              simp only [Act.put, List.setIfInBounds_toArray, List.set_cons_zero, List.set_cons_succ]
              refine Pq.WL_step (by rfl) ?_
              apply Exists.intro
              apply Exists.intro
              refine ⟨?_, ?_⟩
              · go_simp; first | done | with_reducible rfl | exact ⟨rfl, rfl⟩
              simp only [Act.put, List.setIfInBounds_toArray, List.set_cons_zero, List.set_cons_succ]
              refine Pq.WL_step (by rfl) ?_
              apply Exists.intro
              apply Exists.intro
              refine ⟨?_, ?_⟩
              · go_simp; first | done | with_reducible rfl | exact ⟨rfl, rfl⟩
              simp only [Act.put, List.setIfInBounds_toArray, List.set_cons_zero, List.set_cons_succ]
              refine Pq.WL_step (by rfl) ?_
              apply Exists.intro
              apply Exists.intro
              refine ⟨?_, ?_⟩
              · go_simp; first | done | with_reducible rfl | exact ⟨rfl, rfl⟩
              simp only [Act.put, List.setIfInBounds_toArray, List.set_cons_zero, List.set_cons_succ]
              refine Pq.WL_step (by rfl) ?_
              apply Exists.intro
              apply Exists.intro
              refine ⟨?_, ?_⟩
              · go_simp; first | done | with_reducible rfl | exact ⟨rfl, rfl⟩
              simp only [Act.put, List.setIfInBounds_toArray, List.set_cons_zero, List.set_cons_succ]
              refine Pq.WL_step (by rfl) ?_
              apply Exists.intro
              apply Exists.intro
              refine ⟨?_, ?_⟩
              · go_simp; first | done | with_reducible rfl | exact ⟨rfl, rfl⟩
              simp only [Act.put, List.setIfInBounds_toArray, List.set_cons_zero, List.set_cons_succ]
              refine Pq.WL_step (by rfl) ?_
              apply Exists.intro
              apply Exists.intro
              refine ⟨?_, ?_⟩
              · go_simp; first | done | with_reducible rfl | exact ⟨rfl, rfl⟩
              simp only [Act.put, List.setIfInBounds_toArray, List.set_cons_zero, List.set_cons_succ]
              refine Pq.WL_cell ⟨b, o, none⟩ _ (Pq.cell_in CN.out K) (by rfl) _ _ rfl rfl _ u_bool rfl ?_
              simp only [Act.put, List.setIfInBounds_toArray, List.set_cons_zero, List.set_cons_succ]
              refine Pq.WL_step (by rfl) ?_
              apply Exists.intro
              apply Exists.intro
              refine ⟨?_, ?_⟩
              · go_simp; first | done | with_reducible rfl | exact ⟨rfl, rfl⟩
              simp only [Act.put, List.setIfInBounds_toArray, List.set_cons_zero, List.set_cons_succ]
              refine Pq.WL_step (by rfl) ?_
              apply Exists.intro
              apply Exists.intro
              refine ⟨?_, ?_⟩
              · go_simp; first | done | with_reducible rfl | exact ⟨rfl, rfl⟩
              simp only [Act.put, List.setIfInBounds_toArray, List.set_cons_zero, List.set_cons_succ]
              refine Pq.WL_step (by rfl) ?_
              apply Exists.intro
              apply Exists.intro
              refine ⟨?_, ?_⟩
              · go_simp; first | done | with_reducible rfl | exact ⟨rfl, rfl⟩
              simp only [Act.put, List.setIfInBounds_toArray, List.set_cons_zero, List.set_cons_succ]
              refine Pq.WL_step (by rfl) ?_
              apply Exists.intro
              apply Exists.intro
              refine ⟨?_, ?_⟩
              · go_simp; first | done | with_reducible rfl | exact ⟨rfl, rfl⟩
              simp only [Act.put, List.setIfInBounds_toArray, List.set_cons_zero, List.set_cons_succ]
              refine Pq.WL_step (by rfl) ?_
              apply Exists.intro
              apply Exists.intro
              refine ⟨?_, ?_⟩
              · go_simp; first | done | with_reducible rfl | exact ⟨rfl, rfl⟩
              simp only [Act.put, List.setIfInBounds_toArray, List.set_cons_zero, List.set_cons_succ]
              refine Pq.WL_ret (by rfl) cf_common (common_any a d _ (by omega) (by omega) (by omega) (by omega)) rfl rfl ?_; intro w3 hb3; rw [← HGE.out]
              simp only [Act.put, List.setIfInBounds_toArray, List.set_cons_zero, List.set_cons_succ]
              refine Pq.WL_step (by rfl) ?_
              apply Exists.intro
              apply Exists.intro
              refine ⟨?_, ?_⟩
              · go_simp; first | done | with_reducible rfl | exact ⟨rfl, rfl⟩
              simp only [Act.put, List.setIfInBounds_toArray, List.set_cons_zero, List.set_cons_succ]
              refine Pq.WL_step (by rfl) ?_
              apply Exists.intro
              apply Exists.intro
              refine ⟨?_, ?_⟩
              · go_simp; first | done | with_reducible rfl | exact ⟨rfl, rfl⟩
              simp only [Act.put, List.setIfInBounds_toArray, List.set_cons_zero, List.set_cons_succ]
              refine Pq.WL_nil ?_
              go_upto_region 5 with fail
              go_upto_region 5 with fail
              apply wp_region_lit
              refine Pq.wpL_step (by rfl) ?_
              apply Exists.intro
              apply Exists.intro
              refine ⟨?_, ?_⟩
              · go_simp; first | done | with_reducible rfl | exact ⟨rfl, rfl⟩
              simp only [Act.put, List.setIfInBounds_toArray, List.set_cons_zero, List.set_cons_succ]
              refine Pq.wpL_step (by rfl) ?_
              apply Exists.intro
              apply Exists.intro
              refine ⟨?_, ?_⟩
              · go_simp; first | done | with_reducible rfl | exact ⟨rfl, rfl⟩
              simp only [Act.put, List.setIfInBounds_toArray, List.set_cons_zero, List.set_cons_succ]
              refine Pq.wpL_build (by rfl) _ [(0, .tmp 50), (1, .tmp 51)] rfl _ rfl _ (built_small a d) ?_
              simp only [Act.put, List.setIfInBounds_toArray, List.set_cons_zero, List.set_cons_succ]
              refine Pq.wpL_store (by rfl) 70 _ _ rfl g #[.int .i64 a, .int .i64 d] rfl rfl 70 #[.int .i64 0, .int .i64 0] (Pq.keep_block HG0.out hb3) (s_small _ _) rfl (small_one _ _) ?_
              try simp only [Act.put, List.setIfInBounds_toArray, List.set_cons_zero, List.set_cons_succ]
              refine Pq.wpL_step (by rfl) ?_
              apply Exists.intro
              apply Exists.intro
              refine ⟨?_, ?_⟩
              · go_simp; first | done | with_reducible rfl | exact ⟨rfl, rfl⟩
              simp only [Act.put, List.setIfInBounds_toArray, List.set_cons_zero, List.set_cons_succ]
              refine Pq.wpL_nil ?_
              go_wp2
              refine Pq.ret_cell_tmp rfl g _ _ _ _ _ rfl rfl (Pq.setRow_at (Pq.keep_block HG0.out hb3)) u_small rfl (s_small _ _) rfl ⟨by rw [HRES.out]; rfl, Pq.below_setRow (Pq.below_next HB.out (Nat.le_refl _) hb3) (by rw [HG.out]; exact Nat.le_refl _)⟩
            · have hge : ((G : Int) == 1) = false := (by have h4 : ¬ (G : Int) = 1 := (by omega); simpa using h4)
              have HRES : Hid (res = .tuple #[.agg #[.int .i64 0, .int .i64 0], .bool false]) := Lib.hid (by rw [HRE.out, Pq.smv_no (fun h => hg1 (by rw [HGX.out]; exact h.2.2.2.2))])
              clear hg1
              go_upto_region 3 with fail
              go_upto_region 3 with fail
              apply Pq.wp_region_guard
              refine Pq.WL_step (by rfl) ?_
              apply Exists.intro
              apply Exists.intro
              refine ⟨?_, ?_⟩
              · go_simp; first | done | with_reducible rfl | exact ⟨rfl, rfl⟩
              simp only [Act.put, List.setIfInBounds_toArray, List.set_cons_zero, List.set_cons_succ]
              refine Pq.WL_step (by rfl) ?_
              apply Exists.intro
              apply Exists.intro
              refine ⟨?_, ?_⟩
              · go_simp; first | done | with_reducible rfl | exact ⟨rfl, rfl⟩
              simp only [Act.put, List.setIfInBounds_toArray, List.set_cons_zero, List.set_cons_succ]
              refine Pq.WL_step (by rfl) ?_
              apply Exists.intro
              apply Exists.intro
              refine ⟨?_, ?_⟩
              · go_simp; first | done | with_reducible rfl | exact ⟨rfl, rfl⟩
              simp only [Act.put, List.setIfInBounds_toArray, List.set_cons_zero, List.set_cons_succ]
              refine Pq.WL_step (by rfl) ?_
              apply Exists.intro
              apply Exists.intro
              refine ⟨?_, ?_⟩
              · go_simp; first | done | with_reducible rfl | exact ⟨rfl, rfl⟩
              simp only [Act.put, List.setIfInBounds_toArray, List.set_cons_zero, List.set_cons_succ]
              refine Pq.WL_step (by rfl) ?_
              apply Exists.intro
              apply Exists.intro
              refine ⟨?_, ?_⟩
              · go_simp; first | done | with_reducible rfl | exact ⟨rfl, rfl⟩
              simp only [Act.put, List.setIfInBounds_toArray, List.set_cons_zero, List.set_cons_succ]
              refine Pq.WL_step (by rfl) ?_
              apply Exists.intro
              apply Exists.intro
              refine ⟨?_, ?_⟩
              · go_simp; first | done | with_reducible rfl | exact ⟨rfl, rfl⟩
              simp only [Act.put, List.setIfInBounds_toArray, List.set_cons_zero, List.set_cons_succ]
              refine Pq.WL_step (by rfl) ?_
              apply Exists.intro
              apply Exists.intro
              refine ⟨?_, ?_⟩
              · go_simp; first | done | with_reducible rfl | exact ⟨rfl, rfl⟩
              simp only [Act.put, List.setIfInBounds_toArray, List.set_cons_zero, List.set_cons_succ]
              refine Pq.WL_step (by rfl) ?_
              apply Exists.intro
              apply Exists.intro
              refine ⟨?_, ?_⟩
              · go_simp; first | done | with_reducible rfl | exact ⟨rfl, rfl⟩
              simp only [Act.put, List.setIfInBounds_toArray, List.set_cons_zero, List.set_cons_succ]
              refine Pq.WL_step (by rfl) ?_
              apply Exists.intro
              apply Exists.intro
              refine ⟨?_, ?_⟩
              · go_simp; first | done | with_reducible rfl | exact ⟨rfl, rfl⟩
              simp only [Act.put, List.setIfInBounds_toArray, List.set_cons_zero, List.set_cons_succ]
              refine Pq.WL_step (by rfl) ?_
              apply Exists.intro
              apply Exists.intro
              refine ⟨?_, ?_⟩
              · go_simp; first | done | with_reducible rfl | exact ⟨rfl, rfl⟩
              simp only [Act.put, List.setIfInBounds_toArray, List.set_cons_zero, List.set_cons_succ]
              refine Pq.WL_step (by rfl) ?_
              apply Exists.intro
              apply Exists.intro
              refine ⟨?_, ?_⟩
              · go_simp; first | done | with_reducible rfl | exact ⟨rfl, rfl⟩
              simp only [Act.put, List.setIfInBounds_toArray, List.set_cons_zero, List.set_cons_succ]
              refine Pq.WL_step (by rfl) ?_
              apply Exists.intro
              apply Exists.intro
              refine ⟨?_, ?_⟩
              · go_simp; first | done | with_reducible rfl | exact ⟨rfl, rfl⟩
              simp only [Act.put, List.setIfInBounds_toArray, List.set_cons_zero, List.set_cons_succ]
              refine Pq.WL_step (by rfl) ?_
              apply Exists.intro
              apply Exists.intro
              refine ⟨?_, ?_⟩
              · go_simp; first | done | with_reducible rfl | exact ⟨rfl, rfl⟩
              simp only [Act.put, List.setIfInBounds_toArray, List.set_cons_zero, List.set_cons_succ]
              refine Pq.WL_step (by rfl) ?_
              apply Exists.intro
              apply Exists.intro
              refine ⟨?_, ?_⟩
              · go_simp; first | done | with_reducible rfl | exact ⟨rfl, rfl⟩
              simp only [Act.put, List.setIfInBounds_toArray, List.set_cons_zero, List.set_cons_succ]
              refine Pq.WL_step (by rfl) ?_
              apply Exists.intro
              apply Exists.intro
              refine ⟨?_, ?_⟩
              · go_simp; first | done | with_reducible rfl | exact ⟨rfl, rfl⟩
              simp only [Act.put, List.setIfInBounds_toArray, List.set_cons_zero, List.set_cons_succ]
              refine Pq.WL_step (by rfl) ?_
              apply Exists.intro
              apply Exists.intro
              refine ⟨?_, ?_⟩
              · go_simp; first | done | with_reducible rfl | exact ⟨rfl, rfl⟩
              simp only [Act.put, List.setIfInBounds_toArray, List.set_cons_zero, List.set_cons_succ]
              refine Pq.WL_step (by rfl) ?_
              apply Exists.intro
              apply Exists.intro
              refine ⟨?_, ?_⟩
              · go_simp; first | done | with_reducible rfl | exact ⟨rfl, rfl⟩
              simp only [Act.put, List.setIfInBounds_toArray, List.set_cons_zero, List.set_cons_succ]
              refine Pq.WL_step (by rfl) ?_
              apply Exists.intro
              apply Exists.intro
              refine ⟨?_, ?_⟩
              · go_simp; first | done | with_reducible rfl | exact ⟨rfl, rfl⟩
              simp only [Act.put, List.setIfInBounds_toArray, List.set_cons_zero, List.set_cons_succ]
              refine Pq.WL_cell ⟨b, o, none⟩ _ (Pq.cell_in CN.out K) (by rfl) _ _ rfl rfl _ u_bool rfl ?_
              simp only [Act.put, List.setIfInBounds_toArray, List.set_cons_zero, List.set_cons_succ]
              refine Pq.WL_step (by rfl) ?_
              apply Exists.intro
              apply Exists.intro
              refine ⟨?_, ?_⟩
              · go_simp; first | done | with_reducible rfl | exact ⟨rfl, rfl⟩
              simp only [Act.put, List.setIfInBounds_toArray, List.set_cons_zero, List.set_cons_succ]
              refine Pq.WL_step (by rfl) ?_
              apply Exists.intro
              apply Exists.intro
              refine ⟨?_, ?_⟩
              · go_simp; first | done | with_reducible rfl | exact ⟨rfl, rfl⟩
              simp only [Act.put, List.setIfInBounds_toArray, List.set_cons_zero, List.set_cons_succ]
              refine Pq.WL_step (by rfl) ?_
              apply Exists.intro
              apply Exists.intro
              refine ⟨?_, ?_⟩
              · go_simp; first | done | with_reducible rfl | exact ⟨rfl, rfl⟩
              simp only [Act.put, List.setIfInBounds_toArray, List.set_cons_zero, List.set_cons_succ]
              refine Pq.WL_step (by rfl) ?_
              apply Exists.intro
              apply Exists.intro
              refine ⟨?_, ?_⟩
              · go_simp; first | done | with_reducible rfl | exact ⟨rfl, rfl⟩
              simp only [Act.put, List.setIfInBounds_toArray, List.set_cons_zero, List.set_cons_succ]
              refine Pq.WL_step (by rfl) ?_
              apply Exists.intro
              apply Exists.intro
              refine ⟨?_, ?_⟩
              · go_simp; first | done | with_reducible rfl | exact ⟨rfl, rfl⟩
              simp only [Act.put, List.setIfInBounds_toArray, List.set_cons_zero, List.set_cons_succ]
              refine Pq.WL_ret (by rfl) cf_common (common_any a d _ (by omega) (by omega) (by omega) (by omega)) rfl rfl ?_; intro w3 hb3; rw [← HGE.out]
              simp only [Act.put, List.setIfInBounds_toArray, List.set_cons_zero, List.set_cons_succ]
              refine Pq.WL_step (by rfl) ?_
              apply Exists.intro
              apply Exists.intro
              refine ⟨?_, ?_⟩
              · go_simp; first | done | with_reducible rfl | exact ⟨rfl, rfl⟩
              simp only [Act.put, List.setIfInBounds_toArray, List.set_cons_zero, List.set_cons_succ]
              refine Pq.WL_step (by rfl) ?_
              apply Exists.intro
              apply Exists.intro
              refine ⟨?_, ?_⟩
              · go_simp; first | done | with_reducible rfl | exact ⟨rfl, rfl⟩
              simp only [Act.put, List.setIfInBounds_toArray, List.set_cons_zero, List.set_cons_succ]
              refine Pq.WL_nil ?_
              go_upto_region 4 with fail
              go_upto_region 4 with fail
              apply wp_region_lit
              refine Pq.wpL_build (by rfl) _ [] rfl [] rfl _ built_small0 ?_
              simp only [Act.put, List.setIfInBounds_toArray, List.set_cons_zero, List.set_cons_succ]
              refine Pq.wpL_store (by rfl) 70 _ _ rfl g #[.int .i64 0, .int .i64 0] rfl rfl 70 #[.int .i64 0, .int .i64 0] (Pq.keep_block HG0.out hb3) (s_small _ _) rfl (small_one _ _) ?_
              try simp only [Act.put, List.setIfInBounds_toArray, List.set_cons_zero, List.set_cons_succ]
              refine Pq.wpL_step (by rfl) ?_
              apply Exists.intro
              apply Exists.intro
              refine ⟨?_, ?_⟩
              · go_simp; first | done | with_reducible rfl | exact ⟨rfl, rfl⟩
              simp only [Act.put, List.setIfInBounds_toArray, List.set_cons_zero, List.set_cons_succ]
              refine Pq.wpL_nil ?_
              go_wp2
              refine Pq.ret_cell_tmp rfl g _ _ _ _ _ rfl rfl (Pq.setRow_at (Pq.keep_block HG0.out hb3)) u_small rfl (s_small _ _) rfl ⟨by rw [HRES.out]; rfl, Pq.below_setRow (Pq.below_next HB.out (Nat.le_refl _) hb3) (by rw [HG.out]; exact Nat.le_refl _)⟩
          · have HRES : Hid (res = .tuple #[.agg #[.int .i64 0, .int .i64 0], .bool false]) := Lib.hid (by rw [HRE.out, Pq.smv_no (fun h => h.2.2.2.1 ⟨HX0.out, rfl⟩)])
            go_upto_region 3 with fail
            go_upto_region 3 with fail
            apply Pq.wp_region_guard
            refine Pq.WL_step (by rfl) ?_
            apply Exists.intro
            apply Exists.intro
            refine ⟨?_, ?_⟩
            · go_simp; first | done | with_reducible rfl | exact ⟨rfl, rfl⟩
            simp only [Act.put, List.setIfInBounds_toArray, List.set_cons_zero, List.set_cons_succ]
            refine Pq.WL_step (by rfl) ?_
            apply Exists.intro
            apply Exists.intro
            refine ⟨?_, ?_⟩
            · go_simp; first | done | with_reducible rfl | exact ⟨rfl, rfl⟩
            simp only [Act.put, List.setIfInBounds_toArray, List.set_cons_zero, List.set_cons_succ]
            refine Pq.WL_step (by rfl) ?_
            apply Exists.intro
            apply Exists.intro
            refine ⟨?_, ?_⟩
            · go_simp; first | done | with_reducible rfl | exact ⟨rfl, rfl⟩
            simp only [Act.put, List.setIfInBounds_toArray, List.set_cons_zero, List.set_cons_succ]
            refine Pq.WL_step (by rfl) ?_
            apply Exists.intro
            apply Exists.intro
            refine ⟨?_, ?_⟩
            · go_simp; first | done | with_reducible rfl | exact ⟨rfl, rfl⟩
            simp only [Act.put, List.setIfInBounds_toArray, List.set_cons_zero, List.set_cons_succ]
            refine Pq.WL_step (by rfl) ?_
            apply Exists.intro
            apply Exists.intro
            refine ⟨?_, ?_⟩
            · go_simp; first | done | with_reducible rfl | exact ⟨rfl, rfl⟩
            simp only [Act.put, List.setIfInBounds_toArray, List.set_cons_zero, List.set_cons_succ]
            refine Pq.WL_step (by rfl) ?_
            apply Exists.intro
            apply Exists.intro
            refine ⟨?_, ?_⟩
            · go_simp; first | done | with_reducible rfl | exact ⟨rfl, rfl⟩
            simp only [Act.put, List.setIfInBounds_toArray, List.set_cons_zero, List.set_cons_succ]
            refine Pq.WL_step (by rfl) ?_
            apply Exists.intro
            apply Exists.intro
            refine ⟨?_, ?_⟩
            · go_simp; first | done | with_reducible rfl | exact ⟨rfl, rfl⟩
            simp only [Act.put, List.setIfInBounds_toArray, List.set_cons_zero, List.set_cons_succ]
            refine Pq.WL_step (by rfl) ?_
            apply Exists.intro
            apply Exists.intro
            refine ⟨?_, ?_⟩
            · go_simp; first | done | with_reducible rfl | exact ⟨rfl, rfl⟩
            simp only [Act.put, List.setIfInBounds_toArray, List.set_cons_zero, List.set_cons_succ]
            refine Pq.WL_step (by rfl) ?_
            apply Exists.intro
            apply Exists.intro
            refine ⟨?_, ?_⟩
            · go_simp; first | done | with_reducible rfl | exact ⟨rfl, rfl⟩
            simp only [Act.put, List.setIfInBounds_toArray, List.set_cons_zero, List.set_cons_succ]
            refine Pq.WL_step (by rfl) ?_
            apply Exists.intro
            apply Exists.intro
            refine ⟨?_, ?_⟩
            · go_simp; first | done | with_reducible rfl | exact ⟨rfl, rfl⟩
            simp only [Act.put, List.setIfInBounds_toArray, List.set_cons_zero, List.set_cons_succ]
            refine Pq.WL_step (by rfl) ?_
            apply Exists.intro
            apply Exists.intro
            refine ⟨?_, ?_⟩
            · go_simp; first | done | with_reducible rfl | exact ⟨rfl, rfl⟩
            simp only [Act.put, List.setIfInBounds_toArray, List.set_cons_zero, List.set_cons_succ]
            refine Pq.WL_step (by rfl) ?_
            apply Exists.intro
            apply Exists.intro
            refine ⟨?_, ?_⟩
            · go_simp; first | done | with_reducible rfl | exact ⟨rfl, rfl⟩
            simp only [Act.put, List.setIfInBounds_toArray, List.set_cons_zero, List.set_cons_succ]
            refine Pq.WL_step (by rfl) ?_
            apply Exists.intro
            apply Exists.intro
            refine ⟨?_, ?_⟩
            · go_simp; first | done | with_reducible rfl | exact ⟨rfl, rfl⟩
            simp only [Act.put, List.setIfInBounds_toArray, List.set_cons_zero, List.set_cons_succ]
            refine Pq.WL_step (by rfl) ?_
            apply Exists.intro
            apply Exists.intro
            refine ⟨?_, ?_⟩
            · go_simp; first | done | with_reducible rfl | exact ⟨rfl, rfl⟩
            simp only [Act.put, List.setIfInBounds_toArray, List.set_cons_zero, List.set_cons_succ]
            refine Pq.WL_step (by rfl) ?_
            apply Exists.intro
            apply Exists.intro
            refine ⟨?_, ?_⟩
            · go_simp; first | done | with_reducible rfl | exact ⟨rfl, rfl⟩
            simp only [Act.put, List.setIfInBounds_toArray, List.set_cons_zero, List.set_cons_succ]
            refine Pq.WL_step (by rfl) ?_
            apply Exists.intro
            apply Exists.intro
            refine ⟨?_, ?_⟩
            · go_simp; first | done | with_reducible rfl | exact ⟨rfl, rfl⟩
            simp only [Act.put, List.setIfInBounds_toArray, List.set_cons_zero, List.set_cons_succ]
            refine Pq.WL_step (by rfl) ?_
            apply Exists.intro
            apply Exists.intro
            refine ⟨?_, ?_⟩
            · go_simp; first | done | with_reducible rfl | exact ⟨rfl, rfl⟩
            simp only [Act.put, List.setIfInBounds_toArray, List.set_cons_zero, List.set_cons_succ]
            refine Pq.WL_step (by rfl) ?_
            apply Exists.intro
            apply Exists.intro
            refine ⟨?_, ?_⟩
            · go_simp; first | done | with_reducible rfl | exact ⟨rfl, rfl⟩
            simp only [Act.put, List.setIfInBounds_toArray, List.set_cons_zero, List.set_cons_succ]
            refine Pq.WL_cell ⟨b, o, none⟩ _ (Pq.cell_in CN.out K) (by rfl) _ _ rfl rfl _ u_bool rfl ?_
            simp only [Act.put, List.setIfInBounds_toArray, List.set_cons_zero, List.set_cons_succ]
            refine Pq.WL_step (by rfl) ?_
            apply Exists.intro
            apply Exists.intro
            refine ⟨?_, ?_⟩
            · go_simp; first | done | with_reducible rfl | exact ⟨rfl, rfl⟩
            simp only [Act.put, List.setIfInBounds_toArray, List.set_cons_zero, List.set_cons_succ]
            refine Pq.WL_step (by rfl) ?_
            apply Exists.intro
            apply Exists.intro
            refine ⟨?_, ?_⟩
            · go_simp; first | done | with_reducible rfl | exact ⟨rfl, rfl⟩
            simp only [Act.put, List.setIfInBounds_toArray, List.set_cons_zero, List.set_cons_succ]
            refine Pq.WL_step (by rfl) ?_
            apply Exists.intro
            apply Exists.intro
            refine ⟨?_, ?_⟩
            · go_simp; first | done | with_reducible rfl | exact ⟨rfl, rfl⟩
            simp only [Act.put, List.setIfInBounds_toArray, List.set_cons_zero, List.set_cons_succ]
            refine Pq.WL_skip (by kernel_rfl) ?_
            simp only [Act.put, List.setIfInBounds_toArray, List.set_cons_zero, List.set_cons_succ]
            refine Pq.WL_skip (by kernel_rfl) ?_
            simp only [Act.put, List.setIfInBounds_toArray, List.set_cons_zero, List.set_cons_succ]
            refine Pq.WL_skip (by kernel_rfl) ?_
            simp only [Act.put, List.setIfInBounds_toArray, List.set_cons_zero, List.set_cons_succ]
            refine Pq.WL_skip (by kernel_rfl) ?_
            simp only [Act.put, List.setIfInBounds_toArray, List.set_cons_zero, List.set_cons_succ]
            refine Pq.WL_step (by rfl) ?_
            apply Exists.intro
            apply Exists.intro
            refine ⟨?_, ?_⟩
            · go_simp; first | done | with_reducible rfl | exact ⟨rfl, rfl⟩
            simp only [Act.put, List.setIfInBounds_toArray, List.set_cons_zero, List.set_cons_succ]
            refine Pq.WL_nil ?_
            go_upto_region 4 with fail
            go_upto_region 4 with fail
            apply wp_region_lit
            refine Pq.wpL_build (by rfl) _ [] rfl [] rfl _ built_small0 ?_
            simp only [Act.put, List.setIfInBounds_toArray, List.set_cons_zero, List.set_cons_succ]
            refine Pq.wpL_store (by rfl) 70 _ _ rfl g #[.int .i64 0, .int .i64 0] rfl rfl 70 #[.int .i64 0, .int .i64 0] HG0.out (s_small _ _) rfl (small_one _ _) ?_
            try simp only [Act.put, List.setIfInBounds_toArray, List.set_cons_zero, List.set_cons_succ]
            refine Pq.wpL_step (by rfl) ?_
            apply Exists.intro
            apply Exists.intro
            refine ⟨?_, ?_⟩
            · go_simp; first | done | with_reducible rfl | exact ⟨rfl, rfl⟩
            simp only [Act.put, List.setIfInBounds_toArray, List.set_cons_zero, List.set_cons_succ]
            refine Pq.wpL_nil ?_
            go_wp2
            refine Pq.ret_cell_tmp rfl g _ _ _ _ _ rfl rfl (Pq.setRow_at HG0.out) u_small rfl (s_small _ _) rfl ⟨by rw [HRES.out]; rfl, Pq.below_setRow HB.out (by rw [HG.out]; exact Nat.le_refl _)⟩
        · have hab : (a == 0) = false := by simpa using ha0
          by_cases hg1 : G = 1
          · have hge : ((G : Int) == 1) = true := by rw [hg1]; rfl
            have HRES : Hid (res = .tuple #[.agg #[.int .i64 a, .int .i64 d], .bool true]) := Lib.hid (by rw [HRE.out, Pq.smv_ok ⟨HX1.out, HY1.out, by rw [← HDZ.out]; have := HDP.out; omega, (fun h => ha0 (by rw [HAZ.out, h.1]; unfold Pq.zv; split <;> rfl)), by rw [← HGX.out]; exact hg1⟩, HAZ.out, HDZ.out])
            clear hg1 ha0
            go_upto_region 3 with fail
            go_upto_region 3 with fail
            apply Pq.wp_region_guard
            refine Pq.WL_step (by rfl) ?_
            apply Exists.intro
            apply Exists.intro
            refine ⟨?_, ?_⟩
            · go_simp; first | done | with_reducible rfl | exact ⟨rfl, rfl⟩
            simp only [Act.put, List.setIfInBounds_toArray, List.set_cons_zero, List.set_cons_succ]
            refine Pq.WL_step (by rfl) ?_
            apply Exists.intro
            apply Exists.intro
            refine ⟨?_, ?_⟩
            · go_simp; first | done | with_reducible rfl | exact ⟨rfl, rfl⟩
            simp only [Act.put, List.setIfInBounds_toArray, List.set_cons_zero, List.set_cons_succ]
            refine Pq.WL_step (by rfl) ?_
            apply Exists.intro
            apply Exists.intro
            refine ⟨?_, ?_⟩
            · go_simp; first | done | with_reducible rfl | exact ⟨rfl, rfl⟩
            simp only [Act.put, List.setIfInBounds_toArray, List.set_cons_zero, List.set_cons_succ]
            refine Pq.WL_step (by rfl) ?_
            apply Exists.intro
            apply Exists.intro
            refine ⟨?_, ?_⟩
            · go_simp; first | done | with_reducible rfl | exact ⟨rfl, rfl⟩
            simp only [Act.put, List.setIfInBounds_toArray, List.set_cons_zero, List.set_cons_succ]
            refine Pq.WL_step (by rfl) ?_
            apply Exists.intro
            apply Exists.intro
            refine ⟨?_, ?_⟩
            · go_simp; first | done | with_reducible rfl | exact ⟨rfl, rfl⟩
            simp only [Act.put, List.setIfInBounds_toArray, List.set_cons_zero, List.set_cons_succ]
            refine Pq.WL_step (by rfl) ?_
            apply Exists.intro
            apply Exists.intro
            refine ⟨?_, ?_⟩
            · go_simp; first | done | with_reducible rfl | exact ⟨rfl, rfl⟩
            simp only [Act.put, List.setIfInBounds_toArray, List.set_cons_zero, List.set_cons_succ]
            refine Pq.WL_step (by rfl) ?_
            apply Exists.intro
            apply Exists.intro
            refine ⟨?_, ?_⟩
            · go_simp; first | done | with_reducible rfl | exact ⟨rfl, rfl⟩
            simp only [Act.put, List.setIfInBounds_toArray, List.set_cons_zero, List.set_cons_succ]
            refine Pq.WL_step (by rfl) ?_
            apply Exists.intro
            apply Exists.intro
            refine ⟨?_, ?_⟩
            · go_simp; first | done | with_reducible rfl | exact ⟨rfl, rfl⟩
            simp only [Act.put, List.setIfInBounds_toArray, List.set_cons_zero, List.set_cons_succ]
            refine Pq.WL_step (by rfl) ?_
            apply Exists.intro
            apply Exists.intro
            refine ⟨?_, ?_⟩
            · go_simp; first | done | with_reducible rfl | exact ⟨rfl, rfl⟩
            simp only [Act.put, List.setIfInBounds_toArray, List.set_cons_zero, List.set_cons_succ]
            refine Pq.WL_step (by rfl) ?_
            apply Exists.intro
            apply Exists.intro
            refine ⟨?_, ?_⟩
            · go_simp; first | done | with_reducible rfl | exact ⟨rfl, rfl⟩
            simp only [Act.put, List.setIfInBounds_toArray, List.set_cons_zero, List.set_cons_succ]
            refine Pq.WL_step (by rfl) ?_
            apply Exists.intro
            apply Exists.intro
            refine ⟨?_, ?_⟩
            · go_simp; first | done | with_reducible rfl | exact ⟨rfl, rfl⟩
            simp only [Act.put, List.setIfInBounds_toArray, List.set_cons_zero, List.set_cons_succ]
            refine Pq.WL_step (by rfl) ?_
            apply Exists.intro
            apply Exists.intro
            refine ⟨?_, ?_⟩
            · go_simp; first | done | with_reducible rfl | exact ⟨rfl, rfl⟩
            simp only [Act.put, List.setIfInBounds_toArray, List.set_cons_zero, List.set_cons_succ]
            refine Pq.WL_step (by rfl) ?_
            apply Exists.intro
            apply Exists.intro
            refine ⟨?_, ?_⟩
            · go_simp; first | done | with_reducible rfl | exact ⟨rfl, rfl⟩
            simp only [Act.put, List.setIfInBounds_toArray, List.set_cons_zero, List.set_cons_succ]
            refine Pq.WL_step (by rfl) ?_
            apply Exists.intro
            apply Exists.intro
            refine ⟨?_, ?_⟩
            · go_simp; first | done | with_reducible rfl | exact ⟨rfl, rfl⟩
            simp only [Act.put, List.setIfInBounds_toArray, List.set_cons_zero, List.set_cons_succ]
            refine Pq.WL_skip (by kernel_rfl) ?_
            simp only [Act.put, List.setIfInBounds_toArray, List.set_cons_zero, List.set_cons_succ]
            refine Pq.WL_skip (by kernel_rfl) ?_
            simp only [Act.put, List.setIfInBounds_toArray, List.set_cons_zero, List.set_cons_succ]
            refine Pq.WL_skip (by kernel_rfl) ?_
            simp only [Act.put, List.setIfInBounds_toArray, List.set_cons_zero, List.set_cons_succ]
            refine Pq.WL_skip (by kernel_rfl) ?_
            simp only [Act.put, List.setIfInBounds_toArray, List.set_cons_zero, List.set_cons_succ]
            refine Pq.WL_skip (by kernel_rfl) ?_
            simp only [Act.put, List.setIfInBounds_toArray, List.set_cons_zero, List.set_cons_succ]
            refine Pq.WL_step (by rfl) ?_
            apply Exists.intro
            apply Exists.intro
            refine ⟨?_, ?_⟩
            · go_simp; first | done | with_reducible rfl | exact ⟨rfl, rfl⟩
            simp only [Act.put, List.setIfInBounds_toArray, List.set_cons_zero, List.set_cons_succ]
            refine Pq.WL_step (by rfl) ?_
            apply Exists.intro
            apply Exists.intro
            refine ⟨?_, ?_⟩
            · go_simp; first | done | with_reducible rfl | exact ⟨rfl, rfl⟩
            simp only [Act.put, List.setIfInBounds_toArray, List.set_cons_zero, List.set_cons_succ]
            refine Pq.WL_step (by rfl) ?_
            apply Exists.intro
            apply Exists.intro
            refine ⟨?_, ?_⟩
            · go_simp; first | done | with_reducible rfl | exact ⟨rfl, rfl⟩
            simp only [Act.put, List.setIfInBounds_toArray, List.set_cons_zero, List.set_cons_succ]
            refine Pq.WL_step (by rfl) ?_
            apply Exists.intro
            apply Exists.intro
            refine ⟨?_, ?_⟩
            · go_simp; first | done | with_reducible rfl | exact ⟨rfl, rfl⟩
            simp only [Act.put, List.setIfInBounds_toArray, List.set_cons_zero, List.set_cons_succ]
            refine Pq.WL_step (by rfl) ?_
            apply Exists.intro
            apply Exists.intro
            refine ⟨?_, ?_⟩
            · go_simp; first | done | with_reducible rfl | exact ⟨rfl, rfl⟩
            simp only [Act.put, List.setIfInBounds_toArray, List.set_cons_zero, List.set_cons_succ]
            refine Pq.WL_ret (by rfl) cf_common (common_any a d _ (by omega) (by omega) (by omega) (by omega)) rfl rfl ?_; intro w3 hb3; rw [← HGE.out]
            simp only [Act.put, List.setIfInBounds_toArray, List.set_cons_zero, List.set_cons_succ]
            refine Pq.WL_step (by rfl) ?_
            apply Exists.intro
            apply Exists.intro
            refine ⟨?_, ?_⟩
            · go_simp; first | done | with_reducible rfl | exact ⟨rfl, rfl⟩
            simp only [Act.put, List.setIfInBounds_toArray, List.set_cons_zero, List.set_cons_succ]
            refine Pq.WL_step (by rfl) ?_
            apply Exists.intro
            apply Exists.intro
            refine ⟨?_, ?_⟩
            · go_simp; first | done | with_reducible rfl | exact ⟨rfl, rfl⟩
            simp only [Act.put, List.setIfInBounds_toArray, List.set_cons_zero, List.set_cons_succ]
            refine Pq.WL_nil ?_
            go_upto_region 5 with fail
            go_upto_region 5 with fail
            apply wp_region_lit
            refine Pq.wpL_step (by rfl) ?_
            apply Exists.intro
            apply Exists.intro
            refine ⟨?_, ?_⟩
            · go_simp; first | done | with_reducible rfl | exact ⟨rfl, rfl⟩
            simp only [Act.put, List.setIfInBounds_toArray, List.set_cons_zero, List.set_cons_succ]
            refine Pq.wpL_step (by rfl) ?_
            apply Exists.intro
            apply Exists.intro
            refine ⟨?_, ?_⟩
            · go_simp; first | done | with_reducible rfl | exact ⟨rfl, rfl⟩
            simp only [Act.put, List.setIfInBounds_toArray, List.set_cons_zero, List.set_cons_succ]
            refine Pq.wpL_build (by rfl) _ [(0, .tmp 50), (1, .tmp 51)] rfl _ rfl _ (built_small a d) ?_
            simp only [Act.put, List.setIfInBounds_toArray, List.set_cons_zero, List.set_cons_succ]
            refine Pq.wpL_store (by rfl) 70 _ _ rfl g #[.int .i64 a, .int .i64 d] rfl rfl 70 #[.int .i64 0, .int .i64 0] (Pq.keep_block HG0.out hb3) (s_small _ _) rfl (small_one _ _) ?_
            try simp only [Act.put, List.setIfInBounds_toArray, List.set_cons_zero, List.set_cons_succ]
            refine Pq.wpL_step (by rfl) ?_
            apply Exists.intro
            apply Exists.intro
            refine ⟨?_, ?_⟩
            · go_simp; first | done | with_reducible rfl | exact ⟨rfl, rfl⟩
            simp only [Act.put, List.setIfInBounds_toArray, List.set_cons_zero, List.set_cons_succ]
            refine Pq.wpL_nil ?_
            go_wp2
            refine Pq.ret_cell_tmp rfl g _ _ _ _ _ rfl rfl (Pq.setRow_at (Pq.keep_block HG0.out hb3)) u_small rfl (s_small _ _) rfl ⟨by rw [HRES.out]; rfl, Pq.below_setRow (Pq.below_next HB.out (Nat.le_refl _) hb3) (by rw [HG.out]; exact Nat.le_refl _)⟩
          · have hge : ((G : Int) == 1) = false := (by have h4 : ¬ (G : Int) = 1 := (by omega); simpa using h4)
            have HRES : Hid (res = .tuple #[.agg #[.int .i64 0, .int .i64 0], .bool false]) := Lib.hid (by rw [HRE.out, Pq.smv_no (fun h => hg1 (by rw [HGX.out]; exact h.2.2.2.2))])
            clear hg1 ha0
            go_upto_region 3 with fail
            go_upto_region 3 with fail
            apply Pq.wp_region_guard
            refine Pq.WL_step (by rfl) ?_
            apply Exists.intro
            apply Exists.intro
            refine ⟨?_, ?_⟩
            · go_simp; first | done | with_reducible rfl | exact ⟨rfl, rfl⟩
            simp only [Act.put, List.setIfInBounds_toArray, List.set_cons_zero, List.set_cons_succ]
            refine Pq.WL_step (by rfl) ?_
            apply Exists.intro
            apply Exists.intro
            refine ⟨?_, ?_⟩
            · go_simp; first | done | with_reducible rfl | exact ⟨rfl, rfl⟩
            simp only [Act.put, List.setIfInBounds_toArray, List.set_cons_zero, List.set_cons_succ]
            refine Pq.WL_step (by rfl) ?_
            apply Exists.intro
            apply Exists.intro
            refine ⟨?_, ?_⟩
            · go_simp; first | done | with_reducible rfl | exact ⟨rfl, rfl⟩
            simp only [Act.put, List.setIfInBounds_toArray, List.set_cons_zero, List.set_cons_succ]
            refine Pq.WL_step (by rfl) ?_
            apply Exists.intro
            apply Exists.intro
            refine ⟨?_, ?_⟩
            · go_simp; first | done | with_reducible rfl | exact ⟨rfl, rfl⟩
            simp only [Act.put, List.setIfInBounds_toArray, List.set_cons_zero, List.set_cons_succ]
            refine Pq.WL_step (by rfl) ?_
            apply Exists.intro
            apply Exists.intro
            refine ⟨?_, ?_⟩
            · go_simp; first | done | with_reducible rfl | exact ⟨rfl, rfl⟩
            simp only [Act.put, List.setIfInBounds_toArray, List.set_cons_zero, List.set_cons_succ]
            refine Pq.WL_step (by rfl) ?_
            apply Exists.intro
            apply Exists.intro
            refine ⟨?_, ?_⟩
            · go_simp; first | done | with_reducible rfl | exact ⟨rfl, rfl⟩
            simp only [Act.put, List.setIfInBounds_toArray, List.set_cons_zero, List.set_cons_succ]
            refine Pq.WL_step (by rfl) ?_
            apply Exists.intro
            apply Exists.intro
            refine ⟨?_, ?_⟩
            · go_simp; first | done | with_reducible rfl | exact ⟨rfl, rfl⟩
            simp only [Act.put, List.setIfInBounds_toArray, List.set_cons_zero, List.set_cons_succ]
            refine Pq.WL_step (by rfl) ?_
            apply Exists.intro
            apply Exists.intro
            refine ⟨?_, ?_⟩
            · go_simp; first | done | with_reducible rfl | exact ⟨rfl, rfl⟩
            simp only [Act.put, List.setIfInBounds_toArray, List.set_cons_zero, List.set_cons_succ]
            refine Pq.WL_step (by rfl) ?_
            apply Exists.intro
            apply Exists.intro
            refine ⟨?_, ?_⟩
            · go_simp; first | done | with_reducible rfl | exact ⟨rfl, rfl⟩
            simp only [Act.put, List.setIfInBounds_toArray, List.set_cons_zero, List.set_cons_succ]
            refine Pq.WL_step (by rfl) ?_
            apply Exists.intro
            apply Exists.intro
            refine ⟨?_, ?_⟩
            · go_simp; first | done | with_reducible rfl | exact ⟨rfl, rfl⟩
            simp only [Act.put, List.setIfInBounds_toArray, List.set_cons_zero, List.set_cons_succ]
            refine Pq.WL_step (by rfl) ?_
            apply Exists.intro
            apply Exists.intro
            refine ⟨?_, ?_⟩
            · go_simp; first | done | with_reducible rfl | exact ⟨rfl, rfl⟩
            simp only [Act.put, List.setIfInBounds_toArray, List.set_cons_zero, List.set_cons_succ]
            refine Pq.WL_step (by rfl) ?_
            apply Exists.intro
            apply Exists.intro
            refine ⟨?_, ?_⟩
            · go_simp; first | done | with_reducible rfl | exact ⟨rfl, rfl⟩
            simp only [Act.put, List.setIfInBounds_toArray, List.set_cons_zero, List.set_cons_succ]
            refine Pq.WL_step (by rfl) ?_
            apply Exists.intro
            apply Exists.intro
            refine ⟨?_, ?_⟩
            · go_simp; first | done | with_reducible rfl | exact ⟨rfl, rfl⟩
            simp only [Act.put, List.setIfInBounds_toArray, List.set_cons_zero, List.set_cons_succ]
            refine Pq.WL_step (by rfl) ?_
            apply Exists.intro
            apply Exists.intro
            refine ⟨?_, ?_⟩
            · go_simp; first | done | with_reducible rfl | exact ⟨rfl, rfl⟩
            simp only [Act.put, List.setIfInBounds_toArray, List.set_cons_zero, List.set_cons_succ]
            refine Pq.WL_skip (by kernel_rfl) ?_
            simp only [Act.put, List.setIfInBounds_toArray, List.set_cons_zero, List.set_cons_succ]
            refine Pq.WL_skip (by kernel_rfl) ?_
            simp only [Act.put, List.setIfInBounds_toArray, List.set_cons_zero, List.set_cons_succ]
            refine Pq.WL_skip (by kernel_rfl) ?_
            simp only [Act.put, List.setIfInBounds_toArray, List.set_cons_zero, List.set_cons_succ]
            refine Pq.WL_skip (by kernel_rfl) ?_
            simp only [Act.put, List.setIfInBounds_toArray, List.set_cons_zero, List.set_cons_succ]
            refine Pq.WL_skip (by kernel_rfl) ?_
            simp only [Act.put, List.setIfInBounds_toArray, List.set_cons_zero, List.set_cons_succ]
            refine Pq.WL_step (by rfl) ?_
            apply Exists.intro
            apply Exists.intro
            refine ⟨?_, ?_⟩
            · go_simp; first | done | with_reducible rfl | exact ⟨rfl, rfl⟩
            simp only [Act.put, List.setIfInBounds_toArray, List.set_cons_zero, List.set_cons_succ]
            refine Pq.WL_step (by rfl) ?_
            apply Exists.intro
            apply Exists.intro
            refine ⟨?_, ?_⟩
            · go_simp; first | done | with_reducible rfl | exact ⟨rfl, rfl⟩
            simp only [Act.put, List.setIfInBounds_toArray, List.set_cons_zero, List.set_cons_succ]
            refine Pq.WL_step (by rfl) ?_
            apply Exists.intro
            apply Exists.intro
            refine ⟨?_, ?_⟩
            · go_simp; first | done | with_reducible rfl | exact ⟨rfl, rfl⟩
            simp only [Act.put, List.setIfInBounds_toArray, List.set_cons_zero, List.set_cons_succ]
            refine Pq.WL_step (by rfl) ?_
            apply Exists.intro
            apply Exists.intro
            refine ⟨?_, ?_⟩
            · go_simp; first | done | with_reducible rfl | exact ⟨rfl, rfl⟩
            simp only [Act.put, List.setIfInBounds_toArray, List.set_cons_zero, List.set_cons_succ]
            refine Pq.WL_step (by rfl) ?_
            apply Exists.intro
            apply Exists.intro
            refine ⟨?_, ?_⟩
            · go_simp; first | done | with_reducible rfl | exact ⟨rfl, rfl⟩
            simp only [Act.put, List.setIfInBounds_toArray, List.set_cons_zero, List.set_cons_succ]
            refine Pq.WL_ret (by rfl) cf_common (common_any a d _ (by omega) (by omega) (by omega) (by omega)) rfl rfl ?_; intro w3 hb3; rw [← HGE.out]
            simp only [Act.put, List.setIfInBounds_toArray, List.set_cons_zero, List.set_cons_succ]
            refine Pq.WL_step (by rfl) ?_
            apply Exists.intro
            apply Exists.intro
            refine ⟨?_, ?_⟩
            · go_simp; first | done | with_reducible rfl | exact ⟨rfl, rfl⟩
            simp only [Act.put, List.setIfInBounds_toArray, List.set_cons_zero, List.set_cons_succ]
            refine Pq.WL_step (by rfl) ?_
            apply Exists.intro
            apply Exists.intro
            refine ⟨?_, ?_⟩
            · go_simp; first | done | with_reducible rfl | exact ⟨rfl, rfl⟩
            simp only [Act.put, List.setIfInBounds_toArray, List.set_cons_zero, List.set_cons_succ]
            refine Pq.WL_nil ?_
            go_upto_region 4 with fail
            go_upto_region 4 with fail
            apply wp_region_lit
            refine Pq.wpL_build (by rfl) _ [] rfl [] rfl _ built_small0 ?_
            simp only [Act.put, List.setIfInBounds_toArray, List.set_cons_zero, List.set_cons_succ]
            refine Pq.wpL_store (by rfl) 70 _ _ rfl g #[.int .i64 0, .int .i64 0] rfl rfl 70 #[.int .i64 0, .int .i64 0] (Pq.keep_block HG0.out hb3) (s_small _ _) rfl (small_one _ _) ?_
            try simp only [Act.put, List.setIfInBounds_toArray, List.set_cons_zero, List.set_cons_succ]
            refine Pq.wpL_step (by rfl) ?_
            apply Exists.intro
            apply Exists.intro
            refine ⟨?_, ?_⟩
            · go_simp; first | done | with_reducible rfl | exact ⟨rfl, rfl⟩
            simp only [Act.put, List.setIfInBounds_toArray, List.set_cons_zero, List.set_cons_succ]
            refine Pq.wpL_nil ?_
            go_wp2
            refine Pq.ret_cell_tmp rfl g _ _ _ _ _ rfl rfl (Pq.setRow_at (Pq.keep_block HG0.out hb3)) u_small rfl (s_small _ _) rfl ⟨by rw [HRES.out]; rfl, Pq.below_setRow (Pq.below_next HB.out (Nat.le_refl _) hb3) (by rw [HG.out]; exact Nat.le_refl _)⟩
end Go.Proofs.Ytjijakfcahhioaa
/-
Contracts that were proved by hand, for the abstract run: whole numbers.
-/
set_option linter.unusedSimpArgs false
set_option linter.unusedVariables false
namespace Ax
open Go Go.RowKit

abbrev cW : Cd := .pair .bool .words
abbrev cF : Cd := .pair cW cW
abbrev W := El cW
abbrev F := El cF

/-- the arguments are these data -/
def ArgsAre (w : World) (R : Nat → Prop) (ts : List (Bool × Cd)) (x : Els ts) (vs : List Value) : Prop :=
  vs.length = (encs ts x).length ∧ ∀ (i : Nat) a v, (encs ts x)[i]? = some a → vs[i]? = some v → AvIs w R [] a v

theorem ret_con {P : Program} {f : FuncId} (ts : List (Bool × Cd)) (sp : Els ts → T Av)
    (h : ∀ x vs w R Q, ArgsAre w R ts x vs → (sp x).wp Q → ∃ v av, Q av ∧ Calls P f vs.toArray w (Pq.Ret w v) ∧ ∀ w' R, AvIs w' R [] av v) : ConOk P f [] (pureRun' ts sp) := by
  intro w φ σ m args vs Q hmem hlen hargs hrun
  unfold pureRun' at hrun
  split at hrun
  · rename_i x hx
    rw [T.wp_bind] at hrun
    obtain ⟨v, av, hQ, hc, hv⟩ := h x vs w _ _ (decs_ok ts args x vs hx hlen hargs) hrun
    refine hc.mono fun e w' hr => ?_
    obtain ⟨rfl, hb⟩ := hr
    have hk := Keep.of_below hb σ
    have hown : ∀ i b : Nat, σ[i]? = some b → w'.heap[b]? = w.heap[b]? := fun i b hi => hb.block b (hmem.lt (List.mem_of_getElem? hi))
    exact ⟨v, av, m, σ, rfl, hQ, Ext.refl _ _, hk, fun i b hi _ => hown i b hi, (hv w' _).ro (fun _ h => h) σ, hmem.stay hk (Ext.refl _ _) rfl hown⟩
  · exact hrun.elim

theorem is_w {w : World} {R : Nat → Prop} {x : W} {us : List Value} (h : Is w R [] (ck cW x) us) : us = Pq.wl x.1 x.2.1 := by
  obtain ⟨t, rfl, h1⟩ := is_v h
  cases h1 with | w h2 => cases h2; simp [Pq.wl]
theorem w_is (w : World) (R : Nat → Prop) (σ : List Nat) (x : W) : Is w R σ (ck cW x) (Pq.wl x.1 x.2.1) := by
  have : Is w R σ (ck cW x) (.bool x.1 :: (Pq.am 32 x.2.1 ++ [])) := .v rfl (.w .nil)
  rwa [List.append_nil] at this
theorem av_w {w : World} {R : Nat → Prop} {x : W} {v : Value} (h : AvIs w R [] (encA true cW x) v) : v = .agg (Pq.wc x.1 x.2.1) := by
  cases h with | agg h => rw [is_w h]; rfl
theorem w_av (w : World) (R : Nat → Prop) (σ : List Nat) (x : W) : AvIs w R σ (.agg (ck cW x)) (.agg (Pq.wc x.1 x.2.1)) := .agg (w_is w R σ x)
theorem args1 {w : World} {R : Nat → Prop} {t : Bool × Cd} {x : Els [t]} {vs : List Value} (h : ArgsAre w R [t] x vs) : ∃ v, vs = [v] ∧ AvIs w R [] (encA t.1 t.2 x.1) v := by
  obtain ⟨hl, h⟩ := h
  match vs, hl with
  | [v], _ => exact ⟨v, rfl, h 0 _ v rfl rfl⟩
theorem args2 {w : World} {R : Nat → Prop} {t u : Bool × Cd} {x : Els [t, u]} {vs : List Value} (h : ArgsAre w R [t, u] x vs) : ∃ v v', vs = [v, v'] ∧ AvIs w R [] (encA t.1 t.2 x.1) v ∧ AvIs w R [] (encA u.1 u.2 x.2.1) v' := by
  obtain ⟨hl, h⟩ := h
  match vs, hl with
  | [v, v'], _ => exact ⟨v, v', rfl, h 0 _ v rfl rfl, h 1 _ v' rfl rfl⟩

/-- the number -/
def zW (x : W) : Int := Pq.zv x.1 x.2.1
def w0 : W := (false, ⟨0, Pq.bp_pos 32⟩)
/-- a number's words, ars they are told; 0 where there is no room -/
def wOf (z : Int) : W := if h : z.natAbs < Pq.bp 32 then (decide (z < 0), ⟨z.natAbs, h⟩) else w0
theorem wOf_ok {z : Int} (h : z.natAbs < Pq.bp 32) : Pq.wc (wOf z).1 (wOf z).2.1 = Pq.wz z := by unfold wOf; rw [dif_pos h]; rfl
theorem wOf_no {z : Int} (h : ¬ z.natAbs < Pq.bp 32) : Pq.wc (wOf z).1 (wOf z).2.1 = Pq.wz 0 := by unfold wOf; rw [dif_neg h]; rfl
/-- a number, and whether there is room -/
def rW (z : Int) : Av := .tup [.agg (ck cW (wOf z)), .one (.v (.bool (Pq.fits z)))]
theorem rW_is (w : World) (R : Nat → Prop) (z : Int) : AvIs w R [] (rW z) (Pq.rz z) := by
  have h : AvIs w R [] (rW z) (.tuple [.agg (Pq.wc (wOf z).1 (wOf z).2.1), .bool (Pq.fits z)].toArray) := AvIs.tup _ rfl fun i a u ha hu => by
    match i, ha, hu with
    | 0, rfl, rfl => exact w_av _ _ _ _
    | 1, rfl, rfl => exact .val rfl
  have e : Pq.rz z = .tuple [.agg (Pq.wc (wOf z).1 (wOf z).2.1), .bool (Pq.fits z)].toArray := by
    unfold Pq.rz
    by_cases hz : z.natAbs < Pq.bp 32
    · have hf : Pq.fits z = true := by simpa [Pq.fits] using hz
      rw [wOf_ok hz, hf]; rfl
    · have hf : Pq.fits z = false := by simpa [Pq.fits] using hz
      rw [wOf_no hz, hf]; rfl
  rw [e]; exact h

theorem wOf_nat {n : Nat} (h : n < Pq.bp 32) : Pq.wc (wOf (n : Int)).1 (wOf (n : Int)).2.1 = Pq.wc false n := by
  rw [wOf_ok (by simpa using h), Pq.wz_nat]
theorem int_av {w : World} {R : Nat → Prop} {k : IntKind} {z : Int} {v : Value} (h : AvIs w R [] (encA false (.int k) z) v) : v = .int k z := val_of h rfl
theorem two_av {w : World} {R : Nat → Prop} {a b : Av} {x y : Value} (h1 : AvIs w R [] a x) (h2 : AvIs w R [] b y) : AvIs w R [] (.tup [a, b]) (.tuple #[x, y]) := by
  have : AvIs w R [] (.tup [a, b]) (.tuple [x, y].toArray) := AvIs.tup _ rfl fun i c u hc hu => by
    match i, hc, hu with
    | 0, rfl, rfl => exact h1
    | 1, rfl, rfl => exact h2
  exact this
theorem three_av {w : World} {R : Nat → Prop} {a b c : Av} {x y z : Value} (h1 : AvIs w R [] a x) (h2 : AvIs w R [] b y) (h3 : AvIs w R [] c z) : AvIs w R [] (.tup [a, b, c]) (.tuple #[x, y, z]) := by
  have : AvIs w R [] (.tup [a, b, c]) (.tuple [x, y, z].toArray) := AvIs.tup _ rfl fun i c u hc hu => by
    match i, hc, hu with
    | 0, rfl, rfl => exact h1
    | 1, rfl, rfl => exact h2
    | 2, rfl, rfl => exact h3
  exact this
def aI (k : IntKind) (z : Int) : Av := .one (.v (.int k z))
def aB (b : Bool) : Av := .one (.v (.bool b))
def aW (z : Int) : Av := .agg (ck cW (wOf z))
theorem aW_is (w : World) (R : Nat → Prop) {z : Int} (h : z.natAbs < Pq.bp 32) : AvIs w R [] (aW z) (.agg (Pq.wz z)) := by
  have := w_av w R [] (wOf z)
  rwa [wOf_ok h] at this
/-- quotient, rest, whether there is a divisor -/
def dmA (a b : Int) : Av := .tup [aW (if b = 0 then 0 else a.tdiv b), aW (if b = 0 then 0 else a.tmod b), aB (decide (b ≠ 0))]
theorem tdiv_le (a b : Int) : (a.tdiv b).natAbs ≤ a.natAbs := by rw [Int.natAbs_tdiv]; exact Nat.div_le_self _ _
theorem tmod_le (a b : Int) : (a.tmod b).natAbs ≤ a.natAbs := by rw [Int.natAbs_tmod]; exact Nat.mod_le _ _
theorem dmA_is (w : World) (R : Nat → Prop) {a b : Int} (ha : a.natAbs < Pq.bp 32) : AvIs w R [] (dmA a b) (Pq.dmv a b) := by
  unfold dmA Pq.dmv
  by_cases hb : b = 0
  · simp only [hb, if_true]
    exact three_av (aW_is _ _ (Pq.bp_pos 32)) (aW_is _ _ (Pq.bp_pos 32)) (.val rfl)
  · simp only [hb, if_false]
    exact three_av (aW_is _ _ (Nat.lt_of_le_of_lt (tdiv_le _ _) ha)) (aW_is _ _ (Nat.lt_of_le_of_lt (tmod_le _ _) ha)) (.val rfl)
/-- a rational ars a fraction -/
def rOf (r : Rat) : F := (wOf r.num, wOf (r.den : Int))
theorem zW_lt (x : W) : (zW x).natAbs < Pq.bp 32 := by unfold zW; rw [Pq.zv_abs]; exact x.2.2

/-! ### arguments that are pointers -/
def derefA (m : Mem) (c : Cd) (av : Av) : Option (El c) :=
  match av with
  | .one (.p i off) => match m[i]? with
    | some (_, cs) => match sub off (csz c) cs with
      | some r => match parse c r with
        | some (x, []) => some x
        | _ => none
      | none => none
    | none => none
  | .one (.pr cs) => match sub 0 (csz c) cs with
    | some r => match parse c r with
      | some (x, []) => some x
      | _ => none
    | none => none
  | _ => none
theorem deref_ok {w : World} {φ σ : List Nat} {m : Mem} {c : Cd} {av : Av} {x : El c} {v : Value} (hm : MemOk w φ σ m) (h : AvIs w (Ro w φ σ) σ av v) (hd : derefA m c av = some x) :
    ∃ b o us, v = .pointer (some ⟨b, o, none⟩) ∧ w.rangeAt b o us ∧ Is w (Ro w φ σ) [] (ck c x) us := by
  unfold derefA at hd
  split at hd
  · rename_i i off
    obtain ⟨b, hb, rfl⟩ := is_one_p h
    split at hd
    · rename_i t cs hmi
      split at hd
      · rename_i r hr
        split at hd
        · rename_i y hp
          cases hd
          obtain ⟨us, hbl, his⟩ := hm.blk i t cs b hmi hb
          obtain ⟨ua, um, ub, rfl, e1, e2, i2⟩ := is_sub his hr
          obtain ⟨va, vb, rfl, j1, j2⟩ := parse_ok c r x [] um hp i2
          cases j2
          have hrg := range_part (range_of_block hbl)
          rw [Nat.zero_add, e1, List.append_nil] at hrg
          exact ⟨b, off, va, rfl, hrg, j1⟩
        · cases hd
      · cases hd
    · cases hd
  · rename_i cs
    obtain ⟨b, o, vs, hR, hrg, hcs, rfl⟩ := is_one_pr h
    split at hd
    · rename_i r hr
      split at hd
      · rename_i y hp
        cases hd
        obtain ⟨ua, um, ub, rfl, e1, e2, i2⟩ := is_sub hcs hr
        obtain ⟨va, vb, rfl, j1, j2⟩ := parse_ok c r x [] um hp i2
        cases j2
        have hrg := range_part hrg
        rw [e1, List.append_nil, Nat.add_zero] at hrg
        exact ⟨b, o, va, rfl, hrg, j1⟩
      · cases hd
    · cases hd
  · cases hd
/-- one argument, a pointer to data that is only read -/
def ptrRun (c : Cd) (sp : El c → T Av) (args : List Av) (m : Mem) : T (Av × Mem) :=
  match args with
  | [a] => match derefA m c a with
    | some x => (sp x).bind fun av => .ret (av, m)
    | none => .fail
  | _ => .fail
theorem ptr_con {P : Program} {f : FuncId} (c : Cd) (sp : El c → T Av)
    (h : ∀ x b o us w R Q, w.rangeAt b o us → Is w R [] (ck c x) us → (sp x).wp Q → ∃ v av, Q av ∧ Calls P f #[.pointer (some ⟨b, o, none⟩)] w (Pq.Ret w v) ∧ ∀ w' R, AvIs w' R [] av v) : ConOk P f [] (ptrRun c sp) := by
  intro w φ σ m args vs Q hmem hlen hargs hrun
  unfold ptrRun at hrun
  split at hrun
  · rename_i a
    obtain ⟨v0, rfl⟩ : ∃ v, vs = [v] := by
      match vs, hlen with
      | [v], _ => exact ⟨v, rfl⟩
    split at hrun
    · rename_i x hx
      rw [T.wp_bind] at hrun
      obtain ⟨b, o, us, rfl, hrg, his⟩ := deref_ok hmem (hargs 0 a v0 rfl rfl) hx
      obtain ⟨v, av, hQ, hc, hv⟩ := h x b o us w _ _ hrg his hrun
      refine hc.mono fun e w' hr => ?_
      obtain ⟨rfl, hb⟩ := hr
      have hk := Keep.of_below hb σ
      have hown : ∀ i b : Nat, σ[i]? = some b → w'.heap[b]? = w.heap[b]? := fun i b hi => hb.block b (hmem.lt (List.mem_of_getElem? hi))
      exact ⟨v, av, m, σ, rfl, hQ, Ext.refl _ _, hk, fun i b hi _ => hown i b hi, (hv w' _).ro (fun _ h => h) σ, hmem.stay hk (Ext.refl _ _) rfl hown⟩
    · exact hrun.elim
  · exact hrun.elim
theorem is_f {w : World} {R : Nat → Prop} {x : F} {us : List Value} (h : Is w R [] (ck cF x) us) : us = Pq.fl x.1.1 x.1.2.1 x.2.1 x.2.2.1 := by
  obtain ⟨t, rfl, h1⟩ := is_v h
  cases h1 with | w h2 =>
  obtain ⟨t, rfl, h3⟩ := is_v h2
  cases h3 with | w h4 => cases h4; simp [Pq.fl, Pq.wl]
theorem f_is (w : World) (R : Nat → Prop) (σ : List Nat) (x : F) : Is w R σ (ck cF x) (Pq.fl x.1.1 x.1.2.1 x.2.1 x.2.2.1) := (w_is w R σ x.1).app (w_is w R σ x.2)
theorem f_av (w : World) (R : Nat → Prop) (σ : List Nat) (x : F) : AvIs w R σ (.agg (ck cF x)) (.agg (Pq.fc x.1.1 x.1.2.1 x.2.1 x.2.2.1)) := .agg (f_is w R σ x)
/-- 0 isn't Neg -/
def isW (x : W) : Bool := !x.1 || !(x.2.1 == 0)
/-- a number of 64 bits -/
def in64 (z : Int) : Prop := -9223372036854775808 ≤ z ∧ z ≤ 9223372036854775807
def in63 (z : Int) : Prop := -9223372036854775807 ≤ z ∧ z ≤ 9223372036854775807
/-- a fraction of small numbers -/
def smB (x : F) : Bool := decide (Pq.smk x.1.1 x.1.2.1 x.2.1 x.2.2.1)
abbrev cS : Cd := .pair (.int .i64) (.int .i64)
def smA (x : F) : Av := .tup [.agg (ck cS (if smB x then (zW x.1, zW x.2) else (0, 0))), aB (smB x)]
end Ax
namespace Go.Proofs.Ytjijakfcahhioaa
open Go.RowKit Ax

noncomputable def con_neg : Con Try.prog := ⟨35, [], pureRun' [(true, cW)] (fun x => .lt (-(zW x.1)) fun z => .ret (aW z)), cf_neg, ret_con _ _ fun x vs w R Q ha hQ => by
  obtain ⟨v, rfl, h1⟩ := args1 ha
  rw [av_w h1]
  exact ⟨_, _, hQ, neg_any x.1.1 x.1.2.1 w x.1.2.2, fun w' R' => aW_is _ _ (by rw [Int.natAbs_neg]; exact zW_lt _)⟩⟩
noncomputable def con_add : Con Try.prog := ⟨43, [], pureRun' [(true, cW), (true, cW)] (fun x => .lt (zW x.1 + zW x.2.1) fun z => .ret (rW z)), cf_add, ret_con _ _ fun x vs w R Q ha hQ => by
  obtain ⟨v, v', rfl, h1, h2⟩ := args2 ha
  rw [av_w h1, av_w h2]
  exact ⟨_, _, hQ, add_any x.1.1 x.1.2.1 x.2.1.1 x.2.1.2.1 w x.1.2.2 x.2.1.2.2, fun w' R' => rW_is _ _ _⟩⟩
noncomputable def con_sub : Con Try.prog := ⟨32, [], pureRun' [(true, cW), (true, cW)] (fun x => .lt (zW x.1 - zW x.2.1) fun z => .ret (rW z)), cf_sub, ret_con _ _ fun x vs w R Q ha hQ => by
  obtain ⟨v, v', rfl, h1, h2⟩ := args2 ha
  rw [av_w h1, av_w h2]
  exact ⟨_, _, hQ, sub_any x.1.1 x.1.2.1 x.2.1.1 x.2.1.2.1 w x.1.2.2 x.2.1.2.2, fun w' R' => rW_is _ _ _⟩⟩
noncomputable def con_mul : Con Try.prog := ⟨68, [], pureRun' [(true, cW), (true, cW)] (fun x => .lt (zW x.1 * zW x.2.1) fun z => .ret (rW z)), cf_mul, ret_con _ _ fun x vs w R Q ha hQ => by
  obtain ⟨v, v', rfl, h1, h2⟩ := args2 ha
  rw [av_w h1, av_w h2]
  exact ⟨_, _, hQ, mul_any x.1.1 x.1.2.1 x.2.1.1 x.2.1.2.1 w x.1.2.2 x.2.1.2.2, fun w' R' => rW_is _ _ _⟩⟩
noncomputable def con_cmp : Con Try.prog := ⟨45, [], pureRun' [(true, cW), (true, cW)] (fun x => .ret (aI .i64 (Pq.cz (zW x.1) (zW x.2.1)))), cf_wcmp, ret_con _ _ fun x vs w R Q ha hQ => by
  obtain ⟨v, v', rfl, h1, h2⟩ := args2 ha
  rw [av_w h1, av_w h2]
  exact ⟨_, _, hQ, cmp_any x.1.1 x.1.2.1 x.2.1.1 x.2.1.2.1 w x.1.2.2 x.2.1.2.2, fun w' R' => .val rfl⟩⟩
noncomputable def con_bits : Con Try.prog := ⟨30, [], pureRun' [(true, cW)] (fun x => .ret (aI .i64 ((Pq.bitn (zW x.1).natAbs : Nat) : Int))), cf_bits, ret_con _ _ fun x vs w R Q ha hQ => by
  obtain ⟨v, rfl, h1⟩ := args1 ha
  rw [av_w h1]
  exact ⟨_, _, hQ, bits_any x.1.1 x.1.2.1 w x.1.2.2, fun w' R' => by unfold zW; rw [Pq.zv_abs]; exact .val rfl⟩⟩
noncomputable def con_is : Con Try.prog := ⟨34, [], pureRun' [(true, cW)] (fun x => .ret (aB (isW x.1))), cf_is, ret_con _ _ fun x vs w R Q ha hQ => by
  obtain ⟨v, rfl, h1⟩ := args1 ha
  rw [av_w h1]
  exact ⟨_, _, hQ, is_any x.1.1 x.1.2.1 w x.1.2.2, fun w' R' => .val rfl⟩⟩
noncomputable def con_divmod : Con Try.prog := ⟨31, [], pureRun' [(true, cW), (true, cW)] (fun x => .lt (zW x.1) fun a => .lt (zW x.2.1) fun b => .ret (dmA a b)), cf_divmod, ret_con _ _ fun x vs w R Q ha hQ => by
  obtain ⟨v, v', rfl, h1, h2⟩ := args2 ha
  rw [av_w h1, av_w h2]
  exact ⟨_, _, hQ, divmod_any x.1.1 x.1.2.1 x.2.1.1 x.2.1.2.1 w x.1.2.2 x.2.1.2.2, fun w' R' => dmA_is _ _ (zW_lt _)⟩⟩
theorem gcd_lt' {x y : Nat} (hx : x < Pq.bp 32) (hy : y < Pq.bp 32) : Nat.gcd x y < Pq.bp 32 := by
  rcases Nat.eq_zero_or_pos y with h | h
  · rw [h, Nat.gcd_zero_right]; exact hx
  · exact Nat.lt_of_le_of_lt (Nat.gcd_le_right _ h) hy
noncomputable def con_gcd : Con Try.prog := ⟨36, [], pureRun' [(true, cW), (true, cW)] (fun x => .lt ((Nat.gcd (zW x.1).natAbs (zW x.2.1).natAbs : Nat) : Int) fun z => .ret (aW z)), cf_gcd, ret_con _ _ fun x vs w R Q ha hQ => by
  obtain ⟨v, v', rfl, h1, h2⟩ := args2 ha
  rw [av_w h1, av_w h2]
  refine ⟨_, _, hQ, gcd_any x.1.1 x.1.2.1 x.2.1.1 x.2.1.2.1 w x.1.2.2 x.2.1.2.2, fun w' R' => ?_⟩
  unfold zW
  rw [Pq.zv_abs, Pq.zv_abs]
  have h := w_av w' R' [] (wOf ((Nat.gcd x.1.2.1 x.2.1.2.1 : Nat) : Int))
  rw [wOf_nat (gcd_lt' x.1.2.2 x.2.1.2.2)] at h
  exact h⟩
theorem i64_lt {z : Int} (h1 : -9223372036854775808 ≤ z) (h2 : z ≤ 9223372036854775807) : z.natAbs < Pq.bp 32 := by
  have h3 : Pq.bp 2 ≤ Pq.bp 32 := Pq.bp_mono (by omega)
  have h4 : Pq.bp 2 = 18446744073709551616 := by decide
  omega
noncomputable def con_from : Con Try.prog := ⟨46, [], pureRun' [(false, .int .i64)] (fun x => .need (in64 x.1) (.ret (aW x.1))), cf_from, ret_con _ _ fun x vs w R Q ha hQ => by
  obtain ⟨v, rfl, h1⟩ := args1 ha
  rw [int_av h1]
  exact ⟨_, _, hQ.2, from_any x.1 w hQ.1.1 hQ.1.2, fun w' R' => aW_is _ _ (i64_lt hQ.1.1 hQ.1.2)⟩⟩
noncomputable def con_one : Con Try.prog := ⟨33, [], pureRun' [] (fun _ => .ret (aW 1)), cf_one, ret_con _ _ fun x vs w R Q ha hQ => by
  obtain ⟨hl, _⟩ := ha
  obtain rfl : vs = [] := List.length_eq_zero_iff.1 (by simpa [encs] using hl)
  exact ⟨_, _, hQ, one_any w, fun w' R' => aW_is (z := 1) _ _ Pq.bp_one_lt⟩⟩
noncomputable def con_isone : Con Try.prog := ⟨37, [], pureRun' [(true, cW)] (fun x => .ret (aB (decide (zW x.1 = 1)))), cf_isone, ret_con _ _ fun x vs w R Q ha hQ => by
  obtain ⟨v, rfl, h1⟩ := args1 ha
  rw [av_w h1]
  exact ⟨_, _, hQ, isone_any x.1.1 x.1.2.1 w x.1.2.2, fun w' R' => .val rfl⟩⟩
noncomputable def con_common : Con Try.prog := ⟨66, [], pureRun' [(false, .int .i64), (false, .int .i64)] (fun x => .need (in63 x.1 ∧ in63 x.2.1) (.ret (aI .i64 ((Nat.gcd x.1.natAbs x.2.1.natAbs : Nat) : Int)))), cf_common, ret_con _ _ fun x vs w R Q ha hQ => by
  obtain ⟨v, v', rfl, h1, h2⟩ := args2 ha
  rw [int_av h1, int_av h2]
  exact ⟨_, _, hQ.2, common_any x.1 x.2.1 w hQ.1.1.1 hQ.1.1.2 hQ.1.2.1 hQ.1.2.2, fun w' R' => .val rfl⟩⟩
noncomputable def con_wideof : Con Try.prog := ⟨67, [], pureRun' [(false, .int .i64)] (fun x => .need (in63 x.1) (.ret (aW x.1))), cf_wideof, ret_con _ _ fun x vs w R Q ha hQ => by
  obtain ⟨v, rfl, h1⟩ := args1 ha
  rw [int_av h1]
  exact ⟨_, _, hQ.2, wideof_any x.1 w hQ.1.1 hQ.1.2, fun w' R' => aW_is _ _ (i64_lt (by have := hQ.1.1; omega) hQ.1.2)⟩⟩
theorem divInt_le {a b : Int} (hb : b ≠ 0) : (Rat.divInt a b).num.natAbs ≤ a.natAbs ∧ (Rat.divInt a b).den ≤ b.natAbs := by
  have key : ∀ (p : Int) (q : Nat), q ≠ 0 → (mkRat p q).num.natAbs ≤ p.natAbs ∧ (mkRat p q).den ≤ q := fun p q hq => by
    rw [← Rat.normalize_eq_mkRat hq, Rat.normalize_eq]
    exact ⟨Int.natAbs_ediv_le_natAbs _ _, Nat.div_le_self _ _⟩
  obtain ⟨q, rfl | rfl⟩ : ∃ q : Nat, b = q ∨ b = -q := ⟨b.natAbs, by omega⟩
  · rw [Rat.divInt_ofNat]
    have := key a q (by omega)
    exact ⟨this.1, by simpa using this.2⟩
  · rw [Rat.divInt_neg', Rat.divInt_ofNat]
    have := key (-a) q (by omega)
    exact ⟨by simpa using this.1, by simpa using this.2⟩
theorem rc_is (w : World) (R : Nat → Prop) {r : Rat} (h1 : r.num.natAbs < Pq.bp 32) (h2 : r.den < Pq.bp 32) : AvIs w R [] (.agg (ck cF (rOf r))) (.agg (Pq.rc r)) := by
  have h := f_av w R [] (rOf r)
  have e1 := wOf_ok h1
  have e2 := wOf_nat h2
  unfold Pq.wc at e1 e2
  have e1' := congrArg Array.toList e1
  have e2' := congrArg Array.toList e2
  have : Pq.fc (rOf r).1.1 (rOf r).1.2.1 (rOf r).2.1 (rOf r).2.2.1 = Pq.rc r := by
    unfold Pq.fc Pq.rc Pq.fc Pq.fl
    simp only [rOf] at e1' e2' ⊢
    rw [show Pq.wl (wOf r.num).1 (wOf r.num).2.1 = Pq.wl (decide (r.num < 0)) r.num.natAbs from by simpa [Pq.wz, Pq.wc] using e1', show Pq.wl (wOf (r.den : Int)).1 (wOf (r.den : Int)).2.1 = Pq.wl false r.den from by simpa using e2']
  rwa [this] at h
noncomputable def con_made : Con Try.prog := ⟨40, [], pureRun' [(false, .int .i64), (false, .int .i64)] (fun x => .need (in63 x.1 ∧ in63 x.2.1 ∧ x.2.1 ≠ 0) (.lt (rOf (Rat.divInt x.1 x.2.1)) fun f => .ret (.agg (ck cF f)))), cf_made, ret_con _ _ fun x vs w R Q ha hQ => by
  obtain ⟨v, v', rfl, h1, h2⟩ := args2 ha
  rw [int_av h1, int_av h2]
  obtain ⟨⟨k1, k2, k3⟩, hQ⟩ := hQ
  have hd := divInt_le (a := x.1) k3
  have l1 := i64_lt (z := x.1) (by have := k1.1; omega) k1.2
  have l2 := i64_lt (z := x.2.1) (by have := k2.1; omega) k2.2
  exact ⟨_, _, hQ, made_any x.1 x.2.1 w k1.1 k1.2 k2.1 k2.2 k3, fun w' R' => rc_is _ _ (by omega) (by omega)⟩⟩
noncomputable def con_smallof : Con Try.prog := ⟨47, [], ptrRun cF (fun x => .ret (smA x)), cf_smallof, ptr_con _ _ fun x b o us w R Q hrg his hQ => by
  have e := is_f his
  subst e
  refine ⟨_, _, hQ, smallof_any b o x.1.1 x.1.2.1 x.2.1 x.2.2.1 w x.1.2.2 x.2.2.2 hrg, fun w' R' => ?_⟩
  unfold smA smB Pq.smv
  refine two_av ?_ (.val rfl)
  by_cases h : Pq.smk x.1.1 x.1.2.1 x.2.1 x.2.2.1
  · simp only [h, decide_true, if_true]
    exact .agg (us := [_, _]) (.v rfl (.v rfl .nil))
  · simp only [h, decide_false, Bool.false_eq_true, if_false]
    exact .agg (us := [_, _]) (.v rfl (.v rfl .nil))⟩

noncomputable def zeroW : Zero Try.prog := ⟨25, ck cW w0, Pq.wl false 0, by kernel_rfl, fun w R σ => w_is w R σ w0⟩
noncomputable def zeroF : Zero Try.prog := ⟨27, ck cF (w0, w0), Pq.fl false 0 false 0, by kernel_rfl, fun w R σ => f_is w R σ (w0, w0)⟩
noncomputable def zeroS : Zero Try.prog := ⟨70, ck cS (0, 0), [.int .i64 0, .int .i64 0], by kernel_rfl, fun w R σ => .v rfl (.v rfl .nil)⟩
noncomputable def zeroB : Zero Try.prog := ⟨4, ck .bool false, [.bool false], by kernel_rfl, fun w R σ => .v rfl .nil⟩
noncomputable def codF : Cod Try.prog := ⟨27, cF, by kernel_rfl, ⟨.agg (Pq.fc false 0 false 0), fun w => by kernel_rfl⟩⟩
noncomputable def E1 : Env Try.prog := ⟨[con_neg, con_add, con_sub, con_mul, con_cmp, con_bits, con_is, con_divmod, con_gcd, con_from, con_one, con_isone, con_common, con_wideof, con_made, con_smallof], [zeroW, zeroF, zeroS, zeroB], [codF], fun _ => false, 0, fun _ => []⟩
end Go.Proofs.Ytjijakfcahhioaa
/-
Fractions as rationals: plain laws.
-/
set_option linter.unusedSimpArgs false
set_option linter.unusedVariables false
namespace Ax
open Go Go.RowKit

theorem pow_to {a j k : Nat} (h : a < 2 ^ j) (hk : j ≤ k) : a < 2 ^ k := Nat.lt_of_lt_of_le h (Nat.pow_le_pow_right (by omega) hk)
theorem pow_eq2 {a m n k : Nat} (h : a = 2 ^ m) (hk : k = m * n) : a ^ n = 2 ^ k := by subst h hk; rw [Nat.pow_mul]
theorem bp_ge {k : Nat} (n : Nat) (hn : n = 1024) (hk : k ≤ n) : 2 ^ k ≤ Pq.bp 32 := by
  have e : Pq.bp 32 = 2 ^ n := pow_eq2 (m := 32) (n := 32) rfl (by omega)
  rw [e]
  exact Nat.pow_le_pow_right (by omega) hk
theorem bp_le {a : Nat} (n : Nat) (hn : n = 1024) (ha : a < Pq.bp 32) : a < 2 ^ n := by
  have e : Pq.bp 32 = 2 ^ n := pow_eq2 (m := 32) (n := 32) rfl (by omega)
  rwa [e] at ha
theorem pow_mul_e {a b j k n : Nat} (hn : n = j + k) (ha : a < 2 ^ j) (hb : b < 2 ^ k) : a * b < 2 ^ n := by
  subst hn
  rw [Nat.pow_add]; exact Nat.mul_lt_mul'' ha hb
theorem pow_mul_ez {a b : Int} {j k n : Nat} (hn : n = j + k) (ha : a.natAbs < 2 ^ j) (hb : b.natAbs < 2 ^ k) : (a * b).natAbs < 2 ^ n := by
  rw [Int.natAbs_mul]; exact pow_mul_e hn ha hb
theorem pow_add_ez {a b : Int} {k n : Nat} (hn : n = k + 1) (ha : a.natAbs < 2 ^ k) (hb : b.natAbs < 2 ^ k) : (a + b).natAbs < 2 ^ n := by
  subst hn
  have := Int.natAbs_add_le a b
  rw [Nat.pow_succ]; omega
theorem zW_wOf {z : Int} (h : z.natAbs < Pq.bp 32) : zW (wOf z) = z := by
  unfold zW wOf
  rw [dif_pos h]
  exact Pq.zv_back z
theorem zW_w0 : zW w0 = 0 := rfl
theorem cz_gt (a : Int) : (Pq.cz a (zW w0) > 0) ↔ 0 < a := by
  rw [zW_w0]
  unfold Pq.cz
  split
  · omega
  · split <;> omega
theorem cz_lt (a b : Int) : Pq.cz a b < 0 ↔ a < b := by
  unfold Pq.cz
  split
  · omega
  · split <;> omega
theorem cz_eq (a b : Int) : Pq.cz a b = 0 ↔ a = b := by
  unfold Pq.cz
  split
  · omega
  · split <;> omega

/-- a fraction in form -/
def OkF (x : F) : Prop := ¬ (x.1.1 = true ∧ x.1.2.1 = 0) ∧ 0 < zW x.2 ∧ Nat.gcd (zW x.1).natAbs (zW x.2).natAbs = 1
instance (x : F) : Decidable (OkF x) := by unfold OkF; infer_instance
def okF (x : F) : Bool := decide (OkF x)
theorem isW_iff (x : W) : isW x = true ↔ ¬ (x.1 = true ∧ x.2.1 = 0) := by
  unfold isW
  cases x.1 <;> simp
theorem isW_pos {x : W} (h : 0 < zW x) : isW x = true := by
  rw [isW_iff]
  rintro ⟨h1, h2⟩
  unfold zW Pq.zv at h
  rw [h1, h2] at h
  simp at h
theorem sm_ok {x : F} (h : smB x = true) : OkF x := by
  have h1 := of_decide_eq_true h
  obtain ⟨a, b, c, d, e⟩ := h1
  refine ⟨fun h => d ⟨h.2, h.1⟩, c, ?_⟩
  unfold zW
  rw [Pq.zv_abs, Pq.zv_abs]; exact e
theorem gcd_bp (x y : W) : ((Nat.gcd (zW x).natAbs (zW y).natAbs : Nat) : Int).natAbs < Pq.bp 32 := by
  rw [Int.natAbs_natCast]
  have hx := zW_lt x
  have hy := zW_lt y
  rcases Nat.eq_zero_or_pos (zW y).natAbs with h | h
  · rw [h, Nat.gcd_zero_right]; exact hx
  · exact Nat.lt_of_le_of_lt (Nat.gcd_le_right _ h) hy
/-- a fraction's rational -/
def qF (x : F) : Rat := Rat.divInt (zW x.1) (zW x.2)
theorem wOf_zW {x : W} (h : isW x = true) : wOf (zW x) = x := by
  obtain ⟨n, x, hx⟩ := x
  have hz := zW_lt (n, ⟨x, hx⟩)
  unfold wOf
  rw [dif_pos hz]
  rw [isW_iff] at h
  unfold zW Pq.zv at *
  cases n
  · simp
  · simp at h ⊢
    omega
theorem rat_parts {x : F} (h : OkF x) : (qF x).num = zW x.1 ∧ ((qF x).den : Int) = zW x.2 := by
  obtain ⟨_, h2, h3⟩ := h
  obtain ⟨d, hd⟩ : ∃ d : Nat, zW x.2 = d := ⟨(zW x.2).toNat, by omega⟩
  unfold qF
  rw [hd, Rat.divInt_ofNat]
  rw [hd] at h2 h3
  rw [Int.natAbs_natCast] at h3
  have hne : d ≠ 0 := by omega
  rw [← Rat.normalize_eq_mkRat hne, Rat.normalize_eq]
  simp [h3]
theorem rOf_qF {x : F} (h : OkF x) : rOf (qF x) = x := by
  obtain ⟨h1, h2⟩ := rat_parts h
  unfold rOf
  rw [h1, h2, wOf_zW ((isW_iff _).2 h.1), wOf_zW (isW_pos h.2.1)]
/-- there is room -/
def Fits (r : Rat) : Prop := r.num.natAbs < Pq.bp 32 ∧ r.den < Pq.bp 32
theorem fits_q {x : F} (h : OkF x) : Fits (qF x) := by
  obtain ⟨h1, h2⟩ := rat_parts h
  refine ⟨by rw [h1]; exact zW_lt _, ?_⟩
  have := zW_lt x.2
  rw [← h2] at this
  simpa using this
theorem ok_rOf {r : Rat} (h : Fits r) : OkF (rOf r) ∧ qF (rOf r) = r := by
  have e1 : zW (rOf r).1 = r.num := zW_wOf h.1
  have e2 : zW (rOf r).2 = (r.den : Int) := zW_wOf (by simpa using h.2)
  have hd := r.den_pos
  refine ⟨⟨?_, by rw [e2]; omega, ?_⟩, ?_⟩
  · unfold rOf wOf
    rw [dif_pos h.1]
    rintro ⟨h1, h2⟩
    simp only [decide_eq_true_eq] at h1
    have h2' : r.num.natAbs = 0 := h2
    omega
  · rw [e1, e2, Int.natAbs_natCast]; exact r.reduced
  · unfold qF
    rw [e1, e2, Rat.divInt_ofNat, Rat.mkRat_self]
/-- what may be reckoned with -/
def SafeF (b : Int) (x : F) : Prop := (Pq.bitn (zW x.1).natAbs : Int) ≤ b ∧ (Pq.bitn (zW x.2).natAbs : Int) ≤ b ∧ OkF x
instance (b : Int) (x : F) : Decidable (SafeF b x) := by unfold SafeF; infer_instance
def safeF (b : Int) (x : F) : Bool := decide (SafeF b x)
theorem sm_safe {x : F} (h : smB x = true) : SafeF 500 x := by
  have h1 := of_decide_eq_true h
  obtain ⟨a, b, c, d, e⟩ := h1
  have k : ∀ n : Nat, n < 1073741824 → Pq.bitn n ≤ 30 := fun n hn => Pq.bitn_le.2 (by simpa using hn)
  unfold SafeF zW
  rw [Pq.zv_abs, Pq.zv_abs]
  have := k _ a
  have := k _ b
  exact ⟨by omega, by omega, sm_ok h⟩
theorem sm_qF {x : F} (h : smB x = true) : (zW x.1).natAbs < 1073741824 ∧ (zW x.2).natAbs < 1073741824 ∧ 0 < zW x.2 := by
  have h1 := of_decide_eq_true h
  obtain ⟨a, b, c, d, e⟩ := h1
  unfold zW
  rw [Pq.zv_abs, Pq.zv_abs]
  exact ⟨a, b, c⟩

/-- making a fraction in lowest terms -/
theorem rOf_div {a b : Int} (hb : 0 < b) : rOf (Rat.divInt a b) = (wOf (a.tdiv ((Nat.gcd a.natAbs b.natAbs : Nat) : Int)), wOf (b.tdiv ((Nat.gcd a.natAbs b.natAbs : Nat) : Int))) := by
  obtain ⟨q, rfl⟩ : ∃ q : Nat, b = q := ⟨b.toNat, by omega⟩
  have hq : q ≠ 0 := by omega
  unfold rOf
  rw [Rat.divInt_ofNat, ← Rat.normalize_eq_mkRat hq, Rat.normalize_eq]
  simp only [Int.natAbs_natCast]
  have e1 : a.tdiv ((Nat.gcd a.natAbs q : Nat) : Int) = a / ((Nat.gcd a.natAbs q : Nat) : Int) := Int.tdiv_eq_ediv_of_dvd (Int.ofNat_dvd_left.2 (Nat.gcd_dvd_left _ _))
  have e2 : (q : Int).tdiv ((Nat.gcd a.natAbs q : Nat) : Int) = ((q / Nat.gcd a.natAbs q : Nat) : Int) := by rw [← Int.ofNat_tdiv]
  rw [e1, e2]
theorem rOf_div1 {a b : Int} (hb : 0 < b) (hg : Nat.gcd a.natAbs b.natAbs = 1) : rOf (Rat.divInt a b) = (wOf a, wOf b) := by
  rw [rOf_div hb, hg]
  simp
def NewOk (n d : W) : Prop := zW d ≠ 0 ∧ Pq.bitn (zW n).natAbs ≤ 1023 ∧ Pq.bitn (zW d).natAbs ≤ 1023 ∧ isW n = true ∧ isW d = true
instance (n d : W) : Decidable (NewOk n d) := by unfold NewOk; infer_instance
/-- a fraction, and whether there is one -/
def ansF (b : Bool) (f : F) : Av := ansA true cF b f (w0, w0)
theorem ansF_yes (f : F) : ansF true f = .tup [.agg (ck cF f), aB true] := rfl
theorem ansF_no (f : F) : ansF false f = .tup [.agg (ck cF (w0, w0)), aB false] := rfl
def newF (n d : W) : F := rOf (Rat.divInt (zW n) (zW d))
theorem gcd_fits {a b : Int} (ha : a.natAbs < Pq.bp 32) (hb : b.natAbs < Pq.bp 32) : ((Nat.gcd a.natAbs b.natAbs : Nat) : Int).natAbs < Pq.bp 32 := by
  have := gcd_bp (wOf a) (wOf b)
  rwa [zW_wOf ha, zW_wOf hb] at this
theorem new_fin {a b : Int} (hb : 0 < b) (ha' : a.natAbs < Pq.bp 32) (hb' : b.natAbs < Pq.bp 32) : let g : Int := ((Nat.gcd a.natAbs b.natAbs : Nat) : Int)
    (wOf (if zW (wOf g) = 0 then 0 else a.tdiv (zW (wOf g))), wOf (if zW (wOf g) = 0 then 0 else b.tdiv (zW (wOf g)))) = rOf (Rat.divInt a b) := by
  intro g
  have hg : g ≠ 0 := by
    have : 0 < Nat.gcd a.natAbs b.natAbs := Nat.gcd_pos_of_pos_right _ (by omega)
    show ((Nat.gcd a.natAbs b.natAbs : Nat) : Int) ≠ 0
    omega
  rw [rOf_div hb, zW_wOf (gcd_fits ha' hb'), if_neg hg, if_neg hg]
end Ax
/-
Fractions: what the functions that call whole numbers alone come to.
-/
set_option linter.unusedSimpArgs false
set_option linter.unusedVariables false
namespace Go.Proofs.Ytjijakfcahhioaa
open Go.RowKit Ax
theorem mixed : Try.prog.follows .mixedOrders = true := by kernel_rfl
theorem cf_ris (xs : Array Value) (w : World) : (callFunc 18 xs).run Try.prog w = .ok (.enter 18 xs) w := by kernel_rfl
theorem cf_rnew (xs : Array Value) (w : World) : (callFunc 13 xs).run Try.prog w = .ok (.enter 13 xs) w := by kernel_rfl
theorem cf_rsign (xs : Array Value) (w : World) : (callFunc 27 xs).run Try.prog w = .ok (.enter 27 xs) w := by kernel_rfl
theorem cf_rturned (xs : Array Value) (w : World) : (callFunc 56 xs).run Try.prog w = .ok (.enter 56 xs) w := by kernel_rfl
theorem cf_rtimes (xs : Array Value) (w : World) : (callFunc 42 xs).run Try.prog w = .ok (.enter 42 xs) w := by kernel_rfl
theorem cf_rsafe1 (xs : Array Value) (w : World) : (callFunc 10 xs).run Try.prog w = .ok (.enter 10 xs) w := by kernel_rfl
theorem cf_rsafe (xs : Array Value) (w : World) : (callFunc 41 xs).run Try.prog w = .ok (.enter 41 xs) w := by kernel_rfl
theorem cf_rof (xs : Array Value) (w : World) : (callFunc 17 xs).run Try.prog w = .ok (.enter 17 xs) w := by kernel_rfl
noncomputable def tr_ris (x : Els [(true, cF)]) : T Av :=
 .ite (smB (x.1))
  (.ret (.one (.v (.bool (true)))))
  (.ite (isW x.1.1)
   (.ite (isW x.1.2)
    (.ite (decide (Pq.cz (zW x.1.2) (zW w0) > 0))
     (.lt ((↑(Nat.gcd (Int.natAbs (zW x.1.1)) (Int.natAbs (zW x.1.2))) : Int)) (fun v4 =>
      .ret (.one (.v (.bool (decide (zW (wOf v4) = 1)))))))
     (.ret (.one (.v (.bool (false))))))
    (.ret (.one (.v (.bool (false))))))
   (.ret (.one (.v (.bool (false))))))
theorem tr_ris_eq (x : Els [(true, cF)]) : fnP E1 (fun _ => none) Try.f18 (encs [(true, cF)] x) = tr_ris x := by kernel_rfl
theorem ris_ok (x : Els [(true, cF)]) : (tr_ris x).wp (· = aB (okF x.1)) := by
  unfold tr_ris
  simp only [T.wp]
  refine ⟨fun h => ?_, fun h => ⟨fun h1 => ⟨fun h2 => ⟨fun h3 => ?_, fun h3 => ?_⟩, fun h2 => ?_⟩, fun h1 => ?_⟩⟩
  · unfold okF; rw [decide_eq_true (sm_ok h)]; rfl
  · have h3' := (cz_gt _).1 (of_decide_eq_true h3)
    rw [zW_wOf (gcd_bp _ _)]
    unfold okF aB
    congr 2
    simp only [Ck.v.injEq, Value.bool.injEq]
    by_cases hg : Nat.gcd (zW x.1.1).natAbs (zW x.1.2).natAbs = 1
    · rw [decide_eq_true (show OkF x.1 from ⟨(isW_iff _).1 h1, h3', hg⟩), decide_eq_true (by omega)]
    · rw [decide_eq_false (fun h : OkF x.1 => hg h.2.2), decide_eq_false (by omega)]
  · have h3' := of_decide_eq_false h3
    unfold okF
    rw [decide_eq_false (fun h : OkF x.1 => h3' ((cz_gt _).2 h.2.1))]; rfl
  · unfold okF
    rw [decide_eq_false (fun h : OkF x.1 => by rw [isW_pos h.2.1] at h2; cases h2)]; rfl
  · unfold okF
    rw [decide_eq_false (fun h : OkF x.1 => by rw [(isW_iff _).2 h.1] at h1; cases h1)]; rfl
noncomputable def con_ris : Con Try.prog := ⟨18, [], _, cf_ris, tot_con (E := E1) mixed Try.func18 no_loops [(true, cF)] (fun x => aB (okF x.1)) fun x => by rw [tr_ris_eq]; exact ris_ok x⟩
noncomputable def tr_rnew (x : Els [(true, cW), (true, cW)]) : T Av :=
 .ite ((↑(Pq.bitn (Int.natAbs (zW x.2.1))) : Int) == 0)
  (.ret (.tup [(.agg [.v (.bool w0.1), .w w0.2, .v (.bool w0.1), .w w0.2]), (.one (.v (.bool (false))))]))
  (.ite (decide ((↑(Pq.bitn (Int.natAbs (zW (x.1)))) : Int) > 1023))
   (.ret (.tup [(.agg [.v (.bool w0.1), .w w0.2, .v (.bool w0.1), .w w0.2]), (.one (.v (.bool (false))))]))
   (.ite (decide ((↑(Pq.bitn (Int.natAbs (zW x.2.1))) : Int) > 1023))
    (.ret (.tup [(.agg [.v (.bool w0.1), .w w0.2, .v (.bool w0.1), .w w0.2]), (.one (.v (.bool (false))))]))
    (.ite (!isW (x.1))
     (.ret (.tup [(.agg [.v (.bool w0.1), .w w0.2, .v (.bool w0.1), .w w0.2]), (.one (.v (.bool (false))))]))
     (.ite (!isW x.2.1)
      (.ret (.tup [(.agg [.v (.bool w0.1), .w w0.2, .v (.bool w0.1), .w w0.2]), (.one (.v (.bool (false))))]))
      (.ite x.2.1.1
       (.and
        (.and
         (.lt (-zW (x.1)) (fun v8 =>
          .lt (-zW x.2.1) (fun v9 =>
           .lt ((↑(Nat.gcd (Int.natAbs (zW (wOf v8))) (Int.natAbs (zW (wOf v9)))) : Int)) (fun v10 =>
            .ite (!decide (zW (wOf v10) = 1))
             (.lt (zW (wOf v8)) (fun v12 =>
              .lt (zW (wOf v10)) (fun v13 =>
               .lt (zW (wOf v9)) (fun v14 =>
                .lt (zW (wOf v10)) (fun v15 =>
                 .ret (.tup [(.agg [.v (.bool (wOf (if v13 = 0 then 0 else Int.tdiv v12 v13)).1), .w (wOf (if v13 = 0 then 0 else Int.tdiv v12 v13)).2, .v (.bool (wOf (if v15 = 0 then 0 else Int.tdiv v14 v15)).1), .w (wOf (if v15 = 0 then 0 else Int.tdiv v14 v15)).2]), (.one (.v (.bool (true))))]))))))
             (.ret (.tup [(.agg [.v (.bool (wOf v8).1), .w (wOf v8).2, .v (.bool (wOf v9).1), .w (wOf v9).2]), (.one (.v (.bool (true))))]))))))
         (.lt (-zW (x.1)) (fun v8 =>
          .lt (-zW x.2.1) (fun v9 =>
           .lt ((↑(Nat.gcd (Int.natAbs (zW (wOf v8))) (Int.natAbs (zW (wOf v9)))) : Int)) (fun v10 =>
            .ite (!decide (zW (wOf v10) = 1))
             (.lt (zW (wOf v8)) (fun v12 =>
              .lt (zW (wOf v10)) (fun v13 =>
               .lt (zW (wOf v9)) (fun v14 =>
                .lt (zW (wOf v10)) (fun v15 =>
                 .ret (.tup [(.agg [.v (.bool (wOf (if v13 = 0 then 0 else Int.tdiv v12 v13)).1), .w (wOf (if v13 = 0 then 0 else Int.tdiv v12 v13)).2, .v (.bool (wOf (if v15 = 0 then 0 else Int.tdiv v14 v15)).1), .w (wOf (if v15 = 0 then 0 else Int.tdiv v14 v15)).2]), (.one (.v (.bool (true))))]))))))
             (.ret (.tup [(.agg [.v (.bool (wOf v8).1), .w (wOf v8).2, .v (.bool (wOf v9).1), .w (wOf v9).2]), (.one (.v (.bool (true))))])))))))
        (.lt (-zW (x.1)) (fun v7 =>
         .lt (-zW x.2.1) (fun v8 =>
          .lt ((↑(Nat.gcd (Int.natAbs (zW (wOf v7))) (Int.natAbs (zW (wOf v8)))) : Int)) (fun v9 =>
           .ite (!decide (zW (wOf v9) = 1))
            (.lt (zW (wOf v7)) (fun v11 =>
             .lt (zW (wOf v9)) (fun v12 =>
              .lt (zW (wOf v8)) (fun v13 =>
               .lt (zW (wOf v9)) (fun v14 =>
                .ret (.tup [(.agg [.v (.bool (wOf (if v12 = 0 then 0 else Int.tdiv v11 v12)).1), .w (wOf (if v12 = 0 then 0 else Int.tdiv v11 v12)).2, .v (.bool (wOf (if v14 = 0 then 0 else Int.tdiv v13 v14)).1), .w (wOf (if v14 = 0 then 0 else Int.tdiv v13 v14)).2]), (.one (.v (.bool (true))))]))))))
            (.ret (.tup [(.agg [.v (.bool (wOf v7).1), .w (wOf v7).2, .v (.bool (wOf v8).1), .w (wOf v8).2]), (.one (.v (.bool (true))))])))))))
       (.lt ((↑(Nat.gcd (Int.natAbs (zW (x.1))) (Int.natAbs (zW x.2.1))) : Int)) (fun v6 =>
        .ite (!decide (zW (wOf v6) = 1))
         (.lt (zW (x.1)) (fun v8 =>
          .lt (zW (wOf v6)) (fun v9 =>
           .lt (zW x.2.1) (fun v10 =>
            .lt (zW (wOf v6)) (fun v11 =>
             .ret (.tup [(.agg [.v (.bool (wOf (if v9 = 0 then 0 else Int.tdiv v8 v9)).1), .w (wOf (if v9 = 0 then 0 else Int.tdiv v8 v9)).2, .v (.bool (wOf (if v11 = 0 then 0 else Int.tdiv v10 v11)).1), .w (wOf (if v11 = 0 then 0 else Int.tdiv v10 v11)).2]), (.one (.v (.bool (true))))]))))))
         (.ret (.tup [(.agg [.v (.bool x.1.1), .w x.1.2, .v (.bool x.2.1.1), .w x.2.1.2]), (.one (.v (.bool (true))))])))))))))
theorem tr_rnew_eq (x : Els [(true, cW), (true, cW)]) : fnP E1 (fun _ => none) Try.f13 (encs [(true, cW), (true, cW)] x) = tr_rnew x := by kernel_rfl
theorem new_end {n d : W} (h : NewOk n d) {a b : Int} (hb : 0 < b) (ha' : a.natAbs < Pq.bp 32) (hb' : b.natAbs < Pq.bp 32) (e : Rat.divInt a b = Rat.divInt (zW n) (zW d)) (f : F) (hf : Nat.gcd a.natAbs b.natAbs = 1 → f = (wOf a, wOf b)) :
    (T.ite (!decide (zW (wOf ((Nat.gcd a.natAbs b.natAbs : Nat) : Int)) = 1)) (T.ret (Av.tup [.agg (ck cF (wOf (if zW (wOf ((Nat.gcd a.natAbs b.natAbs : Nat) : Int)) = 0 then 0 else a.tdiv (zW (wOf ((Nat.gcd a.natAbs b.natAbs : Nat) : Int)))), wOf (if zW (wOf ((Nat.gcd a.natAbs b.natAbs : Nat) : Int)) = 0 then 0 else b.tdiv (zW (wOf ((Nat.gcd a.natAbs b.natAbs : Nat) : Int)))))), aB true]))
      (T.ret (Av.tup [.agg (ck cF f), aB true]))).wp (· = ansF (decide (NewOk n d)) (newF n d)) := by
  rw [decide_eq_true h, ansF_yes]
  unfold newF
  refine ⟨fun h => ?_, fun h => ?_⟩
  · rw [← e, ← new_fin hb ha' hb']; exact rfl
  · rw [zW_wOf (gcd_fits ha' hb')] at h
    have hg : Nat.gcd a.natAbs b.natAbs = 1 := by
      have h1 : decide (((Nat.gcd a.natAbs b.natAbs : Nat) : Int) = 1) = true := by simpa using h
      have := of_decide_eq_true h1
      omega
    rw [← e, rOf_div1 hb hg, hf hg]; exact rfl
theorem rnew_ok (x : Els [(true, cW), (true, cW)]) : (tr_rnew x).wp (· = ansF (decide (NewOk x.1 x.2.1)) (newF x.1 x.2.1)) := by
  obtain ⟨n, d, u⟩ := x
  have no : ∀ {Q : Prop}, (¬ NewOk n d) → (Av.tup [.agg (ck cF (w0, w0)), aB false] = ansF (decide (NewOk n d)) (newF n d)) := fun h => by rw [decide_eq_false h, ansF_no]
  unfold tr_rnew
  simp only
  refine ⟨fun h => no (Q := True) fun k => ?_, fun h0 => ⟨fun h => no (Q := True) fun k => ?_, fun h1 => ⟨fun h => no (Q := True) fun k => ?_, fun h2 => ⟨fun h => no (Q := True) fun k => ?_, fun h3 => ⟨fun h => no (Q := True) fun k => ?_, fun h4 => ?_⟩⟩⟩⟩⟩
  · have h : (Pq.bitn (zW d).natAbs : Int) = 0 := by simpa using h
    have := Pq.bitn_eq0.1 (show Pq.bitn (zW d).natAbs = 0 by omega)
    exact k.1 (by omega)
  · have := of_decide_eq_true h; have := k.2.1; omega
  · have := of_decide_eq_true h; have := k.2.2.1; omega
  · rw [k.2.2.2.1] at h; cases h
  · rw [k.2.2.2.2] at h; cases h
  have hz : zW d ≠ 0 := by
    intro hz
    rw [hz] at h0
    simp [Pq.bitn_zero] at h0
  have hok : NewOk n d := ⟨hz, by have := of_decide_eq_false h1; omega, by have := of_decide_eq_false h2; omega, by simpa using h3, by simpa using h4⟩
  have hn := zW_lt n
  have hd := zW_lt d
  refine ⟨fun h => ?_, fun h => ?_⟩
  · have hneg : zW d < 0 := by
      have hd1 : d.1 = true := h
      have : zW d = -(d.2.1 : Int) := by unfold zW Pq.zv; rw [hd1]; rfl
      omega
    have e : Rat.divInt (-(zW n)) (-(zW d)) = Rat.divInt (zW n) (zW d) := by rw [Rat.divInt_neg', Int.neg_neg]
    have key := new_end hok (a := -(zW n)) (b := -(zW d)) (by omega) (by rw [Int.natAbs_neg]; exact hn) (by rw [Int.natAbs_neg]; exact hd) e (wOf (-(zW n)), wOf (-(zW d))) (fun _ => rfl)
    simp only [T.wp, zW_wOf (show (-(zW n)).natAbs < Pq.bp 32 by rw [Int.natAbs_neg]; exact hn), zW_wOf (show (-(zW d)).natAbs < Pq.bp 32 by rw [Int.natAbs_neg]; exact hd)] at key ⊢
    exact ⟨⟨key, key⟩, key⟩
  · have hpos : 0 < zW d := by
      have hd1 : d.1 = false := h
      have : zW d = (d.2.1 : Int) := by unfold zW Pq.zv; rw [hd1]; rfl
      omega
    have key := new_end hok (a := zW n) (b := zW d) hpos hn hd rfl (n, d) (fun _ => by rw [wOf_zW hok.2.2.2.1, wOf_zW hok.2.2.2.2])
    simp only [T.wp] at key ⊢
    exact key
noncomputable def con_rnew : Con Try.prog := ⟨13, [], _, cf_rnew, ans_con0 (E := E1) mixed Try.func13 no_loops [(true, cW), (true, cW)] true cF (fun x => decide (NewOk x.1 x.2.1)) (fun x => newF x.1 x.2.1) (fun _ => (w0, w0)) fun x => by rw [tr_rnew_eq]; exact rnew_ok x⟩
noncomputable def tr_rtimes (x : El (.bool) × Els [(true, cW), (true, cW)]) : T (Av × El (.bool)) :=
 .lt (zW x.2.1 * zW x.2.2.1) (fun v0 =>
  .ite (x.1)
   (.ret ((.agg [.v (.bool (wOf v0).1), .w (wOf v0).2]), Pq.fits v0))
   (.ret ((.agg [.v (.bool (wOf v0).1), .w (wOf v0).2]), false)))
theorem tr_rtimes_eq (x : El (.bool) × Els [(true, cW), (true, cW)]) : ptr1 E1 (fun _ => none) Try.f42 2 4 (.bool) x.1 (encs [(true, cW), (true, cW)] x.2) = tr_rtimes x := by kernel_rfl
noncomputable def con_rtimes : Con Try.prog := ⟨42, [2], _, cf_rtimes, ptr1_ok (E := E1) (L := fun _ => none) mixed Try.func42 no_loops 2 4 .bool [(true, cW), (true, cW)] (fun ok x => .lt (zW x.1 * zW x.2.1) fun z => .ret (aW z, ok && Pq.fits z)) fun ok x Q hq => by
  have := tr_rtimes_eq (ok, x)
  rw [show ptr1 E1 (fun _ => none) Try.f42 2 4 .bool ok (encs [(true, cW), (true, cW)] x) = _ from this]
  unfold tr_rtimes
  simp only [T.wp] at hq ⊢
  refine ⟨fun h => ?_, fun h => ?_⟩
  · subst h; exact hq
  · subst h; exact hq⟩
noncomputable def con_rsign : Con Try.prog := ⟨27, [], _, cf_rsign, tot_con (E := E1) mixed Try.func27 no_loops [(true, cF)] (fun x => aI .i64 (Pq.cz (zW x.1.1) 0)) fun x => by
  have e : fnP E1 (fun _ => none) Try.f27 (encs [(true, cF)] x) = .ret (aI .i64 (Pq.cz (zW x.1.1) (zW w0))) := by kernel_rfl
  rw [e, zW_w0]; exact rfl⟩
noncomputable def con_rturned : Con Try.prog := ⟨56, [], _, cf_rturned, tot_con (E := E1) mixed Try.func56 no_loops [(true, cF)] (fun x => .agg (ck cF (wOf (-(zW x.1.1)), x.1.2))) fun x => by
  have e : fnP E1 (fun _ => none) Try.f56 (encs [(true, cF)] x) = .lt (-(zW x.1.1)) fun z => .ret (.agg (ck cF (wOf z, x.1.2))) := by kernel_rfl
  rw [e]; exact rfl⟩
end Go.Proofs.Ytjijakfcahhioaa
set_option linter.unusedSimpArgs false
set_option linter.unusedVariables false
namespace Go.Proofs.Ytjijakfcahhioaa
open Go.RowKit Ax
noncomputable def E2 : Env Try.prog := ⟨con_ris :: con_rnew :: con_rsign :: con_rturned :: con_rtimes :: E1.con, E1.zero, E1.cod, E1.sure, E1.base, E1.frz⟩
end Go.Proofs.Ytjijakfcahhioaa
/-
Fractions: Safe, Of, safe.
-/
set_option linter.unusedSimpArgs false
set_option linter.unusedVariables false
namespace Go.Proofs.Ytjijakfcahhioaa
open Go.RowKit Ax
noncomputable def tr_rsafe1 (x : Els [(true, cF), (false, .int .i64)]) : T Av :=
 .ite (decide ((↑(Pq.bitn (Int.natAbs (zW x.1.1))) : Int) ≤ x.2.1))
  (.ite (decide ((↑(Pq.bitn (Int.natAbs (zW x.1.2))) : Int) ≤ x.2.1))
   (.ret (.one (.v (.bool (okF (x.1))))))
   (.ret (.one (.v (.bool (false))))))
  (.ret (.one (.v (.bool (false)))))
theorem tr_rsafe1_eq (x : Els [(true, cF), (false, .int .i64)]) : fnP E2 (fun _ => none) Try.f10 (encs [(true, cF), (false, .int .i64)] x) = tr_rsafe1 x := by kernel_rfl
theorem rsafe1_ok (x : Els [(true, cF), (false, .int .i64)]) : (tr_rsafe1 x).wp (· = aB (safeF x.2.1 x.1)) := by
  unfold tr_rsafe1
  simp only [T.wp]
  unfold safeF
  refine ⟨fun h => ⟨fun h1 => ?_, fun h1 => ?_⟩, fun h => ?_⟩
  · unfold okF
    by_cases ho : OkF x.1
    · rw [decide_eq_true ho, decide_eq_true (show SafeF x.2.1 x.1 from ⟨of_decide_eq_true h, of_decide_eq_true h1, ho⟩)]; rfl
    · rw [decide_eq_false ho, decide_eq_false (fun k : SafeF x.2.1 x.1 => ho k.2.2)]; rfl
  · rw [decide_eq_false (fun k : SafeF x.2.1 x.1 => of_decide_eq_false h1 k.2.1)]; rfl
  · rw [decide_eq_false (fun k : SafeF x.2.1 x.1 => of_decide_eq_false h k.1)]; rfl
noncomputable def con_rsafe1 : Con Try.prog := ⟨10, [], _, cf_rsafe1, tot_con (E := E2) mixed Try.func10 no_loops [(true, cF), (false, .int .i64)] (fun x => aB (safeF x.2.1 x.1)) fun x => by rw [tr_rsafe1_eq]; exact rsafe1_ok x⟩
noncomputable def tr_rof (x : Els [(false, .int .i64), (false, .int .i64)]) : T Av :=
 .need (in64 (x.1)) (.need (in64 x.2.1) (.ite (decide (NewOk (wOf (x.1)) (wOf x.2.1)))
    (.lt (newF (wOf (x.1)) (wOf x.2.1)) (fun v3 =>
     .ret (.tup [(.agg [.v (.bool v3.1.1), .w v3.1.2, .v (.bool v3.2.1), .w v3.2.2]), (.one (.v (.bool (true))))])))
    (.ret (.tup [(.agg [.v (.bool w0.1), .w w0.2, .v (.bool w0.1), .w w0.2]), (.one (.v (.bool (false))))]))))
theorem tr_rof_eq (x : Els [(false, .int .i64), (false, .int .i64)]) : fnP E2 (fun _ => none) Try.f17 (encs [(false, .int .i64), (false, .int .i64)] x) = tr_rof x := by kernel_rfl
theorem of_newok {p q : Int} (hp : in64 p) (hq : in64 q) : NewOk (wOf p) (wOf q) ↔ q ≠ 0 := by
  have k : ∀ z : Int, in64 z → Pq.bitn z.natAbs ≤ 1023 := fun z hz => by
    have : Pq.bitn z.natAbs ≤ 64 := Pq.bitn_le.2 (by have := hz.1; have := hz.2; have e : (2 : Nat) ^ 64 = 18446744073709551616 := by decide
                                                     omega)
    omega
  have isw : ∀ z : Int, z.natAbs < Pq.bp 32 → isW (wOf z) = true := fun z hz => by
    rw [isW_iff]
    unfold wOf
    rw [dif_pos hz]
    rintro ⟨h1, h2⟩
    simp only [decide_eq_true_eq] at h1
    have h2' : z.natAbs = 0 := h2
    omega
  have fp := i64_lt hp.1 hp.2
  have fq := i64_lt hq.1 hq.2
  unfold NewOk
  rw [zW_wOf fp, zW_wOf fq]
  exact ⟨fun h => h.1, fun h => ⟨h, k p hp, k q hq, isw p fp, isw q fq⟩⟩
noncomputable def con_rof : Con Try.prog := ⟨17, [], _, cf_rof, ans_con (E := E2) mixed Try.func17 no_loops [(false, .int .i64), (false, .int .i64)] (fun x => in64 x.1 ∧ in64 x.2.1) true cF (fun x => decide (x.2.1 ≠ 0)) (fun x => rOf (Rat.divInt x.1 x.2.1)) (fun _ => (w0, w0)) fun x hx => by
  rw [tr_rof_eq]
  unfold tr_rof
  simp only [T.wp]
  refine ⟨hx.1, hx.2, fun h => ?_, fun h => ?_⟩
  · have hne := (of_newok hx.1 hx.2).1 (of_decide_eq_true h)
    rw [decide_eq_true hne]
    unfold newF
    rw [zW_wOf (i64_lt hx.1.1 hx.1.2), zW_wOf (i64_lt hx.2.1 hx.2.2)]
    rfl
  · have hne : ¬ x.2.1 ≠ 0 := fun k => of_decide_eq_false h ((of_newok hx.1 hx.2).2 k)
    rw [decide_eq_false hne]
    rfl⟩
end Go.Proofs.Ytjijakfcahhioaa
set_option linter.unusedSimpArgs false
set_option linter.unusedVariables false
namespace Go.Proofs.Ytjijakfcahhioaa
open Go.RowKit Ax
noncomputable def E3 : Env Try.prog := ⟨con_rsafe1 :: con_rof :: E2.con, E2.zero, E2.cod, E2.sure, E2.base, E2.frz⟩
def spSafe : LSpec := ⟨15, [(5, false, .sl cF), (6, false, .int .i64), (7, false, .int .i64)], [], [], fun e => match e with | .ret => [2] | _ => []⟩
end Go.Proofs.Ytjijakfcahhioaa
set_option linter.unusedSimpArgs false
set_option linter.unusedVariables false
namespace Go.Proofs.Ytjijakfcahhioaa
open Go.RowKit Ax
noncomputable def tr_safeL (x : LSpec.X spSafe × LSpec.Y spSafe) : T (Rd spSafe) :=
 .ite (decide (x.1.2.2.1 < x.1.2.1))
  (.get x.1.1 x.1.2.2.1 (fun v1 =>
   .ite (!safeF 500 v1)
    (.ret (.out (Go.Exit.ret) [(.one (.v (.bool (false))))] ()))
    (.ret (.again (x.1.1, (x.1.2.1, (IntKind.wrap .i64 (x.1.2.2.1 + 1), ()))) ()))))
  (.ret (.out (Go.Exit.exit 0) [] ()))
theorem tr_safeL_eq (x : LSpec.X spSafe × LSpec.Y spSafe) : LSpec.round spSafe E3 (fun _ => none) (bodyOf Try.f41 0) x.1 x.2 = tr_safeL x := by kernel_rfl
def outSafe (x : LSpec.X spSafe) (y : LSpec.Y spSafe) : T (Exit × List Av × LSpec.Y spSafe) :=
  .need (x.2.1 = x.1.length ∧ 0 ≤ x.2.2.1 ∧ x.2.2.1 ≤ x.1.length ∧ lenOk x.1.length) (.ite ((x.1.drop x.2.2.1.toNat).all (safeF 500)) (.ret (.exit 0, [], ())) (.ret (.ret, [aB false], ())))
theorem safeL_core (l : List F) (n i : Int) (Q : Exit × List Av × LSpec.Y spSafe → Prop) (h : (outSafe (l, n, i, ()) ()).wp Q) : (tr_safeL ((l, n, i, ()), ())).wp fun r => match r with
      | .again x' y' => (x'.1.length - x'.2.2.1).toNat < (l.length - i).toNat ∧ (outSafe x' y').wp Q
      | .out e avs y' => Q (e, avs, y') := by
  unfold tr_safeL
  unfold outSafe at h ⊢
  simp only [T.wp] at h ⊢
  dsimp only [El, vts] at h ⊢
  obtain ⟨⟨hn, h0, h1, hl⟩, ht, hf⟩ := h
  refine ⟨fun hlt => ?_, fun hge => ?_⟩
  · have hlt := of_decide_eq_true hlt
    rw [hn] at hlt
    obtain ⟨v, hv⟩ := elem_at h0 hlt
    have hd := drop_at h0 hv
    refine ⟨v, h0, hv, fun hs => ?_, fun hs => ?_⟩
    · refine hf ?_
      rw [hd, List.all_cons]
      simp at hs
      rw [hs]; rfl
    · rw [wrap_next h0 hlt hl]
      have hs' : safeF 500 v = true := by simpa using hs
      rw [hd, List.all_cons, hs', Bool.true_and] at ht hf
      exact ⟨by omega, ⟨hn, by omega, by omega, hl⟩, ht, hf⟩
  · have hge := of_decide_eq_false hge
    rw [hn] at hge
    rw [drop_end (by omega)] at ht
    exact ht rfl
theorem safeL_ok : LoopOk Try.prog 0 (bodyOf Try.f41 0) (spSafe.run outSafe) :=
  loop_ok (E := E3) (L := fun _ => none) mixed 0 (loops_none _ _ _) spSafe (Nat.le_refl _) outSafe (fun x _ => (x.1.length - x.2.2.1).toNat) (by
    rintro ⟨l, n, i, ⟨⟩⟩ ⟨⟩ Q h
    rw [tr_safeL_eq ((l, n, i, ()), ())]
    exact safeL_core l n i Q h)
noncomputable def lpSafe : Loops := oneL 2 (spSafe.run outSafe)
end Go.Proofs.Ytjijakfcahhioaa
set_option linter.unusedSimpArgs false
set_option linter.unusedVariables false
namespace Go.Proofs.Ytjijakfcahhioaa
open Go.RowKit Ax
noncomputable def tr_rsafe (x : Els [(false, .sl cF)]) : T Av :=
 .need ((↑(List.length (x.1)) : Int) = (↑(List.length (x.1)) : El (Cd.int .i64)) ∧ (0 : El (Cd.int .i64)) ≤ (0 : Int) ∧ (0 : Int) ≤ (↑(List.length (x.1)) : El (Cd.int .i64)) ∧ lenOk (List.length (x.1))) (.ite (List.all (List.drop (Int.toNat (0 : Int)) (x.1)) (safeF (500 : Int)))
   (.ret (.one (.v (.bool (true)))))
   (.ret (.one (.v (.bool (false))))))
theorem tr_rsafe_eq (x : Els [(false, .sl cF)]) : fnP E3 lpSafe Try.f41 (encs [(false, .sl cF)] x) = tr_rsafe x := by kernel_rfl
noncomputable def con_rsafe : Con Try.prog := ⟨41, [], _, cf_rsafe, val_con (E := E3) (L := lpSafe) mixed Try.func41 (one_loop safeL_ok (by kernel_rfl)) [(false, .sl cF)] (fun x => lenOk x.1.length) (fun x => aB (x.1.all (safeF 500))) fun x hx => by
  rw [tr_rsafe_eq]
  unfold tr_rsafe
  simp only [T.wp]
  dsimp only [El]
  refine ⟨⟨by simp, by simp, by simp, hx⟩, fun h => ?_, fun h => ?_⟩
  · simp only [Int.toNat_zero, List.drop_zero] at h; rw [h]; rfl
  · simp only [Int.toNat_zero, List.drop_zero] at h; rw [h]; rfl⟩
noncomputable def E4 : Env Try.prog := ⟨con_rsafe :: E3.con, E3.zero, E3.cod, E3.sure, E3.base, E3.frz⟩
theorem cf_rcmp (xs : Array Value) (w : World) : (callFunc 16 xs).run Try.prog w = .ok (.enter 16 xs) w := by kernel_rfl
theorem cf_radd (xs : Array Value) (w : World) : (callFunc 15 xs).run Try.prog w = .ok (.enter 15 xs) w := by kernel_rfl
theorem cf_rsub (xs : Array Value) (w : World) : (callFunc 26 xs).run Try.prog w = .ok (.enter 26 xs) w := by kernel_rfl
theorem cf_rmul (xs : Array Value) (w : World) : (callFunc 28 xs).run Try.prog w = .ok (.enter 28 xs) w := by kernel_rfl
theorem cf_rdiv (xs : Array Value) (w : World) : (callFunc 29 xs).run Try.prog w = .ok (.enter 29 xs) w := by kernel_rfl
end Go.Proofs.Ytjijakfcahhioaa
set_option linter.unusedSimpArgs false
set_option linter.unusedVariables false
namespace Pq
open Go Go.RowKit
def sml (n : Bool) (x : Nat) (m : Bool) (y : Nat) : List Value := [.int .i64 (if smk n x m y then zv n x else 0), .int .i64 (if smk n x m y then zv m y else 0)]
theorem smv_eq (n : Bool) (x : Nat) (m : Bool) (y : Nat) : smv n x m y = .tuple #[.agg (sml n x m y).toArray, .bool (decide (smk n x m y))] := rfl
theorem sml_ok {n : Bool} {x : Nat} {m : Bool} {y : Nat} (h : smk n x m y) : (sml n x m y).toArray = #[.int .i64 (zv n x), .int .i64 (zv m y)] := by unfold sml; simp [h]
def bov (n : Bool) (x : Nat) (m : Bool) (y : Nat) (n2 : Bool) (x2 : Nat) (m2 : Bool) (y2 : Nat) : Value :=
  .tuple #[.agg (sml n x m y).toArray, .agg (sml n2 x2 m2 y2).toArray, .bool (decide (smk n x m y) && decide (smk n2 x2 m2 y2))]
end Pq
namespace Go.Proofs.Ytjijakfcahhioaa
open Go.RowKit
theorem cf_both (xs : Array Value) (w : World) : (callFunc 39 xs).run Try.prog w = .ok (.enter 39 xs) w := by kernel_rfl
theorem s_sml (n : Bool) (x : Nat) (m : Bool) (y : Nat) : (Try.prog.info? 70).map (·.size) = some (Pq.sml n x m y).length := by kernel_rfl
theorem sml_one (n : Bool) (x : Nat) (m : Bool) (y : Nat) : ((Pq.sml n x m y).toArray).all (·.oneCell') = true := small_one _ _

set_option maxRecDepth 100000 in
set_option maxHeartbeats 1000000 in
theorem both_any (b o : Nat) (n : Bool) (x : Nat) (m : Bool) (y : Nat) (c q : Nat) (n2 : Bool) (x2 : Nat) (m2 : Bool) (y2 : Nat) (w : World) (hx : x < Pq.bp 32) (hy : y < Pq.bp 32) (hx2 : x2 < Pq.bp 32) (hy2 : y2 < Pq.bp 32) (hb : w.rangeAt b o (Pq.fl n x m y)) (hc : w.rangeAt c q (Pq.fl n2 x2 m2 y2)) :
    Calls Try.prog 39 #[.pointer (some ⟨b, o, none⟩), .pointer (some ⟨c, q, none⟩)] w (Pq.Ret w (Pq.bov n x m y n2 x2 m2 y2)) := by
  obtain ⟨g, hg⟩ : ∃ g, g = w.heap.size := ⟨_, rfl⟩
  have HG := Lib.hid hg; clear hg
  obtain ⟨res, hr⟩ : ∃ res, res = Pq.bov n x m y n2 x2 m2 y2 := ⟨_, rfl⟩
  rw [← hr]
  obtain ⟨k1, hk1⟩ : ∃ k1, k1 = decide (Pq.smk n x m y) := ⟨_, rfl⟩
  obtain ⟨k2, hk2⟩ : ∃ k2, k2 = decide (Pq.smk n2 x2 m2 y2) := ⟨_, rfl⟩
  have HRE := Lib.hid hr; have HK1 := Lib.hid hk1; have HK2 := Lib.hid hk2
  have HX := Lib.hid hx; have HY := Lib.hid hy; have HX2 := Lib.hid hx2; have HY2 := Lib.hid hy2
  have HBB := Lib.hid hb; have HCC := Lib.hid hc
  clear hr hk1 hk2 hx hy hx2 hy2 hb hc
  go_enter Try.func39, Try.ntmps39
  go_upto_region 0 with fail
  go_upto_region 0 with fail
  apply wp_region_lit
  refine Pq.wpL_alloc g HG.out.symm (by rfl) _ rfl _ al_small ?_
  simp only [Act.put, List.setIfInBounds_toArray, List.set_cons_zero, List.set_cons_succ]
  refine Pq.wpL_alloc (g + 1) (by simp [HG.out]) (by rfl) _ rfl _ al_small ?_
  simp only [Act.put, List.setIfInBounds_toArray, List.set_cons_zero, List.set_cons_succ]
  refine Pq.wpL_step (by rfl) ?_
  apply Exists.intro
  apply Exists.intro
  refine ⟨?_, ?_⟩
  · go_simp; first | done | with_reducible rfl | exact ⟨rfl, rfl⟩
  simp only [Act.put, List.setIfInBounds_toArray, List.set_cons_zero, List.set_cons_succ]
  refine Pq.wpL_nil ?_
  have HB := Lib.hid (Pq.below_alloc (Pq.below_alloc (Below.refl _ w) (Nat.le_refl _) (.cells #[.int .i64 0, .int .i64 0] 70)) (Nat.le_refl _) (.cells #[.int .i64 0, .int .i64 0] 70))
  have HGA := Lib.hid (Pq.al_keep (Pq.al_block w (.cells #[.int .i64 0, .int .i64 0] 70) g HG.out) (.cells #[.int .i64 0, .int .i64 0] 70))
  have HGB := Lib.hid (Pq.al_block (w.alloc (.cells #[.int .i64 0, .int .i64 0] 70)) (.cells #[.int .i64 0, .int .i64 0] 70) (g + 1) (by simp [HG.out]))
  have HBB2 := Lib.hid (Pq.al_range (Pq.al_range HBB.out (.cells #[.int .i64 0, .int .i64 0] 70)) (.cells #[.int .i64 0, .int .i64 0] 70))
  have HCC2 := Lib.hid (Pq.al_range (Pq.al_range HCC.out (.cells #[.int .i64 0, .int .i64 0] 70)) (.cells #[.int .i64 0, .int .i64 0] 70))
  clear HBB HCC
  generalize (w.alloc (.cells #[.int .i64 0, .int .i64 0] 70)).alloc (.cells #[.int .i64 0, .int .i64 0] 70) = w0 at *
  go_upto_region 1 with fail
  go_upto_region 1 with fail
  apply wp_region_lit
  refine Pq.wpL_step (by rfl) ?_
  apply Exists.intro
  apply Exists.intro
  refine ⟨?_, ?_⟩
  · go_simp; first | done | with_reducible rfl | exact ⟨rfl, rfl⟩
  simp only [Act.put, List.setIfInBounds_toArray, List.set_cons_zero, List.set_cons_succ]
  refine Pq.wpL_ret (by rfl) cf_smallof (smallof_any b o n x m y _ HX.out HY.out HBB2.out) rfl rfl ?_; intro w1 hb1; rw [Pq.smv_eq, ← HK1.out]; obtain ⟨e1, he1⟩ : ∃ e1, e1 = w1.heap.size := ⟨_, rfl⟩; have HE1 := Lib.hid he1; clear he1
  simp only [Act.put, List.setIfInBounds_toArray, List.set_cons_zero, List.set_cons_succ]
  refine Pq.wpL_step (by rfl) ?_
  apply Exists.intro
  apply Exists.intro
  refine ⟨?_, ?_⟩
  · go_simp; first | done | with_reducible rfl | exact ⟨rfl, rfl⟩
  simp only [Act.put, List.setIfInBounds_toArray, List.set_cons_zero, List.set_cons_succ]
  refine Pq.wpL_step (by rfl) ?_
  apply Exists.intro
  apply Exists.intro
  refine ⟨?_, ?_⟩
  · go_simp; first | done | with_reducible rfl | exact ⟨rfl, rfl⟩
  simp only [Act.put, List.setIfInBounds_toArray, List.set_cons_zero, List.set_cons_succ]
  refine Pq.wpL_step (by rfl) ?_
  apply Exists.intro
  apply Exists.intro
  refine ⟨?_, ?_⟩
  · go_simp; first | done | with_reducible rfl | exact ⟨rfl, rfl⟩
  simp only [Act.put, List.setIfInBounds_toArray, List.set_cons_zero, List.set_cons_succ]
  refine Pq.wpL_alloc e1 HE1.out.symm (by rfl) _ rfl _ al_small ?_
  simp only [Act.put, List.setIfInBounds_toArray, List.set_cons_zero, List.set_cons_succ]
  refine Pq.wpL_store (by rfl) 70 _ _ rfl e1 (Pq.sml n x m y).toArray rfl rfl 70 _ (Pq.al_block _ _ _ HE1.out) (s_sml _ _ _ _) rfl (sml_one _ _ _ _) ?_
  try simp only [Act.put, List.setIfInBounds_toArray, List.set_cons_zero, List.set_cons_succ]
  refine Pq.wpL_step (by rfl) ?_
  apply Exists.intro
  apply Exists.intro
  refine ⟨?_, ?_⟩
  · go_simp; first | done | with_reducible rfl | exact ⟨rfl, rfl⟩
  simp only [Act.put, List.setIfInBounds_toArray, List.set_cons_zero, List.set_cons_succ]
  refine Pq.wpL_nil ?_
  rw [Pq.setRow_alloc_at _ _ HE1.out]
  have hge : g + 1 < e1 := by have := (Array.getElem?_eq_some_iff.1 (Pq.keep_block HGB.out hb1)).1; rw [HE1.out]; exact this
  have K1 := Pq.below_next hb1 (Nat.le_refl _) (Pq.below_alloc (Below.refl w1.heap.size w1) (Nat.le_refl _) (.cells (Pq.sml n x m y).toArray 70))
  have HL1' := Lib.hid (Pq.al_new_at w1 (Pq.sml n x m y) 70 e1 HE1.out)
  have hsz1 : (w1.alloc (.cells (Pq.sml n x m y).toArray 70)).heap.size = e1 + 1 := by rw [Pq.size_alloc, HE1.out]
  generalize w1.alloc (.cells (Pq.sml n x m y).toArray 70) = w2 at *
  clear hb1 HE1
  have HSZ1 := Lib.hid hsz1; clear hsz1
  go_upto_region 2 with fail
  go_upto_region 2 with fail
  apply wp_region_lit
  refine Pq.wpL_step (by rfl) ?_
  apply Exists.intro
  apply Exists.intro
  refine ⟨?_, ?_⟩
  · go_simp; first | done | with_reducible rfl | exact ⟨rfl, rfl⟩
  simp only [Act.put, List.setIfInBounds_toArray, List.set_cons_zero, List.set_cons_succ]
  refine Pq.wpL_ret (by rfl) cf_smallof (smallof_any c q n2 x2 m2 y2 _ HX2.out HY2.out (Pq.range_in HCC2.out K1)) rfl rfl ?_; intro w3 hb3; rw [Pq.smv_eq, ← HK2.out]; obtain ⟨e2, he2⟩ : ∃ e2, e2 = w3.heap.size := ⟨_, rfl⟩; have HE2 := Lib.hid he2; clear he2
  simp only [Act.put, List.setIfInBounds_toArray, List.set_cons_zero, List.set_cons_succ]
  refine Pq.wpL_step (by rfl) ?_
  apply Exists.intro
  apply Exists.intro
  refine ⟨?_, ?_⟩
  · go_simp; first | done | with_reducible rfl | exact ⟨rfl, rfl⟩
  simp only [Act.put, List.setIfInBounds_toArray, List.set_cons_zero, List.set_cons_succ]
  refine Pq.wpL_step (by rfl) ?_
  apply Exists.intro
  apply Exists.intro
  refine ⟨?_, ?_⟩
  · go_simp; first | done | with_reducible rfl | exact ⟨rfl, rfl⟩
  simp only [Act.put, List.setIfInBounds_toArray, List.set_cons_zero, List.set_cons_succ]
  refine Pq.wpL_step (by rfl) ?_
  apply Exists.intro
  apply Exists.intro
  refine ⟨?_, ?_⟩
  · go_simp; first | done | with_reducible rfl | exact ⟨rfl, rfl⟩
  simp only [Act.put, List.setIfInBounds_toArray, List.set_cons_zero, List.set_cons_succ]
  refine Pq.wpL_alloc e2 HE2.out.symm (by rfl) _ rfl _ al_small ?_
  simp only [Act.put, List.setIfInBounds_toArray, List.set_cons_zero, List.set_cons_succ]
  refine Pq.wpL_store (by rfl) 70 _ _ rfl e2 (Pq.sml n2 x2 m2 y2).toArray rfl rfl 70 _ (Pq.al_block _ _ _ HE2.out) (s_sml _ _ _ _) rfl (sml_one _ _ _ _) ?_
  try simp only [Act.put, List.setIfInBounds_toArray, List.set_cons_zero, List.set_cons_succ]
  refine Pq.wpL_step (by rfl) ?_
  apply Exists.intro
  apply Exists.intro
  refine ⟨?_, ?_⟩
  · go_simp; first | done | with_reducible rfl | exact ⟨rfl, rfl⟩
  simp only [Act.put, List.setIfInBounds_toArray, List.set_cons_zero, List.set_cons_succ]
  refine Pq.wpL_nil ?_
  rw [Pq.setRow_alloc_at _ _ HE2.out]
  have hge2 : e1 < e2 := by have := hb3.size; rw [HSZ1.out] at this; rw [HE2.out]; omega
  have K2 := Pq.below_next hb3 (Nat.le_refl _) (Pq.below_alloc (Below.refl w3.heap.size w3) (Nat.le_refl _) (.cells (Pq.sml n2 x2 m2 y2).toArray 70))
  have HL2' := Lib.hid (Pq.al_new_at w3 (Pq.sml n2 x2 m2 y2) 70 e2 HE2.out)
  generalize w3.alloc (.cells (Pq.sml n2 x2 m2 y2).toArray 70) = w4 at *
  clear hb3 HE2
  have K := Pq.below_next K1 (Nat.le_refl _) K2
  have hga := Pq.keep_block HGA.out K
  have hgb := Pq.keep_block HGB.out K
  have hbz := Pq.below_next HB.out (Nat.le_refl _) K
  have hl1 := Pq.range_in HL1'.out K2
  clear HGA HGB HB
  have HGA := Lib.hid (Pq.dr_block hga); have HGB := Lib.hid (Pq.dr_block hgb); have HB := Lib.hid hbz
  have HL1 := Lib.hid (Pq.dr_range hl1); have HL2 := Lib.hid (Pq.dr_range HL2'.out)
  clear hga hgb hbz hl1 HL1' HL2' K K1 K2 HBB2 HCC2 HSZ1
  cases k1
  · go_upto_region 3 with fail
    refine Pq.wp_region_order (fun w' => w'.rangeAt e1 0 (Pq.sml n x m y) ∧ w'.rangeAt e2 0 (Pq.sml n2 x2 m2 y2)) [(0, true), (1, true), (2, true), (3, true), (4, true), (5, true), (6, false), (7, false), (8, true)] (by kernel_rfl) (by kernel_rfl) (fun _ _ d _ _ h => by cases d <;> exact h) (⟨HL1.out, HL2.out⟩) ?_
    simp only [Pq.pick, List.filterMap_cons, List.filterMap_nil, List.getElem?_cons_zero, List.getElem?_cons_succ, Option.map_some]
    refine Pq.wpO_loadS e1 0 (Pq.sml n x m y) (fun _ h => h.1) (by rfl) _ _ rfl rfl _ u_small rfl (s_sml _ _ _ _) ?_
    simp only [Act.put, List.setIfInBounds_toArray, List.set_cons_zero, List.set_cons_succ]
    refine Pq.wpO_loadS e2 0 (Pq.sml n2 x2 m2 y2) (fun _ h => h.2) (by rfl) _ _ rfl rfl _ u_small rfl (s_sml _ _ _ _) ?_
    simp only [Act.put, List.setIfInBounds_toArray, List.set_cons_zero, List.set_cons_succ]
    refine Pq.wpO_step (by rfl) ?_
    apply Exists.intro
    refine ⟨fun w' hw' => ?_, ?_⟩
    · go_simp; first | done | with_reducible rfl | exact ⟨rfl, rfl⟩
    simp only [Act.put, List.setIfInBounds_toArray, List.set_cons_zero, List.set_cons_succ]
    refine Pq.wpO_step (by rfl) ?_
    apply Exists.intro
    refine ⟨fun w' hw' => ?_, ?_⟩
    · go_simp; first | done | with_reducible rfl | exact ⟨rfl, rfl⟩
    simp only [Act.put, List.setIfInBounds_toArray, List.set_cons_zero, List.set_cons_succ]
    refine Pq.wpO_skip (by kernel_rfl) ?_
    simp only [Act.put, List.setIfInBounds_toArray, List.set_cons_zero, List.set_cons_succ]
    refine Pq.wpO_step (by rfl) ?_
    apply Exists.intro
    refine ⟨fun w' hw' => ?_, ?_⟩
    · go_simp; first | done | with_reducible rfl | exact ⟨rfl, rfl⟩
    simp only [Act.put, List.setIfInBounds_toArray, List.set_cons_zero, List.set_cons_succ]
    refine Pq.wpO_store (by rfl) 70 _ _ rfl g (Pq.sml n x m y).toArray rfl rfl 70 _ HGA.out (s_sml _ _ _ _) rfl (sml_one _ _ _ _) ⟨Pq.keep_range HL1.out (by omega), Pq.keep_range HL2.out (by omega)⟩ ?_
    try simp only [Act.put, List.setIfInBounds_toArray, List.set_cons_zero, List.set_cons_succ]
    refine Pq.wpO_store (by rfl) 70 _ _ rfl (g + 1) (Pq.sml n2 x2 m2 y2).toArray rfl rfl 70 _ (Pq.keep_row HGB.out (by omega)) (s_sml _ _ _ _) rfl (sml_one _ _ _ _) ⟨Pq.keep_range (Pq.keep_range HL1.out (by omega)) (by omega), Pq.keep_range (Pq.keep_range HL2.out (by omega)) (by omega)⟩ ?_
    try simp only [Act.put, List.setIfInBounds_toArray, List.set_cons_zero, List.set_cons_succ]
    refine Pq.wpO_step (by rfl) ?_
    apply Exists.intro
    refine ⟨fun w' hw' => ?_, ?_⟩
    · go_simp; first | done | with_reducible rfl | exact ⟨rfl, rfl⟩
    simp only [Act.put, List.setIfInBounds_toArray, List.set_cons_zero, List.set_cons_succ]
    refine Pq.wpO_nil ?_
    go_wp2
    refine Pq.ret_cell2_tmp rfl g (g + 1) _ _ _ _ _ _ _ _ _ rfl rfl rfl (Pq.keep_row (Pq.setRow_at HGA.out) (by omega)) u_small rfl (s_sml _ _ _ _) (Pq.setRow_at (Pq.keep_row HGB.out (by omega))) u_small rfl (s_sml _ _ _ _) rfl ⟨by rw [HRE.out]; unfold Pq.bov; rw [← HK1.out, ← HK2.out]; rfl, Pq.below_setRow (Pq.below_setRow (Pq.below_drew HB.out) (by rw [HG.out]; exact Nat.le_refl _)) (by rw [← HG.out]; omega)⟩
  · go_upto_region 3 with fail
    refine Pq.wp_region_order (fun w' => w'.rangeAt e1 0 (Pq.sml n x m y) ∧ w'.rangeAt e2 0 (Pq.sml n2 x2 m2 y2)) [(0, true), (1, true), (2, true), (3, true), (4, true), (5, true), (6, false), (7, false), (8, true)] (by kernel_rfl) (by kernel_rfl) (fun _ _ d _ _ h => by cases d <;> exact h) (⟨HL1.out, HL2.out⟩) ?_
    simp only [Pq.pick, List.filterMap_cons, List.filterMap_nil, List.getElem?_cons_zero, List.getElem?_cons_succ, Option.map_some]
    refine Pq.wpO_loadS e1 0 (Pq.sml n x m y) (fun _ h => h.1) (by rfl) _ _ rfl rfl _ u_small rfl (s_sml _ _ _ _) ?_
    simp only [Act.put, List.setIfInBounds_toArray, List.set_cons_zero, List.set_cons_succ]
    refine Pq.wpO_loadS e2 0 (Pq.sml n2 x2 m2 y2) (fun _ h => h.2) (by rfl) _ _ rfl rfl _ u_small rfl (s_sml _ _ _ _) ?_
    simp only [Act.put, List.setIfInBounds_toArray, List.set_cons_zero, List.set_cons_succ]
    refine Pq.wpO_step (by rfl) ?_
    apply Exists.intro
    refine ⟨fun w' hw' => ?_, ?_⟩
    · go_simp; first | done | with_reducible rfl | exact ⟨rfl, rfl⟩
    simp only [Act.put, List.setIfInBounds_toArray, List.set_cons_zero, List.set_cons_succ]
    refine Pq.wpO_step (by rfl) ?_
    apply Exists.intro
    refine ⟨fun w' hw' => ?_, ?_⟩
    · go_simp; first | done | with_reducible rfl | exact ⟨rfl, rfl⟩
    simp only [Act.put, List.setIfInBounds_toArray, List.set_cons_zero, List.set_cons_succ]
    refine Pq.wpO_step (by rfl) ?_
    apply Exists.intro
    refine ⟨fun w' hw' => ?_, ?_⟩
    · go_simp; first | done | with_reducible rfl | exact ⟨rfl, rfl⟩
    simp only [Act.put, List.setIfInBounds_toArray, List.set_cons_zero, List.set_cons_succ]
    refine Pq.wpO_step (by rfl) ?_
    apply Exists.intro
    refine ⟨fun w' hw' => ?_, ?_⟩
    · go_simp; first | done | with_reducible rfl | exact ⟨rfl, rfl⟩
    simp only [Act.put, List.setIfInBounds_toArray, List.set_cons_zero, List.set_cons_succ]
    refine Pq.wpO_store (by rfl) 70 _ _ rfl g (Pq.sml n x m y).toArray rfl rfl 70 _ HGA.out (s_sml _ _ _ _) rfl (sml_one _ _ _ _) ⟨Pq.keep_range HL1.out (by omega), Pq.keep_range HL2.out (by omega)⟩ ?_
    try simp only [Act.put, List.setIfInBounds_toArray, List.set_cons_zero, List.set_cons_succ]
    refine Pq.wpO_store (by rfl) 70 _ _ rfl (g + 1) (Pq.sml n2 x2 m2 y2).toArray rfl rfl 70 _ (Pq.keep_row HGB.out (by omega)) (s_sml _ _ _ _) rfl (sml_one _ _ _ _) ⟨Pq.keep_range (Pq.keep_range HL1.out (by omega)) (by omega), Pq.keep_range (Pq.keep_range HL2.out (by omega)) (by omega)⟩ ?_
    try simp only [Act.put, List.setIfInBounds_toArray, List.set_cons_zero, List.set_cons_succ]
    refine Pq.wpO_step (by rfl) ?_
    apply Exists.intro
    refine ⟨fun w' hw' => ?_, ?_⟩
    · go_simp; first | done | with_reducible rfl | exact ⟨rfl, rfl⟩
    simp only [Act.put, List.setIfInBounds_toArray, List.set_cons_zero, List.set_cons_succ]
    refine Pq.wpO_nil ?_
    go_wp2
    refine Pq.ret_cell2_tmp rfl g (g + 1) _ _ _ _ _ _ _ _ _ rfl rfl rfl (Pq.keep_row (Pq.setRow_at HGA.out) (by omega)) u_small rfl (s_sml _ _ _ _) (Pq.setRow_at (Pq.keep_row HGB.out (by omega))) u_small rfl (s_sml _ _ _ _) rfl ⟨by rw [HRE.out]; unfold Pq.bov; rw [← HK1.out, ← HK2.out]; rfl, Pq.below_setRow (Pq.below_setRow (Pq.below_drew HB.out) (by rw [HG.out]; exact Nat.le_refl _)) (by rw [← HG.out]; omega)⟩
end Go.Proofs.Ytjijakfcahhioaa
/-
Two fractions of small numbers at once.
-/
set_option linter.unusedSimpArgs false
set_option linter.unusedVariables false
namespace Ax
open Go Go.RowKit
def ptr2Run (c : Cd) (sp : El c → El c → T Av) (args : List Av) (m : Mem) : T (Av × Mem) :=
  match args with
  | [a, b] => match derefA m c a, derefA m c b with
    | some x, some y => (sp x y).bind fun av => .ret (av, m)
    | _, _ => .fail
  | _ => .fail
theorem ptr2_con {P : Program} {f : FuncId} (c : Cd) (sp : El c → El c → T Av)
    (h : ∀ x y b o us b' o' us' w R Q, w.rangeAt b o us → Is w R [] (ck c x) us → w.rangeAt b' o' us' → Is w R [] (ck c y) us' → (sp x y).wp Q →
      ∃ v av, Q av ∧ Calls P f #[.pointer (some ⟨b, o, none⟩), .pointer (some ⟨b', o', none⟩)] w (Pq.Ret w v) ∧ ∀ w' R, AvIs w' R [] av v) : ConOk P f [] (ptr2Run c sp) := by
  intro w φ σ m args vs Q hmem hlen hargs hrun
  unfold ptr2Run at hrun
  split at hrun
  · rename_i a a'
    obtain ⟨v0, v1, rfl⟩ : ∃ v v', vs = [v, v'] := by
      match vs, hlen with
      | [v, v'], _ => exact ⟨v, v', rfl⟩
    split at hrun
    · rename_i x y hx hy
      rw [T.wp_bind] at hrun
      obtain ⟨b, o, us, rfl, hrg, his⟩ := deref_ok hmem (hargs 0 a v0 rfl rfl) hx
      obtain ⟨b', o', us', rfl, hrg', his'⟩ := deref_ok hmem (hargs 1 a' v1 rfl rfl) hy
      obtain ⟨v, av, hQ, hc, hv⟩ := h x y b o us b' o' us' w _ _ hrg his hrg' his' hrun
      refine hc.mono fun e w' hr => ?_
      obtain ⟨rfl, hb⟩ := hr
      have hk := Keep.of_below hb σ
      have hown : ∀ i b : Nat, σ[i]? = some b → w'.heap[b]? = w.heap[b]? := fun i b hi => hb.block b (hmem.lt (List.mem_of_getElem? hi))
      exact ⟨v, av, m, σ, rfl, hQ, Ext.refl _ _, hk, fun i b hi _ => hown i b hi, (hv w' _).ro (fun _ h => h) σ, hmem.stay hk (Ext.refl _ _) rfl hown⟩
    · exact hrun.elim
  · exact hrun.elim
end Ax
namespace Go.Proofs.Ytjijakfcahhioaa
open Go.RowKit Ax
theorem kb3_av (w : World) (R : Nat → Prop) {a b : Av} {x y : Value} {k : Bool} (h1 : AvIs w R [] a x) (h2 : AvIs w R [] b y) : AvIs w R [] (.tup [a, b, .one (.kb k)]) (.tuple #[x, y, .bool k]) := three_av h1 h2 (.one rfl (.kb .nil))
noncomputable def con_both : Con Try.prog := ⟨39, [], ptr2Run cF (fun x y => .ite (smB x && smB y) (.ret (.tup [.agg (ck cS (zW x.1, zW x.2)), .agg (ck cS (zW y.1, zW y.2)), .one (.kb true)])) (.ret (.tup [.agg [.any, .any], .agg [.any, .any], .one (.kb false)]))), cf_both,
  ptr2_con _ _ fun x y b o us b' o' us' w R Q hrg his hrg' his' hQ => by
  have e := is_f his
  have e' := is_f his'
  subst e; subst e'
  have hc := both_any b o x.1.1 x.1.2.1 x.2.1 x.2.2.1 b' o' y.1.1 y.1.2.1 y.2.1 y.2.2.1 w x.1.2.2 x.2.2.2 y.1.2.2 y.2.2.2 hrg hrg'
  unfold smB at hQ
  cases h1 : decide (Pq.smk x.1.1 x.1.2.1 x.2.1 x.2.2.1) && decide (Pq.smk y.1.1 y.1.2.1 y.2.1 y.2.2.1) with
  | true =>
    rw [h1] at hQ
    refine ⟨_, _, hQ.1 rfl, hc, fun w' R' => ?_⟩
    simp only [Bool.and_eq_true, decide_eq_true_eq] at h1
    unfold Pq.bov
    rw [Pq.sml_ok h1.1, Pq.sml_ok h1.2, decide_eq_true h1.1, decide_eq_true h1.2]
    exact kb3_av _ _ (.agg (us := [_, _]) (.v rfl (.v rfl .nil))) (.agg (us := [_, _]) (.v rfl (.v rfl .nil)))
  | false =>
    rw [h1] at hQ
    refine ⟨_, _, hQ.2 rfl, hc, fun w' R' => ?_⟩
    unfold Pq.bov
    rw [h1]
    exact kb3_av _ _ (.agg (us := [_, _]) (.any rfl (.any rfl .nil))) (.agg (us := [_, _]) (.any rfl (.any rfl .nil)))⟩
noncomputable def E5 : Env Try.prog := ⟨con_both :: E4.con, E4.zero, E4.cod, E4.sure, E4.base, E4.frz⟩
end Go.Proofs.Ytjijakfcahhioaa
/-
Comparing plain numbers.
-/
set_option linter.unusedSimpArgs false
set_option linter.unusedVariables false
namespace Go.Proofs.Ytjijakfcahhioaa
open Go.RowKit Ax
theorem cf_isnan (xs : Array Value) (w : World) : (callFunc 71 xs).run Try.prog w = .ok (.enter 71 xs) w := by kernel_rfl
theorem cf_cmp64 (xs : Array Value) (w : World) : (callFunc 44 xs).run Try.prog w = .ok (.enter 44 xs) w := by kernel_rfl
noncomputable def tr_isnan (x : Els [(false, .int .i64)]) : T Av :=
 .ret (.one (.v (.bool (x.1 != x.1))))
theorem tr_isnan_eq (x : Els [(false, .int .i64)]) : fnP E5 (fun _ => none) Try.f71 (encs [(false, .int .i64)] x) = tr_isnan x := by kernel_rfl
noncomputable def con_isnan : Con Try.prog := ⟨71, [], _, cf_isnan, tot_con (E := E5) mixed Try.func71 no_loops [(false, .int .i64)] (fun x => aB false) fun x => by
  rw [tr_isnan_eq]
  unfold tr_isnan
  simp only [T.wp]
  rw [bne_self_eq_false (α := Int)]
  rfl⟩
noncomputable def E5a : Env Try.prog := ⟨con_isnan :: E5.con, E5.zero, E5.cod, E5.sure, E5.base, E5.frz⟩
end Go.Proofs.Ytjijakfcahhioaa
/-
Comparing plain numbers.
-/
set_option linter.unusedSimpArgs false
set_option linter.unusedVariables false
namespace Go.Proofs.Ytjijakfcahhioaa
open Go.RowKit Ax
noncomputable def tr_cmp64 (x : Els [(false, .int .i64), (false, .int .i64)]) : T Av :=
 .ite (false)
  (.ite (false)
   (.ret (.one (.v (.int .i64 ((0 : Int))))))
   (.ret (.one (.v (.int .i64 ((-1 : Int)))))))
  (.ite (false)
   (.ret (.one (.v (.int .i64 ((1 : Int))))))
   (.ite (decide (x.1 < x.2.1))
    (.ret (.one (.v (.int .i64 ((-1 : Int))))))
    (.ite (decide (x.1 > x.2.1))
     (.ret (.one (.v (.int .i64 ((1 : Int))))))
     (.ret (.one (.v (.int .i64 ((0 : Int)))))))))
theorem tr_cmp64_eq (x : Els [(false, .int .i64), (false, .int .i64)]) : fnP E5a (fun _ => none) Try.f44 (encs [(false, .int .i64), (false, .int .i64)] x) = tr_cmp64 x := by kernel_rfl
noncomputable def con_cmp64 : Con Try.prog := ⟨44, [], _, cf_cmp64, tot_con (E := E5a) mixed Try.func44 no_loops [(false, .int .i64), (false, .int .i64)] (fun x => aI .i64 (Pq.cz x.1 x.2.1)) fun x => by
  rw [tr_cmp64_eq]
  obtain ⟨x, y, u⟩ := x
  revert x y
  intro (x : Int) (y : Int)
  unfold tr_cmp64
  simp only [T.wp]
  dsimp only [El]
  unfold Pq.cz
  refine ⟨fun h => (by cases h), fun _ => ⟨fun h => (by cases h), fun _ => ⟨fun h => ?_, fun h => ⟨fun h' => ?_, fun h' => ?_⟩⟩⟩⟩
  · rw [if_pos (of_decide_eq_true h)]; rfl
  · rw [if_neg (of_decide_eq_false h), if_pos (of_decide_eq_true h')]; rfl
  · have h1 := of_decide_eq_false h
    have h2 := of_decide_eq_false h'
    rw [if_neg h1, if_neg h2]; rfl⟩
noncomputable def E6 : Env Try.prog := ⟨con_cmp64 :: E5a.con, E5a.zero, E5a.cod, E5a.sure, E5a.base, E5a.frz⟩
end Go.Proofs.Ytjijakfcahhioaa
/-
Fractions: Cmp, Add, Mul, Div.
-/
set_option linter.unusedSimpArgs false
set_option linter.unusedVariables false
namespace Go.Proofs.Ytjijakfcahhioaa
open Go.RowKit Ax
noncomputable def tr_rcmp (x : Els [(true, cF), (true, cF)]) : T Av :=
 .ite (smB (x.1) && smB x.2.1)
  (.ret (.tup [(.one (.v (.int .i64 (Pq.cz (IntKind.wrap .i64 (zW x.1.1 * zW x.2.1.2)) (IntKind.wrap .i64 (zW x.2.1.1 * zW x.1.2)))))), (.one (.v (.bool (true))))]))
  (.need (lenOk (List.length [x.1, x.2.1])) (.ite (!List.all [x.1, x.2.1] (safeF (500 : Int)))
    (.ret (.tup [(.one (.v (.int .i64 ((0 : Int))))), (.one (.v (.bool (false))))]))
    (.lt (zW x.1.1 * zW x.2.1.2) (fun v0 =>
     .lt (zW x.2.1.1 * zW x.1.2) (fun v1 =>
      .ret (.tup [(.one (.v (.int .i64 (Pq.cz (zW (wOf v0)) (zW (wOf v1)))))), (.one (.v (.bool (true && Pq.fits v0 && Pq.fits v1))))]))))))
theorem tr_rcmp_eq (x : Els [(true, cF), (true, cF)]) : fnP E6 (fun _ => none) Try.f16 (encs [(true, cF), (true, cF)] x) = tr_rcmp x := by kernel_rfl
noncomputable def tr_radd (x : Els [(true, cF), (true, cF)]) : T Av :=
 .ite (smB (x.1) && smB x.2.1)
  (.need (in63 (IntKind.wrap .i64 (IntKind.wrap .i64 (zW x.1.1 * zW x.2.1.2) + IntKind.wrap .i64 (zW x.2.1.1 * zW x.1.2))) ∧ in63 (IntKind.wrap .i64 (zW x.1.2 * zW x.2.1.2)) ∧ IntKind.wrap .i64 (zW x.1.2 * zW x.2.1.2) ≠ (0 : El (Cd.int .i64))) (.lt (rOf (Rat.divInt (IntKind.wrap .i64 (IntKind.wrap .i64 (zW x.1.1 * zW x.2.1.2) + IntKind.wrap .i64 (zW x.2.1.1 * zW x.1.2))) (IntKind.wrap .i64 (zW x.1.2 * zW x.2.1.2)))) (fun v0 =>
    .ret (.tup [(.agg [.v (.bool v0.1.1), .w v0.1.2, .v (.bool v0.2.1), .w v0.2.2]), (.one (.v (.bool (true))))]))))
  (.need (lenOk (List.length [x.1, x.2.1])) (.ite (!List.all [x.1, x.2.1] (safeF (500 : Int)))
    (.ret (.tup [(.agg [.v (.bool w0.1), .w w0.2, .v (.bool w0.1), .w w0.2]), (.one (.v (.bool (false))))]))
    (.lt (zW x.1.1 * zW x.2.1.2) (fun v0 =>
     .lt (zW x.2.1.1 * zW x.1.2) (fun v1 =>
      .lt (zW x.1.2 * zW x.2.1.2) (fun v2 =>
       .lt (zW (wOf v0) + zW (wOf v1)) (fun v3 =>
        .ite (!(true && Pq.fits v0 && Pq.fits v1 && Pq.fits v2))
         (.ret (.tup [(.agg [.v (.bool w0.1), .w w0.2, .v (.bool w0.1), .w w0.2]), (.one (.v (.bool (false))))]))
         (.ite (!Pq.fits v3)
          (.ret (.tup [(.agg [.v (.bool w0.1), .w w0.2, .v (.bool w0.1), .w w0.2]), (.one (.v (.bool (false))))]))
          (.ite (decide (NewOk (wOf v3) (wOf v2)))
           (.lt (newF (wOf v3) (wOf v2)) (fun v4 =>
            .ret (.tup [(.agg [.v (.bool v4.1.1), .w v4.1.2, .v (.bool v4.2.1), .w v4.2.2]), (.one (.v (.bool (true))))])))
           (.ret (.tup [(.agg [.v (.bool w0.1), .w w0.2, .v (.bool w0.1), .w w0.2]), (.one (.v (.bool (false))))])))))))))))
theorem tr_radd_eq (x : Els [(true, cF), (true, cF)]) : fnP E6 (fun _ => none) Try.f15 (encs [(true, cF), (true, cF)] x) = tr_radd x := by kernel_rfl
noncomputable def tr_rmul (x : Els [(true, cF), (true, cF)]) : T Av :=
 .ite (smB (x.1) && smB x.2.1)
  (.need (in63 (IntKind.wrap .i64 (zW x.1.1 * zW x.2.1.1)) ∧ in63 (IntKind.wrap .i64 (zW x.1.2 * zW x.2.1.2)) ∧ IntKind.wrap .i64 (zW x.1.2 * zW x.2.1.2) ≠ (0 : El (Cd.int .i64))) (.lt (rOf (Rat.divInt (IntKind.wrap .i64 (zW x.1.1 * zW x.2.1.1)) (IntKind.wrap .i64 (zW x.1.2 * zW x.2.1.2)))) (fun v0 =>
    .ret (.tup [(.agg [.v (.bool v0.1.1), .w v0.1.2, .v (.bool v0.2.1), .w v0.2.2]), (.one (.v (.bool (true))))]))))
  (.need (lenOk (List.length [x.1, x.2.1])) (.ite (!List.all [x.1, x.2.1] (safeF (500 : Int)))
    (.ret (.tup [(.agg [.v (.bool w0.1), .w w0.2, .v (.bool w0.1), .w w0.2]), (.one (.v (.bool (false))))]))
    (.lt (zW x.1.1 * zW x.2.1.1) (fun v0 =>
     .lt (zW x.1.2 * zW x.2.1.2) (fun v1 =>
      .ite (!(true && Pq.fits v0 && Pq.fits v1))
       (.ret (.tup [(.agg [.v (.bool w0.1), .w w0.2, .v (.bool w0.1), .w w0.2]), (.one (.v (.bool (false))))]))
       (.ite (decide (NewOk (wOf v0) (wOf v1)))
        (.lt (newF (wOf v0) (wOf v1)) (fun v2 =>
         .ret (.tup [(.agg [.v (.bool v2.1.1), .w v2.1.2, .v (.bool v2.2.1), .w v2.2.2]), (.one (.v (.bool (true))))])))
        (.ret (.tup [(.agg [.v (.bool w0.1), .w w0.2, .v (.bool w0.1), .w w0.2]), (.one (.v (.bool (false))))]))))))))
theorem tr_rmul_eq (x : Els [(true, cF), (true, cF)]) : fnP E6 (fun _ => none) Try.f28 (encs [(true, cF), (true, cF)] x) = tr_rmul x := by kernel_rfl
noncomputable def tr_rdiv (x : Els [(true, cF), (true, cF)]) : T Av :=
 .ite (smB (x.1) && smB x.2.1)
  (.ite (zW x.2.1.1 != (0 : Int))
   (.need (in63 (IntKind.wrap .i64 (zW x.1.1 * zW x.2.1.2)) ∧ in63 (IntKind.wrap .i64 (zW x.1.2 * zW x.2.1.1)) ∧ IntKind.wrap .i64 (zW x.1.2 * zW x.2.1.1) ≠ (0 : El (Cd.int .i64))) (.lt (rOf (Rat.divInt (IntKind.wrap .i64 (zW x.1.1 * zW x.2.1.2)) (IntKind.wrap .i64 (zW x.1.2 * zW x.2.1.1)))) (fun v0 =>
     .ret (.tup [(.agg [.v (.bool v0.1.1), .w v0.1.2, .v (.bool v0.2.1), .w v0.2.2]), (.one (.v (.bool (true))))]))))
   (.need (lenOk (List.length [x.1, x.2.1])) (.ite (!List.all [x.1, x.2.1] (safeF (500 : Int)))
     (.ret (.tup [(.agg [.v (.bool w0.1), .w w0.2, .v (.bool w0.1), .w w0.2]), (.one (.v (.bool (false))))]))
     (.ite (Pq.cz (zW x.2.1.1) (0 : Int) == (0 : Int))
      (.ret (.tup [(.agg [.v (.bool w0.1), .w w0.2, .v (.bool w0.1), .w w0.2]), (.one (.v (.bool (false))))]))
      (.lt (zW x.1.1 * zW x.2.1.2) (fun v0 =>
       .lt (zW x.1.2 * zW x.2.1.1) (fun v1 =>
        .ite (!(true && Pq.fits v0 && Pq.fits v1))
         (.ret (.tup [(.agg [.v (.bool w0.1), .w w0.2, .v (.bool w0.1), .w w0.2]), (.one (.v (.bool (false))))]))
         (.ite (decide (NewOk (wOf v0) (wOf v1)))
          (.lt (newF (wOf v0) (wOf v1)) (fun v2 =>
           .ret (.tup [(.agg [.v (.bool v2.1.1), .w v2.1.2, .v (.bool v2.2.1), .w v2.2.2]), (.one (.v (.bool (true))))])))
          (.ret (.tup [(.agg [.v (.bool w0.1), .w w0.2, .v (.bool w0.1), .w w0.2]), (.one (.v (.bool (false))))]))))))))))
  (.need (lenOk (List.length [x.1, x.2.1])) (.ite (!List.all [x.1, x.2.1] (safeF (500 : Int)))
    (.ret (.tup [(.agg [.v (.bool w0.1), .w w0.2, .v (.bool w0.1), .w w0.2]), (.one (.v (.bool (false))))]))
    (.ite (Pq.cz (zW x.2.1.1) (0 : Int) == (0 : Int))
     (.ret (.tup [(.agg [.v (.bool w0.1), .w w0.2, .v (.bool w0.1), .w w0.2]), (.one (.v (.bool (false))))]))
     (.lt (zW x.1.1 * zW x.2.1.2) (fun v0 =>
      .lt (zW x.1.2 * zW x.2.1.1) (fun v1 =>
       .ite (!(true && Pq.fits v0 && Pq.fits v1))
        (.ret (.tup [(.agg [.v (.bool w0.1), .w w0.2, .v (.bool w0.1), .w w0.2]), (.one (.v (.bool (false))))]))
        (.ite (decide (NewOk (wOf v0) (wOf v1)))
         (.lt (newF (wOf v0) (wOf v1)) (fun v2 =>
          .ret (.tup [(.agg [.v (.bool v2.1.1), .w v2.1.2, .v (.bool v2.2.1), .w v2.2.2]), (.one (.v (.bool (true))))])))
         (.ret (.tup [(.agg [.v (.bool w0.1), .w w0.2, .v (.bool w0.1), .w w0.2]), (.one (.v (.bool (false))))])))))))))
theorem tr_rdiv_eq (x : Els [(true, cF), (true, cF)]) : fnP E6 (fun _ => none) Try.f29 (encs [(true, cF), (true, cF)] x) = tr_rdiv x := by kernel_rfl
end Go.Proofs.Ytjijakfcahhioaa
/-
Fractions as rationals: reckoning, plain laws.
-/
set_option linter.unusedSimpArgs false
set_option linter.unusedVariables false
namespace Ax
open Go Go.RowKit
theorem safe_bk {x : F} {k : Nat} (h : SafeF k x) : (zW x.1).natAbs < 2 ^ k ∧ (zW x.2).natAbs < 2 ^ k ∧ 0 < zW x.2 := by
  obtain ⟨h1, h2, h3⟩ := h
  exact ⟨Pq.bitn_le.1 (by omega), Pq.bitn_le.1 (by omega), h3.2.1⟩
theorem safe_b {x : F} (h : SafeF 500 x) : (zW x.1).natAbs < 2 ^ 500 ∧ (zW x.2).natAbs < 2 ^ 500 ∧ 0 < zW x.2 := safe_bk (k := 500) h
theorem mul_b {a b : Int} (ha : a.natAbs < 2 ^ 500) (hb : b.natAbs < 2 ^ 500) : (a * b).natAbs < 2 ^ 1000 := pow_mul_ez (j := 500) (k := 500) (n := 1000) rfl ha hb
theorem add_b {a b : Int} (ha : a.natAbs < 2 ^ 1000) (hb : b.natAbs < 2 ^ 1000) : (a + b).natAbs < 2 ^ 1001 := pow_add_ez (k := 1000) (n := 1001) rfl ha hb
theorem b_le {z : Int} (h : z.natAbs < 2 ^ 1000) : z.natAbs < 2 ^ 1001 := pow_to (j := 1000) (k := 1001) h (by decide)
theorem isW_wOf {z : Int} (h : z.natAbs < Pq.bp 32) : isW (wOf z) = true := by
  rw [isW_iff]
  unfold wOf
  rw [dif_pos h]
  rintro ⟨h1, h2⟩
  simp only [decide_eq_true_eq] at h1
  have h2' : z.natAbs = 0 := h2
  omega
theorem big_b {z : Int} (h : z.natAbs < 2 ^ 1001) : z.natAbs < Pq.bp 32 ∧ Pq.bitn z.natAbs ≤ 1023 := by
  exact ⟨Nat.lt_of_lt_of_le h (bp_ge (k := 1001) 1024 rfl (by decide)), Pq.bitn_le.2 (pow_to (j := 1001) (k := 1023) h (by decide))⟩
theorem fits_b {z : Int} (h : z.natAbs < 2 ^ 1001) : Pq.fits z = true := by
  unfold Pq.fits
  exact decide_eq_true (big_b h).1
theorem zW_b {z : Int} (h : z.natAbs < 2 ^ 1001) : zW (wOf z) = z := zW_wOf (big_b h).1
theorem new_b {n d : Int} (hn : n.natAbs < 2 ^ 1001) (hd : d.natAbs < 2 ^ 1001) (h0 : d ≠ 0) : NewOk (wOf n) (wOf d) := by
  unfold NewOk
  rw [zW_b hn, zW_b hd]
  exact ⟨h0, (big_b hn).2, (big_b hd).2, isW_wOf (big_b hn).1, isW_wOf (big_b hd).1⟩
theorem newF_b {n d : Int} (hn : n.natAbs < 2 ^ 1001) (hd : d.natAbs < 2 ^ 1001) : newF (wOf n) (wOf d) = rOf (Rat.divInt n d) := by
  unfold newF
  rw [zW_b hn, zW_b hd]
theorem mul_s {a b : Int} (ha : a.natAbs < 1073741824) (hb : b.natAbs < 1073741824) : -1152921504606846976 < a * b ∧ a * b < 1152921504606846976 := by
  have h : (a * b).natAbs < 1152921504606846976 := by
    rw [Int.natAbs_mul]
    exact Nat.mul_lt_mul'' ha hb
  omega
theorem mul_w {a b : Int} (ha : a.natAbs < 1073741824) (hb : b.natAbs < 1073741824) : IntKind.i64.wrap (a * b) = a * b := IntWalk.i64_in _ (by have := mul_s ha hb; omega)
/-- the sign of a difference -/
def cq (p q : Rat) : Int := if p < q then -1 else if q < p then 1 else 0
theorem divInt_lt {a b c d : Int} (hb : 0 < b) (hd : 0 < d) : Rat.divInt a b < Rat.divInt c d ↔ a * d < c * b := by
  rw [← Rat.not_le, Rat.le_iff_sub_nonneg, Rat.divInt_sub_divInt _ _ (by omega) (by omega), Rat.divInt_nonneg_iff_of_pos_right (Int.mul_pos hb hd)]
  omega
theorem cz_q {x y : F} (hx : 0 < zW x.2) (hy : 0 < zW y.2) : Pq.cz (zW x.1 * zW y.2) (zW y.1 * zW x.2) = cq (qF x) (qF y) := by
  unfold Pq.cz cq qF
  simp only [divInt_lt hx hy, divInt_lt hy hx]
theorem add_q {x y : F} (hx : 0 < zW x.2) (hy : 0 < zW y.2) : qF x + qF y = Rat.divInt (zW x.1 * zW y.2 + zW y.1 * zW x.2) (zW x.2 * zW y.2) := by
  unfold qF; rw [Rat.divInt_add_divInt _ _ (by omega) (by omega)]
theorem mul_q (x y : F) : qF x * qF y = Rat.divInt (zW x.1 * zW y.1) (zW x.2 * zW y.2) := by
  unfold qF; rw [Rat.divInt_mul_divInt]
theorem div_q (x y : F) : qF x / qF y = Rat.divInt (zW x.1 * zW y.2) (zW x.2 * zW y.1) := by
  unfold qF; rw [Rat.div_def, Rat.inv_divInt, Rat.divInt_mul_divInt]
theorem q_zero {x : F} (hx : 0 < zW x.2) : qF x = 0 ↔ zW x.1 = 0 := by
  unfold qF
  rw [show (0 : Rat) = Rat.divInt 0 1 from rfl, Rat.divInt_eq_divInt_iff (by omega) (by omega)]
  omega
theorem sub_q {x y : F} (hx : 0 < zW x.2) (hy : 0 < zW y.2) : qF x - qF y = Rat.divInt (zW x.1 * zW y.2 - zW y.1 * zW x.2) (zW x.2 * zW y.2) := by
  unfold qF; rw [Rat.divInt_sub_divInt _ _ (by omega) (by omega)]
theorem neg_lt (y : W) : (-zW y).natAbs < Pq.bp 32 := by rw [Int.natAbs_neg]; exact zW_lt y
theorem neg_q (y : F) : qF (wOf (-zW y.1), y.2) = - qF y := by
  unfold qF
  rw [Rat.neg_divInt, zW_wOf (neg_lt y.1)]
theorem neg_safe {b : Int} {y : F} (h : SafeF b y) : SafeF b (wOf (-zW y.1), y.2) := by
  obtain ⟨h1, h2, h3, h4, h5⟩ := h
  unfold SafeF OkF
  rw [zW_wOf (neg_lt y.1), Int.natAbs_neg]
  exact ⟨h1, h2, (isW_iff _).1 (isW_wOf (neg_lt y.1)), h4, h5⟩
theorem wOf_neg {z : Int} (h : z.natAbs < Pq.bp 32) : (wOf z).1 = decide (z < 0) := by
  unfold wOf; rw [dif_pos h]
theorem floor_law {x : F} (h : OkF x) : ((wOf ((zW x.1).tmod (zW x.2))).1 = false → wOf ((zW x.1).tdiv (zW x.2)) = wOf (qF x).floor) ∧
    ((wOf ((zW x.1).tmod (zW x.2))).1 = true → zW (wOf ((zW x.1).tdiv (zW x.2))) - zW (wOf 1) = (qF x).floor ∧ Pq.fits (qF x).floor = true) := by
  obtain ⟨e1, e2⟩ := rat_parts h
  have hb := h.2.1
  have ha := zW_lt x.1
  have hbl := zW_lt x.2
  have hf : (qF x).floor = zW x.1 / zW x.2 := by rw [Rat.floor_def, e1, e2]
  generalize zW x.1 = a at *
  generalize zW x.2 = b at *
  have hm := Int.mul_tdiv_add_tmod a b
  have hml : (a.tmod b).natAbs < b.natAbs := by rw [Int.natAbs_tmod]; exact Nat.mod_lt _ (by omega)
  have hql : (a.tdiv b).natAbs < Pq.bp 32 := by
    rw [Int.natAbs_tdiv]; exact Nat.lt_of_le_of_lt (Nat.div_le_self _ _) ha
  have hm2 : (a.tmod b).natAbs < Pq.bp 32 := by omega
  rw [wOf_neg hm2, hf, zW_wOf hql, zW_wOf (z := 1) (Nat.lt_of_lt_of_le (by decide : 1 < 4294967296) (Nat.le_self_pow (by omega) _))]
  refine ⟨fun hr => ?_, fun hr => ⟨?_, ?_⟩⟩
  · have hr := of_decide_eq_false hr
    rw [((Int.ediv_emod_unique hb (a := a) (r := a.tmod b) (q := a.tdiv b)).2 ⟨by omega, by omega, by omega⟩).1]
  · have hr := of_decide_eq_true hr
    rw [((Int.ediv_emod_unique hb (a := a) (r := a.tmod b + b) (q := a.tdiv b - 1)).2 ⟨by rw [Int.mul_sub]; omega, by omega, by omega⟩).1]
  · unfold Pq.fits
    exact decide_eq_true (Nat.lt_of_le_of_lt (Int.natAbs_ediv_le_natAbs a b) ha)
/-- both may be reckoned with -/
def both (x y : F) : Bool := safeF 500 x && safeF 500 y
theorem both_sm {x y : F} (h : (smB x && smB y) = true) : both x y = true := by
  rw [Bool.and_eq_true] at h
  unfold both safeF
  rw [decide_eq_true (sm_safe h.1), decide_eq_true (sm_safe h.2)]; rfl
theorem both_iff {x y : F} : both x y = true ↔ SafeF 500 x ∧ SafeF 500 y := by
  unfold both safeF
  simp
theorem neg_both {x y : F} (h : both x y = true) : both x (wOf (-zW y.1), y.2) = true := both_iff.2 ⟨(both_iff.1 h).1, neg_safe (both_iff.1 h).2⟩
theorem all_both {x y : F} : List.all [x, y] (safeF 500) = both x y := by simp [both]
theorem ans_no {x : F} : ansF false x = .tup [.agg [.v (.bool w0.1), .w w0.2, .v (.bool w0.1), .w w0.2], .one (.v (.bool false))] := rfl
theorem ans_yes {x : F} : ansF true x = .tup [.agg [.v (.bool x.1.1), .w x.1.2, .v (.bool x.2.1), .w x.2.2], .one (.v (.bool true))] := rfl
end Ax
/-
Fractions: what Cmp, Add, Mul, Div come to.
-/
set_option linter.unusedSimpArgs false
set_option linter.unusedVariables false
namespace Go.Proofs.Ytjijakfcahhioaa
open Go.RowKit Ax
theorem len2 {α : Type} (x y : α) : lenOk (List.length [x, y]) := by
  unfold lenOk; rw [show [x, y].length = 2 from rfl]; omega
theorem rcmp_ok (x : Els [(true, cF), (true, cF)]) : (tr_rcmp x).wp (· = ansA false (.int .i64) (both x.1 x.2.1) (cq (qF x.1) (qF x.2.1)) (0 : Int)) := by
  obtain ⟨x, y, u⟩ := x
  revert x y
  intro (x : F) (y : F)
  unfold tr_rcmp
  simp only [T.wp]
  rw [all_both]
  refine ⟨fun h => ?_, fun h => ⟨len2 _ _, fun hb => ?_, fun hb => ?_⟩⟩
  · rw [both_sm h]
    rw [Bool.and_eq_true] at h
    obtain ⟨a1, a2, a3⟩ := sm_qF h.1
    obtain ⟨b1, b2, b3⟩ := sm_qF h.2
    rw [mul_w a1 b2, mul_w b1 a2, cz_q a3 b3]
    rfl
  · rw [show both x y = false from by simpa using hb]; rfl
  · have hb' : both x y = true := by simpa using hb
    obtain ⟨h1, h2⟩ := both_iff.1 hb'
    obtain ⟨a1, a2, a3⟩ := safe_b h1
    obtain ⟨b1, b2, b3⟩ := safe_b h2
    have k1 := b_le (mul_b a1 b2)
    have k2 := b_le (mul_b b1 a2)
    rw [hb', fits_b k1, fits_b k2, zW_b k1, zW_b k2, cz_q a3 b3]
    rfl
theorem radd_ok (x : Els [(true, cF), (true, cF)]) : (tr_radd x).wp (· = ansF (both x.1 x.2.1) (rOf (qF x.1 + qF x.2.1))) := by
  obtain ⟨x, y, u⟩ := x
  revert x y
  intro (x : F) (y : F)
  unfold tr_radd
  simp only [T.wp]
  rw [all_both]
  refine ⟨fun h => ?_, fun h => ⟨len2 _ _, fun hb => ?_, fun hb => ?_⟩⟩
  · rw [both_sm h]
    rw [Bool.and_eq_true] at h
    obtain ⟨a1, a2, a3⟩ := sm_qF h.1
    obtain ⟨b1, b2, b3⟩ := sm_qF h.2
    have m1 := mul_s a1 b2
    have m2 := mul_s b1 a2
    have m3 := mul_s a2 b2
    have hp := Int.mul_pos a3 b3
    rw [mul_w a1 b2, mul_w b1 a2, mul_w a2 b2, IntWalk.i64_in (zW x.1 * zW y.2 + zW y.1 * zW x.2) (by omega), ← add_q a3 b3]
    exact ⟨⟨⟨by omega, by omega⟩, ⟨by omega, by omega⟩, by omega⟩, rfl⟩
  · rw [show both x y = false from by simpa using hb]; rfl
  · have hb' : both x y = true := by simpa using hb
    obtain ⟨h1, h2⟩ := both_iff.1 hb'
    obtain ⟨a1, a2, a3⟩ := safe_b h1
    obtain ⟨b1, b2, b3⟩ := safe_b h2
    have k1 := mul_b a1 b2
    have k2 := mul_b b1 a2
    have k3 := b_le (mul_b a2 b2)
    have k4 := add_b k1 k2
    have hp := Int.mul_pos a3 b3
    rw [hb', fits_b (b_le k1), fits_b (b_le k2), fits_b k3, zW_b (b_le k1), zW_b (b_le k2), fits_b k4]
    have hnew := new_b k4 k3 (by omega)
    refine ⟨fun e => (by cases e), fun _ => ⟨fun e => (by cases e), fun _ => ⟨fun _ => ?_, fun e => absurd hnew (of_decide_eq_false e)⟩⟩⟩
    rw [newF_b k4 k3, ← add_q a3 b3]; rfl
theorem rmul_ok (x : Els [(true, cF), (true, cF)]) : (tr_rmul x).wp (· = ansF (both x.1 x.2.1) (rOf (qF x.1 * qF x.2.1))) := by
  obtain ⟨x, y, u⟩ := x
  revert x y
  intro (x : F) (y : F)
  unfold tr_rmul
  simp only [T.wp]
  rw [all_both]
  refine ⟨fun h => ?_, fun h => ⟨len2 _ _, fun hb => ?_, fun hb => ?_⟩⟩
  · rw [both_sm h]
    rw [Bool.and_eq_true] at h
    obtain ⟨a1, a2, a3⟩ := sm_qF h.1
    obtain ⟨b1, b2, b3⟩ := sm_qF h.2
    have m1 := mul_s a1 b1
    have m3 := mul_s a2 b2
    have hp := Int.mul_pos a3 b3
    rw [mul_w a1 b1, mul_w a2 b2, ← mul_q]
    exact ⟨⟨⟨by omega, by omega⟩, ⟨by omega, by omega⟩, by omega⟩, rfl⟩
  · rw [show both x y = false from by simpa using hb]; rfl
  · have hb' : both x y = true := by simpa using hb
    obtain ⟨h1, h2⟩ := both_iff.1 hb'
    obtain ⟨a1, a2, a3⟩ := safe_b h1
    obtain ⟨b1, b2, b3⟩ := safe_b h2
    have k1 := b_le (mul_b a1 b1)
    have k3 := b_le (mul_b a2 b2)
    have hp := Int.mul_pos a3 b3
    rw [hb', fits_b k1, fits_b k3]
    have hnew := new_b k1 k3 (by omega)
    refine ⟨fun e => (by cases e), fun _ => ⟨fun _ => ?_, fun e => absurd hnew (of_decide_eq_false e)⟩⟩
    rw [newF_b k1 k3, ← mul_q]; rfl
theorem rdiv_ok (x : Els [(true, cF), (true, cF)]) : (tr_rdiv x).wp (· = ansF (both x.1 x.2.1 && decide (qF x.2.1 ≠ 0)) (rOf (qF x.1 / qF x.2.1))) := by
  obtain ⟨x, y, u⟩ := x
  revert x y
  intro (x : F) (y : F)
  unfold tr_rdiv
  simp only [T.wp]
  rw [all_both]
  have zero : ∀ (b3 : 0 < zW y.2), ((Pq.cz (zW y.1) 0 == 0) = true ↔ qF y = 0) := fun b3 => by
    rw [q_zero b3, beq_iff_eq, cz_eq]
  have core : both x y = true → (qF y ≠ 0) → zW x.1 * zW y.2 = zW x.1 * zW y.2 ∧ Pq.fits (zW x.1 * zW y.2) = true ∧ Pq.fits (zW x.2 * zW y.1) = true ∧ NewOk (wOf (zW x.1 * zW y.2)) (wOf (zW x.2 * zW y.1)) ∧ newF (wOf (zW x.1 * zW y.2)) (wOf (zW x.2 * zW y.1)) = rOf (qF x / qF y) := fun hb hq => by
    obtain ⟨h1, h2⟩ := both_iff.1 hb
    obtain ⟨a1, a2, a3⟩ := safe_b h1
    obtain ⟨b1, b2, b3⟩ := safe_b h2
    have k1 := b_le (mul_b a1 b2)
    have k3 := b_le (mul_b a2 b1)
    have hy : zW y.1 ≠ 0 := fun e => hq ((q_zero b3).2 e)
    have hne : zW x.2 * zW y.1 ≠ 0 := Int.mul_ne_zero (by omega) hy
    exact ⟨rfl, fits_b k1, fits_b k3, new_b k1 k3 hne, by rw [newF_b k1 k3, div_q]⟩
  refine ⟨fun h => ⟨fun hz => ?_, fun hz => ?_⟩, fun h => ⟨len2 _ _, fun hb => ?_, fun hb => ⟨fun hz => ?_, fun hz => ?_⟩⟩⟩
  · have hb := both_sm h
    rw [Bool.and_eq_true] at h
    obtain ⟨a1, a2, a3⟩ := sm_qF h.1
    obtain ⟨b1, b2, b3⟩ := sm_qF h.2
    have hz' : zW y.1 ≠ 0 := by simpa using hz
    have hq : qF y ≠ 0 := fun e => hz' ((q_zero b3).1 e)
    have m1 := mul_s a1 b2
    have m3 := mul_s a2 b1
    have hne : zW x.2 * zW y.1 ≠ 0 := Int.mul_ne_zero (by omega) hz'
    rw [hb, decide_eq_true hq, mul_w a1 b2, mul_w a2 b1, ← div_q]
    exact ⟨⟨⟨by omega, by omega⟩, ⟨by omega, by omega⟩, hne⟩, rfl⟩
  · have hb := both_sm h
    rw [Bool.and_eq_true] at h
    obtain ⟨b1, b2, b3⟩ := sm_qF h.2
    have hz' : zW y.1 = 0 := by simpa using hz
    have hq : qF y = 0 := (q_zero b3).2 hz'
    refine ⟨len2 _ _, fun e => ?_, fun e => ⟨fun e2 => ?_, fun e2 => ?_⟩⟩
    · rw [hb] at e; cases e
    · rw [decide_eq_false (fun k => k hq), Bool.and_false]; rfl
    · have := (zero b3).2 hq
      rw [this] at e2; cases e2
  · rw [show both x y = false from by simpa using hb]; rfl
  · have hb' : both x y = true := by simpa using hb
    have b3 := (safe_b (both_iff.1 hb').2).2.2
    rw [decide_eq_false (fun k => k ((zero b3).1 hz)), Bool.and_false]; rfl
  · have hb' : both x y = true := by simpa using hb
    have b3 := (safe_b (both_iff.1 hb').2).2.2
    have hq : qF y ≠ 0 := fun e => by rw [(zero b3).2 e] at hz; cases hz
    obtain ⟨_, f1, f2, hnew, e⟩ := core hb' hq
    rw [hb', decide_eq_true hq, f1, f2]
    refine ⟨fun e => (by cases e), fun _ => ⟨fun _ => ?_, fun e => absurd hnew (of_decide_eq_false e)⟩⟩
    rw [e]; rfl
noncomputable def con_rcmp : Con Try.prog := ⟨16, [], _, cf_rcmp, ans_con0 (E := E6) mixed Try.func16 no_loops [(true, cF), (true, cF)] false (.int .i64) (fun x => both x.1 x.2.1) (fun x => cq (qF x.1) (qF x.2.1)) (fun _ => (0 : Int)) fun x => by rw [tr_rcmp_eq]; exact rcmp_ok x⟩
noncomputable def con_radd : Con Try.prog := ⟨15, [], _, cf_radd, ans_con0 (E := E6) mixed Try.func15 no_loops [(true, cF), (true, cF)] true cF (fun x => both x.1 x.2.1) (fun x => rOf (qF x.1 + qF x.2.1)) (fun _ => (w0, w0)) fun x => by rw [tr_radd_eq]; exact radd_ok x⟩
noncomputable def con_rmul : Con Try.prog := ⟨28, [], _, cf_rmul, ans_con0 (E := E6) mixed Try.func28 no_loops [(true, cF), (true, cF)] true cF (fun x => both x.1 x.2.1) (fun x => rOf (qF x.1 * qF x.2.1)) (fun _ => (w0, w0)) fun x => by rw [tr_rmul_eq]; exact rmul_ok x⟩
noncomputable def con_rdiv : Con Try.prog := ⟨29, [], _, cf_rdiv, ans_con0 (E := E6) mixed Try.func29 no_loops [(true, cF), (true, cF)] true cF (fun x => both x.1 x.2.1 && decide (qF x.2.1 ≠ 0)) (fun x => rOf (qF x.1 / qF x.2.1)) (fun _ => (w0, w0)) fun x => by rw [tr_rdiv_eq]; exact rdiv_ok x⟩
noncomputable def E7 : Env Try.prog := ⟨con_rcmp :: con_radd :: con_rmul :: con_rdiv :: E6.con, E6.zero, E6.cod, E6.sure, E6.base, E6.frz⟩
theorem cf_rsum (xs : Array Value) (w : World) : (callFunc 24 xs).run Try.prog w = .ok (.enter 24 xs) w := by kernel_rfl
theorem cf_rleast (xs : Array Value) (w : World) : (callFunc 23 xs).run Try.prog w = .ok (.enter 23 xs) w := by kernel_rfl
theorem cf_rfloor (xs : Array Value) (w : World) : (callFunc 11 xs).run Try.prog w = .ok (.enter 11 xs) w := by kernel_rfl
end Go.Proofs.Ytjijakfcahhioaa
/-
Fractions: Sub, Floor, the loops of Sum and Least.
-/
set_option linter.unusedSimpArgs false
set_option linter.unusedVariables false
namespace Go.Proofs.Ytjijakfcahhioaa
open Go.RowKit Ax
def spSum : LSpec := ⟨29, [(11, false, .sl cF), (12, false, .int .i64), (13, false, .int .i64)], [(2, 0, 0), (4, 1, 0)], [(27, cF), (27, cF)], fun e => match e with | .ret => [3] | _ => []⟩
def spLeast : LSpec := ⟨37, [(17, false, .sl cF), (18, false, .int .i64), (19, false, .int .i64)], [(2, 0, 0), (4, 1, 0)], [(27, cF), (27, cF)], fun e => match e with | .ret => [3] | _ => []⟩
end Go.Proofs.Ytjijakfcahhioaa
