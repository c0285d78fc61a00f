import Derived.Test.YtbkfakkkikmcbaaGreatDoorK3
set_option linter.unusedSimpArgs false
set_option linter.unusedVariables false
namespace Go.Proofs.YtbkfakkkikmcbaaGreatDoor
open Go.RowKit
theorem cf_divmod (xs:Array Value) (w:World):(callFunc 83 xs).run Tryz.prog w=.ok (.enter 83 xs) w:=by kernel_rfl
set_option maxRecDepth 100000 in
set_option maxHeartbeats 1000000 in
theorem divmod_any (n:Bool) (x:Nat) (m:Bool) (y:Nat) (w:World) (hx:x<Pq.bp 32) (hy:y<Pq.bp 32) :
    Calls Tryz.prog 83 #[.agg (Pq.wc n x),.agg (Pq.wc m y)] w (Pq.Ret w (Pq.dmv (Pq.zv n x) (Pq.zv m y))):=by
  have HX:=Lib.hid hx;clear hx
  have HY:=Lib.hid hy;clear hy
  obtain ⟨g,hg⟩ : ∃ g,g=w.heap.size:=⟨_,rfl⟩
  have HG:=Lib.hid hg;clear hg
  obtain ⟨sy,hsy⟩ : ∃ sy,sy=Pq.szn 32 y:=⟨_,rfl⟩
  have hsl:sy≤32:=by rw[hsy];exact Pq.szn_le 32 y
  have HSY:=Lib.hid hsy;clear hsy
  obtain ⟨sx,hsx⟩ : ∃ sx,sx=Pq.szn 32 x:=⟨_,rfl⟩
  have HSX:=Lib.hid hsx;clear hsx
  obtain ⟨res,hr⟩ : ∃ res,res=Pq.dmv (Pq.zv n x) (Pq.zv m y):=⟨_,rfl⟩
  rw[←hr]
  have HRR:=Lib.hid hr;clear hr
  go_enter Tryz.func83,Tryz.ntmps83
  go_upto_region 0 with fail
  go_upto_region 0 with fail
  apply wp_region_lit
  refine Pq.wpL_box g HG.out.symm (Pq.wc n x) (by rfl) _ _ rfl rfl (bx_wide n x) ?_
  simp only[Pq.zz]
  refine Pq.wpL_box (g+1) (by simp[HG.out]) (Pq.wc m y) (by rfl) _ _ rfl rfl (bx_wide m y) ?_
  simp only[Pq.zz]
  refine Pq.wpL_alloc (g+2) (by simp[HG.out]) (by rfl) _ rfl (Pq.wc false 0) al_wide ?_
  simp only[Pq.zz]
  refine Pq.wpL_alloc (g+3) (by simp[HG.out]) (by rfl) _ rfl (Pq.wc false 0) al_wide ?_
  simp only[Pq.zz]
  refine Pq.wpL_step (by rfl) ?_
  apply Exists.intro
  apply Exists.intro
  refine ⟨?_,?_⟩
  · go_simp;first|done|with_reducible rfl|exact ⟨rfl,rfl⟩
  simp only[Pq.zz]
  refine Pq.wpL_nil ?_
  have hw:=Pq.four_blocks (T:=39) (T2:=39) w g HG.out (Pq.wl n x) (Pq.wl m y) (Pq.wl false 0) (Pq.wl false 0)
  generalize hW:(((w.alloc (.cells (Pq.wc n x) 39)).alloc (.cells (Pq.wc m y) 39)).alloc (.cells (Pq.wc false 0) 39)).alloc (.cells (Pq.wc false 0) 39)=w0
  have hW':(((w.alloc (.cells (Pq.wl n x).toArray 39)).alloc (.cells (Pq.wl m y).toArray 39)).alloc (.cells (Pq.wl false 0).toArray 39)).alloc (.cells (Pq.wl false 0).toArray 39)=w0:=hW
  rw[hW']at hw
  clear hW hW'
  obtain ⟨hr1,hr2,hg2,hg3,hb0⟩:=hw
  have HR1:=Lib.hid hr1;have HR2:=Lib.hid hr2;have HG2:=Lib.hid hg2;have HG3:=Lib.hid hg3;have HB:=Lib.hid hb0
  clear hr1 hr2 hg2 hg3 hb0
  go_upto_region 1 with fail
  refine Pq.wp_region_grown none [(0,true),(2,true),(1,false),(3,false),(4,true),(5,true)] (by kernel_rfl) (by kernel_rfl) (fun _ _ d _ _ h=>by cases d <;> exact h) (fun hS=>?_)
  simp only[Pq.pick,List.filterMap_cons,List.filterMap_nil,List.getElem?_cons_zero,List.getElem?_cons_succ,Option.map_some]
  refine Pq.wpO_load g 0 (Pq.wl n x) HR1.out (by simp) (by rfl) _ _ rfl rfl _ u_wide rfl (s_wide _ _) ?_
  simp only[Pq.zz]
  refine Pq.wpO_load (g+1) 0 (Pq.wl m y) HR2.out (by simp) (by rfl) _ _ rfl rfl _ u_wide rfl (s_wide _ _) ?_
  simp only[Pq.zz]
  refine Pq.wpO_call (by rfl) cf_of (of_ptr n x _) rfl rfl ?_;rintro e w3 ⟨b,rfl,hr3,hb3,_,hl3⟩;have HR3:=Lib.hid hr3;clear hr3;have hS3:=Pq.grown_then hS hb3;refine ⟨_,rfl,hS3,?_⟩
  simp only[Pq.zz]
  refine Pq.wpO_call (by rfl) cf_of (of_ptr m y _) rfl rfl ?_;rintro e w4 ⟨c,rfl,hr4,hb4,_,hl4⟩;have HR4:=Lib.hid hr4;clear hr4;have hS4:=Pq.grown_then hS3 hb4;refine ⟨_,rfl,hS4,?_⟩
  simp only[Pq.zz]
  iterate 2
    refine Pq.wpO_step (by rfl) ?_
    apply Exists.intro
    refine ⟨fun w' hw'=>?_,?_⟩
    · go_simp;first|done|with_reducible rfl|exact ⟨rfl,rfl⟩
    simp only[Pq.zz]
  refine Pq.wpO_nil ?_
  have HBx:=Lib.hid (Pq.range_in HR3.out hb4)
  have HCy:=HR4
  have K:=Pq.grown_below hS4
  have HA1:=Lib.hid (Pq.range_in HR1.out K)
  have HA2:=Lib.hid (Pq.range_in HR2.out K)
  have HG2':=Lib.hid (Pq.keep_block HG2.out K)
  have HG3':=Lib.hid (Pq.keep_block HG3.out K)
  have HB':=Lib.hid (Pq.below_next HB.out (Nat.le_refl _) K)
  clear HR3 HR4 HR1 HR2 HG2 HG3 HB hb3 hb4 hS hS3 hS4 hl3 hl4 K
  obtain ⟨d,hd⟩ : ∃ d,d=w4.heap.size:=⟨_,rfl⟩
  have HD:=Lib.hid hd;clear hd
  go_upto_region 2 with fail
  go_upto_region 2 with fail
  apply wp_region_lit
  refine Pq.wpL_build (by rfl) _ [] rfl [] rfl _ built_am0 ?_
  simp only[Pq.zz]
  refine Pq.wpL_box d HD.out.symm (Pq.am 32 0).toArray (by rfl) _ _ rfl rfl (bx_am 0) ?_
  simp only[Pq.zz]
  iterate 3
    refine Pq.wpL_step (by rfl) ?_
    apply Exists.intro
    apply Exists.intro
    refine ⟨?_,?_⟩
    · go_simp;first|done|with_reducible rfl|exact ⟨rfl,rfl⟩
    simp only[Pq.zz]
  refine Pq.wpL_nil ?_
  have HBx2:=Lib.hid (Pq.al_range HBx.out (.cells (Pq.am 32 0).toArray 202))
  have HCy2:=Lib.hid (Pq.al_range HCy.out (.cells (Pq.am 32 0).toArray 202))
  have HA12:=Lib.hid (Pq.al_range HA1.out (.cells (Pq.am 32 0).toArray 202))
  have HA22:=Lib.hid (Pq.al_range HA2.out (.cells (Pq.am 32 0).toArray 202))
  have HG22:=Lib.hid (Pq.al_keep HG2'.out (.cells (Pq.am 32 0).toArray 202))
  have HG32:=Lib.hid (Pq.al_keep HG3'.out (.cells (Pq.am 32 0).toArray 202))
  have HB2:=Lib.hid (Pq.below_alloc HB'.out (Nat.le_refl _) (.cells (Pq.am 32 0).toArray 202))
  have HZ2:=Lib.hid (Pq.al_anew w4 0 202 d HD.out)
  clear HBx HCy HA1 HA2 HG2' HG3' HB' HD
  generalize w4.alloc (.cells (Pq.am 32 0).toArray 202)=w5 at *
  by_cases hy0:y=0
  · have hs0:sy=0:=by rw[HSY.out];exact (Pq.szn_zero HY.out).2 hy0
    subst hs0
    have hres:res=.tuple #[.agg (Pq.wc false 0),.agg (Pq.wc false 0),.bool false]:=by
      rw[HRR.out,hy0,show Pq.zv m 0=0 from by unfold Pq.zv;split <;> rfl,Pq.dmv_zero]
    have HRES:=Lib.hid hres
    clear hy0 hres
    go_upto_region 5 with (go_at_call 121;refine (size_any c 0 y 0 HSY.out _ HCy2.out).mono ?_;rintro e w7 ⟨rfl,rfl⟩)
    go_upto_region 5 with fail
    apply wp_region_lit
    refine Pq.wpL_build (by rfl) _ [] rfl [] rfl _ built_none ?_
    simp only[Pq.zz]
    refine Pq.wpL_build (by rfl) _ [] rfl [] rfl _ built_none ?_
    simp only[Pq.zz]
    refine Pq.wpL_store (by rfl) 39 _ _ rfl (g+2) (Pq.wc _ _) rfl rfl 39 (Pq.wc _ _) HG22.out (s_widea _ _) (by simp only[Pq.wc_size]) (Pq.wc_one _ _) ?_
    try simp only[Pq.zz]
    refine Pq.wpL_store (by rfl) 39 _ _ rfl (g+3) (Pq.wc _ _) rfl rfl 39 (Pq.wc _ _) (Pq.keep_row HG32.out (by omega)) (s_widea _ _) (by simp only[Pq.wc_size]) (Pq.wc_one _ _) ?_
    try simp only[Pq.zz]
    refine Pq.wpL_step (by rfl) ?_
    apply Exists.intro
    apply Exists.intro
    refine ⟨?_,?_⟩
    · go_simp;first|done|with_reducible rfl|exact ⟨rfl,rfl⟩
    simp only[Pq.zz]
    refine Pq.wpL_nil ?_
    go_wp2
    refine Pq.ret_cell2_tmp rfl (g+2) (g+3) _ _ _ _ _ _ _ _ _ rfl rfl rfl (Pq.keep_row (Pq.setRow_at HG22.out) (by omega)) u_wide rfl (s_widea _ _) (Pq.setRow_at (Pq.keep_row HG32.out (by omega))) u_wide rfl (s_widea _ _) rfl ⟨by rw[HRES.out];rfl,Pq.below_setRow (Pq.below_setRow HB2.out (by rw[←HG.out];omega)) (by rw[←HG.out];omega)⟩
  · have hyz:=Pq.zv_ne m hy0
    have hs0:sy≠0:=by intro h;exact hy0 ((Pq.szn_zero HY.out).1 (by rw[←HSY.out];exact h))
    have hbe:((sy:Int)==0)=false:=by simpa using hs0
    obtain ⟨p0,hp0⟩ : ∃ p0,p0=Pq.ng n x:=⟨_,rfl⟩
    obtain ⟨q0,hq0⟩ : ∃ q0,q0=Pq.ng m y:=⟨_,rfl⟩
    have HNX:=Lib.hid hp0;have HNY:=Lib.hid hq0
    have HCyW:=HCy2
    obtain ⟨cc,hcc⟩ : ∃ cc,cc=Pq.cm x y:=⟨_,rfl⟩
    have HCC:=Lib.hid hcc
    clear hp0 hq0 hcc
    rcases Nat.lt_or_ge x y with hxy|hxy
    · have hc:decide (cc<0)=true:=by rw[HCC.out,Pq.cm_lt hxy];rfl
      have HXY:=Lib.hid hxy
      clear hxy hy0
      go_upto_region 10 with (first|(go_at_call 121;refine (size_any c 0 y sy HSY.out _ HCyW.out).mono ?_;rintro e w7 ⟨rfl,rfl⟩)|(go_at_call 131;refine (acmp_any b 0 c 0 x y _ HX.out HY.out HBx2.out HCy2.out).mono ?_;rw[←HCC.out];rintro e w6 ⟨rfl,hb6⟩;have HCyV:=Lib.hid (Pq.range_in HCy2.out hb6)))
      have HPz':=Lib.hid (Pq.range_in HZ2.out hb6);have HRz':=Lib.hid (Pq.range_in HBx2.out hb6)
      have hpz:w6.rangeAt d 0 (Pq.am 32 (x/y)):=by rw[Nat.div_eq_of_lt HXY.out];exact HPz'.out
      have hrz:w6.rangeAt b 0 (Pq.am 32 (x%y)):=by rw[Nat.mod_eq_of_lt HXY.out];exact HRz'.out
      have HPz:=Lib.hid hpz;have HRz:=Lib.hid hrz
      have HAz1:=Lib.hid (Pq.range_in HA12.out hb6);have HAz2:=Lib.hid (Pq.range_in HA22.out hb6)
      have HGz2:=Lib.hid (Pq.keep_block HG22.out hb6);have HGz3:=Lib.hid (Pq.keep_block HG32.out hb6)
      have HBz:=Lib.hid (Pq.below_next HB2.out (Nat.le_refl _) hb6)
      clear HPz' HRz' hpz hrz HA12 HA22 HG22 HG32 HB2 hb6 HBx2 HCy2 HZ2 HCyW HCyV hc hbe
      obtain ⟨wz,rfl⟩ : ∃ wz,wz=w6:=⟨_,rfl⟩
      obtain ⟨p,rfl⟩ : ∃ p,p=d:=⟨_,rfl⟩
      obtain ⟨r,rfl⟩ : ∃ r,r=b:=⟨_,rfl⟩
      have hpl:=Pq.range_lt HPz.out
      have hrl:=Pq.range_lt HRz.out
      have hB2:g+2≤wz.heap.size:=Nat.le_of_lt (Array.getElem?_eq_some_iff.1 HGz2.out).1
      go_upto_region 10 with fail
      refine Pq.wp_region_below (g+2) [(0,true),(2,true),(5,true),(7,true),(9,true),(1,false),(3,false),(4,true),(6,false),(8,false),(10,false),(11,false),(12,false),(13,true)] (by kernel_rfl) (by kernel_rfl) (fun _ _ d _ _ h=>by cases d <;> exact h) (fun hS=>?_)
      simp only[Pq.pick,List.filterMap_cons,List.filterMap_nil,List.getElem?_cons_zero,List.getElem?_cons_succ,Option.map_some]
      refine Pq.wpO_loadB g 0 (Pq.wl n x) HAz1.out (by omega) (by rfl) _ _ rfl rfl _ u_wide rfl (s_wide _ _) ?_
      simp only[Pq.zz]
      refine Pq.wpO_loadB (g+1) 0 (Pq.wl m y) HAz2.out (by omega) (by rfl) _ _ rfl rfl _ u_wide rfl (s_wide _ _) ?_
      simp only[Pq.zz]
      refine Pq.wpO_step (by rfl) ?_
      apply Exists.intro
      refine ⟨fun w' hw'=>?_,?_⟩
      · go_simp;first|done|with_reducible rfl|exact ⟨rfl,rfl⟩
      simp only[Pq.zz]
      refine Pq.wpO_loadB g 0 (Pq.wl n x) HAz1.out (by omega) (by rfl) _ _ rfl rfl _ u_wide rfl (s_wide _ _) ?_
      simp only[Pq.zz]
      refine Pq.wpO_step (by rfl) ?_
      apply Exists.intro
      refine ⟨fun w' hw'=>?_,?_⟩
      · go_simp;first|done|with_reducible rfl|exact ⟨rfl,rfl⟩
      simp only[Pq.zz]
      refine Pq.wpO_retB (by rfl) cf_below (below_any n x _ HX.out) rfl rfl hB2 hS ?_;intro w8 hb8 hS8;rw[←HNX.out]
      simp only[Pq.zz]
      refine Pq.wpO_retB (by rfl) cf_below (below_any m y _ HY.out) rfl rfl hB2 hS8 ?_;intro w9 hb9 hS9;rw[←HNY.out];have K9:=Pq.below_next (Pq.below_next (Pq.below_drew (Below.refl wz.heap.size wz)) (Nat.le_refl _) hb8) (Nat.le_refl _) hb9
      simp only[Pq.zz]
      refine Pq.wpO_step (by rfl) ?_
      apply Exists.intro
      refine ⟨fun w' hw'=>?_,?_⟩
      · go_simp;first|done|with_reducible rfl|exact ⟨rfl,rfl⟩
      simp only[Pq.zz]
      refine Pq.wpO_retB (by rfl) cf_told (told_any _ p 0 (x/y) _ (Nat.lt_of_le_of_lt (Nat.div_le_self _ _) HX.out) (Pq.range_in HPz.out K9) (Nat.lt_of_lt_of_le hpl K9.size)) rfl rfl hB2 hS9 ?_;intro w10 hb10 hS10
      simp only[Pq.zz]
      refine Pq.wpO_retB (by rfl) cf_below (below_any n x _ HX.out) rfl rfl hB2 hS10 ?_;intro w11 hb11 hS11;rw[←HNX.out];have K11:=Pq.below_next (Pq.below_next K9 (Nat.le_refl _) hb10) (Nat.le_refl _) hb11
      simp only[Pq.zz]
      refine Pq.wpO_retB (by rfl) cf_told (told_any _ r 0 (x%y) _ (Nat.lt_of_le_of_lt (Nat.mod_le _ _) HX.out) (Pq.range_in HRz.out K11) (Nat.lt_of_lt_of_le hrl K11.size)) rfl rfl hB2 hS11 ?_;intro w12 hb12 hS12;have K12:=Pq.below_next K11 (Nat.le_refl _) hb12
      simp only[Pq.zz]
      refine Pq.wpO_store (by rfl) 39 _ _ rfl (g+2) (Pq.wc _ _) rfl rfl 39 (Pq.wc _ _) (Pq.keep_block HGz2.out K12) (s_widea _ _) (by simp only[Pq.wc_size]) (Pq.wc_one _ _) (Pq.below_setRow hS12 (Nat.le_refl _)) ?_
      try simp only[Pq.zz]
      refine Pq.wpO_store (by rfl) 39 _ _ rfl (g+3) (Pq.wc _ _) rfl rfl 39 (Pq.wc _ _) (Pq.keep_row (Pq.keep_block HGz3.out K12) (by omega)) (s_widea _ _) (by simp only[Pq.wc_size]) (Pq.wc_one _ _) (Pq.below_setRow (Pq.below_setRow hS12 (Nat.le_refl _)) (by omega)) ?_
      try simp only[Pq.zz]
      refine Pq.wpO_step (by rfl) ?_
      apply Exists.intro
      refine ⟨fun w' hw'=>?_,?_⟩
      · go_simp;first|done|with_reducible rfl|exact ⟨rfl,rfl⟩
      simp only[Pq.zz]
      refine Pq.wpO_nil ?_
      go_wp2
      refine Pq.ret_cell2_tmp rfl (g+2) (g+3) _ _ _ _ _ _ _ _ _ rfl rfl rfl (Pq.keep_row (Pq.setRow_at (Pq.keep_block HGz2.out K12)) (by omega)) u_wide rfl (s_widea _ _) (Pq.setRow_at (Pq.keep_row (Pq.keep_block HGz3.out K12) (by omega))) u_wide rfl (s_widea _ _) rfl ⟨?_,Pq.below_setRow (Pq.below_setRow (Pq.below_next HBz.out (Nat.le_refl _) K12) (by rw[←HG.out];omega)) (by rw[←HG.out];omega)⟩
      have e1:=Pq.dm_q n x m y
      have e2:=Pq.dm_r n x m y
      rw[←HNX.out,←HNY.out]at e1
      rw[←HNX.out]at e2
      rw[HRR.out,Pq.dmv_ok _ hyz,←e1,←e2];rfl
    · have hc:decide (cc<0)=false:=by
        rw[HCC.out]
        rcases Nat.eq_or_lt_of_le hxy with h|h
        · subst h;rw[Pq.cm_eq];rfl
        · rw[Pq.cm_gt h];rfl
      by_cases hs1:sy=1
      · obtain ⟨hyw,hyl⟩:=Pq.szn_one HY.out (by rw[←HSY.out];exact hs1)
        have hbe1:((sy:Int)==1)=true:=by rw[hs1];rfl
        have hyp:0<y:=Nat.pos_of_ne_zero hy0
        have HYW:=Lib.hid hyw
        clear hxy hs1 hyw
        go_upto_region 8 with (first|(go_at_call 121;refine (size_any c 0 y sy HSY.out _ (by first|exact HCyW.out|exact HCyV.out)).mono ?_;rintro e w7 ⟨rfl,rfl⟩)|(go_at_call 131;refine (acmp_any b 0 c 0 x y _ HX.out HY.out HBx2.out HCy2.out).mono ?_;rw[←HCC.out];rintro e w6 ⟨rfl,hb6⟩;have HCyV:=Lib.hid (Pq.range_in HCy2.out hb6)))
        have HBxv:=Lib.hid (Pq.range_in HBx2.out hb6)
        have c1:w6.cell? ⟨c,0,none⟩=some (.int .u32 (y:Nat)):=by
          have:=HCyV.out 0 _ (Pq.am_get (x:=y) (show 0<32 by decide))
          rwa [HYW.out,Nat.add_zero]at this
        have C1:=Lib.hid c1;clear c1
        go_upto_region 8 with fail
        apply wp_region_lit
        iterate 4
          refine Pq.wpL_step (by rfl) ?_
          apply Exists.intro
          apply Exists.intro
          refine ⟨?_,?_⟩
          · go_simp;first|done|with_reducible rfl|exact ⟨rfl,rfl⟩
          simp only[Pq.zz]
        refine Pq.wpL_cell ⟨c,0,none⟩ _ C1.out (by rfl) _ _ rfl rfl _ u_u32 rfl ?_
        simp only[Pq.zz]
        refine Pq.wpL_call (by rfl) cf_byw (byword_any b 0 x y _ HX.out hyp hyl HBxv.out) rfl rfl ?_;rintro e w7 ⟨p,rfl,hp7,hb7,_,_⟩;have HP7:=Lib.hid hp7;clear hp7;refine ⟨_,rfl,?_⟩
        simp only[Pq.zz]
        iterate 5
          refine Pq.wpL_step (by rfl) ?_
          apply Exists.intro
          apply Exists.intro
          refine ⟨?_,?_⟩
          · go_simp;first|done|with_reducible rfl|exact ⟨rfl,rfl⟩
          simp only[Pq.zz]
        refine Pq.wpL_nil ?_
        obtain ⟨r,hr⟩ : ∃ r,r=w7.heap.size:=⟨_,rfl⟩
        have HRs:=Lib.hid hr
        have hml:x%y<4294967296:=Nat.lt_trans (Nat.mod_lt _ hyp) hyl
        clear hr
        go_upto_region 9 with fail
        go_upto_region 9 with fail
        apply wp_region_lit
        iterate 2
          refine Pq.wpL_step (by rfl) ?_
          apply Exists.intro
          apply Exists.intro
          refine ⟨?_,?_⟩
          · go_simp;first|done|with_reducible rfl|exact ⟨rfl,rfl⟩
          simp only[Pq.zz]
        refine Pq.wpL_build (by rfl) _ [(0,.tmp 51)] rfl [(0,.int .u32 ((x%y:Nat):Int))] rfl _ (built_am1 hml) ?_
        simp only[Pq.zz]
        refine Pq.wpL_box r HRs.out.symm (Pq.am 32 (x%y)).toArray (by rfl) _ _ rfl rfl (bx_am (x%y)) ?_
        simp only[Pq.zz]
        iterate 2
          refine Pq.wpL_step (by rfl) ?_
          apply Exists.intro
          apply Exists.intro
          refine ⟨?_,?_⟩
          · go_simp;first|done|with_reducible rfl|exact ⟨rfl,rfl⟩
          simp only[Pq.zz]
        refine Pq.wpL_nil ?_
        have kk:=Pq.below_alloc (Below.refl w7.heap.size w7) (Nat.le_refl _) (.cells (Pq.am 32 (x%y)).toArray 202)
        have HRz:=Lib.hid (Pq.al_anew w7 (x%y) 202 r HRs.out)
        generalize w7.alloc (.cells (Pq.am 32 (x%y)).toArray 202)=wz at *
        have K7:=Pq.below_next hb6 (Nat.le_refl _) (Pq.below_next hb7 (Nat.le_refl _) kk)
        have HPz:=Lib.hid (Pq.range_in HP7.out kk)
        have HAz1:=Lib.hid (Pq.range_in HA12.out K7);have HAz2:=Lib.hid (Pq.range_in HA22.out K7)
        have HGz2:=Lib.hid (Pq.keep_block HG22.out K7);have HGz3:=Lib.hid (Pq.keep_block HG32.out K7)
        have HBz:=Lib.hid (Pq.below_next HB2.out (Nat.le_refl _) K7)
        clear HA12 HA22 HG22 HG32 HB2 hb6 hb7 HBx2 HCy2 HZ2 HCyW HCyV hc hbe hbe1 C1 HBxv HP7 kk HRs K7 hyl hml
        have hpl:=Pq.range_lt HPz.out
        have hrl:=Pq.range_lt HRz.out
        have hB2:g+2≤wz.heap.size:=Nat.le_of_lt (Array.getElem?_eq_some_iff.1 HGz2.out).1
        go_upto_region 10 with fail
        refine Pq.wp_region_below (g+2) [(0,true),(2,true),(5,true),(7,true),(9,true),(1,false),(3,false),(4,true),(6,false),(8,false),(10,false),(11,false),(12,false),(13,true)] (by kernel_rfl) (by kernel_rfl) (fun _ _ d _ _ h=>by cases d <;> exact h) (fun hS=>?_)
        simp only[Pq.pick,List.filterMap_cons,List.filterMap_nil,List.getElem?_cons_zero,List.getElem?_cons_succ,Option.map_some]
        refine Pq.wpO_loadB g 0 (Pq.wl n x) HAz1.out (by omega) (by rfl) _ _ rfl rfl _ u_wide rfl (s_wide _ _) ?_
        simp only[Pq.zz]
        refine Pq.wpO_loadB (g+1) 0 (Pq.wl m y) HAz2.out (by omega) (by rfl) _ _ rfl rfl _ u_wide rfl (s_wide _ _) ?_
        simp only[Pq.zz]
        refine Pq.wpO_step (by rfl) ?_
        apply Exists.intro
        refine ⟨fun w' hw'=>?_,?_⟩
        · go_simp;first|done|with_reducible rfl|exact ⟨rfl,rfl⟩
        simp only[Pq.zz]
        refine Pq.wpO_loadB g 0 (Pq.wl n x) HAz1.out (by omega) (by rfl) _ _ rfl rfl _ u_wide rfl (s_wide _ _) ?_
        simp only[Pq.zz]
        refine Pq.wpO_step (by rfl) ?_
        apply Exists.intro
        refine ⟨fun w' hw'=>?_,?_⟩
        · go_simp;first|done|with_reducible rfl|exact ⟨rfl,rfl⟩
        simp only[Pq.zz]
        refine Pq.wpO_retB (by rfl) cf_below (below_any n x _ HX.out) rfl rfl hB2 hS ?_;intro w8 hb8 hS8;rw[←HNX.out]
        simp only[Pq.zz]
        refine Pq.wpO_retB (by rfl) cf_below (below_any m y _ HY.out) rfl rfl hB2 hS8 ?_;intro w9 hb9 hS9;rw[←HNY.out];have K9:=Pq.below_next (Pq.below_next (Pq.below_drew (Below.refl wz.heap.size wz)) (Nat.le_refl _) hb8) (Nat.le_refl _) hb9
        simp only[Pq.zz]
        refine Pq.wpO_step (by rfl) ?_
        apply Exists.intro
        refine ⟨fun w' hw'=>?_,?_⟩
        · go_simp;first|done|with_reducible rfl|exact ⟨rfl,rfl⟩
        simp only[Pq.zz]
        refine Pq.wpO_retB (by rfl) cf_told (told_any _ p 0 (x/y) _ (Nat.lt_of_le_of_lt (Nat.div_le_self _ _) HX.out) (Pq.range_in HPz.out K9) (Nat.lt_of_lt_of_le hpl K9.size)) rfl rfl hB2 hS9 ?_;intro w10 hb10 hS10
        simp only[Pq.zz]
        refine Pq.wpO_retB (by rfl) cf_below (below_any n x _ HX.out) rfl rfl hB2 hS10 ?_;intro w11 hb11 hS11;rw[←HNX.out];have K11:=Pq.below_next (Pq.below_next K9 (Nat.le_refl _) hb10) (Nat.le_refl _) hb11
        simp only[Pq.zz]
        refine Pq.wpO_retB (by rfl) cf_told (told_any _ r 0 (x%y) _ (Nat.lt_of_le_of_lt (Nat.mod_le _ _) HX.out) (Pq.range_in HRz.out K11) (Nat.lt_of_lt_of_le hrl K11.size)) rfl rfl hB2 hS11 ?_;intro w12 hb12 hS12;have K12:=Pq.below_next K11 (Nat.le_refl _) hb12
        simp only[Pq.zz]
        refine Pq.wpO_store (by rfl) 39 _ _ rfl (g+2) (Pq.wc _ _) rfl rfl 39 (Pq.wc _ _) (Pq.keep_block HGz2.out K12) (s_widea _ _) (by simp only[Pq.wc_size]) (Pq.wc_one _ _) (Pq.below_setRow hS12 (Nat.le_refl _)) ?_
        try simp only[Pq.zz]
        refine Pq.wpO_store (by rfl) 39 _ _ rfl (g+3) (Pq.wc _ _) rfl rfl 39 (Pq.wc _ _) (Pq.keep_row (Pq.keep_block HGz3.out K12) (by omega)) (s_widea _ _) (by simp only[Pq.wc_size]) (Pq.wc_one _ _) (Pq.below_setRow (Pq.below_setRow hS12 (Nat.le_refl _)) (by omega)) ?_
        try simp only[Pq.zz]
        refine Pq.wpO_step (by rfl) ?_
        apply Exists.intro
        refine ⟨fun w' hw'=>?_,?_⟩
        · go_simp;first|done|with_reducible rfl|exact ⟨rfl,rfl⟩
        simp only[Pq.zz]
        refine Pq.wpO_nil ?_
        go_wp2
        refine Pq.ret_cell2_tmp rfl (g+2) (g+3) _ _ _ _ _ _ _ _ _ rfl rfl rfl (Pq.keep_row (Pq.setRow_at (Pq.keep_block HGz2.out K12)) (by omega)) u_wide rfl (s_widea _ _) (Pq.setRow_at (Pq.keep_row (Pq.keep_block HGz3.out K12) (by omega))) u_wide rfl (s_widea _ _) rfl ⟨?_,Pq.below_setRow (Pq.below_setRow (Pq.below_next HBz.out (Nat.le_refl _) K12) (by rw[←HG.out];omega)) (by rw[←HG.out];omega)⟩
        have e1:=Pq.dm_q n x m y
        have e2:=Pq.dm_r n x m y
        rw[←HNX.out,←HNY.out]at e1
        rw[←HNX.out]at e2
        rw[HRR.out,Pq.dmv_ok _ hyz,←e1,←e2];rfl
      · have hbe1:((sy:Int)==1)=false:=(by have h1:¬ (sy:Int)=1:=(by omega);simpa using h1)
        have HXY:=Lib.hid hxy
        have hs2:2≤sy:=by omega
        clear hxy hs1
        go_upto_region 3 with (first|(go_at_call 121;refine (size_any c 0 y sy HSY.out _ (by first|exact HCyW.out|exact HCyV.out)).mono ?_;rintro e w7 ⟨rfl,rfl⟩)|(go_at_call 131;refine (acmp_any b 0 c 0 x y _ HX.out HY.out HBx2.out HCy2.out).mono ?_;rw[←HCC.out];rintro e w6 ⟨rfl,hb6⟩;have HCyV:=Lib.hid (Pq.range_in HCy2.out hb6)))
        have HBxv:=Lib.hid (Pq.range_in HBx2.out hb6)
        go_upto_region 3 with fail
        apply wp_region_lit
        iterate 2
          refine Pq.wpL_step (by rfl) ?_
          apply Exists.intro
          apply Exists.intro
          refine ⟨?_,?_⟩
          · go_simp;first|done|with_reducible rfl|exact ⟨rfl,rfl⟩
          simp only[Pq.zz]
        refine Pq.wpL_call (by rfl) cf_divide (divide_any b 0 c 0 x y sx sy _ HSX.out HSY.out hs2 HX.out HY.out HXY.out HBxv.out HCyV.out) rfl rfl ?_;rintro e wz ⟨p,r,rfl,hp7,hr7,hb7,_,_⟩;have HPz:=Lib.hid hp7;have HRz:=Lib.hid hr7;clear hp7 hr7;refine ⟨_,rfl,?_⟩
        simp only[Pq.zz]
        iterate 5
          refine Pq.wpL_step (by rfl) ?_
          apply Exists.intro
          apply Exists.intro
          refine ⟨?_,?_⟩
          · go_simp;first|done|with_reducible rfl|exact ⟨rfl,rfl⟩
          simp only[Pq.zz]
        refine Pq.wpL_nil ?_
        have K7:=Pq.below_next hb6 (Nat.le_refl _) hb7
        have HAz1:=Lib.hid (Pq.range_in HA12.out K7);have HAz2:=Lib.hid (Pq.range_in HA22.out K7)
        have HGz2:=Lib.hid (Pq.keep_block HG22.out K7);have HGz3:=Lib.hid (Pq.keep_block HG32.out K7)
        have HBz:=Lib.hid (Pq.below_next HB2.out (Nat.le_refl _) K7)
        clear HA12 HA22 HG22 HG32 HB2 hb6 hb7 HBx2 HCy2 HZ2 HCyW HCyV hc hbe hbe1 HBxv K7 HXY hs2
        have hpl:=Pq.range_lt HPz.out
        have hrl:=Pq.range_lt HRz.out
        have hB2:g+2≤wz.heap.size:=Nat.le_of_lt (Array.getElem?_eq_some_iff.1 HGz2.out).1
        go_upto_region 10 with fail
        refine Pq.wp_region_below (g+2) [(0,true),(2,true),(5,true),(7,true),(9,true),(1,false),(3,false),(4,true),(6,false),(8,false),(10,false),(11,false),(12,false),(13,true)] (by kernel_rfl) (by kernel_rfl) (fun _ _ d _ _ h=>by cases d <;> exact h) (fun hS=>?_)
        simp only[Pq.pick,List.filterMap_cons,List.filterMap_nil,List.getElem?_cons_zero,List.getElem?_cons_succ,Option.map_some]
        refine Pq.wpO_loadB g 0 (Pq.wl n x) HAz1.out (by omega) (by rfl) _ _ rfl rfl _ u_wide rfl (s_wide _ _) ?_
        simp only[Pq.zz]
        refine Pq.wpO_loadB (g+1) 0 (Pq.wl m y) HAz2.out (by omega) (by rfl) _ _ rfl rfl _ u_wide rfl (s_wide _ _) ?_
        simp only[Pq.zz]
        refine Pq.wpO_step (by rfl) ?_
        apply Exists.intro
        refine ⟨fun w' hw'=>?_,?_⟩
        · go_simp;first|done|with_reducible rfl|exact ⟨rfl,rfl⟩
        simp only[Pq.zz]
        refine Pq.wpO_loadB g 0 (Pq.wl n x) HAz1.out (by omega) (by rfl) _ _ rfl rfl _ u_wide rfl (s_wide _ _) ?_
        simp only[Pq.zz]
        refine Pq.wpO_step (by rfl) ?_
        apply Exists.intro
        refine ⟨fun w' hw'=>?_,?_⟩
        · go_simp;first|done|with_reducible rfl|exact ⟨rfl,rfl⟩
        simp only[Pq.zz]
        refine Pq.wpO_retB (by rfl) cf_below (below_any n x _ HX.out) rfl rfl hB2 hS ?_;intro w8 hb8 hS8;rw[←HNX.out]
        simp only[Pq.zz]
        refine Pq.wpO_retB (by rfl) cf_below (below_any m y _ HY.out) rfl rfl hB2 hS8 ?_;intro w9 hb9 hS9;rw[←HNY.out];have K9:=Pq.below_next (Pq.below_next (Pq.below_drew (Below.refl wz.heap.size wz)) (Nat.le_refl _) hb8) (Nat.le_refl _) hb9
        simp only[Pq.zz]
        refine Pq.wpO_step (by rfl) ?_
        apply Exists.intro
        refine ⟨fun w' hw'=>?_,?_⟩
        · go_simp;first|done|with_reducible rfl|exact ⟨rfl,rfl⟩
        simp only[Pq.zz]
        refine Pq.wpO_retB (by rfl) cf_told (told_any _ p 0 (x/y) _ (Nat.lt_of_le_of_lt (Nat.div_le_self _ _) HX.out) (Pq.range_in HPz.out K9) (Nat.lt_of_lt_of_le hpl K9.size)) rfl rfl hB2 hS9 ?_;intro w10 hb10 hS10
        simp only[Pq.zz]
        refine Pq.wpO_retB (by rfl) cf_below (below_any n x _ HX.out) rfl rfl hB2 hS10 ?_;intro w11 hb11 hS11;rw[←HNX.out];have K11:=Pq.below_next (Pq.below_next K9 (Nat.le_refl _) hb10) (Nat.le_refl _) hb11
        simp only[Pq.zz]
        refine Pq.wpO_retB (by rfl) cf_told (told_any _ r 0 (x%y) _ (Nat.lt_of_le_of_lt (Nat.mod_le _ _) HX.out) (Pq.range_in HRz.out K11) (Nat.lt_of_lt_of_le hrl K11.size)) rfl rfl hB2 hS11 ?_;intro w12 hb12 hS12;have K12:=Pq.below_next K11 (Nat.le_refl _) hb12
        simp only[Pq.zz]
        refine Pq.wpO_store (by rfl) 39 _ _ rfl (g+2) (Pq.wc _ _) rfl rfl 39 (Pq.wc _ _) (Pq.keep_block HGz2.out K12) (s_widea _ _) (by simp only[Pq.wc_size]) (Pq.wc_one _ _) (Pq.below_setRow hS12 (Nat.le_refl _)) ?_
        try simp only[Pq.zz]
        refine Pq.wpO_store (by rfl) 39 _ _ rfl (g+3) (Pq.wc _ _) rfl rfl 39 (Pq.wc _ _) (Pq.keep_row (Pq.keep_block HGz3.out K12) (by omega)) (s_widea _ _) (by simp only[Pq.wc_size]) (Pq.wc_one _ _) (Pq.below_setRow (Pq.below_setRow hS12 (Nat.le_refl _)) (by omega)) ?_
        try simp only[Pq.zz]
        refine Pq.wpO_step (by rfl) ?_
        apply Exists.intro
        refine ⟨fun w' hw'=>?_,?_⟩
        · go_simp;first|done|with_reducible rfl|exact ⟨rfl,rfl⟩
        simp only[Pq.zz]
        refine Pq.wpO_nil ?_
        go_wp2
        refine Pq.ret_cell2_tmp rfl (g+2) (g+3) _ _ _ _ _ _ _ _ _ rfl rfl rfl (Pq.keep_row (Pq.setRow_at (Pq.keep_block HGz2.out K12)) (by omega)) u_wide rfl (s_widea _ _) (Pq.setRow_at (Pq.keep_row (Pq.keep_block HGz3.out K12) (by omega))) u_wide rfl (s_widea _ _) rfl ⟨?_,Pq.below_setRow (Pq.below_setRow (Pq.below_next HBz.out (Nat.le_refl _) K12) (by rw[←HG.out];omega)) (by rw[←HG.out];omega)⟩
        have e1:=Pq.dm_q n x m y
        have e2:=Pq.dm_r n x m y
        rw[←HNX.out,←HNY.out]at e1
        rw[←HNX.out]at e2
        rw[HRR.out,Pq.dmv_ok _ hyz,←e1,←e2];rfl
theorem cf_gcd (xs:Array Value) (w:World):(callFunc 119 xs).run Tryz.prog w=.ok (.enter 119 xs) w:=by kernel_rfl
set_option maxRecDepth 100000 in
set_option maxHeartbeats 1000000 in
theorem gcd_any (n:Bool) (x:Nat) (m:Bool) (y:Nat) (w:World) (hx:x<Pq.bp 32) (hy:y<Pq.bp 32) :
    Calls Tryz.prog 119 #[.agg (Pq.wc n x),.agg (Pq.wc m y)] w (Pq.Ret w (.agg (Pq.wc false (Nat.gcd x y)))):=by
  have HX:=Lib.hid hx;clear hx
  have HY:=Lib.hid hy;clear hy
  obtain ⟨g,hg⟩ : ∃ g,g=w.heap.size:=⟨_,rfl⟩
  have HG:=Lib.hid hg;clear hg
  obtain ⟨G,hG⟩ : ∃ G,G=Nat.gcd x y:=⟨_,rfl⟩
  rw[←hG]
  have HGG:=Lib.hid hG;clear hG
  go_enter Tryz.func119,Tryz.ntmps119
  go_upto_region 0 with fail
  go_upto_region 0 with fail
  apply wp_region_lit
  refine Pq.wpL_box g HG.out.symm (Pq.wc n x) (by rfl) _ _ rfl rfl (bx_wide n x) ?_
  simp only[Pq.zz]
  refine Pq.wpL_box (g+1) (by simp[HG.out]) (Pq.wc m y) (by rfl) _ _ rfl rfl (bx_wide m y) ?_
  simp only[Pq.zz]
  refine Pq.wpL_alloc (g+2) (by simp[HG.out]) (by rfl) _ rfl (Pq.wc false 0) al_wide ?_
  simp only[Pq.zz]
  refine Pq.wpL_nil ?_
  have HU1:=Lib.hid (Pq.al_keep (Pq.al_keep (Pq.al_block w (.cells (Pq.wc n x) 39) g HG.out) (.cells (Pq.wc m y) 39)) (.cells (Pq.wc false 0) 39))
  have HV1:=Lib.hid (Pq.al_keep (Pq.al_block (w.alloc (.cells (Pq.wc n x) 39)) (.cells (Pq.wc m y) 39) (g+1) (by simp[HG.out])) (.cells (Pq.wc false 0) 39))
  have HG1:=Lib.hid (Pq.al_block ((w.alloc (.cells (Pq.wc n x) 39)).alloc (.cells (Pq.wc m y) 39)) (.cells (Pq.wc false 0) 39) (g+2) (by simp[HG.out]))
  have HB1:=Lib.hid (Pq.below_alloc (Pq.below_alloc (Pq.below_alloc (Below.refl _ w) (Nat.le_refl _) (.cells (Pq.wc n x) 39)) (Nat.le_refl _) (.cells (Pq.wc m y) 39)) (Nat.le_refl _) (.cells (Pq.wc false 0) 39))
  generalize ((w.alloc (.cells (Pq.wc n x) 39)).alloc (.cells (Pq.wc m y) 39)).alloc (.cells (Pq.wc false 0) 39)=w0 at *
  have hwg0:w.heap.size≤g:=by rw[HG.out];exact Nat.le_refl _
  go_upto_region 1 with fail
  go_upto_region 1 with fail
  apply wp_region_lit
  refine Pq.wpL_step (by rfl) ?_
  apply Exists.intro
  apply Exists.intro
  refine ⟨?_,?_⟩
  · go_simp;first|done|with_reducible rfl|exact ⟨rfl,rfl⟩
  simp only[Pq.zz]
  refine Pq.wpL_put (l:=Pq.wl n x) (k:=0) (.bool false) HU1.out (by rw[Pq.wl_length];decide) (by rfl) 4 _ _ rfl rfl rfl rfl rfl (by kernel_rfl) ?_
  try simp only[Pq.zz]
  refine Pq.wpL_step (by rfl) ?_
  apply Exists.intro
  apply Exists.intro
  refine ⟨?_,?_⟩
  · go_simp;first|done|with_reducible rfl|exact ⟨rfl,rfl⟩
  simp only[Pq.zz]
  refine Pq.wpL_put (l:=Pq.wl m y) (k:=0) (.bool false) (Pq.keep_row HV1.out (by omega)) (by rw[Pq.wl_length];decide) (by rfl) 4 _ _ rfl rfl rfl rfl rfl (by kernel_rfl) ?_
  try simp only[Pq.zz]
  refine Pq.wpL_nil ?_
  rw[Pq.wl_false,Pq.wl_false]
  have hu2:=Pq.keep_row (cs:=Pq.wc false y) (g2:=g+1) (Pq.setRow_at (cs:=Pq.wc false x) HU1.out) (by omega)
  have hv2:=Pq.setRow_at (cs:=Pq.wc false y) (Pq.keep_row (cs:=Pq.wc false x) (g2:=g) HV1.out (by omega))
  have hg2:=Pq.keep_row (cs:=Pq.wc false y) (g2:=g+1) (Pq.keep_row (cs:=Pq.wc false x) (g2:=g) HG1.out (by omega)) (by omega)
  have hb2:=Pq.below_setRow (cs:=Pq.wc false y) (g:=g+1) (Pq.below_setRow (cs:=Pq.wc false x) (g:=g) HB1.out hwg0) (by omega)
  have HU2:=Lib.hid hu2;have HV2:=Lib.hid hv2;have HG2:=Lib.hid hg2;have HB2:=Lib.hid hb2
  clear hu2 hv2 hg2 hb2 HU1 HV1 HG1 HB1
  generalize (w0.setRow g (Pq.wc false x)).setRow (g+1) (Pq.wc false y)=w2 at *
  go_wp2
  go_loopg [5,6,7] y (fun k p1 p2 p3 wr => ∃ u v:Nat,Hid (k=v)∧Hid (u<Pq.bp 32)∧Hid (v<Pq.bp 32)∧Hid (Nat.gcd u v=G)∧Hid (wr.heap[g]?=some (.cells (Pq.wc false u) 39 (0,0)))∧Hid (wr.heap[g+1]?=some (.cells (Pq.wc false v) 39 (0,0)))∧Hid (wr.heap[g+2]?=some (.cells (Pq.wc false 0) 39 (0,0)))∧Hid (Below w.heap.size w wr))
  case atStart=>exact ⟨x,y,Lib.hid rfl,HX,HY,Lib.hid HGG.out.symm,HU2,HV2,HG2,HB2⟩
  case round =>
    obtain ⟨u,v,HK,HUL,HVL,HGCD,HU0,HV0,HG0,HB0⟩:=hrel
    obtain ⟨su,hsu⟩ : ∃ su,su=Pq.szn 32 u:=⟨_,rfl⟩
    obtain ⟨sv,hsv⟩ : ∃ sv,sv=Pq.szn 32 v:=⟨_,rfl⟩
    have hvz:sv=0↔v=0:=by rw[hsv];exact Pq.szn_zero HVL.out
    have HVZ:=Lib.hid hvz
    have HSU:=Lib.hid hsu;have HSV:=Lib.hid hsv
    clear hvz hsu hsv
    rcases Nat.lt_or_ge 2 sv with h1|h1
    · have c1:decide ((2:Int)<(sv:Int))=true:=by simp;omega
      have hv0:v≠0:=fun h=>by have:=HVZ.out.2 h;omega
      go_upto_region 2 with fail
      go_upto_region 2 with fail
      apply Pq.wp_region_guard
      refine Pq.WL_load (g+1) 0 (Pq.wl false v) (Pq.range_wide HV0.out) (by rfl) _ _ rfl rfl _ u_wide rfl (s_wide _ _) ?_
      simp only[Pq.zz]
      refine Pq.WL_call (by rfl) cf_of (of_ptr false v _) rfl rfl ?_;rintro e w3 ⟨c,rfl,hr3,hb3,_,_⟩;have HR3:=Lib.hid hr3;clear hr3;refine ⟨_,rfl,?_⟩
      simp only[Pq.zz]
      refine Pq.WL_call (by rfl) cf_size (size_any c 0 v sv HSV.out _ HR3.out) rfl rfl ?_;rintro e w1 ⟨rfl,rfl⟩;refine ⟨_,rfl,?_⟩
      simp only[Pq.zz]
      iterate 2
        refine Pq.WL_step (by rfl) ?_
        apply Exists.intro
        apply Exists.intro
        refine ⟨?_,?_⟩
        · go_simp;first|done|with_reducible rfl|exact ⟨rfl,rfl⟩
        simp only[Pq.zz]
      refine Pq.WL_skip (by kernel_rfl) ?_
      simp only[Pq.zz]
      refine Pq.WL_skip (by kernel_rfl) ?_
      simp only[Pq.zz]
      refine Pq.WL_skip (by kernel_rfl) ?_
      simp only[Pq.zz]
      refine Pq.WL_skip (by kernel_rfl) ?_
      simp only[Pq.zz]
      refine Pq.WL_skip (by kernel_rfl) ?_
      simp only[Pq.zz]
      refine Pq.WL_skip (by kernel_rfl) ?_
      simp only[Pq.zz]
      refine Pq.WL_skip (by kernel_rfl) ?_
      simp only[Pq.zz]
      refine Pq.WL_skip (by kernel_rfl) ?_
      simp only[Pq.zz]
      refine Pq.WL_skip (by kernel_rfl) ?_
      simp only[Pq.zz]
      refine Pq.WL_skip (by kernel_rfl) ?_
      simp only[Pq.zz]
      refine Pq.WL_step (by rfl) ?_
      apply Exists.intro
      apply Exists.intro
      refine ⟨?_,?_⟩
      · go_simp;first|done|with_reducible rfl|exact ⟨rfl,rfl⟩
      simp only[Pq.zz]
      refine Pq.WL_nil ?_
      have KK:=hb3
      have HUq:=Lib.hid (Pq.keep_block HU0.out KK);have HVq:=Lib.hid (Pq.keep_block HV0.out KK);have HGq:=Lib.hid (Pq.keep_block HG0.out KK)
      have HBq:=Lib.hid (Pq.below_next HB0.out (Nat.le_refl _) KK)
      clear HU0 HV0 HG0 HB0 KK
      have hdm:Pq.dmv (Pq.zv false u) (Pq.zv false v)=.tuple #[.agg (Pq.wc false (u/v)),.agg (Pq.wc false (u%v)),.bool true]:=by
        have e1:=Pq.dm_q false u false v
        have e2:=Pq.dm_r false u false v
        rw[Pq.dmv_ok _ (Pq.zv_ne false hv0),←e1,←e2];rfl
      have HDM:=Lib.hid hdm;clear hdm
      go_upto_region 3 with fail
      go_upto_region 3 with fail
      apply wp_region_lit
      refine Pq.wpL_load g 0 (Pq.wl false u) (Pq.range_wide HUq.out) (by rfl) _ _ rfl rfl _ u_wide rfl (s_wide _ _) ?_
      simp only[Pq.zz]
      refine Pq.wpL_load (g+1) 0 (Pq.wl false v) (Pq.range_wide HVq.out) (by rfl) _ _ rfl rfl _ u_wide rfl (s_wide _ _) ?_
      simp only[Pq.zz]
      refine Pq.wpL_ret (by rfl) cf_divmod (divmod_any false u false v _ HUL.out HVL.out) rfl rfl ?_;intro w7 hb7;rw[HDM.out];obtain ⟨d,hd⟩ : ∃ d,d=w7.heap.size:=⟨_,rfl⟩;have HD:=Lib.hid hd;clear hd
      simp only[Pq.zz]
      iterate 4
        refine Pq.wpL_step (by rfl) ?_
        apply Exists.intro
        apply Exists.intro
        refine ⟨?_,?_⟩
        · go_simp;first|done|with_reducible rfl|exact ⟨rfl,rfl⟩
        simp only[Pq.zz]
      refine Pq.wpL_alloc d HD.out.symm (by rfl) _ rfl (Pq.wc false 0) al_wide ?_
      simp only[Pq.zz]
      refine Pq.wpL_alloc (d+1) (by simp[HD.out]) (by rfl) _ rfl (Pq.wc false 0) al_wide ?_
      simp only[Pq.zz]
      refine Pq.wpL_store (by rfl) 39 _ _ rfl d (Pq.wc _ _) rfl rfl 39 (Pq.wc _ _) (Pq.al_keep (Pq.al_block _ _ _ HD.out) _) (s_widea _ _) (by simp only[Pq.wc_size]) (Pq.wc_one _ _) ?_
      try simp only[Pq.zz]
      refine Pq.wpL_store (by rfl) 39 _ _ rfl (d+1) (Pq.wc _ _) rfl rfl 39 (Pq.wc _ _) (Pq.keep_row (Pq.al_block _ _ _ (by simp[HD.out])) (by omega)) (s_widea _ _) (by simp only[Pq.wc_size]) (Pq.wc_one _ _) ?_
      try simp only[Pq.zz]
      refine Pq.wpL_step (by rfl) ?_
      apply Exists.intro
      apply Exists.intro
      refine ⟨?_,?_⟩
      · go_simp;first|done|with_reducible rfl|exact ⟨rfl,rfl⟩
      simp only[Pq.zz]
      refine Pq.wpL_nil ?_
      have hgd:g+2<d:=by have:=(Array.getElem?_eq_some_iff.1 (Pq.keep_block HGq.out hb7)).1;rw[HD.out];exact this
      have hwg:w.heap.size≤g:=by rw[HG.out];exact Nat.le_refl _
      have hu9:=Pq.keep_row (cs:=Pq.wc false (u%v)) (g2:=d+1) (Pq.keep_row (cs:=Pq.wc false (u/v)) (g2:=d) (Pq.al_keep (Pq.al_keep (Pq.keep_block HUq.out hb7) (.cells (Pq.wc false 0) 39)) (.cells (Pq.wc false 0) 39)) (by omega)) (by omega)
      have hv9:=Pq.keep_row (cs:=Pq.wc false (u%v)) (g2:=d+1) (Pq.keep_row (cs:=Pq.wc false (u/v)) (g2:=d) (Pq.al_keep (Pq.al_keep (Pq.keep_block HVq.out hb7) (.cells (Pq.wc false 0) 39)) (.cells (Pq.wc false 0) 39)) (by omega)) (by omega)
      have hg9:=Pq.keep_row (cs:=Pq.wc false (u%v)) (g2:=d+1) (Pq.keep_row (cs:=Pq.wc false (u/v)) (g2:=d) (Pq.al_keep (Pq.al_keep (Pq.keep_block HGq.out hb7) (.cells (Pq.wc false 0) 39)) (.cells (Pq.wc false 0) 39)) (by omega)) (by omega)
      have hm9:=Pq.setRow_at (cs:=Pq.wc false (u%v)) (g:=d+1) (Pq.keep_row (cs:=Pq.wc false (u/v)) (g2:=d) (Pq.al_block (w7.alloc (.cells (Pq.wc false 0) 39)) (.cells (Pq.wc false 0) 39) (d+1) (by simp[HD.out])) (by omega))
      have hb9:=Pq.below_setRow (cs:=Pq.wc false (u%v)) (g:=d+1) (Pq.below_setRow (cs:=Pq.wc false (u/v)) (g:=d) (Pq.below_alloc (Pq.below_alloc (Pq.below_next HBq.out (Nat.le_refl _) hb7) (Nat.le_refl _) (.cells (Pq.wc false 0) 39)) (Nat.le_refl _) (.cells (Pq.wc false 0) 39)) (by omega)) (by omega)
      have HU9:=Lib.hid hu9;have HV9:=Lib.hid hv9;have HG9:=Lib.hid hg9;have HM9:=Lib.hid hm9;have HB9:=Lib.hid hb9
      clear hu9 hv9 hg9 hm9 hb9 hb7 HUq HVq HGq HBq HD
      generalize (((w7.alloc (.cells (Pq.wc false 0) 39)).alloc (.cells (Pq.wc false 0) 39)).setRow d (Pq.wc false (u/v))).setRow (d+1) (Pq.wc false (u%v))=w9 at *
      have HS0:w9.drew.rangeAt (d+1) 0 (Pq.wl false (u%v)):=Pq.dr_range (Pq.range_wide HM9.out)
      go_upto_region 4 with fail
      refine Pq.wp_region_order (fun w'=>w'.rangeAt (d+1) 0 (Pq.wl false (u%v))) [(1,true),(0,false),(2,false),(3,false)] (by kernel_rfl) (by kernel_rfl) (fun _ _ d _ _ h=>by cases d <;> exact h) (HS0) ?_
      simp only[Pq.pick,List.filterMap_cons,List.filterMap_nil,List.getElem?_cons_zero,List.getElem?_cons_succ,Option.map_some]
      refine Pq.wpO_loadS (d+1) 0 (Pq.wl false (u%v)) (fun _ h=>h) (by rfl) _ _ rfl rfl _ u_wide rfl (s_wide _ _) ?_
      simp only[Pq.zz]
      refine Pq.wpO_loadU (g+1) 0 (Pq.wl false v) (Pq.dr_range (Pq.range_wide HV9.out)) HS0 (by rfl) _ _ rfl rfl _ u_wide rfl (s_wide _ _) ?_
      simp only[Pq.zz]
      refine Pq.wpO_store (by rfl) 39 _ _ rfl g (Pq.wc false v) rfl rfl 39 (Pq.wc _ _) (Pq.dr_block HU9.out) (s_widea _ _) (by simp only[Pq.wc_size]) (Pq.wc_one _ _) (Pq.keep_range HS0 (by omega)) ?_
      try simp only[Pq.zz]
      refine Pq.wpO_store (by rfl) 39 _ _ rfl (g+1) (Pq.wc false (u%v)) rfl rfl 39 (Pq.wc _ _) (Pq.keep_row (Pq.dr_block HV9.out) (by omega)) (s_widea _ _) (by simp only[Pq.wc_size]) (Pq.wc_one _ _) (Pq.keep_range (Pq.keep_range HS0 (by omega)) (by omega)) ?_
      try simp only[Pq.zz]
      refine Pq.wpO_nil ?_
      go_wp2
      go_roundg (u%v)
      case measure=>rw[HK.out];exact Nat.mod_lt _ (Nat.pos_of_ne_zero hv0)
      case rel=>exact ⟨v,u%v,Lib.hid rfl,Lib.hid HVL.out,Lib.hid (Nat.lt_of_le_of_lt (Nat.mod_le _ _) HUL.out),Lib.hid ((Pq.gcd_step u v).trans HGCD.out),Lib.hid (Pq.keep_row (Pq.setRow_at (Pq.dr_block HU9.out)) (by omega)),Lib.hid (Pq.setRow_at (Pq.keep_row (Pq.dr_block HV9.out) (by omega))),Lib.hid (Pq.keep_row (Pq.keep_row (Pq.dr_block HG9.out) (by omega)) (by omega)),Lib.hid (Pq.below_setRow (Pq.below_setRow (Pq.below_drew HB9.out) hwg) (by omega))⟩
    · have c1:decide ((2:Int)<(sv:Int))=false:=by simp;omega
      rcases Nat.lt_or_ge 2 su with h2|h2
      · have c2:decide ((2:Int)<(su:Int))=true:=by simp;omega
        by_cases h3:sv=0
        · have c3:decide (0<sv)=false:=by simp;omega
          have c4:((sv:Int)==0)=true:=by rw[h3];rfl
          have HV00:=Lib.hid (HVZ.out.1 h3)
          clear h3
          go_upto_region 2 with fail
          go_upto_region 2 with fail
          apply Pq.wp_region_guard
          refine Pq.WL_load (g+1) 0 (Pq.wl false v) (Pq.range_wide HV0.out) (by rfl) _ _ rfl rfl _ u_wide rfl (s_wide _ _) ?_
          simp only[Pq.zz]
          refine Pq.WL_call (by rfl) cf_of (of_ptr false v _) rfl rfl ?_;rintro e w3 ⟨c,rfl,hr3,hb3,_,_⟩;have HR3:=Lib.hid hr3;clear hr3;refine ⟨_,rfl,?_⟩
          simp only[Pq.zz]
          refine Pq.WL_call (by rfl) cf_size (size_any c 0 v sv HSV.out _ HR3.out) rfl rfl ?_;rintro e w1 ⟨rfl,rfl⟩;refine ⟨_,rfl,?_⟩
          simp only[Pq.zz]
          iterate 2
            refine Pq.WL_step (by rfl) ?_
            apply Exists.intro
            apply Exists.intro
            refine ⟨?_,?_⟩
            · go_simp;first|done|with_reducible rfl|exact ⟨rfl,rfl⟩
            simp only[Pq.zz]
          refine Pq.WL_load g 0 (Pq.wl false u) (Pq.range_wide (Pq.keep_block HU0.out hb3)) (by rfl) _ _ rfl rfl _ u_wide rfl (s_wide _ _) ?_
          simp only[Pq.zz]
          refine Pq.WL_call (by rfl) cf_of (of_ptr false u _) rfl rfl ?_;rintro e w4 ⟨b,rfl,hr4,hb4,_,_⟩;have HR4:=Lib.hid hr4;clear hr4;refine ⟨_,rfl,?_⟩
          simp only[Pq.zz]
          refine Pq.WL_call (by rfl) cf_size (size_any b 0 u su HSU.out _ HR4.out) rfl rfl ?_;rintro e w1 ⟨rfl,rfl⟩;refine ⟨_,rfl,?_⟩
          simp only[Pq.zz]
          iterate 2
            refine Pq.WL_step (by rfl) ?_
            apply Exists.intro
            apply Exists.intro
            refine ⟨?_,?_⟩
            · go_simp;first|done|with_reducible rfl|exact ⟨rfl,rfl⟩
            simp only[Pq.zz]
          refine Pq.WL_load (g+1) 0 (Pq.wl false v) (Pq.range_wide (Pq.keep_block (Pq.keep_block HV0.out hb3) hb4)) (by rfl) _ _ rfl rfl _ u_wide rfl (s_wide _ _) ?_
          simp only[Pq.zz]
          refine Pq.WL_call (by rfl) cf_of (of_ptr false v _) rfl rfl ?_;rintro e w5 ⟨d,rfl,hr5,hb5,_,_⟩;have HR5:=Lib.hid hr5;clear hr5;refine ⟨_,rfl,?_⟩
          simp only[Pq.zz]
          refine Pq.WL_call (by rfl) cf_size (size_any d 0 v sv HSV.out _ HR5.out) rfl rfl ?_;rintro e w1 ⟨rfl,rfl⟩;refine ⟨_,rfl,?_⟩
          simp only[Pq.zz]
          iterate 3
            refine Pq.WL_step (by rfl) ?_
            apply Exists.intro
            apply Exists.intro
            refine ⟨?_,?_⟩
            · go_simp;first|done|with_reducible rfl|exact ⟨rfl,rfl⟩
            simp only[Pq.zz]
          refine Pq.WL_nil ?_
          have KK:=Pq.below_next (Pq.below_next hb3 (Nat.le_refl _) hb4) (Nat.le_refl _) hb5
          have HUq:=Lib.hid (Pq.keep_block HU0.out KK);have HVq:=Lib.hid (Pq.keep_block HV0.out KK);have HGq:=Lib.hid (Pq.keep_block HG0.out KK)
          have HBq:=Lib.hid (Pq.below_next HB0.out (Nat.le_refl _) KK)
          clear HU0 HV0 HG0 HB0 KK
          go_upto_region 5 with fail
          go_upto_region 5 with fail
          apply wp_region_lit
          refine Pq.wpL_load (g+1) 0 (Pq.wl false v) (Pq.range_wide HVq.out) (by rfl) _ _ rfl rfl _ u_wide rfl (s_wide _ _) ?_
          simp only[Pq.zz]
          refine Pq.wpL_call (by rfl) cf_of (of_ptr false v _) rfl rfl ?_;rintro e w6 ⟨c6,rfl,hr6,hb6,_,_⟩;have HR6:=Lib.hid hr6;clear hr6;refine ⟨_,rfl,?_⟩
          simp only[Pq.zz]
          refine Pq.wpL_call (by rfl) cf_size (size_any c6 0 v sv HSV.out _ HR6.out) rfl rfl ?_;rintro e w1 ⟨rfl,rfl⟩;refine ⟨_,rfl,?_⟩
          simp only[Pq.zz]
          refine Pq.wpL_step (by rfl) ?_
          apply Exists.intro
          apply Exists.intro
          refine ⟨?_,?_⟩
          · go_simp;first|done|with_reducible rfl|exact ⟨rfl,rfl⟩
          simp only[Pq.zz]
          refine Pq.wpL_nil ?_
          go_upto_region 6 with fail
          go_upto_region 6 with fail
          apply wp_region_lit
          refine Pq.wpL_load g 0 (Pq.wl false u) (Pq.range_wide (Pq.keep_block HUq.out hb6)) (by rfl) _ _ rfl rfl _ u_wide rfl (s_wide _ _) ?_
          simp only[Pq.zz]
          refine Pq.wpL_store (by rfl) 39 _ _ rfl (g+2) (Pq.wc _ _) rfl rfl 39 (Pq.wc _ _) (Pq.keep_block HGq.out hb6) (s_widea _ _) (by simp only[Pq.wc_size]) (Pq.wc_one _ _) ?_
          try simp only[Pq.zz]
          refine Pq.wpL_nil ?_
          go_wp2
          refine Pq.ret_cell rfl (g+2) _ _ _ _ rfl (Pq.setRow_at (Pq.keep_block HGq.out hb6)) u_wide rfl (s_widea _ _) rfl ⟨?_,Pq.below_setRow (Pq.below_next HBq.out (Nat.le_refl _) hb6) (by rw[←HG.out];omega)⟩
          rw[←HGCD.out,HV00.out,Nat.gcd_zero_right]
        · have c3:decide (0<sv)=true:=by simp;omega
          have hv0:v≠0:=fun h=>h3 (HVZ.out.2 h)
          clear h3
          go_upto_region 2 with fail
          go_upto_region 2 with fail
          apply Pq.wp_region_guard
          refine Pq.WL_load (g+1) 0 (Pq.wl false v) (Pq.range_wide HV0.out) (by rfl) _ _ rfl rfl _ u_wide rfl (s_wide _ _) ?_
          simp only[Pq.zz]
          refine Pq.WL_call (by rfl) cf_of (of_ptr false v _) rfl rfl ?_;rintro e w3 ⟨c,rfl,hr3,hb3,_,_⟩;have HR3:=Lib.hid hr3;clear hr3;refine ⟨_,rfl,?_⟩
          simp only[Pq.zz]
          refine Pq.WL_call (by rfl) cf_size (size_any c 0 v sv HSV.out _ HR3.out) rfl rfl ?_;rintro e w1 ⟨rfl,rfl⟩;refine ⟨_,rfl,?_⟩
          simp only[Pq.zz]
          iterate 2
            refine Pq.WL_step (by rfl) ?_
            apply Exists.intro
            apply Exists.intro
            refine ⟨?_,?_⟩
            · go_simp;first|done|with_reducible rfl|exact ⟨rfl,rfl⟩
            simp only[Pq.zz]
          refine Pq.WL_load g 0 (Pq.wl false u) (Pq.range_wide (Pq.keep_block HU0.out hb3)) (by rfl) _ _ rfl rfl _ u_wide rfl (s_wide _ _) ?_
          simp only[Pq.zz]
          refine Pq.WL_call (by rfl) cf_of (of_ptr false u _) rfl rfl ?_;rintro e w4 ⟨b,rfl,hr4,hb4,_,_⟩;have HR4:=Lib.hid hr4;clear hr4;refine ⟨_,rfl,?_⟩
          simp only[Pq.zz]
          refine Pq.WL_call (by rfl) cf_size (size_any b 0 u su HSU.out _ HR4.out) rfl rfl ?_;rintro e w1 ⟨rfl,rfl⟩;refine ⟨_,rfl,?_⟩
          simp only[Pq.zz]
          iterate 2
            refine Pq.WL_step (by rfl) ?_
            apply Exists.intro
            apply Exists.intro
            refine ⟨?_,?_⟩
            · go_simp;first|done|with_reducible rfl|exact ⟨rfl,rfl⟩
            simp only[Pq.zz]
          refine Pq.WL_load (g+1) 0 (Pq.wl false v) (Pq.range_wide (Pq.keep_block (Pq.keep_block HV0.out hb3) hb4)) (by rfl) _ _ rfl rfl _ u_wide rfl (s_wide _ _) ?_
          simp only[Pq.zz]
          refine Pq.WL_call (by rfl) cf_of (of_ptr false v _) rfl rfl ?_;rintro e w5 ⟨d,rfl,hr5,hb5,_,_⟩;have HR5:=Lib.hid hr5;clear hr5;refine ⟨_,rfl,?_⟩
          simp only[Pq.zz]
          refine Pq.WL_call (by rfl) cf_size (size_any d 0 v sv HSV.out _ HR5.out) rfl rfl ?_;rintro e w1 ⟨rfl,rfl⟩;refine ⟨_,rfl,?_⟩
          simp only[Pq.zz]
          iterate 3
            refine Pq.WL_step (by rfl) ?_
            apply Exists.intro
            apply Exists.intro
            refine ⟨?_,?_⟩
            · go_simp;first|done|with_reducible rfl|exact ⟨rfl,rfl⟩
            simp only[Pq.zz]
          refine Pq.WL_nil ?_
          have KK:=Pq.below_next (Pq.below_next hb3 (Nat.le_refl _) hb4) (Nat.le_refl _) hb5
          have HUq:=Lib.hid (Pq.keep_block HU0.out KK);have HVq:=Lib.hid (Pq.keep_block HV0.out KK);have HGq:=Lib.hid (Pq.keep_block HG0.out KK)
          have HBq:=Lib.hid (Pq.below_next HB0.out (Nat.le_refl _) KK)
          clear HU0 HV0 HG0 HB0 KK
          have hdm:Pq.dmv (Pq.zv false u) (Pq.zv false v)=.tuple #[.agg (Pq.wc false (u/v)),.agg (Pq.wc false (u%v)),.bool true]:=by
            have e1:=Pq.dm_q false u false v
            have e2:=Pq.dm_r false u false v
            rw[Pq.dmv_ok _ (Pq.zv_ne false hv0),←e1,←e2];rfl
          have HDM:=Lib.hid hdm;clear hdm
          go_upto_region 3 with fail
          go_upto_region 3 with fail
          apply wp_region_lit
          refine Pq.wpL_load g 0 (Pq.wl false u) (Pq.range_wide HUq.out) (by rfl) _ _ rfl rfl _ u_wide rfl (s_wide _ _) ?_
          simp only[Pq.zz]
          refine Pq.wpL_load (g+1) 0 (Pq.wl false v) (Pq.range_wide HVq.out) (by rfl) _ _ rfl rfl _ u_wide rfl (s_wide _ _) ?_
          simp only[Pq.zz]
          refine Pq.wpL_ret (by rfl) cf_divmod (divmod_any false u false v _ HUL.out HVL.out) rfl rfl ?_;intro w7 hb7;rw[HDM.out];obtain ⟨d,hd⟩ : ∃ d,d=w7.heap.size:=⟨_,rfl⟩;have HD:=Lib.hid hd;clear hd
          simp only[Pq.zz]
          iterate 4
            refine Pq.wpL_step (by rfl) ?_
            apply Exists.intro
            apply Exists.intro
            refine ⟨?_,?_⟩
            · go_simp;first|done|with_reducible rfl|exact ⟨rfl,rfl⟩
            simp only[Pq.zz]
          refine Pq.wpL_alloc d HD.out.symm (by rfl) _ rfl (Pq.wc false 0) al_wide ?_
          simp only[Pq.zz]
          refine Pq.wpL_alloc (d+1) (by simp[HD.out]) (by rfl) _ rfl (Pq.wc false 0) al_wide ?_
          simp only[Pq.zz]
          refine Pq.wpL_store (by rfl) 39 _ _ rfl d (Pq.wc _ _) rfl rfl 39 (Pq.wc _ _) (Pq.al_keep (Pq.al_block _ _ _ HD.out) _) (s_widea _ _) (by simp only[Pq.wc_size]) (Pq.wc_one _ _) ?_
          try simp only[Pq.zz]
          refine Pq.wpL_store (by rfl) 39 _ _ rfl (d+1) (Pq.wc _ _) rfl rfl 39 (Pq.wc _ _) (Pq.keep_row (Pq.al_block _ _ _ (by simp[HD.out])) (by omega)) (s_widea _ _) (by simp only[Pq.wc_size]) (Pq.wc_one _ _) ?_
          try simp only[Pq.zz]
          refine Pq.wpL_step (by rfl) ?_
          apply Exists.intro
          apply Exists.intro
          refine ⟨?_,?_⟩
          · go_simp;first|done|with_reducible rfl|exact ⟨rfl,rfl⟩
          simp only[Pq.zz]
          refine Pq.wpL_nil ?_
          have hgd:g+2<d:=by have:=(Array.getElem?_eq_some_iff.1 (Pq.keep_block HGq.out hb7)).1;rw[HD.out];exact this
          have hwg:w.heap.size≤g:=by rw[HG.out];exact Nat.le_refl _
          have hu9:=Pq.keep_row (cs:=Pq.wc false (u%v)) (g2:=d+1) (Pq.keep_row (cs:=Pq.wc false (u/v)) (g2:=d) (Pq.al_keep (Pq.al_keep (Pq.keep_block HUq.out hb7) (.cells (Pq.wc false 0) 39)) (.cells (Pq.wc false 0) 39)) (by omega)) (by omega)
          have hv9:=Pq.keep_row (cs:=Pq.wc false (u%v)) (g2:=d+1) (Pq.keep_row (cs:=Pq.wc false (u/v)) (g2:=d) (Pq.al_keep (Pq.al_keep (Pq.keep_block HVq.out hb7) (.cells (Pq.wc false 0) 39)) (.cells (Pq.wc false 0) 39)) (by omega)) (by omega)
          have hg9:=Pq.keep_row (cs:=Pq.wc false (u%v)) (g2:=d+1) (Pq.keep_row (cs:=Pq.wc false (u/v)) (g2:=d) (Pq.al_keep (Pq.al_keep (Pq.keep_block HGq.out hb7) (.cells (Pq.wc false 0) 39)) (.cells (Pq.wc false 0) 39)) (by omega)) (by omega)
          have hm9:=Pq.setRow_at (cs:=Pq.wc false (u%v)) (g:=d+1) (Pq.keep_row (cs:=Pq.wc false (u/v)) (g2:=d) (Pq.al_block (w7.alloc (.cells (Pq.wc false 0) 39)) (.cells (Pq.wc false 0) 39) (d+1) (by simp[HD.out])) (by omega))
          have hb9:=Pq.below_setRow (cs:=Pq.wc false (u%v)) (g:=d+1) (Pq.below_setRow (cs:=Pq.wc false (u/v)) (g:=d) (Pq.below_alloc (Pq.below_alloc (Pq.below_next HBq.out (Nat.le_refl _) hb7) (Nat.le_refl _) (.cells (Pq.wc false 0) 39)) (Nat.le_refl _) (.cells (Pq.wc false 0) 39)) (by omega)) (by omega)
          have HU9:=Lib.hid hu9;have HV9:=Lib.hid hv9;have HG9:=Lib.hid hg9;have HM9:=Lib.hid hm9;have HB9:=Lib.hid hb9
          clear hu9 hv9 hg9 hm9 hb9 hb7 HUq HVq HGq HBq HD
          generalize (((w7.alloc (.cells (Pq.wc false 0) 39)).alloc (.cells (Pq.wc false 0) 39)).setRow d (Pq.wc false (u/v))).setRow (d+1) (Pq.wc false (u%v))=w9 at *
          have HS0:w9.drew.rangeAt (d+1) 0 (Pq.wl false (u%v)):=Pq.dr_range (Pq.range_wide HM9.out)
          go_upto_region 4 with fail
          refine Pq.wp_region_order (fun w'=>w'.rangeAt (d+1) 0 (Pq.wl false (u%v))) [(1,true),(0,false),(2,false),(3,false)] (by kernel_rfl) (by kernel_rfl) (fun _ _ d _ _ h=>by cases d <;> exact h) (HS0) ?_
          simp only[Pq.pick,List.filterMap_cons,List.filterMap_nil,List.getElem?_cons_zero,List.getElem?_cons_succ,Option.map_some]
          refine Pq.wpO_loadS (d+1) 0 (Pq.wl false (u%v)) (fun _ h=>h) (by rfl) _ _ rfl rfl _ u_wide rfl (s_wide _ _) ?_
          simp only[Pq.zz]
          refine Pq.wpO_loadU (g+1) 0 (Pq.wl false v) (Pq.dr_range (Pq.range_wide HV9.out)) HS0 (by rfl) _ _ rfl rfl _ u_wide rfl (s_wide _ _) ?_
          simp only[Pq.zz]
          refine Pq.wpO_store (by rfl) 39 _ _ rfl g (Pq.wc false v) rfl rfl 39 (Pq.wc _ _) (Pq.dr_block HU9.out) (s_widea _ _) (by simp only[Pq.wc_size]) (Pq.wc_one _ _) (Pq.keep_range HS0 (by omega)) ?_
          try simp only[Pq.zz]
          refine Pq.wpO_store (by rfl) 39 _ _ rfl (g+1) (Pq.wc false (u%v)) rfl rfl 39 (Pq.wc _ _) (Pq.keep_row (Pq.dr_block HV9.out) (by omega)) (s_widea _ _) (by simp only[Pq.wc_size]) (Pq.wc_one _ _) (Pq.keep_range (Pq.keep_range HS0 (by omega)) (by omega)) ?_
          try simp only[Pq.zz]
          refine Pq.wpO_nil ?_
          go_wp2
          go_roundg (u%v)
          case measure=>rw[HK.out];exact Nat.mod_lt _ (Nat.pos_of_ne_zero hv0)
          case rel=>exact ⟨v,u%v,Lib.hid rfl,Lib.hid HVL.out,Lib.hid (Nat.lt_of_le_of_lt (Nat.mod_le _ _) HUL.out),Lib.hid ((Pq.gcd_step u v).trans HGCD.out),Lib.hid (Pq.keep_row (Pq.setRow_at (Pq.dr_block HU9.out)) (by omega)),Lib.hid (Pq.setRow_at (Pq.keep_row (Pq.dr_block HV9.out) (by omega))),Lib.hid (Pq.keep_row (Pq.keep_row (Pq.dr_block HG9.out) (by omega)) (by omega)),Lib.hid (Pq.below_setRow (Pq.below_setRow (Pq.below_drew HB9.out) hwg) (by omega))⟩
      · have c2:decide ((2:Int)<(su:Int))=false:=by simp;omega
        by_cases h3:sv=0
        · have c4:((sv:Int)==0)=true:=by rw[h3];rfl
          have HV00:=Lib.hid (HVZ.out.1 h3)
          clear h3
          go_upto_region 2 with fail
          go_upto_region 2 with fail
          apply Pq.wp_region_guard
          refine Pq.WL_load (g+1) 0 (Pq.wl false v) (Pq.range_wide HV0.out) (by rfl) _ _ rfl rfl _ u_wide rfl (s_wide _ _) ?_
          simp only[Pq.zz]
          refine Pq.WL_call (by rfl) cf_of (of_ptr false v _) rfl rfl ?_;rintro e w3 ⟨c,rfl,hr3,hb3,_,_⟩;have HR3:=Lib.hid hr3;clear hr3;refine ⟨_,rfl,?_⟩
          simp only[Pq.zz]
          refine Pq.WL_call (by rfl) cf_size (size_any c 0 v sv HSV.out _ HR3.out) rfl rfl ?_;rintro e w1 ⟨rfl,rfl⟩;refine ⟨_,rfl,?_⟩
          simp only[Pq.zz]
          iterate 2
            refine Pq.WL_step (by rfl) ?_
            apply Exists.intro
            apply Exists.intro
            refine ⟨?_,?_⟩
            · go_simp;first|done|with_reducible rfl|exact ⟨rfl,rfl⟩
            simp only[Pq.zz]
          refine Pq.WL_load g 0 (Pq.wl false u) (Pq.range_wide (Pq.keep_block HU0.out hb3)) (by rfl) _ _ rfl rfl _ u_wide rfl (s_wide _ _) ?_
          simp only[Pq.zz]
          refine Pq.WL_call (by rfl) cf_of (of_ptr false u _) rfl rfl ?_;rintro e w4 ⟨b,rfl,hr4,hb4,_,_⟩;have HR4:=Lib.hid hr4;clear hr4;refine ⟨_,rfl,?_⟩
          simp only[Pq.zz]
          refine Pq.WL_call (by rfl) cf_size (size_any b 0 u su HSU.out _ HR4.out) rfl rfl ?_;rintro e w1 ⟨rfl,rfl⟩;refine ⟨_,rfl,?_⟩
          simp only[Pq.zz]
          iterate 2
            refine Pq.WL_step (by rfl) ?_
            apply Exists.intro
            apply Exists.intro
            refine ⟨?_,?_⟩
            · go_simp;first|done|with_reducible rfl|exact ⟨rfl,rfl⟩
            simp only[Pq.zz]
          refine Pq.WL_skip (by kernel_rfl) ?_
          simp only[Pq.zz]
          refine Pq.WL_skip (by kernel_rfl) ?_
          simp only[Pq.zz]
          refine Pq.WL_skip (by kernel_rfl) ?_
          simp only[Pq.zz]
          refine Pq.WL_skip (by kernel_rfl) ?_
          simp only[Pq.zz]
          iterate 2
            refine Pq.WL_step (by rfl) ?_
            apply Exists.intro
            apply Exists.intro
            refine ⟨?_,?_⟩
            · go_simp;first|done|with_reducible rfl|exact ⟨rfl,rfl⟩
            simp only[Pq.zz]
          refine Pq.WL_nil ?_
          have KK:=Pq.below_next hb3 (Nat.le_refl _) hb4
          have HUq:=Lib.hid (Pq.keep_block HU0.out KK);have HVq:=Lib.hid (Pq.keep_block HV0.out KK);have HGq:=Lib.hid (Pq.keep_block HG0.out KK)
          have HBq:=Lib.hid (Pq.below_next HB0.out (Nat.le_refl _) KK)
          clear HU0 HV0 HG0 HB0 KK
          go_upto_region 5 with fail
          go_upto_region 5 with fail
          apply wp_region_lit
          refine Pq.wpL_load (g+1) 0 (Pq.wl false v) (Pq.range_wide HVq.out) (by rfl) _ _ rfl rfl _ u_wide rfl (s_wide _ _) ?_
          simp only[Pq.zz]
          refine Pq.wpL_call (by rfl) cf_of (of_ptr false v _) rfl rfl ?_;rintro e w6 ⟨c6,rfl,hr6,hb6,_,_⟩;have HR6:=Lib.hid hr6;clear hr6;refine ⟨_,rfl,?_⟩
          simp only[Pq.zz]
          refine Pq.wpL_call (by rfl) cf_size (size_any c6 0 v sv HSV.out _ HR6.out) rfl rfl ?_;rintro e w1 ⟨rfl,rfl⟩;refine ⟨_,rfl,?_⟩
          simp only[Pq.zz]
          refine Pq.wpL_step (by rfl) ?_
          apply Exists.intro
          apply Exists.intro
          refine ⟨?_,?_⟩
          · go_simp;first|done|with_reducible rfl|exact ⟨rfl,rfl⟩
          simp only[Pq.zz]
          refine Pq.wpL_nil ?_
          go_upto_region 6 with fail
          go_upto_region 6 with fail
          apply wp_region_lit
          refine Pq.wpL_load g 0 (Pq.wl false u) (Pq.range_wide (Pq.keep_block HUq.out hb6)) (by rfl) _ _ rfl rfl _ u_wide rfl (s_wide _ _) ?_
          simp only[Pq.zz]
          refine Pq.wpL_store (by rfl) 39 _ _ rfl (g+2) (Pq.wc _ _) rfl rfl 39 (Pq.wc _ _) (Pq.keep_block HGq.out hb6) (s_widea _ _) (by simp only[Pq.wc_size]) (Pq.wc_one _ _) ?_
          try simp only[Pq.zz]
          refine Pq.wpL_nil ?_
          go_wp2
          refine Pq.ret_cell rfl (g+2) _ _ _ _ rfl (Pq.setRow_at (Pq.keep_block HGq.out hb6)) u_wide rfl (s_widea _ _) rfl ⟨?_,Pq.below_setRow (Pq.below_next HBq.out (Nat.le_refl _) hb6) (by rw[←HG.out];omega)⟩
          rw[←HGCD.out,HV00.out,Nat.gcd_zero_right]
        · have c4:((sv:Int)==0)=false:=(by have h4:¬ (sv:Int)=0:=(by omega);simpa using h4)
          clear h3
          go_upto_region 2 with fail
          go_upto_region 2 with fail
          apply Pq.wp_region_guard
          refine Pq.WL_load (g+1) 0 (Pq.wl false v) (Pq.range_wide HV0.out) (by rfl) _ _ rfl rfl _ u_wide rfl (s_wide _ _) ?_
          simp only[Pq.zz]
          refine Pq.WL_call (by rfl) cf_of (of_ptr false v _) rfl rfl ?_;rintro e w3 ⟨c,rfl,hr3,hb3,_,_⟩;have HR3:=Lib.hid hr3;clear hr3;refine ⟨_,rfl,?_⟩
          simp only[Pq.zz]
          refine Pq.WL_call (by rfl) cf_size (size_any c 0 v sv HSV.out _ HR3.out) rfl rfl ?_;rintro e w1 ⟨rfl,rfl⟩;refine ⟨_,rfl,?_⟩
          simp only[Pq.zz]
          iterate 2
            refine Pq.WL_step (by rfl) ?_
            apply Exists.intro
            apply Exists.intro
            refine ⟨?_,?_⟩
            · go_simp;first|done|with_reducible rfl|exact ⟨rfl,rfl⟩
            simp only[Pq.zz]
          refine Pq.WL_load g 0 (Pq.wl false u) (Pq.range_wide (Pq.keep_block HU0.out hb3)) (by rfl) _ _ rfl rfl _ u_wide rfl (s_wide _ _) ?_
          simp only[Pq.zz]
          refine Pq.WL_call (by rfl) cf_of (of_ptr false u _) rfl rfl ?_;rintro e w4 ⟨b,rfl,hr4,hb4,_,_⟩;have HR4:=Lib.hid hr4;clear hr4;refine ⟨_,rfl,?_⟩
          simp only[Pq.zz]
          refine Pq.WL_call (by rfl) cf_size (size_any b 0 u su HSU.out _ HR4.out) rfl rfl ?_;rintro e w1 ⟨rfl,rfl⟩;refine ⟨_,rfl,?_⟩
          simp only[Pq.zz]
          iterate 2
            refine Pq.WL_step (by rfl) ?_
            apply Exists.intro
            apply Exists.intro
            refine ⟨?_,?_⟩
            · go_simp;first|done|with_reducible rfl|exact ⟨rfl,rfl⟩
            simp only[Pq.zz]
          refine Pq.WL_skip (by kernel_rfl) ?_
          simp only[Pq.zz]
          refine Pq.WL_skip (by kernel_rfl) ?_
          simp only[Pq.zz]
          refine Pq.WL_skip (by kernel_rfl) ?_
          simp only[Pq.zz]
          refine Pq.WL_skip (by kernel_rfl) ?_
          simp only[Pq.zz]
          iterate 2
            refine Pq.WL_step (by rfl) ?_
            apply Exists.intro
            apply Exists.intro
            refine ⟨?_,?_⟩
            · go_simp;first|done|with_reducible rfl|exact ⟨rfl,rfl⟩
            simp only[Pq.zz]
          refine Pq.WL_nil ?_
          have KK:=Pq.below_next hb3 (Nat.le_refl _) hb4
          have HUq:=Lib.hid (Pq.keep_block HU0.out KK);have HVq:=Lib.hid (Pq.keep_block HV0.out KK);have HGq:=Lib.hid (Pq.keep_block HG0.out KK)
          have HBq:=Lib.hid (Pq.below_next HB0.out (Nat.le_refl _) KK)
          clear HU0 HV0 HG0 HB0 KK
          go_upto_region 5 with fail
          go_upto_region 5 with fail
          apply wp_region_lit
          refine Pq.wpL_load (g+1) 0 (Pq.wl false v) (Pq.range_wide HVq.out) (by rfl) _ _ rfl rfl _ u_wide rfl (s_wide _ _) ?_
          simp only[Pq.zz]
          refine Pq.wpL_call (by rfl) cf_of (of_ptr false v _) rfl rfl ?_;rintro e w6 ⟨c6,rfl,hr6,hb6,_,_⟩;have HR6:=Lib.hid hr6;clear hr6;refine ⟨_,rfl,?_⟩
          simp only[Pq.zz]
          refine Pq.wpL_call (by rfl) cf_size (size_any c6 0 v sv HSV.out _ HR6.out) rfl rfl ?_;rintro e w1 ⟨rfl,rfl⟩;refine ⟨_,rfl,?_⟩
          simp only[Pq.zz]
          refine Pq.wpL_step (by rfl) ?_
          apply Exists.intro
          apply Exists.intro
          refine ⟨?_,?_⟩
          · go_simp;first|done|with_reducible rfl|exact ⟨rfl,rfl⟩
          simp only[Pq.zz]
          refine Pq.wpL_nil ?_
          obtain ⟨hus,hul⟩:=Pq.szn_two HUL.out (by rw[←HSU.out];exact h2)
          obtain ⟨hvs,hvl⟩:=Pq.szn_two HVL.out (by rw[←HSV.out];exact h1)
          have ru:=Pq.range_cons (Pq.dr_range (Pq.range_wide (Pq.keep_block HUq.out hb6)))
          have rv:=Pq.range_cons (Pq.dr_range (Pq.range_wide (Pq.keep_block HVq.out hb6)))
          have cu0:=Lib.hid (ru.2 0 _ (Pq.am_get (x:=u) (show 0<32 by decide)))
          have cu1:=Lib.hid (ru.2 1 _ (Pq.am_get (x:=u) (show 1<32 by decide)))
          have cv0:=Lib.hid (rv.2 0 _ (Pq.am_get (x:=v) (show 0<32 by decide)))
          have cv1:=Lib.hid (rv.2 1 _ (Pq.am_get (x:=v) (show 1<32 by decide)))
          have hl0:=Pq.wd_lt u 0
          have hl1:=Pq.wd_lt u 1
          have hl2:=Pq.wd_lt v 0
          have hl3:=Pq.wd_lt v 1
          obtain ⟨u0,hu0⟩ : ∃ u0,u0=Pq.wd u 0:=⟨_,rfl⟩
          obtain ⟨u1,hu1⟩ : ∃ u1,u1=Pq.wd u 1:=⟨_,rfl⟩
          obtain ⟨v0,hv0⟩ : ∃ v0,v0=Pq.wd v 0:=⟨_,rfl⟩
          obtain ⟨v1,hv1⟩ : ∃ v1,v1=Pq.wd v 1:=⟨_,rfl⟩
          rw[←hu0]at hl0 hus cu0
          rw[←hu1]at hl1 hus cu1
          rw[←hv0]at hl2 hvs cv0
          rw[←hv1]at hl3 hvs cv1
          have hou:bits .or .u64 ((u1:Int)*4294967296) (u0:Int)=(u:Int):=by rw[Pq.or_hl hl1 hl0];exact congrArg _ (by omega)
          have hov:bits .or .u64 ((v1:Int)*4294967296) (v0:Int)=(v:Int):=by rw[Pq.or_hl hl3 hl2];exact congrArg _ (by omega)
          have x0:IntKind.u64.wrap (u0:Int)=(u0:Int):=IntWalk.u64_in _ (by omega)
          have x1:IntKind.u64.wrap (u1:Int)=(u1:Int):=IntWalk.u64_in _ (by omega)
          have x2:IntKind.u64.wrap (v0:Int)=(v0:Int):=IntWalk.u64_in _ (by omega)
          have x3:IntKind.u64.wrap (v1:Int)=(v1:Int):=IntWalk.u64_in _ (by omega)
          have x4:IntKind.u64.wrap ((u1:Int)*4294967296)=(u1:Int)*4294967296:=IntWalk.u64_in _ (by omega)
          have x5:IntKind.u64.wrap ((v1:Int)*4294967296)=(v1:Int)*4294967296:=IntWalk.u64_in _ (by omega)
          have HUS:=Lib.hid hus;have HVS:=Lib.hid hvs;have HULL:=Lib.hid hul;have HVLL:=Lib.hid hvl
          have HG6:=Lib.hid (Pq.keep_block HGq.out hb6)
          have HB6:=Lib.hid (Pq.below_next HBq.out (Nat.le_refl _) hb6)
          clear hus hvs hu0 hu1 hv0 hv1 ru rv hul hvl HUq HVq HGq HBq hb6
          go_upto_region 7 with fail
          refine Pq.wp_region_grown none [(0,true),(1,true),(2,true),(3,true),(4,true),(5,true),(6,true),(7,true),(8,true),(9,true),(10,true),(11,true),(12,true),(13,true),(14,true),(15,true),(16,true),(17,true),(18,true),(19,true),(20,true),(21,true)] (by kernel_rfl) (by kernel_rfl) (fun _ _ d _ _ h=>by cases d <;> exact h) (fun hS=>?_)
          simp only[Pq.pick,List.filterMap_cons,List.filterMap_nil,List.getElem?_cons_zero,List.getElem?_cons_succ,Option.map_some]
          iterate 2
            refine Pq.wpO_step (by rfl) ?_
            apply Exists.intro
            refine ⟨fun w' hw'=>?_,?_⟩
            · go_simp;first|done|with_reducible rfl|exact ⟨rfl,rfl⟩
            simp only[Pq.zz]
          refine Pq.wpO_cell ⟨g,2,none⟩ _ cu1.out (by simp) (by rfl) _ _ rfl rfl _ u_u32 rfl ?_
          simp only[Pq.zz]
          iterate 4
            refine Pq.wpO_step (by rfl) ?_
            apply Exists.intro
            refine ⟨fun w' hw'=>?_,?_⟩
            · go_simp;first|done|with_reducible rfl|exact ⟨rfl,rfl⟩
            simp only[Pq.zz]
          refine Pq.wpO_cell ⟨g,1,none⟩ _ cu0.out (by simp) (by rfl) _ _ rfl rfl _ u_u32 rfl ?_
          simp only[Pq.zz]
          iterate 4
            refine Pq.wpO_step (by rfl) ?_
            apply Exists.intro
            refine ⟨fun w' hw'=>?_,?_⟩
            · go_simp;first|done|with_reducible rfl|exact ⟨rfl,rfl⟩
            simp only[Pq.zz]
          refine Pq.wpO_cell ⟨g+1,2,none⟩ _ cv1.out (by simp) (by rfl) _ _ rfl rfl _ u_u32 rfl ?_
          simp only[Pq.zz]
          iterate 4
            refine Pq.wpO_step (by rfl) ?_
            apply Exists.intro
            refine ⟨fun w' hw'=>?_,?_⟩
            · go_simp;first|done|with_reducible rfl|exact ⟨rfl,rfl⟩
            simp only[Pq.zz]
          refine Pq.wpO_cell ⟨g+1,1,none⟩ _ cv0.out (by simp) (by rfl) _ _ rfl rfl _ u_u32 rfl ?_
          simp only[Pq.zz]
          iterate 4
            refine Pq.wpO_step (by rfl) ?_
            apply Exists.intro
            refine ⟨fun w' hw'=>?_,?_⟩
            · go_simp;first|done|with_reducible rfl|exact ⟨rfl,rfl⟩
            simp only[Pq.zz]
          refine Pq.wpO_nil ?_
          clear hou hov x0 x1 x2 x3 x4 x5 cu0 cu1 cv0 cv1 hl0 hl1 hl2 hl3 hS c1 c2 c4 h1 h2
          go_wp2
          go_loopw [8,9] (fun aa bb wr => ∃ p q:Nat,aa=.int .u64 (p:Int)∧bb=.int .u64 (q:Int)∧Hid (p<18446744073709551616)∧Hid (q<18446744073709551616)∧Hid (Nat.gcd p q=G)∧Hid (wr.heap[g+2]?=some (.cells (Pq.wc false 0) 39 (0,0)))∧Hid (Below w.heap.size w wr)) (fun _ bb _=>(intOf bb).toNat)
          case atStart=>exact ⟨u,v,rfl,rfl,HULL,HVLL,HGCD,Lib.hid (Pq.dr_block HG6.out),Lib.hid (Pq.below_drew HB6.out)⟩
          case round =>
            obtain ⟨p,q,rfl,rfl,hp,hq,hgc,hg6,hb6⟩:=hrel
            by_cases hq0:q=0
            · have hgp:p=G:=by have:=hgc.out;rw[hq0,Nat.gcd_zero_right]at this;exact this
              subst hq0
              have HGP:=Lib.hid hgp;clear hgp
              obtain ⟨lo,hlo⟩ : ∃ lo,lo=p%4294967296:=⟨_,rfl⟩
              obtain ⟨hi,hhi⟩ : ∃ hi,hi=p/4294967296:=⟨_,rfl⟩
              have hpl:=hp.out
              have hand:bits .and .u64 (p:Int) 4294967295=(lo:Int):=by rw[Pq.and_lo hpl,hlo]
              have hsh:(p:Int)/4294967296=(hi:Int):=by rw[hhi];simp
              have hll:lo<4294967296:=by omega
              have hhl:hi<4294967296:=by omega
              have hsum:lo+Pq.bp 1*hi=p:=by rw[Pq.bp_one];omega
              have wl1:IntKind.u32.wrap (lo:Int)=(lo:Int):=IntWalk.u32_in _ (by omega)
              have wh1:IntKind.u32.wrap (hi:Int)=(hi:Int):=IntWalk.u32_in _ (by omega)
              obtain ⟨d,hd⟩ : ∃ d,d=wr.heap.size:=⟨_,rfl⟩
              have HD:=Lib.hid hd;have HSUM:=Lib.hid hsum
              clear hd hsum hlo hhi hpl
              go_upto_region 10 with fail
              go_upto_region 10 with fail
              apply wp_region_lit
              iterate 6
                refine Pq.wpL_step (by rfl) ?_
                apply Exists.intro
                apply Exists.intro
                refine ⟨?_,?_⟩
                · go_simp;first|done|with_reducible rfl|exact ⟨rfl,rfl⟩
                simp only[Pq.zz]
              refine Pq.wpL_build (by rfl) _ [(0,.tmp 70),(1,.tmp 73)] rfl [(0,.int .u32 (lo:Int)),(1,.int .u32 (hi:Int))] rfl _ (built_am2 hll hhl) ?_
              simp only[Pq.zz]
              refine Pq.wpL_box d HD.out.symm (Pq.am 32 (lo+Pq.bp 1*hi)).toArray (by rfl) _ _ rfl rfl (bx_am _) ?_
              simp only[Pq.zz]
              refine Pq.wpL_ret (by rfl) cf_told (told_any false d 0 (lo+Pq.bp 1*hi) _ (Pq.bp_two_lt _ _ hll hhl) (Pq.al_anew _ _ _ _ HD.out) (by rw[Pq.size_alloc,←HD.out];exact Nat.lt_succ_self _)) rfl rfl ?_;intro w8 hb8
              simp only[Pq.zz]
              refine Pq.wpL_store (by rfl) 39 _ _ rfl (g+2) (Pq.wc _ _) rfl rfl 39 (Pq.wc _ _) (Pq.keep_block (Pq.al_keep hg6.out _) hb8) (s_widea _ _) (by simp only[Pq.wc_size]) (Pq.wc_one _ _) ?_
              try simp only[Pq.zz]
              refine Pq.wpL_nil ?_
              go_wp2
              refine Pq.ret_cell rfl (g+2) _ _ _ _ rfl (Pq.setRow_at (Pq.keep_block (Pq.al_keep hg6.out _) hb8)) u_wide rfl (s_widea _ _) rfl ⟨?_,Pq.below_setRow (Pq.below_next (Pq.below_alloc hb6.out (Nat.le_refl _) _) (Nat.le_refl _) hb8) (by rw[←HG.out];omega)⟩
              rw[HSUM.out,HGP.out];rfl
            · have hqb:((q:Int)==0)=false:=(by have h4:¬ (q:Int)=0:=(by omega);simpa using h4)
              have e2:(p:Int)%(q:Int)=((p%q:Nat):Int):=by simp
              obtain ⟨r,hr⟩ : ∃ r,r=p%q:=⟨_,rfl⟩
              rw[←hr]at e2
              have w7:(p:Int).tmod (q:Int)=(p:Int)%(q:Int):=Int.tmod_eq_emod_of_nonneg (by omega)
              have hrl:r<q:=by rw[hr];exact Nat.mod_lt _ (Nat.pos_of_ne_zero hq0)
              have hql:=hq.out
              have w3:IntKind.u64.wrap (r:Int)=(r:Int):=IntWalk.u64_in _ (by omega)
              have HRE:=Lib.hid hr
              clear hr hql
              go_upto_region 9 with fail
              refine Pq.wp_region_grown none [(0,true),(1,true),(2,true),(3,true),(4,true),(5,true)] (by kernel_rfl) (by kernel_rfl) (fun _ _ d _ _ h=>by cases d <;> exact h) (fun hS=>?_)
              simp only[Pq.pick,List.filterMap_cons,List.filterMap_nil,List.getElem?_cons_zero,List.getElem?_cons_succ,Option.map_some]
              iterate 6
                refine Pq.wpO_step (by rfl) ?_
                apply Exists.intro
                refine ⟨fun w' hw'=>?_,?_⟩
                · go_simp;first|done|with_reducible rfl|exact ⟨rfl,rfl⟩
                simp only[Pq.zz]
              refine Pq.wpO_nil ?_
              clear e2 w7 w3 hqb
              go_wp2
              go_roundw
              case rel=>exact ⟨q,r,rfl,rfl,hq,Lib.hid (Nat.lt_trans hrl hq.out),Lib.hid (by rw[HRE.out];exact (Pq.gcd_step p q).trans hgc.out),Lib.hid (Pq.dr_block hg6.out),Lib.hid (Pq.below_drew hb6.out)⟩
              case measure=>simp[intOf];omega
set_option maxRecDepth 100000 in
set_option maxHeartbeats 1000000 in
theorem from_any (z:Int) (w:World) (h1 : -9223372036854775808≤z) (h2:z≤9223372036854775807) :
    Calls Tryz.prog 84 #[.int .i64 z] w (Pq.Ret w (.agg (Pq.wz z))):=by
  obtain ⟨g,hg⟩ : ∃ g,g=w.heap.size:=⟨_,rfl⟩
  have HG:=Lib.hid hg;clear hg
  rcases Int.lt_or_le z 0 with hz|hz
  · obtain ⟨p,hp⟩ : ∃ p:Nat,(p:Int) = -z:=⟨(-z).toNat,by omega⟩
    obtain ⟨q,hq⟩ : ∃ q:Nat,(q:Int)=18446744073709551616+z:=⟨(18446744073709551616+z).toNat,by omega⟩
    have wz1:IntKind.u64.wrap z=(q:Int):=by rw[IntKind.wrap_u64];omega
    have wz2:IntKind.u64.wrap (-(q:Int))=(p:Int):=by rw[IntKind.wrap_u64];omega
    have hpl:p≤9223372036854775808:=by omega
    have hd:decide (z<0)=true:=by simpa using hz
    have hres:Pq.wz z=Pq.wz (Pq.zv true p):=by unfold Pq.zv;rw[if_pos rfl,hp,Int.neg_neg]
    rw[hres]
    clear hq hp hres h1 h2
    go_enter Tryz.func84,Tryz.ntmps84
    go_upto_region 0 with fail
    go_upto_region 0 with fail
    apply wp_region_lit
    refine Pq.wpL_alloc g HG.out.symm (by rfl) _ rfl (Pq.wc false 0) al_wide ?_
    simp only[Pq.zz]
    refine Pq.wpL_nil ?_
    go_upto_region 1 with fail
    go_upto_region 1 with fail
    apply wp_region_lit
    iterate 3
      refine Pq.wpL_step (by rfl) ?_
      apply Exists.intro
      apply Exists.intro
      refine ⟨?_,?_⟩
      · go_simp;first|done|with_reducible rfl|exact ⟨rfl,rfl⟩
      simp only[Pq.zz]
    refine Pq.wpL_nil ?_
    go_upto_region 3 with fail
    go_upto_region 3 with fail
    apply wp_region_lit
    iterate 3
      refine Pq.wpL_step (by rfl) ?_
      apply Exists.intro
      apply Exists.intro
      refine ⟨?_,?_⟩
      · go_simp;first|done|with_reducible rfl|exact ⟨rfl,rfl⟩
      simp only[Pq.zz]
    refine Pq.wpL_nil ?_
    obtain ⟨lo,hlo⟩ : ∃ lo,lo=p%4294967296:=⟨_,rfl⟩
    obtain ⟨hi,hhi⟩ : ∃ hi,hi=p/4294967296:=⟨_,rfl⟩
    have hand:bits .and .u64 (p:Int) 4294967295=(lo:Int):=by rw[Pq.and_lo (by omega),hlo]
    have hsh:(p:Int)/4294967296=(hi:Int):=by rw[hhi];simp
    have hll:lo<4294967296:=by omega
    have hhl:hi<4294967296:=by omega
    have hsum:lo+Pq.bp 1*hi=p:=by rw[Pq.bp_one];omega
    have wl1:IntKind.u32.wrap (lo:Int)=(lo:Int):=IntWalk.u32_in _ (by omega)
    have wh1:IntKind.u32.wrap (hi:Int)=(hi:Int):=IntWalk.u32_in _ (by omega)
    have HSUM:=Lib.hid hsum
    clear hsum hlo hhi
    go_upto_region 4 with fail
    go_upto_region 4 with fail
    apply wp_region_lit
    iterate 8
      refine Pq.wpL_step (by rfl) ?_
      apply Exists.intro
      apply Exists.intro
      refine ⟨?_,?_⟩
      · go_simp;first|done|with_reducible rfl|exact ⟨rfl,rfl⟩
      simp only[Pq.zz]
    refine Pq.wpL_build (by rfl) _ [(0,.tmp 14),(1,.tmp 17)] rfl [(0,.int .u32 (lo:Int)),(1,.int .u32 (hi:Int))] rfl _ (built_am2 hll hhl) ?_
    simp only[Pq.zz]
    refine Pq.wpL_box (g+1) (by simp[HG.out]) (Pq.am 32 (lo+Pq.bp 1*hi)).toArray (by rfl) _ _ rfl rfl (bx_am _) ?_
    simp only[Pq.zz]
    refine Pq.wpL_ret (by rfl) cf_told (told_any true (g+1) 0 (lo+Pq.bp 1*hi) _ (Pq.bp_two_lt _ _ hll hhl) (Pq.al_anew _ _ _ _ (by simp[HG.out])) (by simp[HG.out])) rfl rfl ?_;intro w8 hb8
    simp only[Pq.zz]
    refine Pq.wpL_store (by rfl) 39 _ _ rfl g (Pq.wc _ _) rfl rfl 39 (Pq.wc _ _) (Pq.keep_block (Pq.al_keep (Pq.al_block w (.cells (Pq.wc false 0) 39) g HG.out) _) hb8) (s_widea _ _) (by simp only[Pq.wc_size]) (Pq.wc_one _ _) ?_
    try simp only[Pq.zz]
    refine Pq.wpL_nil ?_
    go_wp2
    refine Pq.ret_cell rfl g _ _ _ _ rfl (Pq.setRow_at (Pq.keep_block (Pq.al_keep (Pq.al_block w (.cells (Pq.wc false 0) 39) g HG.out) _) hb8)) u_wide rfl (s_widea _ _) rfl ⟨?_,Pq.below_setRow (Pq.below_next (Pq.below_alloc (Pq.below_alloc (Below.refl _ w) (Nat.le_refl _) _) (Nat.le_refl _) _) (Nat.le_refl _) hb8) (by rw[HG.out];exact Nat.le_refl _)⟩
    rw[HSUM.out,Pq.wc_ng]
  · obtain ⟨p,hp⟩ : ∃ p:Nat,z=(p:Int):=⟨z.toNat,by omega⟩
    subst hp
    have hpl:p≤9223372036854775807:=by omega
    have wz1:IntKind.u64.wrap (p:Int)=(p:Int):=IntWalk.u64_in _ (by omega)
    have hd:decide ((p:Int)<0)=false:=by simp
    have hres:Pq.wz (p:Int)=Pq.wz (Pq.zv false p):=rfl
    rw[hres]
    clear hres h1 h2
    go_enter Tryz.func84,Tryz.ntmps84
    go_upto_region 0 with fail
    go_upto_region 0 with fail
    apply wp_region_lit
    refine Pq.wpL_alloc g HG.out.symm (by rfl) _ rfl (Pq.wc false 0) al_wide ?_
    simp only[Pq.zz]
    refine Pq.wpL_nil ?_
    go_upto_region 1 with fail
    go_upto_region 1 with fail
    apply wp_region_lit
    iterate 3
      refine Pq.wpL_step (by rfl) ?_
      apply Exists.intro
      apply Exists.intro
      refine ⟨?_,?_⟩
      · go_simp;first|done|with_reducible rfl|exact ⟨rfl,rfl⟩
      simp only[Pq.zz]
    refine Pq.wpL_nil ?_
    obtain ⟨lo,hlo⟩ : ∃ lo,lo=p%4294967296:=⟨_,rfl⟩
    obtain ⟨hi,hhi⟩ : ∃ hi,hi=p/4294967296:=⟨_,rfl⟩
    have hand:bits .and .u64 (p:Int) 4294967295=(lo:Int):=by rw[Pq.and_lo (by omega),hlo]
    have hsh:(p:Int)/4294967296=(hi:Int):=by rw[hhi];simp
    have hll:lo<4294967296:=by omega
    have hhl:hi<4294967296:=by omega
    have hsum:lo+Pq.bp 1*hi=p:=by rw[Pq.bp_one];omega
    have wl1:IntKind.u32.wrap (lo:Int)=(lo:Int):=IntWalk.u32_in _ (by omega)
    have wh1:IntKind.u32.wrap (hi:Int)=(hi:Int):=IntWalk.u32_in _ (by omega)
    have HSUM:=Lib.hid hsum
    clear hsum hlo hhi
    go_upto_region 4 with fail
    go_upto_region 4 with fail
    apply wp_region_lit
    iterate 8
      refine Pq.wpL_step (by rfl) ?_
      apply Exists.intro
      apply Exists.intro
      refine ⟨?_,?_⟩
      · go_simp;first|done|with_reducible rfl|exact ⟨rfl,rfl⟩
      simp only[Pq.zz]
    refine Pq.wpL_build (by rfl) _ [(0,.tmp 14),(1,.tmp 17)] rfl [(0,.int .u32 (lo:Int)),(1,.int .u32 (hi:Int))] rfl _ (built_am2 hll hhl) ?_
    simp only[Pq.zz]
    refine Pq.wpL_box (g+1) (by simp[HG.out]) (Pq.am 32 (lo+Pq.bp 1*hi)).toArray (by rfl) _ _ rfl rfl (bx_am _) ?_
    simp only[Pq.zz]
    refine Pq.wpL_ret (by rfl) cf_told (told_any false (g+1) 0 (lo+Pq.bp 1*hi) _ (Pq.bp_two_lt _ _ hll hhl) (Pq.al_anew _ _ _ _ (by simp[HG.out])) (by simp[HG.out])) rfl rfl ?_;intro w8 hb8
    simp only[Pq.zz]
    refine Pq.wpL_store (by rfl) 39 _ _ rfl g (Pq.wc _ _) rfl rfl 39 (Pq.wc _ _) (Pq.keep_block (Pq.al_keep (Pq.al_block w (.cells (Pq.wc false 0) 39) g HG.out) _) hb8) (s_widea _ _) (by simp only[Pq.wc_size]) (Pq.wc_one _ _) ?_
    try simp only[Pq.zz]
    refine Pq.wpL_nil ?_
    go_wp2
    refine Pq.ret_cell rfl g _ _ _ _ rfl (Pq.setRow_at (Pq.keep_block (Pq.al_keep (Pq.al_block w (.cells (Pq.wc false 0) 39) g HG.out) _) hb8)) u_wide rfl (s_widea _ _) rfl ⟨?_,Pq.below_setRow (Pq.below_next (Pq.below_alloc (Pq.below_alloc (Below.refl _ w) (Nat.le_refl _) _) (Nat.le_refl _) _) (Nat.le_refl _) hb8) (by rw[HG.out];exact Nat.le_refl _)⟩
    rw[HSUM.out,Pq.wc_ng]
end Go.Proofs.YtbkfakkkikmcbaaGreatDoor
namespace Pq
open Go Go.RowKit
theorem wpO_toPtr {P:Program} {ops:Array Oper} {Q:Exit→Act→World→Prop} {S:World→Prop} {o:Oper} {r:List (Oper×Bool)} {a:Act} {w:World} (v:Value) (hw:Region.wanted o (yielded ops a.tmps)=true) (ty:TypeId) (x:Operand) (ho:o.op=.sliceToArrayPointer ty x) (vx:Value) (hx:a.eval x=vx)
    (hs : ∀ w,(Instr.arrayAt ty vx).run P w=.ok v w) (k:wpO P ops S Q r (a.put o.dst v) w):wpO P ops S Q ((o,true)::r) a w:=
  wpO_take v hw (fun w' _=>by
    unfold execOp
    simp only[ho,hx,Sem.run_bind,hs,Result.andThen_ok,Sem.run_pure]) k
end Pq
namespace Go.Proofs.YtbkfakkkikmcbaaGreatDoor
open Go.RowKit
theorem sl_ptr (d:Nat) (w:World):(Instr.arrayAt 202 (.slice (some ⟨d,0,none⟩) 32 64)).run Tryz.prog w=.ok (.pointer (some ⟨d,0,none⟩)) w:=by kernel_rfl
theorem cf_mul (xs:Array Value) (w:World):(callFunc 130 xs).run Tryz.prog w=.ok (.enter 130 xs) w:=by kernel_rfl
theorem al_a64 (w:World):(Instr.alloc 240 true (.tuple #[])).run Tryz.prog w=.ok (.pointer (some ⟨w.heap.size,0,none⟩)) (w.alloc (.cells (Pq.am 64 0).toArray 240)):=by kernel_rfl
theorem sl_hi (d:Nat) (w:World):(Instr.sliceAt 240 (.pointer (some ⟨d,0,none⟩)) (some (.int .i64 32)) none none).run Tryz.prog w=.ok (.slice (some ⟨d,32,none⟩) 32 32) w:=by kernel_rfl
theorem sl_lo (d:Nat) (w:World):(Instr.sliceAt 240 (.pointer (some ⟨d,0,none⟩)) none (some (.int .i64 32)) none).run Tryz.prog w=.ok (.slice (some ⟨d,0,none⟩) 32 64) w:=by kernel_rfl
set_option maxRecDepth 100000 in
set_option maxHeartbeats 1000000 in
theorem mul_any (n:Bool) (x:Nat) (m:Bool) (y:Nat) (w:World) (hx:x<Pq.bp 32) (hy:y<Pq.bp 32) :
    Calls Tryz.prog 130 #[.agg (Pq.wc n x),.agg (Pq.wc m y)] w (Pq.Ret w (Pq.rz (Pq.zv n x*Pq.zv m y))):=by
  obtain ⟨g,hg⟩ : ∃ g,g=w.heap.size:=⟨_,rfl⟩
  have HG:=Lib.hid hg;clear hg
  obtain ⟨sx,hsx⟩ : ∃ sx,sx=Pq.szn 32 x:=⟨_,rfl⟩
  obtain ⟨sy,hsy⟩ : ∃ sy,sy=Pq.szn 32 y:=⟨_,rfl⟩
  have hxl:sx≤32:=by rw[hsx];exact Pq.szn_le 32 x
  have hyl:sy≤32:=by rw[hsy];exact Pq.szn_le 32 y
  have HXS:=Lib.hid (show x<Pq.bp sx by rw[hsx];exact Pq.szn_lt' hx)
  have HYS:=Lib.hid (show y<Pq.bp sy by rw[hsy];exact Pq.szn_lt' hy)
  have HSX:=Lib.hid hsx;have HSY:=Lib.hid hsy
  have HX:=Lib.hid hx;have HY:=Lib.hid hy
  clear hx hy hsx hsy
  obtain ⟨res,hr⟩ : ∃ res,res=Pq.rz (Pq.zv n x*Pq.zv m y):=⟨_,rfl⟩
  rw[←hr]
  have HRR:=Lib.hid hr;clear hr
  go_enter Tryz.func130,Tryz.ntmps130
  go_upto_region 0 with fail
  go_upto_region 0 with fail
  apply wp_region_lit
  refine Pq.wpL_box g HG.out.symm (Pq.wc n x) (by rfl) _ _ rfl rfl (bx_wide n x) ?_
  simp only[Pq.zz]
  refine Pq.wpL_box (g+1) (by simp[HG.out]) (Pq.wc m y) (by rfl) _ _ rfl rfl (bx_wide m y) ?_
  simp only[Pq.zz]
  refine Pq.wpL_alloc (g+2) (by simp[HG.out]) (by rfl) _ rfl (Pq.wc false 0) al_wide ?_
  simp only[Pq.zz]
  refine Pq.wpL_step (by rfl) ?_
  apply Exists.intro
  apply Exists.intro
  refine ⟨?_,?_⟩
  · go_simp;first|done|with_reducible rfl|exact ⟨rfl,rfl⟩
  simp only[Pq.zz]
  refine Pq.wpL_nil ?_
  have HB:=Lib.hid (Pq.below_alloc (Pq.below_alloc (Pq.below_alloc (Below.refl _ w) (Nat.le_refl _) (.cells (Pq.wc n x) 39)) (Nat.le_refl _) (.cells (Pq.wc m y) 39)) (Nat.le_refl _) (.cells (Pq.wc false 0) 39))
  have HR1:=Lib.hid (Pq.al_range (Pq.al_range (Pq.al_wnew w n x 39 g HG.out) (.cells (Pq.wc m y) 39)) (.cells (Pq.wc false 0) 39))
  have HR2:=Lib.hid (Pq.al_range (Pq.al_wnew (w.alloc (.cells (Pq.wc n x) 39)) m y 39 (g+1) (by simp[HG.out])) (.cells (Pq.wc false 0) 39))
  have HG2:=Lib.hid (Pq.al_block ((w.alloc (.cells (Pq.wc n x) 39)).alloc (.cells (Pq.wc m y) 39)) (.cells (Pq.wc false 0) 39) (g+2) (by simp[HG.out]))
  generalize ((w.alloc (.cells (Pq.wc n x) 39)).alloc (.cells (Pq.wc m y) 39)).alloc (.cells (Pq.wc false 0) 39)=w0 at *
  go_upto_region 1 with fail
  refine Pq.wp_region_grown none [(0,true),(2,true),(1,false),(3,false),(4,true),(5,true)] (by kernel_rfl) (by kernel_rfl) (fun _ _ d _ _ h=>by cases d <;> exact h) (fun hS=>?_)
  simp only[Pq.pick,List.filterMap_cons,List.filterMap_nil,List.getElem?_cons_zero,List.getElem?_cons_succ,Option.map_some]
  refine Pq.wpO_load g 0 (Pq.wl n x) HR1.out (by simp) (by rfl) _ _ rfl rfl _ u_wide rfl (s_wide _ _) ?_
  simp only[Pq.zz]
  refine Pq.wpO_load (g+1) 0 (Pq.wl m y) HR2.out (by simp) (by rfl) _ _ rfl rfl _ u_wide rfl (s_wide _ _) ?_
  simp only[Pq.zz]
  refine Pq.wpO_call (by rfl) cf_of (of_ptr n x _) rfl rfl ?_;rintro e w3 ⟨b,rfl,hr3,hb3,_,_⟩;have HR3:=Lib.hid hr3;clear hr3;have hS3:=Pq.grown_then hS hb3;refine ⟨_,rfl,hS3,?_⟩
  simp only[Pq.zz]
  refine Pq.wpO_call (by rfl) cf_of (of_ptr m y _) rfl rfl ?_;rintro e w4 ⟨c,rfl,hr4,hb4,_,_⟩;have HR4:=Lib.hid hr4;clear hr4;have hS4:=Pq.grown_then hS3 hb4;refine ⟨_,rfl,hS4,?_⟩
  simp only[Pq.zz]
  iterate 2
    refine Pq.wpO_step (by rfl) ?_
    apply Exists.intro
    refine ⟨fun w' hw'=>?_,?_⟩
    · go_simp;first|done|with_reducible rfl|exact ⟨rfl,rfl⟩
    simp only[Pq.zz]
  refine Pq.wpO_nil ?_
  have HBx:=Lib.hid (Pq.range_in HR3.out hb4)
  have HCy:=HR4
  have K:=Pq.grown_below hS4
  have HA1:=Lib.hid (Pq.range_in HR1.out K)
  have HA2:=Lib.hid (Pq.range_in HR2.out K)
  have HG2':=Lib.hid (Pq.keep_block HG2.out K)
  have HB':=Lib.hid (Pq.below_next HB.out (Nat.le_refl _) K)
  clear HR3 HR4 HR1 HR2 HG2 HB hb3 hb4 hS hS3 hS4 K
  go_upto_region 2 with fail
  go_upto_region 2 with fail
  apply wp_region_lit
  refine Pq.wpL_step (by rfl) ?_
  apply Exists.intro
  apply Exists.intro
  refine ⟨?_,?_⟩
  · go_simp;first|done|with_reducible rfl|exact ⟨rfl,rfl⟩
  simp only[Pq.zz]
  refine Pq.wpL_call (by rfl) cf_size (size_any b 0 x sx HSX.out _ HBx.out) rfl rfl ?_;rintro e w1 ⟨rfl,rfl⟩;refine ⟨_,rfl,?_⟩
  simp only[Pq.zz]
  refine Pq.wpL_step (by rfl) ?_
  apply Exists.intro
  apply Exists.intro
  refine ⟨?_,?_⟩
  · go_simp;first|done|with_reducible rfl|exact ⟨rfl,rfl⟩
  simp only[Pq.zz]
  refine Pq.wpL_call (by rfl) cf_size (size_any c 0 y sy HSY.out _ HCy.out) rfl rfl ?_;rintro e w1 ⟨rfl,rfl⟩;refine ⟨_,rfl,?_⟩
  simp only[Pq.zz]
  iterate 2
    refine Pq.wpL_step (by rfl) ?_
    apply Exists.intro
    apply Exists.intro
    refine ⟨?_,?_⟩
    · go_simp;first|done|with_reducible rfl|exact ⟨rfl,rfl⟩
    simp only[Pq.zz]
  refine Pq.wpL_nil ?_
  obtain ⟨d,hd⟩ : ∃ d,d=w4.heap.size:=⟨_,rfl⟩
  have hbd:b<d:=by rw[hd];exact Pq.range_lt HBx.out
  have hcd:c<d:=by rw[hd];exact Pq.range_lt HCy.out
  have hgd:g+2<d:=by rw[hd];exact (Array.getElem?_eq_some_iff.1 HG2'.out).1
  have HD:=Lib.hid hd;clear hd
  go_upto_region 3 with fail
  go_upto_region 3 with fail
  apply wp_region_lit
  refine Pq.wpL_alloc d HD.out.symm (by rfl) _ rfl _ al_a64 ?_
  simp only[Pq.zz]
  refine Pq.wpL_nil ?_
  have HBx2:=Lib.hid (Pq.al_range HBx.out (.cells (Pq.am 64 0).toArray 240))
  have HCy2:=Lib.hid (Pq.al_range HCy.out (.cells (Pq.am 64 0).toArray 240))
  have HA12:=Lib.hid (Pq.al_range HA1.out (.cells (Pq.am 64 0).toArray 240))
  have HA22:=Lib.hid (Pq.al_range HA2.out (.cells (Pq.am 64 0).toArray 240))
  have HG22:=Lib.hid (Pq.al_keep HG2'.out (.cells (Pq.am 64 0).toArray 240))
  have HB2:=Lib.hid (Pq.below_alloc HB'.out (Nat.le_refl _) (.cells (Pq.am 64 0).toArray 240))
  have ho:(w4.alloc (.cells (Pq.am 64 0).toArray 240)).heap[d]?=some (.cells (Pq.am 64 (Pq.lo x 0*y)).toArray 240 (0,0)):=by rw[Pq.lo_zero,Nat.zero_mul];exact Pq.al_block w4 _ d HD.out
  have hsz:d+1=(w4.alloc (.cells (Pq.am 64 0).toArray 240)).heap.size:=by rw[Pq.size_alloc,HD.out]
  have HO:=Lib.hid ho;have HSZ:=Lib.hid hsz
  clear HBx HCy HA1 HA2 HG2' HB' ho HD hsz
  generalize w4.alloc (.cells (Pq.am 64 0).toArray 240)=w5 at *
  go_wp2
  go_loopw [26] (fun ii wr => ∃ i:Nat,ii=.int .i64 i∧i≤sx∧Hid (wr.heap[d]?=some (.cells (Pq.am 64 (Pq.lo x i*y)).toArray 240 (0,0)))∧Hid (Below d w5 wr)) (fun ii _=>sx-(intOf ii).toNat)
  case atStart=>exact ⟨0,rfl,by omega,HO,Lib.hid (Below.refl d w5)⟩
  case round =>
    obtain ⟨i,rfl,hi,hro,hbl⟩:=hrel
    by_cases hlt:i<sx
    · have hi2:(i:Int)<sx:=by omega
      have hi3:(i:Int)<32:=by omega
      obtain ⟨Z,hZ⟩ : ∃ Z,Z=Pq.lo x i*y:=⟨_,rfl⟩
      obtain ⟨a,ha⟩ : ∃ a,a=Pq.wd x i:=⟨_,rfl⟩
      have hal:a<4294967296:=by rw[ha];exact Pq.wd_lt _ _
      rw[←hZ]at hro
      have HZ:=Lib.hid hZ;have HAE:=Lib.hid ha
      clear hZ ha
      go_wp2
      go_loopw [12,30] (fun cc jj wr => ∃ j cv Zj:Nat,cc=.int .u64 (cv:Int)∧jj=.int .i64 j∧j≤sy∧Hid (Pq.MI Z i a y j cv Zj)∧Hid (wr.heap[d]?=some (.cells (Pq.am 64 Zj).toArray 240 (0,0)))∧Hid (Below d w5 wr)) (fun _ jj _=>sy-(intOf jj).toNat)
      case atStart=>exact ⟨0,0,Z,rfl,rfl,by omega,Lib.hid (Pq.MI.start Z i a y),hro,hbl⟩
      case round =>
        obtain ⟨j,cv,Zj,rfl,rfl,hj,hmi,hrj,hbj⟩:=hrel
        have hcl:=hmi.out.cl
        obtain ⟨k,hk⟩ : ∃ k,k=i+j:=⟨_,rfl⟩
        have e1:(i:Int)+(j:Int)=(k:Int):=by omega
        have w1:IntKind.i64.wrap (k:Int)=(k:Int):=IntWalk.i64_in _ (by omega)
        have hk2:(k:Int)<64+1:=by omega
        have HKK:=Lib.hid hk
        by_cases hjt:j<sy
        · have hj2:(j:Int)<sy:=by omega
          have hj3:(j:Int)<32:=by omega
          have hk3:(k:Int)<64:=by omega
          have hk4:k<64:=by omega
          have htop:=hmi.out.top hal
          rw[←hk]at htop
          have c1:wr.drew.cell? ⟨b,i,none⟩=some (.int .u32 (a:Nat)):=by
            have:=Pq.range_under HBx2.out (Pq.below_drew hbj.out) hbd i _ (Pq.am_get (x:=x) (show i<32 by omega))
            rw[HAE.out];rwa [Nat.zero_add]at this
          have c2:wr.drew.cell? ⟨c,j,none⟩=some (.int .u32 (Pq.wd y j:Nat)):=by
            have:=Pq.range_under HCy2.out (Pq.below_drew hbj.out) hcd j _ (Pq.am_get (x:=y) (show j<32 by omega))
            rwa [Nat.zero_add]at this
          have c3:wr.drew.cell? ⟨d,k,none⟩=some (.int .u32 (Pq.wd Zj k:Nat)):=Pq.row_cell (Pq.dr_block hrj.out) hk4
          have hvl:=Pq.wd_lt y j
          have hzl:=Pq.wd_lt Zj k
          obtain ⟨t,ht⟩ : ∃ t,t=a*Pq.wd y j+Pq.wd Zj k+cv:=⟨_,rfl⟩
          have hnext:=hmi.out.next (t:=t) hal (by rw[ht,hk])
          rw[←hk]at hnext
          rw[←ht]at htop
          obtain ⟨vb,hvb⟩ : ∃ vb,vb=Pq.wd y j:=⟨_,rfl⟩
          obtain ⟨vz,hvz⟩ : ∃ vz,vz=Pq.wd Zj k:=⟨_,rfl⟩
          rw[←hvb]at c2 hvl ht
          rw[←hvz]at c3 hzl ht
          obtain ⟨p,hp⟩ : ∃ p,p=a*vb:=⟨_,rfl⟩
          rw[←hp]at ht
          have htl:t<18446744073709551616:=htop
          obtain ⟨s,hs⟩ : ∃ s,s=p+vz:=⟨_,rfl⟩
          have ep:(a:Int)*(vb:Int)=(p:Int):=by rw[hp];simp
          have es:(p:Int)+(vz:Int)=(s:Int):=by omega
          have et:(s:Int)+(cv:Int)=(t:Int):=by omega
          have wp:IntKind.u64.wrap (p:Int)=(p:Int):=IntWalk.u64_in _ (by omega)
          have ws:IntKind.u64.wrap (s:Int)=(s:Int):=IntWalk.u64_in _ (by omega)
          have wt:IntKind.u64.wrap (t:Int)=(t:Int):=IntWalk.u64_in _ (by omega)
          have wa:IntKind.u64.wrap (a:Int)=(a:Int):=IntWalk.u64_in _ (by omega)
          have wb:IntKind.u64.wrap (vb:Int)=(vb:Int):=IntWalk.u64_in _ (by omega)
          have wz:IntKind.u64.wrap (vz:Int)=(vz:Int):=IntWalk.u64_in _ (by omega)
          obtain ⟨lo,hlo⟩ : ∃ lo,lo=t%4294967296:=⟨_,rfl⟩
          obtain ⟨hh,hhi⟩ : ∃ hh,hh=t/4294967296:=⟨_,rfl⟩
          have hand:bits .and .u64 (t:Int) 4294967295=(lo:Int):=by rw[Pq.and_lo htl,hlo]
          have hsh:(t:Int)/4294967296=(hh:Int):=by rw[hhi];simp
          have hll:lo<4294967296:=by omega
          have wl1:IntKind.u32.wrap (lo:Int)=(lo:Int):=IntWalk.u32_in _ (by omega)
          rw[←hlo,←hhi]at hnext
          have C1:=Lib.hid c1;have C2:=Lib.hid c2;have C3:=Lib.hid c3;have HNX:=Lib.hid hnext
          clear c1 c2 c3 hnext hvb hvz ht hp hs hlo hhi hk htop htl hk2
          go_upto_region 11 with fail
          refine Pq.wp_region_grown none [(0,true),(1,true),(2,true),(3,true),(4,true),(5,true),(6,true),(7,true),(8,true),(9,true),(10,true),(11,true),(12,true),(13,true),(14,true),(15,true),(16,true),(17,true),(18,true),(19,true),(20,true),(21,true),(22,true)] (by kernel_rfl) (by kernel_rfl) (fun _ _ d _ _ h=>by cases d <;> exact h) (fun hS=>?_)
          simp only[Pq.pick,List.filterMap_cons,List.filterMap_nil,List.getElem?_cons_zero,List.getElem?_cons_succ,Option.map_some]
          iterate 4
            refine Pq.wpO_step (by rfl) ?_
            apply Exists.intro
            refine ⟨fun w' hw'=>?_,?_⟩
            · go_simp;first|done|with_reducible rfl|exact ⟨rfl,rfl⟩
            simp only[Pq.zz]
          refine Pq.wpO_cell ⟨b,i,none⟩ _ C1.out (by simp) (by rfl) _ _ rfl rfl _ u_u32 rfl ?_
          simp only[Pq.zz]
          iterate 5
            refine Pq.wpO_step (by rfl) ?_
            apply Exists.intro
            refine ⟨fun w' hw'=>?_,?_⟩
            · go_simp;first|done|with_reducible rfl|exact ⟨rfl,rfl⟩
            simp only[Pq.zz]
          refine Pq.wpO_cell ⟨c,j,none⟩ _ C2.out (by simp) (by rfl) _ _ rfl rfl _ u_u32 rfl ?_
          simp only[Pq.zz]
          iterate 6
            refine Pq.wpO_step (by rfl) ?_
            apply Exists.intro
            refine ⟨fun w' hw'=>?_,?_⟩
            · go_simp;first|done|with_reducible rfl|exact ⟨rfl,rfl⟩
            simp only[Pq.zz]
          refine Pq.wpO_cell ⟨d,k,none⟩ _ C3.out (by simp) (by rfl) _ _ rfl rfl _ u_u32 rfl ?_
          simp only[Pq.zz]
          iterate 5
            refine Pq.wpO_step (by rfl) ?_
            apply Exists.intro
            refine ⟨fun w' hw'=>?_,?_⟩
            · go_simp;first|done|with_reducible rfl|exact ⟨rfl,rfl⟩
            simp only[Pq.zz]
          refine Pq.wpO_nil ?_
          go_upto_region 12 with fail
          go_upto_region 12 with fail
          apply wp_region_lit
          iterate 7
            refine Pq.wpL_step (by rfl) ?_
            apply Exists.intro
            apply Exists.intro
            refine ⟨?_,?_⟩
            · go_simp;first|done|with_reducible rfl|exact ⟨rfl,rfl⟩
            simp only[Pq.zz]
          refine Pq.wpL_put (k:=k) (.int .u32 (lo:Int)) (Pq.dr_block hrj.out) (by rw[Pq.am_length];exact hk4) (by rfl) 36 _ _ rfl rfl rfl rfl rfl (by kernel_rfl) ?_
          try simp only[Pq.zz]
          refine Pq.wpL_nil ?_
          go_upto_region 13 with fail
          go_upto_region 13 with fail
          apply wp_region_lit
          iterate 3
            refine Pq.wpL_step (by rfl) ?_
            apply Exists.intro
            apply Exists.intro
            refine ⟨?_,?_⟩
            · go_simp;first|done|with_reducible rfl|exact ⟨rfl,rfl⟩
            simp only[Pq.zz]
          refine Pq.wpL_nil ?_
          clear ep es et wp ws wt wa wb wz hand hsh wl1 e1 w1
          go_wp2
          go_roundw
          case rel=>exact ⟨j+1,hh,Pq.st Zj k lo,rfl,by go_num,by omega,HNX,Lib.hid (by
            have e:=Pq.setRow_at (cs:=((Pq.am 64 Zj).set k (.int .u32 (lo:Int))).toArray) (Pq.dr_block hrj.out)
            rw[Pq.am_set hll hk4]at e
            rw[Pq.am_set hll hk4];exact e),Lib.hid (Pq.below_setRow (Pq.below_drew hbj.out) (Nat.le_refl _))⟩
          case measure=>simp[intOf];omega
        · obtain rfl:j=sy:=by omega
          have hk3:(k:Int)<64:=by omega
          have hk4:k<64:=by omega
          have hlast:=hmi.out.last (by rw[HZ.out];exact Pq.mul_fit HYS.out) HYS.out
          rw[HZ.out,HAE.out,Pq.mul_row,←hk]at hlast
          have HLA:=Lib.hid hlast
          have wl1:IntKind.u32.wrap (cv:Int)=(cv:Int):=IntWalk.u32_in _ (by omega)
          clear hlast hk
          go_upto_region 15 with fail
          go_upto_region 15 with fail
          apply wp_region_lit
          iterate 6
            refine Pq.wpL_step (by rfl) ?_
            apply Exists.intro
            apply Exists.intro
            refine ⟨?_,?_⟩
            · go_simp;first|done|with_reducible rfl|exact ⟨rfl,rfl⟩
            simp only[Pq.zz]
          refine Pq.wpL_put (k:=k) (.int .u32 (cv:Int)) hrj.out (by rw[Pq.am_length];exact hk4) (by rfl) 36 _ _ rfl rfl rfl rfl rfl (by kernel_rfl) ?_
          try simp only[Pq.zz]
          refine Pq.wpL_nil ?_
          clear wl1 e1 w1
          go_wp2
          go_roundw
          case rel=>exact ⟨i+1,by go_num,by omega,Lib.hid (by
            have e:=Pq.setRow_at (cs:=((Pq.am 64 Zj).set k (.int .u32 (cv:Int))).toArray) hrj.out
            rw[Pq.am_set hcl hk4,HLA.out]at e
            rw[Pq.am_set hcl hk4,HLA.out];exact e),Lib.hid (Pq.below_setRow hbj.out (Nat.le_refl _))⟩
          case measure=>simp[intOf];omega
    · obtain rfl:i=sx:=by omega
      obtain ⟨P0,hP0⟩ : ∃ P0,P0=x*y:=⟨_,rfl⟩
      have hrow:wr.heap[d]?=some (.cells (Pq.am 64 P0).toArray 240 (0,0)):=by
        have:=hro.out
        rwa [Pq.lo_self HXS.out,←hP0]at this
      have hPl:P0<Pq.bp 64:=by
        rw[hP0,show Pq.bp 64=Pq.bp 32*Pq.bp 32 from Pq.bp_add 32 32]
        exact Nat.mul_lt_mul'' HX.out HY.out
      have HROW:=Lib.hid hrow;have HPL:=Lib.hid hPl;have HP0:=Lib.hid hP0
      clear hrow hPl hP0 hro hlt
      go_upto_region 17 with fail
      go_upto_region 17 with fail
      apply wp_region_lit
      refine Pq.wpL_slice _ (by rfl) _ _ _ _ rfl _ rfl _ none rfl rfl (sl_hi d) ?_
      simp only[Pq.zz]
      iterate 2
        refine Pq.wpL_step (by rfl) ?_
        apply Exists.intro
        apply Exists.intro
        refine ⟨?_,?_⟩
        · go_simp;first|done|with_reducible rfl|exact ⟨rfl,rfl⟩
        simp only[Pq.zz]
      refine Pq.wpL_nil ?_
      go_wp2
      go_loopw [74] (fun kk wr => ∃ k:Nat,kk=.int .i64 k∧k≤32∧Hid (∀ j,j<k→Pq.wd P0 (32+j)=0)∧Hid (wr.heap[d]?=some (.cells (Pq.am 64 P0).toArray 240 (0,0)))∧Hid (Below d w5 wr)) (fun kk _=>32-(intOf kk).toNat)
      case atStart=>exact ⟨0,rfl,by omega,Lib.hid (fun j hj=>absurd hj (by omega)),HROW,hbl⟩
      case round =>
        obtain ⟨k,rfl,hk,hz,hrj,hbj⟩:=hrel
        by_cases hlt:k<32
        · have hk2:(k:Int)<32:=by omega
          have c1:wr.cell? ⟨d,32+k,none⟩=some (.int .u32 (Pq.wd P0 (32+k):Nat)):=Pq.row_cell hrj.out (by omega)
          have hvl:=Pq.wd_lt P0 (32+k)
          obtain ⟨v,hv⟩ : ∃ v,v=Pq.wd P0 (32+k):=⟨_,rfl⟩
          rw[←hv]at c1 hvl
          have C1:=Lib.hid c1;have HV:=Lib.hid hv
          clear c1 hv
          go_upto_region 19 with fail
          go_upto_region 19 with fail
          apply wp_region_lit
          refine Pq.wpL_step (by rfl) ?_
          apply Exists.intro
          apply Exists.intro
          refine ⟨?_,?_⟩
          · go_simp;first|done|with_reducible rfl|exact ⟨rfl,rfl⟩
          simp only[Pq.zz]
          refine Pq.wpL_cell ⟨d,32+k,none⟩ _ C1.out (by rfl) _ _ rfl rfl _ u_u32 rfl ?_
          simp only[Pq.zz]
          refine Pq.wpL_step (by rfl) ?_
          apply Exists.intro
          apply Exists.intro
          refine ⟨?_,?_⟩
          · go_simp;first|done|with_reducible rfl|exact ⟨rfl,rfl⟩
          simp only[Pq.zz]
          refine Pq.wpL_nil ?_
          by_cases hv0:v=0
          · have hvb:((v:Int)==0)=true:=by rw[hv0];rfl
            have HV0:=Lib.hid hv0
            clear hv0
            go_wp2
            go_roundw
            case rel=>exact ⟨k+1,by go_num,by omega,Lib.hid (fun j hj=>by
              rcases Nat.lt_or_ge j k with h1|h1
              · exact hz.out j h1
              · obtain rfl:j=k:=by omega
                rw[←HV.out];exact HV0.out),hrj,hbj⟩
            case measure=>simp[intOf];omega
          · have hvb:((v:Int)==0)=false:=(by have h4:¬ (v:Int)=0:=(by omega);simpa using h4)
            have hbig:¬ P0<Pq.bp 32:=Pq.big_of_word (i:=k) (by rw[←HV.out];exact hv0)
            have hres:res=.tuple #[.agg (Pq.wc false 0),.bool false]:=by
              rw[HRR.out,Pq.rz_no (by rw[Pq.mul_abs,←HP0.out];exact hbig)]
            have HRES:=Lib.hid hres
            clear hres hbig hv0
            have HGz:=Lib.hid ((hbj.out.block (g+2) hgd).trans HG22.out)
            have HBz:=Lib.hid (Pq.below_of HB2.out hbj.out (by rw[←HG.out];omega))
            go_upto_region 21 with fail
            go_upto_region 21 with fail
            apply wp_region_lit
            refine Pq.wpL_build (by rfl) _ [] rfl [] rfl _ built_none ?_
            simp only[Pq.zz]
            refine Pq.wpL_store (by rfl) 39 _ _ rfl (g+2) (Pq.wc _ _) rfl rfl 39 (Pq.wc _ _) HGz.out (s_widea _ _) (by simp only[Pq.wc_size]) (Pq.wc_one _ _) ?_
            try simp only[Pq.zz]
            refine Pq.wpL_step (by rfl) ?_
            apply Exists.intro
            apply Exists.intro
            refine ⟨?_,?_⟩
            · go_simp;first|done|with_reducible rfl|exact ⟨rfl,rfl⟩
            simp only[Pq.zz]
            refine Pq.wpL_nil ?_
            go_wp2
            refine Pq.ret_cell_tmp rfl (g+2) _ _ _ _ _ rfl rfl (Pq.setRow_at HGz.out) u_wide rfl (s_widea _ _) rfl ⟨by rw[HRES.out];rfl,Pq.below_setRow HBz.out (by rw[←HG.out];omega)⟩
        · obtain rfl:k=32:=by omega
          have hsm:P0<Pq.bp 32:=Pq.small_of_words HPL.out hz.out
          have HSM:=Lib.hid hsm
          have HGz:=Lib.hid ((hbj.out.block (g+2) hgd).trans HG22.out)
          have HBz:=Lib.hid (Pq.below_of HB2.out hbj.out (by rw[←HG.out];omega))
          have HA1z:=Lib.hid (Pq.range_under HA12.out hbj.out (by omega))
          have HA2z:=Lib.hid (Pq.range_under HA22.out hbj.out (by omega))
          have hds:d<wr.heap.size:=(Array.getElem?_eq_some_iff.1 hrj.out).1
          have hro:wr.rangeAt d 0 (Pq.am 32 P0):=by
            have:=Pq.range_block hrj.out
            rw[show (64:Nat)=32+32 from rfl,Pq.am_split 32 32 P0]at this
            exact (Pq.range_app this).1
          have HROz:=Lib.hid hro
          obtain ⟨p0,hp0⟩ : ∃ p0,p0=Pq.ng n x:=⟨_,rfl⟩
          obtain ⟨q0,hq0⟩ : ∃ q0,q0=Pq.ng m y:=⟨_,rfl⟩
          have HNX:=Lib.hid hp0;have HNY:=Lib.hid hq0
          clear hp0 hq0 hro hsm hz hbl HROW HA12 HA22 HG22 HB2 hlt
          go_upto_region 23 with fail
          refine Pq.wp_region_grown (some (g+2)) [(0,true),(2,true),(5,true),(6,true),(1,false),(3,false),(4,true),(7,false),(8,false),(9,true)] (by kernel_rfl) (by kernel_rfl) (fun _ _ d _ _ h=>by cases d <;> exact h) (fun hS=>?_)
          simp only[Pq.pick,List.filterMap_cons,List.filterMap_nil,List.getElem?_cons_zero,List.getElem?_cons_succ,Option.map_some]
          refine Pq.wpO_load g 0 (Pq.wl n x) HA1z.out (by simp) (by rfl) _ _ rfl rfl _ u_wide rfl (s_wide _ _) ?_
          simp only[Pq.zz]
          refine Pq.wpO_load (g+1) 0 (Pq.wl m y) HA2z.out (by simp) (by rfl) _ _ rfl rfl _ u_wide rfl (s_wide _ _) ?_
          simp only[Pq.zz]
          refine Pq.wpO_slice _ (by rfl) _ _ _ _ rfl _ rfl none _ rfl rfl (sl_lo d) ?_
          simp only[Pq.zz]
          refine Pq.wpO_toPtr _ (by rfl) _ _ rfl _ rfl (sl_ptr d) ?_
          simp only[Pq.zz]
          refine Pq.wpO_ret (by rfl) cf_below (below_any n x _ HX.out) rfl rfl hS ?_;intro w8 hb8 hS8;rw[←HNX.out]
          simp only[Pq.zz]
          refine Pq.wpO_ret (by rfl) cf_below (below_any m y _ HY.out) rfl rfl hS8 ?_;intro w9 hb9 hS9;rw[←HNY.out];have K9:=Pq.below_next (Pq.below_next (Pq.below_drew (Below.refl wr.heap.size wr)) (Nat.le_refl _) hb8) (Nat.le_refl _) hb9
          simp only[Pq.zz]
          refine Pq.wpO_step (by rfl) ?_
          apply Exists.intro
          refine ⟨fun w' hw'=>?_,?_⟩
          · go_simp;first|done|with_reducible rfl|exact ⟨rfl,rfl⟩
          simp only[Pq.zz]
          refine Pq.wpO_ret (by rfl) cf_told (told_any _ d 0 P0 _ HSM.out (Pq.range_in HROz.out K9) (Nat.lt_of_lt_of_le hds K9.size)) rfl rfl hS9 ?_;intro w10 hb10 hS10;have K10:=Pq.below_next K9 (Nat.le_refl _) hb10
          simp only[Pq.zz]
          refine Pq.wpO_store (by rfl) 39 _ _ rfl (g+2) (Pq.wc _ _) rfl rfl 39 (Pq.wc _ _) (Pq.keep_block HGz.out K10) (s_widea _ _) (by simp only[Pq.wc_size]) (Pq.wc_one _ _) (Pq.grown_setRow hS10) ?_
          try simp only[Pq.zz]
          refine Pq.wpO_step (by rfl) ?_
          apply Exists.intro
          refine ⟨fun w' hw'=>?_,?_⟩
          · go_simp;first|done|with_reducible rfl|exact ⟨rfl,rfl⟩
          simp only[Pq.zz]
          refine Pq.wpO_nil ?_
          go_wp2
          refine Pq.ret_cell_tmp rfl (g+2) _ _ _ _ _ rfl rfl (Pq.setRow_at (Pq.keep_block HGz.out K10)) u_wide rfl (s_widea _ _) rfl ⟨?_,Pq.below_setRow (Pq.below_next HBz.out (Nat.le_refl _) K10) (by rw[←HG.out];omega)⟩
          have e1:=Pq.mul_sign n x m y
          rw[←HNX.out,←HNY.out,←HP0.out]at e1
          rw[HRR.out,Pq.rz_ok (by rw[Pq.mul_abs,←HP0.out];exact HSM.out),←e1];rfl
end Go.Proofs.YtbkfakkkikmcbaaGreatDoor
namespace Pq
theorem bp_one_lt:1<bp 32:=by have:=bp_mono (i:=1) (j:=32) (by decide);rw[bp_one]at this;omega
theorem cz_zero (a b:Int):((cz a b:Int)==0)=decide (a=b):=by
  unfold cz
  by_cases h:a<b
  · rw[if_pos h];simp;omega
  · rw[if_neg h]
    by_cases h2:b<a
    · rw[if_pos h2];simp;omega
    · rw[if_neg h2];simp;omega
end Pq
namespace Go.Proofs.YtbkfakkkikmcbaaGreatDoor
open Go.RowKit
theorem cf_one (xs:Array Value) (w:World):(callFunc 87 xs).run Tryz.prog w=.ok (.enter 87 xs) w:=by kernel_rfl
theorem cf_isone (xs:Array Value) (w:World):(callFunc 68 xs).run Tryz.prog w=.ok (.enter 68 xs) w:=by kernel_rfl
set_option maxRecDepth 100000 in
theorem one_any (w:World):Calls Tryz.prog 87 #[] w (Pq.Ret w (.agg (Pq.wc false 1))):=by
  obtain ⟨g,hg⟩ : ∃ g,g=w.heap.size:=⟨_,rfl⟩
  have HG:=Lib.hid hg;clear hg
  go_enter Tryz.func87,Tryz.ntmps87
  go_upto_region 0 with fail
  go_upto_region 0 with fail
  apply wp_region_lit
  refine Pq.wpL_alloc g HG.out.symm (by rfl) _ rfl (Pq.wc false 0) al_wide ?_
  simp only[Pq.zz]
  refine Pq.wpL_nil ?_
  go_upto_region 1 with fail
  go_upto_region 1 with fail
  apply wp_region_lit
  refine Pq.wpL_ret (by rfl) cf_from (from_any 1 _ (by decide) (by decide)) rfl rfl ?_;intro w1 hb1;rw[show Pq.wz 1=Pq.wc false 1 from rfl]
  simp only[Pq.zz]
  refine Pq.wpL_store (by rfl) 39 _ _ rfl g (Pq.wc _ _) rfl rfl 39 (Pq.wc _ _) (Pq.keep_block (Pq.al_block w (.cells (Pq.wc false 0) 39) g HG.out) hb1) (s_widea _ _) (by simp only[Pq.wc_size]) (Pq.wc_one _ _) ?_
  try simp only[Pq.zz]
  refine Pq.wpL_nil ?_
  go_wp2
  refine Pq.ret_cell rfl g _ _ _ _ rfl (Pq.setRow_at (Pq.keep_block (Pq.al_block w (.cells (Pq.wc false 0) 39) g HG.out) hb1)) u_wide rfl (s_widea _ _) rfl ⟨rfl,Pq.below_setRow (Pq.below_next (Pq.below_alloc (Below.refl _ w) (Nat.le_refl _) _) (Nat.le_refl _) hb1) (by rw[HG.out];exact Nat.le_refl _)⟩
set_option maxRecDepth 100000 in
theorem isone_any (n:Bool) (x:Nat) (w:World) (hx:x<Pq.bp 32):Calls Tryz.prog 68 #[.agg (Pq.wc n x)] w (Pq.Ret w (.bool (decide (Pq.zv n x=1)))):=by
  have HX:=Lib.hid hx;clear hx
  obtain ⟨g,hg⟩ : ∃ g,g=w.heap.size:=⟨_,rfl⟩
  have HG:=Lib.hid hg;clear hg
  obtain ⟨r,hr⟩ : ∃ r,r=Pq.cz (Pq.zv n x) (Pq.zv false 1):=⟨_,rfl⟩
  have HRe:=Lib.hid hr;clear hr
  have hres:decide (Pq.zv n x=1)=(r==0):=by rw[HRe.out,Pq.cz_zero];rfl
  rw[hres]
  clear hres
  go_enter Tryz.func68,Tryz.ntmps68
  go_upto_region 0 with fail
  go_upto_region 0 with fail
  apply wp_region_lit
  refine Pq.wpL_box g HG.out.symm (Pq.wc n x) (by rfl) _ _ rfl rfl (bx_wide n x) ?_
  simp only[Pq.zz]
  refine Pq.wpL_step (by rfl) ?_
  apply Exists.intro
  apply Exists.intro
  refine ⟨?_,?_⟩
  · go_simp;first|done|with_reducible rfl|exact ⟨rfl,rfl⟩
  simp only[Pq.zz]
  refine Pq.wpL_nil ?_
  have HB:=Lib.hid (Pq.below_alloc (Below.refl _ w) (Nat.le_refl _) (.cells (Pq.wc n x) 39))
  have HR1:=Lib.hid (Pq.al_wnew w n x 39 g HG.out)
  generalize w.alloc (.cells (Pq.wc n x) 39)=w0 at *
  go_upto_region 1 with fail
  refine Pq.wp_region_grown none [(0,true),(1,false),(2,false),(3,true),(4,true)] (by kernel_rfl) (by kernel_rfl) (fun _ _ d _ _ h=>by cases d <;> exact h) (fun hS=>?_)
  simp only[Pq.pick,List.filterMap_cons,List.filterMap_nil,List.getElem?_cons_zero,List.getElem?_cons_succ,Option.map_some]
  refine Pq.wpO_load g 0 (Pq.wl n x) HR1.out (by simp) (by rfl) _ _ rfl rfl _ u_wide rfl (s_wide _ _) ?_
  simp only[Pq.zz]
  refine Pq.wpO_ret (by rfl) cf_one (one_any _) rfl rfl hS ?_;intro w1 hb1 hS1
  simp only[Pq.zz]
  refine Pq.wpO_ret (by rfl) cf_wcmp (cmp_any n x false 1 _ HX.out (Pq.bp_one_lt)) rfl rfl hS1 ?_;intro w2 hb2 hS2;rw[←HRe.out]
  simp only[Pq.zz]
  iterate 2
    refine Pq.wpO_step (by rfl) ?_
    apply Exists.intro
    refine ⟨fun w' hw'=>?_,?_⟩
    · go_simp;first|done|with_reducible rfl|exact ⟨rfl,rfl⟩
    simp only[Pq.zz]
  refine Pq.wpO_nil ?_
  go_wp2
  go_ret
  exact ⟨rfl,Pq.below_next HB.out (Nat.le_refl _) (Pq.grown_below hS2)⟩
end Go.Proofs.YtbkfakkkikmcbaaGreatDoor
namespace Pq
open Go Go.RowKit
theorem little_of {x:Nat} (hx:x<bp 32):(wd x 0<1073741824 ∧ ∀ j,j<31→wd x (1+j)=0)↔x<1073741824:=by
  constructor
  · rintro ⟨h1,h2⟩
    have:x=lo x 1:=eq_of_wd hx (Nat.lt_of_lt_of_le (lo_lt x 1) (bp_mono (by decide))) fun i hi=>by
      rcases Nat.lt_or_ge i 1 with h|h
      · rw[wd_lo h]
      · rw[wd_top (lo_lt x 1) h,show i=1+(i-1) from by omega];exact h2 _ (by omega)
    have h3:=lo_succ x 0
    rw[lo_zero,bp_zero,Nat.one_mul,Nat.zero_add,←this]at h3
    omega
  · intro h
    have h1:x<bp 1:=by rw[bp_one];omega
    exact ⟨by rw[wd_small (by omega)];exact h,fun j _=>wd_top h1 (by omega)⟩
theorem or_zero {a b:Nat}:(a ||| b=0)↔(a=0∧b=0):=by simp
theorem or_small {a b:Nat} (ha:a<4294967296) (hb:b<4294967296):a ||| b<4294967296:=Nat.or_lt_two_pow (n:=32) ha hb
end Pq
namespace Go.Proofs.YtbkfakkkikmcbaaGreatDoor
open Go.RowKit
theorem cf_little (xs:Array Value) (w:World):(callFunc 157 xs).run Tryz.prog w=.ok (.enter 157 xs) w:=by kernel_rfl
theorem sl_tail (b o:Nat) (w:World):(Instr.sliceAt 37 (.pointer (some ⟨b,o,none⟩)) (some (.int .i64 1)) none none).run Tryz.prog w=.ok (.slice (some ⟨b,o+1,none⟩) 31 31) w:=by kernel_rfl
set_option maxRecDepth 100000 in
set_option maxHeartbeats 1000000 in
theorem little_any (b o:Nat) (n:Bool) (x:Nat) (w:World) (hx:x<Pq.bp 32) (hb:w.rangeAt b o (Pq.wl n x)) :
    Calls Tryz.prog 157 #[.pointer (some ⟨b,o,none⟩)] w (Pq.Ret w (.tuple #[.int .i64 (Pq.zv n (Pq.wd x 0)),.bool (decide (x<1073741824))])):=by
  have hc:=Pq.range_cons hb
  have C0:=Lib.hid hc.1
  have HR:=Lib.hid hc.2
  have HX:=Lib.hid hx
  have hq:=Pq.wd_lt x 0
  have c1:=HR.out 0 _ (Pq.am_get (x:=x) (show 0<32 by decide))
  obtain ⟨q,hqq⟩ : ∃ q,q=Pq.wd x 0:=⟨_,rfl⟩
  rw[←hqq]at hq c1
  rw[←hqq]
  have C1:=Lib.hid c1;have HQ:=Lib.hid hqq
  clear hc hx hb c1 hqq
  obtain ⟨s0,hs0⟩ : ∃ s0,s0=q/1073741824:=⟨_,rfl⟩
  have hsh:(q:Int)/1073741824=(s0:Int):=by rw[hs0];simp
  have hz0:s0=0↔q<1073741824:=by omega
  have hs0l:s0<4294967296:=by omega
  have HZ0:=Lib.hid hz0
  obtain ⟨res,hres⟩ : ∃ res,res=decide (x<1073741824):=⟨_,rfl⟩
  rw[←hres]
  have HRES:=Lib.hid hres
  clear hs0 hz0 hres
  go_enter Tryz.func157,Tryz.ntmps157
  go_upto_region 1 with fail
  go_upto_region 1 with fail
  apply wp_region_lit
  iterate 4
    refine Pq.wpL_step (by rfl) ?_
    apply Exists.intro
    apply Exists.intro
    refine ⟨?_,?_⟩
    · go_simp;first|done|with_reducible rfl|exact ⟨rfl,rfl⟩
    simp only[Pq.zz]
  refine Pq.wpL_cell ⟨b,o+1,none⟩ _ C1.out (by rfl) _ _ rfl rfl _ u_u32 rfl ?_
  simp only[Pq.zz]
  iterate 2
    refine Pq.wpL_step (by rfl) ?_
    apply Exists.intro
    apply Exists.intro
    refine ⟨?_,?_⟩
    · go_simp;first|done|with_reducible rfl|exact ⟨rfl,rfl⟩
    simp only[Pq.zz]
  refine Pq.wpL_nil ?_
  go_upto_region 2 with fail
  go_upto_region 2 with fail
  apply wp_region_lit
  iterate 3
    refine Pq.wpL_step (by rfl) ?_
    apply Exists.intro
    apply Exists.intro
    refine ⟨?_,?_⟩
    · go_simp;first|done|with_reducible rfl|exact ⟨rfl,rfl⟩
    simp only[Pq.zz]
  refine Pq.wpL_slice _ (by rfl) _ _ _ _ rfl _ rfl _ none rfl rfl (sl_tail b (o+1)) ?_
  simp only[Pq.zz]
  iterate 2
    refine Pq.wpL_step (by rfl) ?_
    apply Exists.intro
    apply Exists.intro
    refine ⟨?_,?_⟩
    · go_simp;first|done|with_reducible rfl|exact ⟨rfl,rfl⟩
    simp only[Pq.zz]
  refine Pq.wpL_nil ?_
  clear hsh
  go_wp2
  go_loopw [4,19] (fun rs ii wr => ∃ r k:Nat,rs=.int .u32 (r:Int)∧ii=.int .i64 k∧k≤31∧r<4294967296∧Hid (r=0↔(Pq.wd x 0<1073741824 ∧ ∀ j,j<k→Pq.wd x (1+j)=0))∧Hid (wr=w)) (fun _ ii _=>31-(intOf ii).toNat)
  case atStart=>exact ⟨s0,0,rfl,rfl,by omega,hs0l,Lib.hid ⟨fun h=>⟨by rw[←HQ.out];exact HZ0.out.1 h,fun j hj=>absurd hj (by omega)⟩,fun h=>HZ0.out.2 (by rw[HQ.out];exact h.1)⟩,Lib.hid rfl⟩
  case round =>
    obtain ⟨r,k,rfl,rfl,hk,hrl,hiff,hw⟩:=hrel
    obtain rfl:=hw.out
    clear hw
    by_cases hlt:k<31
    · have hk2:(k:Int)<31:=by omega
      have c2:=HR.out (1+k) _ (Pq.am_get (x:=x) (show 1+k<32 by omega))
      have hvl:=Pq.wd_lt x (1+k)
      obtain ⟨v,hv⟩ : ∃ v,v=Pq.wd x (1+k):=⟨_,rfl⟩
      rw[←hv,show o+1+(1+k)=o+1+1+k from by omega]at c2
      rw[←hv]at hvl
      have C2:=Lib.hid c2;have HV:=Lib.hid hv
      obtain ⟨s,hs⟩ : ∃ s,s=r ||| v:=⟨_,rfl⟩
      have hor:bits .or .u32 (r:Int) (v:Int)=(s:Int):=by rw[u32_or_nat r v hrl hvl,hs]
      have hsl:s<4294967296:=by rw[hs];exact Pq.or_small hrl hvl
      have hsz:s=0↔(r=0∧v=0):=by rw[hs];exact Pq.or_zero
      have HSZ:=Lib.hid hsz
      clear c2 hv hs hsz
      go_upto_region 4 with fail
      go_upto_region 4 with fail
      apply wp_region_lit
      refine Pq.wpL_step (by rfl) ?_
      apply Exists.intro
      apply Exists.intro
      refine ⟨?_,?_⟩
      · go_simp;first|done|with_reducible rfl|exact ⟨rfl,rfl⟩
      simp only[Pq.zz]
      refine Pq.wpL_cell ⟨b,o+1+1+k,none⟩ _ C2.out (by rfl) _ _ rfl rfl _ u_u32 rfl ?_
      simp only[Pq.zz]
      refine Pq.wpL_step (by rfl) ?_
      apply Exists.intro
      apply Exists.intro
      refine ⟨?_,?_⟩
      · go_simp;first|done|with_reducible rfl|exact ⟨rfl,rfl⟩
      simp only[Pq.zz]
      refine Pq.wpL_nil ?_
      go_upto_region 5 with fail
      go_upto_region 5 with fail
      apply wp_region_lit
      iterate 4
        refine Pq.wpL_step (by rfl) ?_
        apply Exists.intro
        apply Exists.intro
        refine ⟨?_,?_⟩
        · go_simp;first|done|with_reducible rfl|exact ⟨rfl,rfl⟩
        simp only[Pq.zz]
      refine Pq.wpL_nil ?_
      clear hor
      go_wp2
      go_roundw
      case rel=>exact ⟨s,k+1,rfl,by go_num,by omega,hsl,Lib.hid ⟨fun h=>by
          obtain ⟨h1,h2⟩:=HSZ.out.1 h
          obtain ⟨h3,h4⟩:=hiff.out.1 h1
          refine ⟨h3,fun j hj=>?_⟩
          rcases Nat.lt_or_ge j k with h5|h5
          · exact h4 j h5
          · obtain rfl:j=k:=by omega
            rw[←HV.out];exact h2,fun h=>HSZ.out.2 ⟨hiff.out.2 ⟨h.1,fun j hj=>h.2 j (by omega)⟩,by rw[HV.out];exact h.2 k (by omega)⟩⟩,(by first|exact Lib.hid rfl|exact Lib.hid trivial)⟩
      case measure=>simp[intOf];omega
    · obtain rfl:k=31:=by omega
      have hfin:(r=0)↔x<1073741824:=hiff.out.trans (Pq.little_of HX.out)
      have hrr:((r:Int)==0)=res:=by
        rw[HRES.out]
        by_cases h:r=0
        · rw[decide_eq_true (hfin.1 h),h];rfl
        · have h4:¬ (r:Int)=0:=by omega
          rw[decide_eq_false (fun h2=>h (hfin.2 h2))];simpa using h4
      have wq:IntKind.i64.wrap (q:Int)=(q:Int):=IntWalk.i64_in _ (by omega)
      have wn:IntKind.i64.wrap (-(q:Int)) = -(q:Int):=IntWalk.i64_in _ (by omega)
      clear hiff hfin hlt
      go_upto_region 7 with fail
      go_upto_region 7 with fail
      apply wp_region_lit
      iterate 4
        refine Pq.wpL_step (by rfl) ?_
        apply Exists.intro
        apply Exists.intro
        refine ⟨?_,?_⟩
        · go_simp;first|done|with_reducible rfl|exact ⟨rfl,rfl⟩
        simp only[Pq.zz]
      refine Pq.wpL_cell ⟨b,o+1,none⟩ _ C1.out (by rfl) _ _ rfl rfl _ u_u32 rfl ?_
      simp only[Pq.zz]
      iterate 2
        refine Pq.wpL_step (by rfl) ?_
        apply Exists.intro
        apply Exists.intro
        refine ⟨?_,?_⟩
        · go_simp;first|done|with_reducible rfl|exact ⟨rfl,rfl⟩
        simp only[Pq.zz]
      refine Pq.wpL_nil ?_
      go_upto_region 8 with fail
      go_upto_region 8 with fail
      apply wp_region_lit
      iterate 3
        refine Pq.wpL_step (by rfl) ?_
        apply Exists.intro
        apply Exists.intro
        refine ⟨?_,?_⟩
        · go_simp;first|done|with_reducible rfl|exact ⟨rfl,rfl⟩
        simp only[Pq.zz]
      refine Pq.wpL_cell ⟨b,o,none⟩ _ C0.out (by rfl) _ _ rfl rfl _ u_bool rfl ?_
      simp only[Pq.zz]
      refine Pq.wpL_nil ?_
      cases n
      · go_wp2
        go_ret2
        exact ⟨rfl,Below.refl _ _⟩
      · go_wp2
        go_ret2
        exact ⟨rfl,Below.refl _ _⟩
end Go.Proofs.YtbkfakkkikmcbaaGreatDoor
namespace Go.Proofs.YtbkfakkkikmcbaaGreatDoor
open Go.RowKit
theorem cf_common (xs:Array Value) (w:World):(callFunc 158 xs).run Tryz.prog w=.ok (.enter 158 xs) w:=by kernel_rfl
set_option maxRecDepth 100000 in
set_option maxHeartbeats 1000000 in
theorem common_any (a b:Int) (w:World) (h1 : -9223372036854775807≤a) (h2:a≤9223372036854775807) (h3 : -9223372036854775807≤b) (h4:b≤9223372036854775807) :
    Calls Tryz.prog 158 #[.int .i64 a,.int .i64 b] w (Pq.Ret w (.int .i64 ((Nat.gcd a.natAbs b.natAbs:Nat):Int))):=by
  obtain ⟨G,hG⟩ : ∃ G,G=Nat.gcd a.natAbs b.natAbs:=⟨_,rfl⟩
  rw[←hG]
  have HG:=Lib.hid hG;clear hG
  have wa:IntKind.i64.wrap (-a) = -a:=IntWalk.i64_in _ (by omega)
  have wb:IntKind.i64.wrap (-b) = -b:=IntWalk.i64_in _ (by omega)
  have ma:max a (-a)=(a.natAbs:Int):=by omega
  have mb:max b (-b)=(b.natAbs:Int):=by omega
  obtain ⟨A,hA⟩ : ∃ A,A=a.natAbs:=⟨_,rfl⟩
  obtain ⟨B,hB⟩ : ∃ B,B=b.natAbs:=⟨_,rfl⟩
  rw[←hA]at ma
  rw[←hB]at mb
  have hAl:A≤9223372036854775807:=by omega
  have hBl:B≤9223372036854775807:=by omega
  have HA:=Lib.hid hA;have HB:=Lib.hid hB
  clear hA hB h1 h2 h3 h4
  go_enter Tryz.func158,Tryz.ntmps158
  go_upto_region 1 with fail
  go_upto_region 1 with fail
  apply wp_region_lit
  iterate 10
    refine Pq.wpL_step (by rfl) ?_
    apply Exists.intro
    apply Exists.intro
    refine ⟨?_,?_⟩
    · go_simp;first|done|with_reducible rfl|exact ⟨rfl,rfl⟩
    simp only[Pq.zz]
  refine Pq.wpL_nil ?_
  clear wa wb ma mb
  go_wp2
  go_loopw [0,1] (fun aa bb wr => ∃ p q:Nat,aa=.int .i64 (p:Int)∧bb=.int .i64 (q:Int)∧Hid (p≤9223372036854775807)∧Hid (q≤9223372036854775807)∧Hid (Nat.gcd p q=G)∧Hid (Below w.heap.size w wr)) (fun _ bb _=>(intOf bb).toNat)
  case atStart=>exact ⟨A,B,rfl,rfl,Lib.hid hAl,Lib.hid hBl,Lib.hid (by rw[HG.out,HA.out,HB.out]),Lib.hid (Below.refl _ _)⟩
  case round =>
    obtain ⟨p,q,rfl,rfl,hp,hq,hgc,hb6⟩:=hrel
    by_cases hq0:q=0
    · have hgp:p=G:=by have:=hgc.out;rw[hq0,Nat.gcd_zero_right]at this;exact this
      subst hq0
      subst hgp
      go_wp2
      go_ret
      exact ⟨rfl,hb6.out⟩
    · have hqb:((q:Int)==0)=false:=(by have h4:¬ (q:Int)=0:=(by omega);simpa using h4)
      have e2:(p:Int)%(q:Int)=((p%q:Nat):Int):=by simp
      obtain ⟨r,hr⟩ : ∃ r,r=p%q:=⟨_,rfl⟩
      rw[←hr]at e2
      have w7:(p:Int).tmod (q:Int)=(p:Int)%(q:Int):=Int.tmod_eq_emod_of_nonneg (by omega)
      have hrl:r<q:=by rw[hr];exact Nat.mod_lt _ (Nat.pos_of_ne_zero hq0)
      have hql:=hq.out
      have w3:IntKind.i64.wrap (r:Int)=(r:Int):=IntWalk.i64_in _ (by omega)
      have HRE:=Lib.hid hr
      clear hr hql
      go_upto_region 3 with fail
      refine Pq.wp_region_grown none [(0,true),(1,true),(2,true),(3,true),(4,true),(5,true)] (by kernel_rfl) (by kernel_rfl) (fun _ _ d _ _ h=>by cases d <;> exact h) (fun hS=>?_)
      simp only[Pq.pick,List.filterMap_cons,List.filterMap_nil,List.getElem?_cons_zero,List.getElem?_cons_succ,Option.map_some]
      iterate 6
        refine Pq.wpO_step (by rfl) ?_
        apply Exists.intro
        refine ⟨fun w' hw'=>?_,?_⟩
        · go_simp;first|done|with_reducible rfl|exact ⟨rfl,rfl⟩
        simp only[Pq.zz]
      refine Pq.wpO_nil ?_
      clear e2 w7 w3 hqb
      go_wp2
      go_roundw
      case rel=>exact ⟨q,r,rfl,rfl,hq,Lib.hid (Nat.le_trans (Nat.le_of_lt hrl) hq.out),Lib.hid (by rw[HRE.out];exact (Pq.gcd_step p q).trans hgc.out),Lib.hid (Pq.below_drew hb6.out)⟩
      case measure=>simp[intOf];omega
end Go.Proofs.YtbkfakkkikmcbaaGreatDoor
namespace Pq
open Go Go.RowKit
end Pq
namespace Go.Proofs.YtbkfakkkikmcbaaGreatDoor
open Go.RowKit
end Go.Proofs.YtbkfakkkikmcbaaGreatDoor
namespace Pq
open Go Go.RowKit
def fl (n:Bool) (x:Nat) (m:Bool) (y:Nat):List Value:=wl n x++wl m y
def fc (n:Bool) (x:Nat) (m:Bool) (y:Nat):Array Value:=(fl n x m y).toArray
theorem range_frac {w:World} {b o:Nat} {n:Bool} {x:Nat} {m:Bool} {y:Nat} (h:w.rangeAt b o (fl n x m y)):w.rangeAt b o (wl n x)∧w.rangeAt b (o+33) (wl m y):=by
  have:=range_app h
  rw[wl_length]at this
  exact this
end Pq
namespace Go.Proofs.YtbkfakkkikmcbaaGreatDoor
open Go.RowKit
end Go.Proofs.YtbkfakkkikmcbaaGreatDoor
namespace Pq
open Go Go.RowKit
theorem wz_nat (d:Nat):wz (d:Int)=wc false d:=by
  unfold wz
  rw[show decide ((d:Int)<0)=false from by simp,Int.natAbs_natCast]
end Pq
namespace Go.Proofs.YtbkfakkkikmcbaaGreatDoor
open Go.RowKit
end Go.Proofs.YtbkfakkkikmcbaaGreatDoor
namespace Pq
open Go Go.RowKit
theorem WL_cell {P:Program} {ops:Array Oper} {Q:Exit→Act→World→Prop} {rest:List Oper} {o:Oper} {a:Act} {w:World} (p:Addr) (v:Value) (hc:w.cell? p=some v) (hw:Region.wanted o (yielded ops a.tmps)=true) (ty:TypeId) (x:Operand) (ho:o.op=.load ty x)
    (hx:a.eval x=.pointer (some p)) (d:TypeDesc) (hu:P.underlying ty=some d) (hd:d.isRow=false) (h:WL P ops Q rest (a.put o.dst v) w):WL P ops Q (o::rest) a w:=⟨wpL_cell p v hc hw ty x ho hx d hu hd h.out⟩
def smk (n:Bool) (x:Nat) (m:Bool) (y:Nat):Prop:=x<1073741824∧y<1073741824∧0<zv m y∧¬ (x=0∧n=true)∧Nat.gcd x y=1
instance (n:Bool) (x:Nat) (m:Bool) (y:Nat):Decidable (smk n x m y):=by unfold smk;infer_instance
def smv (n:Bool) (x:Nat) (m:Bool) (y:Nat):Value:=.tuple #[.agg #[.int .i64 (if smk n x m y then zv n x else 0),.int .i64 (if smk n x m y then zv m y else 0)],.bool (decide (smk n x m y))]
theorem smv_no {n:Bool} {x:Nat} {m:Bool} {y:Nat} (h:¬ smk n x m y):smv n x m y=.tuple #[.agg #[.int .i64 0,.int .i64 0],.bool false]:=by unfold smv;simp[h]
theorem smv_ok {n:Bool} {x:Nat} {m:Bool} {y:Nat} (h:smk n x m y):smv n x m y=.tuple #[.agg #[.int .i64 (zv n x),.int .i64 (zv m y)],.bool true]:=by unfold smv;simp[h]
end Pq
namespace Go.Proofs.YtbkfakkkikmcbaaGreatDoor
open Go.RowKit
theorem cf_smallof (xs:Array Value) (w:World):(callFunc 117 xs).run Tryz.prog w=.ok (.enter 117 xs) w:=by kernel_rfl
theorem u_small:Tryz.prog.underlying 184=some (.struct ((match Tryz.prog.underlying 184 with|some (.struct fs)=>fs|_ => #[]))):=by kernel_rfl
theorem built_small (a d:Int):Tryz.prog.built 184 [(0,.int .i64 a),(1,.int .i64 d)]=some #[.int .i64 a,.int .i64 d]:=by kernel_rfl
theorem built_small0:Tryz.prog.built 184 []=some #[.int .i64 0,.int .i64 0]:=by kernel_rfl
theorem al_small (w:World):(Instr.alloc 184 true (.tuple #[])).run Tryz.prog w=.ok (.pointer (some ⟨w.heap.size,0,none⟩)) (w.alloc (.cells #[.int .i64 0,.int .i64 0] 184)):=by kernel_rfl
theorem s_small (a d:Int):(Tryz.prog.info? 184).map (·.size)=some (#[Value.int .i64 a,Value.int .i64 d]).size:=by kernel_rfl
theorem small_one (a d:Int) : #[Value.int .i64 a,Value.int .i64 d].all (·.oneCell')=true:=by simp[Value.oneCell']
set_option maxRecDepth 100000 in
set_option maxHeartbeats 1000000 in
theorem smallof_any (b o:Nat) (n:Bool) (x:Nat) (m:Bool) (y:Nat) (w:World) (hx:x<Pq.bp 32) (hy:y<Pq.bp 32) (hb:w.rangeAt b o (Pq.fl n x m y)) :
    Calls Tryz.prog 117 #[.pointer (some ⟨b,o,none⟩)] w (Pq.Ret w (Pq.smv n x m y)):=by
  obtain ⟨g,hg⟩ : ∃ g,g=w.heap.size:=⟨_,rfl⟩
  have HG:=Lib.hid hg;clear hg
  obtain ⟨res,hr⟩ : ∃ res,res=Pq.smv n x m y:=⟨_,rfl⟩
  rw[←hr]
  have HRE:=Lib.hid hr;clear hr
  have hf:=Pq.range_frac hb
  have HN:=Lib.hid hf.1;have HD:=Lib.hid hf.2
  have HX:=Lib.hid hx;have HY:=Lib.hid hy
  clear hf hb hx hy
  have hq0:=Pq.wd_lt x 0
  have hq1:=Pq.wd_lt y 0
  obtain ⟨a,ha⟩ : ∃ a,a=Pq.zv n (Pq.wd x 0):=⟨_,rfl⟩
  obtain ⟨d,hd⟩ : ∃ d,d=Pq.zv m (Pq.wd y 0):=⟨_,rfl⟩
  have ha1:a.natAbs<4294967296:=by rw[ha,Pq.zv_abs];exact hq0
  have hd1:d.natAbs<4294967296:=by rw[hd,Pq.zv_abs];exact hq1
  obtain ⟨o1,ho1⟩ : ∃ o1,o1=decide (x<1073741824):=⟨_,rfl⟩
  obtain ⟨o2,ho2⟩ : ∃ o2,o2=decide (y<1073741824):=⟨_,rfl⟩
  have HA:=Lib.hid ha;have HDD:=Lib.hid hd;have HO1:=Lib.hid ho1;have HO2:=Lib.hid ho2
  obtain ⟨G,hG⟩ : ∃ G,G=Nat.gcd a.natAbs d.natAbs:=⟨_,rfl⟩
  have HGE:=Lib.hid hG
  clear ha hd ho1 ho2 hG hq0 hq1
  go_enter Tryz.func117,Tryz.ntmps117
  go_upto_region 0 with fail
  go_upto_region 0 with fail
  apply wp_region_lit
  refine Pq.wpL_alloc g HG.out.symm (by rfl) _ rfl _ al_small ?_
  simp only[Pq.zz]
  refine Pq.wpL_step (by rfl) ?_
  apply Exists.intro
  apply Exists.intro
  refine ⟨?_,?_⟩
  · go_simp;first|done|with_reducible rfl|exact ⟨rfl,rfl⟩
  simp only[Pq.zz]
  refine Pq.wpL_nil ?_
  go_upto_region 1 with fail
  go_upto_region 1 with fail
  apply wp_region_lit
  iterate 3
    refine Pq.wpL_step (by rfl) ?_
    apply Exists.intro
    apply Exists.intro
    refine ⟨?_,?_⟩
    · go_simp;first|done|with_reducible rfl|exact ⟨rfl,rfl⟩
    simp only[Pq.zz]
  refine Pq.wpL_ret (by rfl) cf_little (little_any b o n x _ HX.out (Pq.al_range HN.out _)) rfl rfl ?_;intro w1 hb1;rw[←HA.out,←HO1.out]
  simp only[Pq.zz]
  iterate 5
    refine Pq.wpL_step (by rfl) ?_
    apply Exists.intro
    apply Exists.intro
    refine ⟨?_,?_⟩
    · go_simp;first|done|with_reducible rfl|exact ⟨rfl,rfl⟩
    simp only[Pq.zz]
  refine Pq.wpL_nil ?_
  go_upto_region 2 with fail
  go_upto_region 2 with fail
  apply wp_region_lit
  iterate 3
    refine Pq.wpL_step (by rfl) ?_
    apply Exists.intro
    apply Exists.intro
    refine ⟨?_,?_⟩
    · go_simp;first|done|with_reducible rfl|exact ⟨rfl,rfl⟩
    simp only[Pq.zz]
  refine Pq.wpL_ret (by rfl) cf_little (little_any b (o+33) m y _ HY.out (Pq.range_in (Pq.al_range HD.out _) hb1)) rfl rfl ?_;intro w2 hb2;rw[←HDD.out,←HO2.out]
  simp only[Pq.zz]
  iterate 5
    refine Pq.wpL_step (by rfl) ?_
    apply Exists.intro
    apply Exists.intro
    refine ⟨?_,?_⟩
    · go_simp;first|done|with_reducible rfl|exact ⟨rfl,rfl⟩
    simp only[Pq.zz]
  refine Pq.wpL_nil ?_
  have K:=Pq.below_next (Pq.below_next (Pq.below_alloc (Below.refl _ w) (Nat.le_refl _) (.cells #[.int .i64 0,.int .i64 0] 184)) (Nat.le_refl _) hb1) (Nat.le_refl _) hb2
  have HB:=Lib.hid K
  have HG0:=Lib.hid (Pq.keep_block (Pq.keep_block (Pq.al_block w (.cells #[.int .i64 0,.int .i64 0] 184) g HG.out) hb1) hb2)
  have CN:=Lib.hid (Pq.range_cons HN.out).1
  clear hb1 hb2
  cases o1
  · have HRES:Hid (res=.tuple #[.agg #[.int .i64 0,.int .i64 0],.bool false]):=Lib.hid (by rw[HRE.out,Pq.smv_no (fun h=>by have h9:=HO1.out;simp[h.1]at h9)])
    go_upto_region 3 with fail
    go_upto_region 3 with fail
    apply Pq.wp_region_guard
    iterate 3
      refine Pq.WL_step (by rfl) ?_
      apply Exists.intro
      apply Exists.intro
      refine ⟨?_,?_⟩
      · go_simp;first|done|with_reducible rfl|exact ⟨rfl,rfl⟩
      simp only[Pq.zz]
    refine Pq.WL_skip (by kernel_rfl) ?_
    simp only[Pq.zz]
    refine Pq.WL_skip (by kernel_rfl) ?_
    simp only[Pq.zz]
    iterate 2
      refine Pq.WL_step (by rfl) ?_
      apply Exists.intro
      apply Exists.intro
      refine ⟨?_,?_⟩
      · go_simp;first|done|with_reducible rfl|exact ⟨rfl,rfl⟩
      simp only[Pq.zz]
    refine Pq.WL_skip (by kernel_rfl) ?_
    simp only[Pq.zz]
    refine Pq.WL_skip (by kernel_rfl) ?_
    simp only[Pq.zz]
    iterate 2
      refine Pq.WL_step (by rfl) ?_
      apply Exists.intro
      apply Exists.intro
      refine ⟨?_,?_⟩
      · go_simp;first|done|with_reducible rfl|exact ⟨rfl,rfl⟩
      simp only[Pq.zz]
    refine Pq.WL_skip (by kernel_rfl) ?_
    simp only[Pq.zz]
    refine Pq.WL_skip (by kernel_rfl) ?_
    simp only[Pq.zz]
    refine Pq.WL_skip (by kernel_rfl) ?_
    simp only[Pq.zz]
    refine Pq.WL_skip (by kernel_rfl) ?_
    simp only[Pq.zz]
    refine Pq.WL_skip (by kernel_rfl) ?_
    simp only[Pq.zz]
    refine Pq.WL_skip (by kernel_rfl) ?_
    simp only[Pq.zz]
    refine Pq.WL_skip (by kernel_rfl) ?_
    simp only[Pq.zz]
    refine Pq.WL_skip (by kernel_rfl) ?_
    simp only[Pq.zz]
    refine Pq.WL_skip (by kernel_rfl) ?_
    simp only[Pq.zz]
    iterate 2
      refine Pq.WL_step (by rfl) ?_
      apply Exists.intro
      apply Exists.intro
      refine ⟨?_,?_⟩
      · go_simp;first|done|with_reducible rfl|exact ⟨rfl,rfl⟩
      simp only[Pq.zz]
    refine Pq.WL_skip (by kernel_rfl) ?_
    simp only[Pq.zz]
    refine Pq.WL_skip (by kernel_rfl) ?_
    simp only[Pq.zz]
    refine Pq.WL_skip (by kernel_rfl) ?_
    simp only[Pq.zz]
    refine Pq.WL_skip (by kernel_rfl) ?_
    simp only[Pq.zz]
    refine Pq.WL_step (by rfl) ?_
    apply Exists.intro
    apply Exists.intro
    refine ⟨?_,?_⟩
    · go_simp;first|done|with_reducible rfl|exact ⟨rfl,rfl⟩
    simp only[Pq.zz]
    refine Pq.WL_nil ?_
    go_upto_region 4 with fail
    go_upto_region 4 with fail
    apply wp_region_lit
    refine Pq.wpL_build (by rfl) _ [] rfl [] rfl _ built_small0 ?_
    simp only[Pq.zz]
    refine Pq.wpL_store (by rfl) 184 _ _ rfl g #[.int .i64 0,.int .i64 0] rfl rfl 184 #[.int .i64 0,.int .i64 0] HG0.out (s_small _ _) rfl (small_one _ _) ?_
    try simp only[Pq.zz]
    refine Pq.wpL_step (by rfl) ?_
    apply Exists.intro
    apply Exists.intro
    refine ⟨?_,?_⟩
    · go_simp;first|done|with_reducible rfl|exact ⟨rfl,rfl⟩
    simp only[Pq.zz]
    refine Pq.wpL_nil ?_
    go_wp2
    refine Pq.ret_cell_tmp rfl g _ _ _ _ _ rfl rfl (Pq.setRow_at HG0.out) u_small rfl (s_small _ _) rfl ⟨by rw[HRES.out];rfl,Pq.below_setRow HB.out (by rw[HG.out];exact Nat.le_refl _)⟩
  · have hx1:x<1073741824:=of_decide_eq_true HO1.out.symm
    cases o2
    · have HRES:Hid (res=.tuple #[.agg #[.int .i64 0,.int .i64 0],.bool false]):=Lib.hid (by rw[HRE.out,Pq.smv_no (fun h=>by have h9:=HO2.out;simp[h.2.1]at h9)])
      go_upto_region 3 with fail
      go_upto_region 3 with fail
      apply Pq.wp_region_guard
      iterate 7
        refine Pq.WL_step (by rfl) ?_
        apply Exists.intro
        apply Exists.intro
        refine ⟨?_,?_⟩
        · go_simp;first|done|with_reducible rfl|exact ⟨rfl,rfl⟩
        simp only[Pq.zz]
      refine Pq.WL_skip (by kernel_rfl) ?_
      simp only[Pq.zz]
      refine Pq.WL_skip (by kernel_rfl) ?_
      simp only[Pq.zz]
      iterate 2
        refine Pq.WL_step (by rfl) ?_
        apply Exists.intro
        apply Exists.intro
        refine ⟨?_,?_⟩
        · go_simp;first|done|with_reducible rfl|exact ⟨rfl,rfl⟩
        simp only[Pq.zz]
      refine Pq.WL_skip (by kernel_rfl) ?_
      simp only[Pq.zz]
      refine Pq.WL_skip (by kernel_rfl) ?_
      simp only[Pq.zz]
      refine Pq.WL_skip (by kernel_rfl) ?_
      simp only[Pq.zz]
      refine Pq.WL_skip (by kernel_rfl) ?_
      simp only[Pq.zz]
      refine Pq.WL_skip (by kernel_rfl) ?_
      simp only[Pq.zz]
      refine Pq.WL_skip (by kernel_rfl) ?_
      simp only[Pq.zz]
      refine Pq.WL_skip (by kernel_rfl) ?_
      simp only[Pq.zz]
      refine Pq.WL_skip (by kernel_rfl) ?_
      simp only[Pq.zz]
      refine Pq.WL_skip (by kernel_rfl) ?_
      simp only[Pq.zz]
      iterate 2
        refine Pq.WL_step (by rfl) ?_
        apply Exists.intro
        apply Exists.intro
        refine ⟨?_,?_⟩
        · go_simp;first|done|with_reducible rfl|exact ⟨rfl,rfl⟩
        simp only[Pq.zz]
      refine Pq.WL_skip (by kernel_rfl) ?_
      simp only[Pq.zz]
      refine Pq.WL_skip (by kernel_rfl) ?_
      simp only[Pq.zz]
      refine Pq.WL_skip (by kernel_rfl) ?_
      simp only[Pq.zz]
      refine Pq.WL_skip (by kernel_rfl) ?_
      simp only[Pq.zz]
      refine Pq.WL_step (by rfl) ?_
      apply Exists.intro
      apply Exists.intro
      refine ⟨?_,?_⟩
      · go_simp;first|done|with_reducible rfl|exact ⟨rfl,rfl⟩
      simp only[Pq.zz]
      refine Pq.WL_nil ?_
      go_upto_region 4 with fail
      go_upto_region 4 with fail
      apply wp_region_lit
      refine Pq.wpL_build (by rfl) _ [] rfl [] rfl _ built_small0 ?_
      simp only[Pq.zz]
      refine Pq.wpL_store (by rfl) 184 _ _ rfl g #[.int .i64 0,.int .i64 0] rfl rfl 184 #[.int .i64 0,.int .i64 0] HG0.out (s_small _ _) rfl (small_one _ _) ?_
      try simp only[Pq.zz]
      refine Pq.wpL_step (by rfl) ?_
      apply Exists.intro
      apply Exists.intro
      refine ⟨?_,?_⟩
      · go_simp;first|done|with_reducible rfl|exact ⟨rfl,rfl⟩
      simp only[Pq.zz]
      refine Pq.wpL_nil ?_
      go_wp2
      refine Pq.ret_cell_tmp rfl g _ _ _ _ _ rfl rfl (Pq.setRow_at HG0.out) u_small rfl (s_small _ _) rfl ⟨by rw[HRES.out];rfl,Pq.below_setRow HB.out (by rw[HG.out];exact Nat.le_refl _)⟩
    · have hy1:y<1073741824:=of_decide_eq_true HO2.out.symm
      have HAZ:Hid (a=Pq.zv n x):=Lib.hid (by rw[HA.out,Pq.wd_small (by omega)])
      have HDZ:Hid (d=Pq.zv m y):=Lib.hid (by rw[HDD.out,Pq.wd_small (by omega)])
      have HGX:Hid (G=Nat.gcd x y):=Lib.hid (by rw[HGE.out,HAZ.out,HDZ.out,Pq.zv_abs,Pq.zv_abs])
      have HX1:=Lib.hid hx1;have HY1:=Lib.hid hy1
      clear hx1 hy1
      by_cases hd0:d≤0
      · have hdd:decide (d≤0)=true:=decide_eq_true hd0
        have HRES:Hid (res=.tuple #[.agg #[.int .i64 0,.int .i64 0],.bool false]):=Lib.hid (by rw[HRE.out,Pq.smv_no (fun h=>by have h9:=h.2.2.1;rw[←HDZ.out]at h9;omega)])
        clear hd0
        go_upto_region 3 with fail
        go_upto_region 3 with fail
        apply Pq.wp_region_guard
        iterate 11
          refine Pq.WL_step (by rfl) ?_
          apply Exists.intro
          apply Exists.intro
          refine ⟨?_,?_⟩
          · go_simp;first|done|with_reducible rfl|exact ⟨rfl,rfl⟩
          simp only[Pq.zz]
        refine Pq.WL_skip (by kernel_rfl) ?_
        simp only[Pq.zz]
        refine Pq.WL_skip (by kernel_rfl) ?_
        simp only[Pq.zz]
        refine Pq.WL_skip (by kernel_rfl) ?_
        simp only[Pq.zz]
        refine Pq.WL_skip (by kernel_rfl) ?_
        simp only[Pq.zz]
        refine Pq.WL_skip (by kernel_rfl) ?_
        simp only[Pq.zz]
        refine Pq.WL_skip (by kernel_rfl) ?_
        simp only[Pq.zz]
        refine Pq.WL_skip (by kernel_rfl) ?_
        simp only[Pq.zz]
        refine Pq.WL_skip (by kernel_rfl) ?_
        simp only[Pq.zz]
        refine Pq.WL_skip (by kernel_rfl) ?_
        simp only[Pq.zz]
        iterate 2
          refine Pq.WL_step (by rfl) ?_
          apply Exists.intro
          apply Exists.intro
          refine ⟨?_,?_⟩
          · go_simp;first|done|with_reducible rfl|exact ⟨rfl,rfl⟩
          simp only[Pq.zz]
        refine Pq.WL_skip (by kernel_rfl) ?_
        simp only[Pq.zz]
        refine Pq.WL_skip (by kernel_rfl) ?_
        simp only[Pq.zz]
        refine Pq.WL_skip (by kernel_rfl) ?_
        simp only[Pq.zz]
        refine Pq.WL_skip (by kernel_rfl) ?_
        simp only[Pq.zz]
        refine Pq.WL_step (by rfl) ?_
        apply Exists.intro
        apply Exists.intro
        refine ⟨?_,?_⟩
        · go_simp;first|done|with_reducible rfl|exact ⟨rfl,rfl⟩
        simp only[Pq.zz]
        refine Pq.WL_nil ?_
        go_upto_region 4 with fail
        go_upto_region 4 with fail
        apply wp_region_lit
        refine Pq.wpL_build (by rfl) _ [] rfl [] rfl _ built_small0 ?_
        simp only[Pq.zz]
        refine Pq.wpL_store (by rfl) 184 _ _ rfl g #[.int .i64 0,.int .i64 0] rfl rfl 184 #[.int .i64 0,.int .i64 0] HG0.out (s_small _ _) rfl (small_one _ _) ?_
        try simp only[Pq.zz]
        refine Pq.wpL_step (by rfl) ?_
        apply Exists.intro
        apply Exists.intro
        refine ⟨?_,?_⟩
        · go_simp;first|done|with_reducible rfl|exact ⟨rfl,rfl⟩
        simp only[Pq.zz]
        refine Pq.wpL_nil ?_
        go_wp2
        refine Pq.ret_cell_tmp rfl g _ _ _ _ _ rfl rfl (Pq.setRow_at HG0.out) u_small rfl (s_small _ _) rfl ⟨by rw[HRES.out];rfl,Pq.below_setRow HB.out (by rw[HG.out];exact Nat.le_refl _)⟩
      · have hdd:decide (d≤0)=false:=decide_eq_false hd0
        have HDP:=Lib.hid hd0
        clear hd0
        by_cases ha0:a=0
        · have hx0:x=0:=by have h9:=Pq.zv_abs n x;rw[←HAZ.out,ha0]at h9;omega
          have HX0:=Lib.hid hx0
          have hab:(a==0)=true:=by rw[ha0];rfl
          clear hx0 ha0
          cases n
          · by_cases hg1:G=1
            · have hge:((G:Int)==1)=true:=by rw[hg1];rfl
              have HRES:Hid (res=.tuple #[.agg #[.int .i64 a,.int .i64 d],.bool true]):=Lib.hid (by rw[HRE.out,Pq.smv_ok ⟨HX1.out,HY1.out,by rw[←HDZ.out];have:=HDP.out;omega,(fun h=>by simp at h),by rw[←HGX.out];exact hg1⟩,HAZ.out,HDZ.out])
              clear hg1
              go_upto_region 3 with fail
              go_upto_region 3 with fail
              apply Pq.wp_region_guard
              iterate 18
                refine Pq.WL_step (by rfl) ?_
                apply Exists.intro
                apply Exists.intro
                refine ⟨?_,?_⟩
                · go_simp;first|done|with_reducible rfl|exact ⟨rfl,rfl⟩
                simp only[Pq.zz]
              refine Pq.WL_cell ⟨b,o,none⟩ _ (Pq.cell_in CN.out K) (by rfl) _ _ rfl rfl _ u_bool rfl ?_
              simp only[Pq.zz]
              iterate 5
                refine Pq.WL_step (by rfl) ?_
                apply Exists.intro
                apply Exists.intro
                refine ⟨?_,?_⟩
                · go_simp;first|done|with_reducible rfl|exact ⟨rfl,rfl⟩
                simp only[Pq.zz]
              refine Pq.WL_ret (by rfl) cf_common (common_any a d _ (by omega) (by omega) (by omega) (by omega)) rfl rfl ?_;intro w3 hb3;rw[←HGE.out]
              simp only[Pq.zz]
              iterate 2
                refine Pq.WL_step (by rfl) ?_
                apply Exists.intro
                apply Exists.intro
                refine ⟨?_,?_⟩
                · go_simp;first|done|with_reducible rfl|exact ⟨rfl,rfl⟩
                simp only[Pq.zz]
              refine Pq.WL_nil ?_
              go_upto_region 5 with fail
              go_upto_region 5 with fail
              apply wp_region_lit
              iterate 2
                refine Pq.wpL_step (by rfl) ?_
                apply Exists.intro
                apply Exists.intro
                refine ⟨?_,?_⟩
                · go_simp;first|done|with_reducible rfl|exact ⟨rfl,rfl⟩
                simp only[Pq.zz]
              refine Pq.wpL_build (by rfl) _ [(0,.tmp 50),(1,.tmp 51)] rfl _ rfl _ (built_small a d) ?_
              simp only[Pq.zz]
              refine Pq.wpL_store (by rfl) 184 _ _ rfl g #[.int .i64 a,.int .i64 d] rfl rfl 184 #[.int .i64 0,.int .i64 0] (Pq.keep_block HG0.out hb3) (s_small _ _) rfl (small_one _ _) ?_
              try simp only[Pq.zz]
              refine Pq.wpL_step (by rfl) ?_
              apply Exists.intro
              apply Exists.intro
              refine ⟨?_,?_⟩
              · go_simp;first|done|with_reducible rfl|exact ⟨rfl,rfl⟩
              simp only[Pq.zz]
              refine Pq.wpL_nil ?_
              go_wp2
              refine Pq.ret_cell_tmp rfl g _ _ _ _ _ rfl rfl (Pq.setRow_at (Pq.keep_block HG0.out hb3)) u_small rfl (s_small _ _) rfl ⟨by rw[HRES.out];rfl,Pq.below_setRow (Pq.below_next HB.out (Nat.le_refl _) hb3) (by rw[HG.out];exact Nat.le_refl _)⟩
            · have hge:((G:Int)==1)=false:=(by have h4:¬ (G:Int)=1:=(by omega);simpa using h4)
              have HRES:Hid (res=.tuple #[.agg #[.int .i64 0,.int .i64 0],.bool false]):=Lib.hid (by rw[HRE.out,Pq.smv_no (fun h=>hg1 (by rw[HGX.out];exact h.2.2.2.2))])
              clear hg1
              go_upto_region 3 with fail
              go_upto_region 3 with fail
              apply Pq.wp_region_guard
              iterate 18
                refine Pq.WL_step (by rfl) ?_
                apply Exists.intro
                apply Exists.intro
                refine ⟨?_,?_⟩
                · go_simp;first|done|with_reducible rfl|exact ⟨rfl,rfl⟩
                simp only[Pq.zz]
              refine Pq.WL_cell ⟨b,o,none⟩ _ (Pq.cell_in CN.out K) (by rfl) _ _ rfl rfl _ u_bool rfl ?_
              simp only[Pq.zz]
              iterate 5
                refine Pq.WL_step (by rfl) ?_
                apply Exists.intro
                apply Exists.intro
                refine ⟨?_,?_⟩
                · go_simp;first|done|with_reducible rfl|exact ⟨rfl,rfl⟩
                simp only[Pq.zz]
              refine Pq.WL_ret (by rfl) cf_common (common_any a d _ (by omega) (by omega) (by omega) (by omega)) rfl rfl ?_;intro w3 hb3;rw[←HGE.out]
              simp only[Pq.zz]
              iterate 2
                refine Pq.WL_step (by rfl) ?_
                apply Exists.intro
                apply Exists.intro
                refine ⟨?_,?_⟩
                · go_simp;first|done|with_reducible rfl|exact ⟨rfl,rfl⟩
                simp only[Pq.zz]
              refine Pq.WL_nil ?_
              go_upto_region 4 with fail
              go_upto_region 4 with fail
              apply wp_region_lit
              refine Pq.wpL_build (by rfl) _ [] rfl [] rfl _ built_small0 ?_
              simp only[Pq.zz]
              refine Pq.wpL_store (by rfl) 184 _ _ rfl g #[.int .i64 0,.int .i64 0] rfl rfl 184 #[.int .i64 0,.int .i64 0] (Pq.keep_block HG0.out hb3) (s_small _ _) rfl (small_one _ _) ?_
              try simp only[Pq.zz]
              refine Pq.wpL_step (by rfl) ?_
              apply Exists.intro
              apply Exists.intro
              refine ⟨?_,?_⟩
              · go_simp;first|done|with_reducible rfl|exact ⟨rfl,rfl⟩
              simp only[Pq.zz]
              refine Pq.wpL_nil ?_
              go_wp2
              refine Pq.ret_cell_tmp rfl g _ _ _ _ _ rfl rfl (Pq.setRow_at (Pq.keep_block HG0.out hb3)) u_small rfl (s_small _ _) rfl ⟨by rw[HRES.out];rfl,Pq.below_setRow (Pq.below_next HB.out (Nat.le_refl _) hb3) (by rw[HG.out];exact Nat.le_refl _)⟩
          · have HRES:Hid (res=.tuple #[.agg #[.int .i64 0,.int .i64 0],.bool false]):=Lib.hid (by rw[HRE.out,Pq.smv_no (fun h=>h.2.2.2.1 ⟨HX0.out,rfl⟩)])
            go_upto_region 3 with fail
            go_upto_region 3 with fail
            apply Pq.wp_region_guard
            iterate 18
              refine Pq.WL_step (by rfl) ?_
              apply Exists.intro
              apply Exists.intro
              refine ⟨?_,?_⟩
              · go_simp;first|done|with_reducible rfl|exact ⟨rfl,rfl⟩
              simp only[Pq.zz]
            refine Pq.WL_cell ⟨b,o,none⟩ _ (Pq.cell_in CN.out K) (by rfl) _ _ rfl rfl _ u_bool rfl ?_
            simp only[Pq.zz]
            iterate 3
              refine Pq.WL_step (by rfl) ?_
              apply Exists.intro
              apply Exists.intro
              refine ⟨?_,?_⟩
              · go_simp;first|done|with_reducible rfl|exact ⟨rfl,rfl⟩
              simp only[Pq.zz]
            refine Pq.WL_skip (by kernel_rfl) ?_
            simp only[Pq.zz]
            refine Pq.WL_skip (by kernel_rfl) ?_
            simp only[Pq.zz]
            refine Pq.WL_skip (by kernel_rfl) ?_
            simp only[Pq.zz]
            refine Pq.WL_skip (by kernel_rfl) ?_
            simp only[Pq.zz]
            refine Pq.WL_step (by rfl) ?_
            apply Exists.intro
            apply Exists.intro
            refine ⟨?_,?_⟩
            · go_simp;first|done|with_reducible rfl|exact ⟨rfl,rfl⟩
            simp only[Pq.zz]
            refine Pq.WL_nil ?_
            go_upto_region 4 with fail
            go_upto_region 4 with fail
            apply wp_region_lit
            refine Pq.wpL_build (by rfl) _ [] rfl [] rfl _ built_small0 ?_
            simp only[Pq.zz]
            refine Pq.wpL_store (by rfl) 184 _ _ rfl g #[.int .i64 0,.int .i64 0] rfl rfl 184 #[.int .i64 0,.int .i64 0] HG0.out (s_small _ _) rfl (small_one _ _) ?_
            try simp only[Pq.zz]
            refine Pq.wpL_step (by rfl) ?_
            apply Exists.intro
            apply Exists.intro
            refine ⟨?_,?_⟩
            · go_simp;first|done|with_reducible rfl|exact ⟨rfl,rfl⟩
            simp only[Pq.zz]
            refine Pq.wpL_nil ?_
            go_wp2
            refine Pq.ret_cell_tmp rfl g _ _ _ _ _ rfl rfl (Pq.setRow_at HG0.out) u_small rfl (s_small _ _) rfl ⟨by rw[HRES.out];rfl,Pq.below_setRow HB.out (by rw[HG.out];exact Nat.le_refl _)⟩
        · have hab:(a==0)=false:=by simpa using ha0
          by_cases hg1:G=1
          · have hge:((G:Int)==1)=true:=by rw[hg1];rfl
            have HRES:Hid (res=.tuple #[.agg #[.int .i64 a,.int .i64 d],.bool true]):=Lib.hid (by rw[HRE.out,Pq.smv_ok ⟨HX1.out,HY1.out,by rw[←HDZ.out];have:=HDP.out;omega,(fun h=>ha0 (by rw[HAZ.out,h.1];unfold Pq.zv;split <;> rfl)),by rw[←HGX.out];exact hg1⟩,HAZ.out,HDZ.out])
            clear hg1 ha0
            go_upto_region 3 with fail
            go_upto_region 3 with fail
            apply Pq.wp_region_guard
            iterate 14
              refine Pq.WL_step (by rfl) ?_
              apply Exists.intro
              apply Exists.intro
              refine ⟨?_,?_⟩
              · go_simp;first|done|with_reducible rfl|exact ⟨rfl,rfl⟩
              simp only[Pq.zz]
            refine Pq.WL_skip (by kernel_rfl) ?_
            simp only[Pq.zz]
            refine Pq.WL_skip (by kernel_rfl) ?_
            simp only[Pq.zz]
            refine Pq.WL_skip (by kernel_rfl) ?_
            simp only[Pq.zz]
            refine Pq.WL_skip (by kernel_rfl) ?_
            simp only[Pq.zz]
            refine Pq.WL_skip (by kernel_rfl) ?_
            simp only[Pq.zz]
            iterate 5
              refine Pq.WL_step (by rfl) ?_
              apply Exists.intro
              apply Exists.intro
              refine ⟨?_,?_⟩
              · go_simp;first|done|with_reducible rfl|exact ⟨rfl,rfl⟩
              simp only[Pq.zz]
            refine Pq.WL_ret (by rfl) cf_common (common_any a d _ (by omega) (by omega) (by omega) (by omega)) rfl rfl ?_;intro w3 hb3;rw[←HGE.out]
            simp only[Pq.zz]
            iterate 2
              refine Pq.WL_step (by rfl) ?_
              apply Exists.intro
              apply Exists.intro
              refine ⟨?_,?_⟩
              · go_simp;first|done|with_reducible rfl|exact ⟨rfl,rfl⟩
              simp only[Pq.zz]
            refine Pq.WL_nil ?_
            go_upto_region 5 with fail
            go_upto_region 5 with fail
            apply wp_region_lit
            iterate 2
              refine Pq.wpL_step (by rfl) ?_
              apply Exists.intro
              apply Exists.intro
              refine ⟨?_,?_⟩
              · go_simp;first|done|with_reducible rfl|exact ⟨rfl,rfl⟩
              simp only[Pq.zz]
            refine Pq.wpL_build (by rfl) _ [(0,.tmp 50),(1,.tmp 51)] rfl _ rfl _ (built_small a d) ?_
            simp only[Pq.zz]
            refine Pq.wpL_store (by rfl) 184 _ _ rfl g #[.int .i64 a,.int .i64 d] rfl rfl 184 #[.int .i64 0,.int .i64 0] (Pq.keep_block HG0.out hb3) (s_small _ _) rfl (small_one _ _) ?_
            try simp only[Pq.zz]
            refine Pq.wpL_step (by rfl) ?_
            apply Exists.intro
            apply Exists.intro
            refine ⟨?_,?_⟩
            · go_simp;first|done|with_reducible rfl|exact ⟨rfl,rfl⟩
            simp only[Pq.zz]
            refine Pq.wpL_nil ?_
            go_wp2
            refine Pq.ret_cell_tmp rfl g _ _ _ _ _ rfl rfl (Pq.setRow_at (Pq.keep_block HG0.out hb3)) u_small rfl (s_small _ _) rfl ⟨by rw[HRES.out];rfl,Pq.below_setRow (Pq.below_next HB.out (Nat.le_refl _) hb3) (by rw[HG.out];exact Nat.le_refl _)⟩
          · have hge:((G:Int)==1)=false:=(by have h4:¬ (G:Int)=1:=(by omega);simpa using h4)
            have HRES:Hid (res=.tuple #[.agg #[.int .i64 0,.int .i64 0],.bool false]):=Lib.hid (by rw[HRE.out,Pq.smv_no (fun h=>hg1 (by rw[HGX.out];exact h.2.2.2.2))])
            clear hg1 ha0
            go_upto_region 3 with fail
            go_upto_region 3 with fail
            apply Pq.wp_region_guard
            iterate 14
              refine Pq.WL_step (by rfl) ?_
              apply Exists.intro
              apply Exists.intro
              refine ⟨?_,?_⟩
              · go_simp;first|done|with_reducible rfl|exact ⟨rfl,rfl⟩
              simp only[Pq.zz]
            refine Pq.WL_skip (by kernel_rfl) ?_
            simp only[Pq.zz]
            refine Pq.WL_skip (by kernel_rfl) ?_
            simp only[Pq.zz]
            refine Pq.WL_skip (by kernel_rfl) ?_
            simp only[Pq.zz]
            refine Pq.WL_skip (by kernel_rfl) ?_
            simp only[Pq.zz]
            refine Pq.WL_skip (by kernel_rfl) ?_
            simp only[Pq.zz]
            iterate 5
              refine Pq.WL_step (by rfl) ?_
              apply Exists.intro
              apply Exists.intro
              refine ⟨?_,?_⟩
              · go_simp;first|done|with_reducible rfl|exact ⟨rfl,rfl⟩
              simp only[Pq.zz]
            refine Pq.WL_ret (by rfl) cf_common (common_any a d _ (by omega) (by omega) (by omega) (by omega)) rfl rfl ?_;intro w3 hb3;rw[←HGE.out]
            simp only[Pq.zz]
            iterate 2
              refine Pq.WL_step (by rfl) ?_
              apply Exists.intro
              apply Exists.intro
              refine ⟨?_,?_⟩
              · go_simp;first|done|with_reducible rfl|exact ⟨rfl,rfl⟩
              simp only[Pq.zz]
            refine Pq.WL_nil ?_
            go_upto_region 4 with fail
            go_upto_region 4 with fail
            apply wp_region_lit
            refine Pq.wpL_build (by rfl) _ [] rfl [] rfl _ built_small0 ?_
            simp only[Pq.zz]
            refine Pq.wpL_store (by rfl) 184 _ _ rfl g #[.int .i64 0,.int .i64 0] rfl rfl 184 #[.int .i64 0,.int .i64 0] (Pq.keep_block HG0.out hb3) (s_small _ _) rfl (small_one _ _) ?_
            try simp only[Pq.zz]
            refine Pq.wpL_step (by rfl) ?_
            apply Exists.intro
            apply Exists.intro
            refine ⟨?_,?_⟩
            · go_simp;first|done|with_reducible rfl|exact ⟨rfl,rfl⟩
            simp only[Pq.zz]
            refine Pq.wpL_nil ?_
            go_wp2
            refine Pq.ret_cell_tmp rfl g _ _ _ _ _ rfl rfl (Pq.setRow_at (Pq.keep_block HG0.out hb3)) u_small rfl (s_small _ _) rfl ⟨by rw[HRES.out];rfl,Pq.below_setRow (Pq.below_next HB.out (Nat.le_refl _) hb3) (by rw[HG.out];exact Nat.le_refl _)⟩
end Go.Proofs.YtbkfakkkikmcbaaGreatDoor
namespace Ax
open Go Go.RowKit
abbrev cW:Cd:=.pair .bool .words
abbrev cF:Cd:=.pair cW cW
abbrev W:=El cW
abbrev F:=El cF
def ArgsAre (w:World) (R:Nat→Prop) (ts:List (Bool×Cd)) (x:Els ts) (vs:List Value):Prop:=
  vs.length=(encs ts x).length ∧ ∀ (i:Nat) a v,(encs ts x)[i]?=some a→vs[i]?=some v→AvIs w R [] a v
theorem ret_con {P:Program} {f:FuncId} (ts:List (Bool×Cd)) (sp:Els ts→T Av)
    (h : ∀ x vs w R Q,ArgsAre w R ts x vs→(sp x).wp Q → ∃ v av,Q av∧Calls P f vs.toArray w (Pq.Ret w v) ∧ ∀ w' R,AvIs w' R [] av v):ConOk P f [] (pureRun' ts sp):=by
  intro w φ σ m args vs Q hmem hlen hargs hrun
  unfold pureRun' at hrun
  split at hrun
  · rename_i x hx
    rw[T.wp_bind]at hrun
    obtain ⟨v,av,hQ,hc,hv⟩:=h x vs w _ _ (decs_ok ts args x vs hx hlen hargs) hrun
    refine hc.mono fun e w' hr=>?_
    obtain ⟨rfl,hb⟩:=hr
    have hk:=Keep.of_below hb σ
    have hown : ∀ i b:Nat,σ[i]?=some b→w'.heap[b]?=w.heap[b]?:=fun i b hi=>hb.block b (hmem.lt (List.mem_of_getElem? hi))
    exact ⟨v,av,m,σ,rfl,hQ,Ext.refl _ _,hk,fun i b hi _=>hown i b hi,(hv w' _).ro (fun _ h=>h) σ,hmem.stay hk (Ext.refl _ _) rfl hown⟩
  · exact hrun.elim
theorem is_w {w:World} {R:Nat→Prop} {x:W} {us:List Value} (h:Is w R [] (ck cW x) us):us=Pq.wl x.1 x.2.1:=by
  obtain ⟨t,rfl,h1⟩:=is_v h
  cases h1 with|w h2=>cases h2;simp[Pq.wl]
theorem w_is (w:World) (R:Nat→Prop) (σ:List Nat) (x:W):Is w R σ (ck cW x) (Pq.wl x.1 x.2.1):=by
  have:Is w R σ (ck cW x) (.bool x.1::(Pq.am 32 x.2.1++[])):=.v rfl (.w .nil)
  rwa [List.append_nil]at this
theorem av_w {w:World} {R:Nat→Prop} {x:W} {v:Value} (h:AvIs w R [] (encA true cW x) v):v=.agg (Pq.wc x.1 x.2.1):=by
  cases h with|agg h=>rw[is_w h];rfl
theorem w_av (w:World) (R:Nat→Prop) (σ:List Nat) (x:W):AvIs w R σ (.agg (ck cW x)) (.agg (Pq.wc x.1 x.2.1)):=.agg (w_is w R σ x)
theorem args1 {w:World} {R:Nat→Prop} {t:Bool×Cd} {x:Els [t]} {vs:List Value} (h:ArgsAre w R [t] x vs) : ∃ v,vs=[v]∧AvIs w R [] (encA t.1 t.2 x.1) v:=by
  obtain ⟨hl,h⟩:=h
  match vs,hl with
  | [v],_=>exact ⟨v,rfl,h 0 _ v rfl rfl⟩
theorem args2 {w:World} {R:Nat→Prop} {t u:Bool×Cd} {x:Els [t,u]} {vs:List Value} (h:ArgsAre w R [t,u] x vs) : ∃ v v',vs=[v,v']∧AvIs w R [] (encA t.1 t.2 x.1) v∧AvIs w R [] (encA u.1 u.2 x.2.1) v':=by
  obtain ⟨hl,h⟩:=h
  match vs,hl with
  | [v,v'],_=>exact ⟨v,v',rfl,h 0 _ v rfl rfl,h 1 _ v' rfl rfl⟩
def zW (x:W):Int:=Pq.zv x.1 x.2.1
def w0:W:=(false,⟨0,Pq.bp_pos 32⟩)
def wOf (z:Int):W:=if h:z.natAbs<Pq.bp 32 then (decide (z<0),⟨z.natAbs,h⟩) else w0
theorem wOf_ok {z:Int} (h:z.natAbs<Pq.bp 32):Pq.wc (wOf z).1 (wOf z).2.1=Pq.wz z:=by unfold wOf;rw[dif_pos h];rfl
theorem wOf_no {z:Int} (h:¬ z.natAbs<Pq.bp 32):Pq.wc (wOf z).1 (wOf z).2.1=Pq.wz 0:=by unfold wOf;rw[dif_neg h];rfl
def rW (z:Int):Av:=.tup [.agg (ck cW (wOf z)),.one (.v (.bool (Pq.fits z)))]
theorem rW_is (w:World) (R:Nat→Prop) (z:Int):AvIs w R [] (rW z) (Pq.rz z):=by
  have h:AvIs w R [] (rW z) (.tuple [.agg (Pq.wc (wOf z).1 (wOf z).2.1),.bool (Pq.fits z)].toArray):=AvIs.tup _ rfl fun i a u ha hu=>by
    match i,ha,hu with
    | 0,rfl,rfl=>exact w_av _ _ _ _
    | 1,rfl,rfl=>exact .val rfl
  have e:Pq.rz z=.tuple [.agg (Pq.wc (wOf z).1 (wOf z).2.1),.bool (Pq.fits z)].toArray:=by
    unfold Pq.rz
    by_cases hz:z.natAbs<Pq.bp 32
    · have hf:Pq.fits z=true:=by simpa [Pq.fits] using hz
      rw[wOf_ok hz,hf];rfl
    · have hf:Pq.fits z=false:=by simpa [Pq.fits] using hz
      rw[wOf_no hz,hf];rfl
  rw[e];exact h
theorem wOf_nat {n:Nat} (h:n<Pq.bp 32):Pq.wc (wOf (n:Int)).1 (wOf (n:Int)).2.1=Pq.wc false n:=by
  rw[wOf_ok (by simpa using h),Pq.wz_nat]
theorem int_av {w:World} {R:Nat→Prop} {k:IntKind} {z:Int} {v:Value} (h:AvIs w R [] (encA false (.int k) z) v):v=.int k z:=val_of h rfl
theorem two_av {w:World} {R:Nat→Prop} {a b:Av} {x y:Value} (h1:AvIs w R [] a x) (h2:AvIs w R [] b y):AvIs w R [] (.tup [a,b]) (.tuple #[x,y]):=by
  have:AvIs w R [] (.tup [a,b]) (.tuple [x,y].toArray):=AvIs.tup _ rfl fun i c u hc hu=>by
    match i,hc,hu with
    | 0,rfl,rfl=>exact h1
    | 1,rfl,rfl=>exact h2
  exact this
theorem three_av {w:World} {R:Nat→Prop} {a b c:Av} {x y z:Value} (h1:AvIs w R [] a x) (h2:AvIs w R [] b y) (h3:AvIs w R [] c z):AvIs w R [] (.tup [a,b,c]) (.tuple #[x,y,z]):=by
  have:AvIs w R [] (.tup [a,b,c]) (.tuple [x,y,z].toArray):=AvIs.tup _ rfl fun i c u hc hu=>by
    match i,hc,hu with
    | 0,rfl,rfl=>exact h1
    | 1,rfl,rfl=>exact h2
    | 2,rfl,rfl=>exact h3
  exact this
def aI (k:IntKind) (z:Int):Av:=.one (.v (.int k z))
def aB (b:Bool):Av:=.one (.v (.bool b))
def aW (z:Int):Av:=.agg (ck cW (wOf z))
theorem aW_is (w:World) (R:Nat→Prop) {z:Int} (h:z.natAbs<Pq.bp 32):AvIs w R [] (aW z) (.agg (Pq.wz z)):=by
  have:=w_av w R [] (wOf z)
  rwa [wOf_ok h]at this
def dmA (a b:Int):Av:=.tup [aW (if b=0 then 0 else a.tdiv b),aW (if b=0 then 0 else a.tmod b),aB (decide (b≠0))]
theorem tdiv_le (a b:Int):(a.tdiv b).natAbs≤a.natAbs:=by rw[Int.natAbs_tdiv];exact Nat.div_le_self _ _
theorem tmod_le (a b:Int):(a.tmod b).natAbs≤a.natAbs:=by rw[Int.natAbs_tmod];exact Nat.mod_le _ _
theorem dmA_is (w:World) (R:Nat→Prop) {a b:Int} (ha:a.natAbs<Pq.bp 32):AvIs w R [] (dmA a b) (Pq.dmv a b):=by
  unfold dmA Pq.dmv
  by_cases hb:b=0
  · simp only[hb,if_true]
    exact three_av (aW_is _ _ (Pq.bp_pos 32)) (aW_is _ _ (Pq.bp_pos 32)) (.val rfl)
  · simp only[hb,if_false]
    exact three_av (aW_is _ _ (Nat.lt_of_le_of_lt (tdiv_le _ _) ha)) (aW_is _ _ (Nat.lt_of_le_of_lt (tmod_le _ _) ha)) (.val rfl)
theorem zW_lt (x:W):(zW x).natAbs<Pq.bp 32:=by unfold zW;rw[Pq.zv_abs];exact x.2.2
def derefA (m:Mem) (c:Cd) (av:Av):Option (El c):=
  match av with
  | .one (.p i off)=>match m[i]? with
    | some (_,cs)=>match sub off (csz c) cs with
      | some r=>match parse c r with
        | some (x,[])=>some x
        | _=>none
      | none=>none
    | none=>none
  | .one (.pr cs)=>match sub 0 (csz c) cs with
    | some r=>match parse c r with
      | some (x,[])=>some x
      | _=>none
    | none=>none
  | _=>none
theorem deref_ok {w:World} {φ σ:List Nat} {m:Mem} {c:Cd} {av:Av} {x:El c} {v:Value} (hm:MemOk w φ σ m) (h:AvIs w (Ro w φ σ) σ av v) (hd:derefA m c av=some x) :
    ∃ b o us,v=.pointer (some ⟨b,o,none⟩)∧w.rangeAt b o us∧Is w (Ro w φ σ) [] (ck c x) us:=by
  unfold derefA at hd
  split at hd
  · rename_i i off
    obtain ⟨b,hb,rfl⟩:=is_one_p h
    split at hd
    · rename_i t cs hmi
      split at hd
      · rename_i r hr
        split at hd
        · rename_i y hp
          cases hd
          obtain ⟨us,hbl,his⟩:=hm.blk i t cs b hmi hb
          obtain ⟨ua,um,ub,rfl,e1,e2,i2⟩:=is_sub his hr
          obtain ⟨va,vb,rfl,j1,j2⟩:=parse_ok c r x [] um hp i2
          cases j2
          have hrg:=range_part (range_of_block hbl)
          rw[Nat.zero_add,e1,List.append_nil]at hrg
          exact ⟨b,off,va,rfl,hrg,j1⟩
        · cases hd
      · cases hd
    · cases hd
  · rename_i cs
    obtain ⟨b,o,vs,hR,hrg,hcs,rfl⟩:=is_one_pr h
    split at hd
    · rename_i r hr
      split at hd
      · rename_i y hp
        cases hd
        obtain ⟨ua,um,ub,rfl,e1,e2,i2⟩:=is_sub hcs hr
        obtain ⟨va,vb,rfl,j1,j2⟩:=parse_ok c r x [] um hp i2
        cases j2
        have hrg:=range_part hrg
        rw[e1,List.append_nil,Nat.add_zero]at hrg
        exact ⟨b,o,va,rfl,hrg,j1⟩
      · cases hd
    · cases hd
  · cases hd
def ptrRun (c:Cd) (sp:El c→T Av) (args:List Av) (m:Mem):T (Av×Mem):=
  match args with
  | [a]=>match derefA m c a with
    | some x=>(sp x).bind fun av=>.ret (av,m)
    | none=>.fail
  | _=>.fail
theorem ptr_con {P:Program} {f:FuncId} (c:Cd) (sp:El c→T Av)
    (h : ∀ x b o us w R Q,w.rangeAt b o us→Is w R [] (ck c x) us→(sp x).wp Q → ∃ v av,Q av∧Calls P f #[.pointer (some ⟨b,o,none⟩)] w (Pq.Ret w v) ∧ ∀ w' R,AvIs w' R [] av v):ConOk P f [] (ptrRun c sp):=by
  intro w φ σ m args vs Q hmem hlen hargs hrun
  unfold ptrRun at hrun
  split at hrun
  · rename_i a
    obtain ⟨v0,rfl⟩ : ∃ v,vs=[v]:=by
      match vs,hlen with
      | [v],_=>exact ⟨v,rfl⟩
    split at hrun
    · rename_i x hx
      rw[T.wp_bind]at hrun
      obtain ⟨b,o,us,rfl,hrg,his⟩:=deref_ok hmem (hargs 0 a v0 rfl rfl) hx
      obtain ⟨v,av,hQ,hc,hv⟩:=h x b o us w _ _ hrg his hrun
      refine hc.mono fun e w' hr=>?_
      obtain ⟨rfl,hb⟩:=hr
      have hk:=Keep.of_below hb σ
      have hown : ∀ i b:Nat,σ[i]?=some b→w'.heap[b]?=w.heap[b]?:=fun i b hi=>hb.block b (hmem.lt (List.mem_of_getElem? hi))
      exact ⟨v,av,m,σ,rfl,hQ,Ext.refl _ _,hk,fun i b hi _=>hown i b hi,(hv w' _).ro (fun _ h=>h) σ,hmem.stay hk (Ext.refl _ _) rfl hown⟩
    · exact hrun.elim
  · exact hrun.elim
theorem is_f {w:World} {R:Nat→Prop} {x:F} {us:List Value} (h:Is w R [] (ck cF x) us):us=Pq.fl x.1.1 x.1.2.1 x.2.1 x.2.2.1:=by
  obtain ⟨t,rfl,h1⟩:=is_v h
  cases h1 with|w h2 =>
  obtain ⟨t,rfl,h3⟩:=is_v h2
  cases h3 with|w h4=>cases h4;simp[Pq.fl,Pq.wl]
theorem f_is (w:World) (R:Nat→Prop) (σ:List Nat) (x:F):Is w R σ (ck cF x) (Pq.fl x.1.1 x.1.2.1 x.2.1 x.2.2.1):=(w_is w R σ x.1).app (w_is w R σ x.2)
def isW (x:W):Bool := !x.1 || !(x.2.1==0)
def in64 (z:Int):Prop := -9223372036854775808≤z∧z≤9223372036854775807
def in63 (z:Int):Prop := -9223372036854775807≤z∧z≤9223372036854775807
def smB (x:F):Bool:=decide (Pq.smk x.1.1 x.1.2.1 x.2.1 x.2.2.1)
abbrev cS:Cd:=.pair (.int .i64) (.int .i64)
def smA (x:F):Av:=.tup [.agg (ck cS (if smB x then (zW x.1,zW x.2) else (0,0))),aB (smB x)]
end Ax
namespace Go.Proofs.YtbkfakkkikmcbaaGreatDoor
open Go.RowKit Ax
noncomputable def con_neg:Con Tryz.prog:=⟨160,[],pureRun' [(true,cW)] (fun x=>.lt (-(zW x.1)) fun z=>.ret (aW z)),cf_neg,ret_con _ _ fun x vs w R Q ha hQ=>by
  obtain ⟨v,rfl,h1⟩:=args1 ha
  rw[av_w h1]
  exact ⟨_,_,hQ,neg_any x.1.1 x.1.2.1 w x.1.2.2,fun w' R'=>aW_is _ _ (by rw[Int.natAbs_neg];exact zW_lt _)⟩⟩
noncomputable def con_add:Con Tryz.prog:=⟨86,[],pureRun' [(true,cW),(true,cW)] (fun x=>.lt (zW x.1+zW x.2.1) fun z=>.ret (rW z)),cf_add,ret_con _ _ fun x vs w R Q ha hQ=>by
  obtain ⟨v,v',rfl,h1,h2⟩:=args2 ha
  rw[av_w h1,av_w h2]
  exact ⟨_,_,hQ,add_any x.1.1 x.1.2.1 x.2.1.1 x.2.1.2.1 w x.1.2.2 x.2.1.2.2,fun w' R'=>rW_is _ _ _⟩⟩
noncomputable def con_mul:Con Tryz.prog:=⟨130,[],pureRun' [(true,cW),(true,cW)] (fun x=>.lt (zW x.1*zW x.2.1) fun z=>.ret (rW z)),cf_mul,ret_con _ _ fun x vs w R Q ha hQ=>by
  obtain ⟨v,v',rfl,h1,h2⟩:=args2 ha
  rw[av_w h1,av_w h2]
  exact ⟨_,_,hQ,mul_any x.1.1 x.1.2.1 x.2.1.1 x.2.1.2.1 w x.1.2.2 x.2.1.2.2,fun w' R'=>rW_is _ _ _⟩⟩
noncomputable def con_cmp:Con Tryz.prog:=⟨85,[],pureRun' [(true,cW),(true,cW)] (fun x=>.ret (aI .i64 (Pq.cz (zW x.1) (zW x.2.1)))),cf_wcmp,ret_con _ _ fun x vs w R Q ha hQ=>by
  obtain ⟨v,v',rfl,h1,h2⟩:=args2 ha
  rw[av_w h1,av_w h2]
  exact ⟨_,_,hQ,cmp_any x.1.1 x.1.2.1 x.2.1.1 x.2.1.2.1 w x.1.2.2 x.2.1.2.2,fun w' R'=>.val rfl⟩⟩
noncomputable def con_is:Con Tryz.prog:=⟨118,[],pureRun' [(true,cW)] (fun x=>.ret (aB (isW x.1))),cf_is,ret_con _ _ fun x vs w R Q ha hQ=>by
  obtain ⟨v,rfl,h1⟩:=args1 ha
  rw[av_w h1]
  exact ⟨_,_,hQ,is_any x.1.1 x.1.2.1 w x.1.2.2,fun w' R'=>.val rfl⟩⟩
noncomputable def con_divmod:Con Tryz.prog:=⟨83,[],pureRun' [(true,cW),(true,cW)] (fun x=>.lt (zW x.1) fun a=>.lt (zW x.2.1) fun b=>.ret (dmA a b)),cf_divmod,ret_con _ _ fun x vs w R Q ha hQ=>by
  obtain ⟨v,v',rfl,h1,h2⟩:=args2 ha
  rw[av_w h1,av_w h2]
  exact ⟨_,_,hQ,divmod_any x.1.1 x.1.2.1 x.2.1.1 x.2.1.2.1 w x.1.2.2 x.2.1.2.2,fun w' R'=>dmA_is _ _ (zW_lt _)⟩⟩
theorem gcd_lt' {x y:Nat} (hx:x<Pq.bp 32) (hy:y<Pq.bp 32):Nat.gcd x y<Pq.bp 32:=by
  rcases Nat.eq_zero_or_pos y with h|h
  · rw[h,Nat.gcd_zero_right];exact hx
  · exact Nat.lt_of_le_of_lt (Nat.gcd_le_right _ h) hy
noncomputable def con_gcd:Con Tryz.prog:=⟨119,[],pureRun' [(true,cW),(true,cW)] (fun x=>.lt ((Nat.gcd (zW x.1).natAbs (zW x.2.1).natAbs:Nat):Int) fun z=>.ret (aW z)),cf_gcd,ret_con _ _ fun x vs w R Q ha hQ=>by
  obtain ⟨v,v',rfl,h1,h2⟩:=args2 ha
  rw[av_w h1,av_w h2]
  refine ⟨_,_,hQ,gcd_any x.1.1 x.1.2.1 x.2.1.1 x.2.1.2.1 w x.1.2.2 x.2.1.2.2,fun w' R'=>?_⟩
  unfold zW
  rw[Pq.zv_abs,Pq.zv_abs]
  have h:=w_av w' R' [] (wOf ((Nat.gcd x.1.2.1 x.2.1.2.1:Nat):Int))
  rw[wOf_nat (gcd_lt' x.1.2.2 x.2.1.2.2)]at h
  exact h⟩
theorem i64_lt {z:Int} (h1 : -9223372036854775808≤z) (h2:z≤9223372036854775807):z.natAbs<Pq.bp 32:=by
  have h3:Pq.bp 2≤Pq.bp 32:=Pq.bp_mono (by omega)
  have h4:Pq.bp 2=18446744073709551616:=by decide
  omega
noncomputable def con_from:Con Tryz.prog:=⟨84,[],pureRun' [(false,.int .i64)] (fun x=>.need (in64 x.1) (.ret (aW x.1))),cf_from,ret_con _ _ fun x vs w R Q ha hQ=>by
  obtain ⟨v,rfl,h1⟩:=args1 ha
  rw[int_av h1]
  exact ⟨_,_,hQ.2,from_any x.1 w hQ.1.1 hQ.1.2,fun w' R'=>aW_is _ _ (i64_lt hQ.1.1 hQ.1.2)⟩⟩
noncomputable def con_one:Con Tryz.prog:=⟨87,[],pureRun' [] (fun _=>.ret (aW 1)),cf_one,ret_con _ _ fun x vs w R Q ha hQ=>by
  obtain ⟨hl,_⟩:=ha
  obtain rfl:vs=[]:=List.length_eq_zero_iff.1 (by simpa [encs] using hl)
  exact ⟨_,_,hQ,one_any w,fun w' R'=>aW_is (z:=1) _ _ Pq.bp_one_lt⟩⟩
noncomputable def con_isone:Con Tryz.prog:=⟨68,[],pureRun' [(true,cW)] (fun x=>.ret (aB (decide (zW x.1=1)))),cf_isone,ret_con _ _ fun x vs w R Q ha hQ=>by
  obtain ⟨v,rfl,h1⟩:=args1 ha
  rw[av_w h1]
  exact ⟨_,_,hQ,isone_any x.1.1 x.1.2.1 w x.1.2.2,fun w' R'=>.val rfl⟩⟩
noncomputable def con_common:Con Tryz.prog:=⟨158,[],pureRun' [(false,.int .i64),(false,.int .i64)] (fun x=>.need (in63 x.1∧in63 x.2.1) (.ret (aI .i64 ((Nat.gcd x.1.natAbs x.2.1.natAbs:Nat):Int)))),cf_common,ret_con _ _ fun x vs w R Q ha hQ=>by
  obtain ⟨v,v',rfl,h1,h2⟩:=args2 ha
  rw[int_av h1,int_av h2]
  exact ⟨_,_,hQ.2,common_any x.1 x.2.1 w hQ.1.1.1 hQ.1.1.2 hQ.1.2.1 hQ.1.2.2,fun w' R'=>.val rfl⟩⟩
noncomputable def con_smallof:Con Tryz.prog:=⟨117,[],ptrRun cF (fun x=>.ret (smA x)),cf_smallof,ptr_con _ _ fun x b o us w R Q hrg his hQ=>by
  have e:=is_f his
  subst e
  refine ⟨_,_,hQ,smallof_any b o x.1.1 x.1.2.1 x.2.1 x.2.2.1 w x.1.2.2 x.2.2.2 hrg,fun w' R'=>?_⟩
  unfold smA smB Pq.smv
  refine two_av ?_ (.val rfl)
  by_cases h:Pq.smk x.1.1 x.1.2.1 x.2.1 x.2.2.1
  · simp only[h,decide_true,if_true]
    exact .agg (us:=[_,_]) (.v rfl (.v rfl .nil))
  · simp only[h,decide_false,Bool.false_eq_true,if_false]
    exact .agg (us:=[_,_]) (.v rfl (.v rfl .nil))⟩
noncomputable def zeroW:Zero Tryz.prog:=⟨39,ck cW w0,Pq.wl false 0,by kernel_rfl,fun w R σ=>w_is w R σ w0⟩
noncomputable def zeroF:Zero Tryz.prog:=⟨41,ck cF (w0,w0),Pq.fl false 0 false 0,by kernel_rfl,fun w R σ=>f_is w R σ (w0,w0)⟩
noncomputable def zeroS:Zero Tryz.prog:=⟨184,ck cS (0,0),[.int .i64 0,.int .i64 0],by kernel_rfl,fun w R σ=>.v rfl (.v rfl .nil)⟩
noncomputable def zeroB:Zero Tryz.prog:=⟨4,ck .bool false,[.bool false],by kernel_rfl,fun w R σ=>.v rfl .nil⟩
noncomputable def codF:Cod Tryz.prog:=⟨41,cF,by kernel_rfl,⟨.agg (Pq.fc false 0 false 0),fun w=>by kernel_rfl⟩⟩
noncomputable def E1:Env Tryz.prog:=⟨[con_neg,con_add,con_mul,con_cmp,con_is,con_divmod,con_gcd,con_from,con_one,con_isone,con_common,con_smallof],[zeroW,zeroF,zeroS,zeroB],[codF],fun _=>false,0,fun _=>[]⟩
end Go.Proofs.YtbkfakkkikmcbaaGreatDoor
namespace Ax
open Go Go.RowKit
theorem pow_eq2 {a m n k:Nat} (h:a=2^m) (hk:k=m*n):a^n=2^k:=by subst h hk;rw[Nat.pow_mul]
theorem bp_ge {k:Nat} (n:Nat) (hn:n=1024) (hk:k≤n):2^k≤Pq.bp 32:=by
  have e:Pq.bp 32=2^n:=pow_eq2 (m:=32) (n:=32) rfl (by omega)
  rw[e]
  exact Nat.pow_le_pow_right (by omega) hk
theorem bp_le {a:Nat} (n:Nat) (hn:n=1024) (ha:a<Pq.bp 32):a<2^n:=by
  have e:Pq.bp 32=2^n:=pow_eq2 (m:=32) (n:=32) rfl (by omega)
  rwa [e]at ha
theorem zW_wOf {z:Int} (h:z.natAbs<Pq.bp 32):zW (wOf z)=z:=by
  unfold zW wOf
  rw[dif_pos h]
  exact Pq.zv_back z
theorem zW_w0:zW w0=0:=rfl
theorem cz_gt (a:Int):(Pq.cz a (zW w0)>0)↔0<a:=by
  rw[zW_w0]
  unfold Pq.cz
  split
  · omega
  · split <;> omega
theorem cz_lt (a b:Int):Pq.cz a b<0↔a<b:=by
  unfold Pq.cz
  split
  · omega
  · split <;> omega
def OkF (x:F):Prop:=¬ (x.1.1=true∧x.1.2.1=0)∧0<zW x.2∧Nat.gcd (zW x.1).natAbs (zW x.2).natAbs=1
instance (x:F):Decidable (OkF x):=by unfold OkF;infer_instance
def okF (x:F):Bool:=decide (OkF x)
theorem isW_iff (x:W):isW x=true↔¬ (x.1=true∧x.2.1=0):=by
  unfold isW
  cases x.1 <;> simp
theorem isW_pos {x:W} (h:0<zW x):isW x=true:=by
  rw[isW_iff]
  rintro ⟨h1,h2⟩
  unfold zW Pq.zv at h
  rw[h1,h2]at h
  simp at h
theorem sm_ok {x:F} (h:smB x=true):OkF x:=by
  have h1:=of_decide_eq_true h
  obtain ⟨a,b,c,d,e⟩:=h1
  refine ⟨fun h=>d ⟨h.2,h.1⟩,c,?_⟩
  unfold zW
  rw[Pq.zv_abs,Pq.zv_abs];exact e
theorem gcd_bp (x y:W):((Nat.gcd (zW x).natAbs (zW y).natAbs:Nat):Int).natAbs<Pq.bp 32:=by
  rw[Int.natAbs_natCast]
  have hx:=zW_lt x
  have hy:=zW_lt y
  rcases Nat.eq_zero_or_pos (zW y).natAbs with h|h
  · rw[h,Nat.gcd_zero_right];exact hx
  · exact Nat.lt_of_le_of_lt (Nat.gcd_le_right _ h) hy
def Fits (r:Rat):Prop:=r.num.natAbs<Pq.bp 32∧r.den<Pq.bp 32
def SafeF (b:Int) (x:F):Prop:=(Pq.bitn (zW x.1).natAbs:Int)≤b∧(Pq.bitn (zW x.2).natAbs:Int)≤b∧OkF x
instance (b:Int) (x:F):Decidable (SafeF b x):=by unfold SafeF;infer_instance
def safeF (b:Int) (x:F):Bool:=decide (SafeF b x)
def ansF (b:Bool) (f:F):Av:=ansA true cF b f (w0,w0)
end Ax
namespace Go.Proofs.YtbkfakkkikmcbaaGreatDoor
open Go.RowKit Ax
theorem mixed:Tryz.prog.follows .mixedOrders=true:=by kernel_rfl
theorem cf_ris (xs:Array Value) (w:World):(callFunc 67 xs).run Tryz.prog w=.ok (.enter 67 xs) w:=by kernel_rfl
noncomputable def tr_ris (x:Els [(true,cF)]):T Av:=
 .ite (smB (x.1))
  (.ret (.one (.v (.bool (true)))))
  (.ite (isW x.1.1)
   (.ite (isW x.1.2)
    (.ite (decide (Pq.cz (zW x.1.2) (zW w0)>0))
     (.lt ((↑(Nat.gcd (Int.natAbs (zW x.1.1)) (Int.natAbs (zW x.1.2))):Int)) (fun v4 =>
      .ret (.one (.v (.bool (decide (zW (wOf v4)=1)))))))
     (.ret (.one (.v (.bool (false))))))
    (.ret (.one (.v (.bool (false))))))
   (.ret (.one (.v (.bool (false))))))
theorem tr_ris_eq (x:Els [(true,cF)]):fnP E1 (fun _=>none) Tryz.f67 (encs [(true,cF)] x)=tr_ris x:=by kernel_rfl
theorem ris_ok (x:Els [(true,cF)]):(tr_ris x).wp (· = aB (okF x.1)):=by
  unfold tr_ris
  simp only[T.wp]
  refine ⟨fun h=>?_,fun h=>⟨fun h1=>⟨fun h2=>⟨fun h3=>?_,fun h3=>?_⟩,fun h2=>?_⟩,fun h1=>?_⟩⟩
  · unfold okF;rw[decide_eq_true (sm_ok h)];rfl
  · have h3':=(cz_gt _).1 (of_decide_eq_true h3)
    rw[zW_wOf (gcd_bp _ _)]
    unfold okF aB
    congr 2
    simp only[Ck.v.injEq,Value.bool.injEq]
    by_cases hg:Nat.gcd (zW x.1.1).natAbs (zW x.1.2).natAbs=1
    · rw[decide_eq_true (show OkF x.1 from ⟨(isW_iff _).1 h1,h3',hg⟩),decide_eq_true (by omega)]
    · rw[decide_eq_false (fun h:OkF x.1=>hg h.2.2),decide_eq_false (by omega)]
  · have h3':=of_decide_eq_false h3
    unfold okF
    rw[decide_eq_false (fun h:OkF x.1=>h3' ((cz_gt _).2 h.2.1))];rfl
  · unfold okF
    rw[decide_eq_false (fun h:OkF x.1=>by rw[isW_pos h.2.1]at h2;cases h2)];rfl
  · unfold okF
    rw[decide_eq_false (fun h:OkF x.1=>by rw[(isW_iff _).2 h.1]at h1;cases h1)];rfl
noncomputable def con_ris:Con Tryz.prog:=⟨67,[],_,cf_ris,tot_con (E:=E1) mixed Tryz.func67 no_loops [(true,cF)] (fun x=>aB (okF x.1)) fun x=>by rw[tr_ris_eq];exact ris_ok x⟩
noncomputable def E2:Env Tryz.prog:=⟨con_ris::E1.con,E1.zero,E1.cod,E1.sure,E1.base,E1.frz⟩
noncomputable def E3:Env Tryz.prog:=⟨E2.con,E2.zero,E2.cod,E2.sure,E2.base,E2.frz⟩
noncomputable def E4:Env Tryz.prog:=⟨E3.con,E3.zero,E3.cod,E3.sure,E3.base,E3.frz⟩
end Go.Proofs.YtbkfakkkikmcbaaGreatDoor
namespace Pq
open Go Go.RowKit
end Pq
namespace Go.Proofs.YtbkfakkkikmcbaaGreatDoor
open Go.RowKit
end Go.Proofs.YtbkfakkkikmcbaaGreatDoor
namespace Ax
open Go Go.RowKit
end Ax
namespace Go.Proofs.YtbkfakkkikmcbaaGreatDoor
open Go.RowKit Ax
noncomputable def E5:Env Tryz.prog:=⟨E4.con,E4.zero,E4.cod,E4.sure,E4.base,E4.frz⟩
end Go.Proofs.YtbkfakkkikmcbaaGreatDoor
namespace Go.Proofs.YtbkfakkkikmcbaaGreatDoor
open Go.RowKit Ax
noncomputable def E5a:Env Tryz.prog:=⟨E5.con,E5.zero,E5.cod,E5.sure,E5.base,E5.frz⟩
noncomputable def E6:Env Tryz.prog:=⟨E5a.con,E5a.zero,E5a.cod,E5a.sure,E5a.base,E5a.frz⟩
end Go.Proofs.YtbkfakkkikmcbaaGreatDoor
namespace Ax
open Go Go.RowKit
def both (x y:F):Bool:=safeF 500 x&&safeF 500 y
end Ax
namespace Go.Proofs.YtbkfakkkikmcbaaGreatDoor
open Go.RowKit Ax
noncomputable def E7:Env Tryz.prog:=⟨E6.con,E6.zero,E6.cod,E6.sure,E6.base,E6.frz⟩
noncomputable def E8:Env Tryz.prog:=⟨E7.con,E7.zero,E7.cod,E7.sure,E7.base,E7.frz⟩
theorem cf_reverse (xs:Array Value) (w:World):(callFunc 123 xs).run Tryz.prog w=.ok (.enter 123 xs) w:=by kernel_rfl
noncomputable def codB:Cod Tryz.prog:=⟨5,.int .u8,by kernel_rfl,⟨.int .u8 0,fun w=>by kernel_rfl⟩⟩
def spRev:RSpec:=⟨28,[(2,false,.int .i64),(3,false,.int .i64)],[],[],fun _=>[],0,5,.int .u8,true,fun _=>0⟩
end Go.Proofs.YtbkfakkkikmcbaaGreatDoor
namespace Ax
def revSeg (xs:List Int) (i j:Int):List Int:=(List.range xs.length).map fun (k:Nat)=>if i≤(k:Int)∧(k:Int)≤j then xs.getD (i+j-k).toNat 0 else xs.getD k 0
theorem revSeg_len (xs:List Int) (i j:Int):(revSeg xs i j).length=xs.length:=by simp[revSeg]
theorem revSeg_at {xs:List Int} {i j:Int} {k:Nat} (h:k<xs.length):(revSeg xs i j)[k]?=some (if i≤k∧(k:Int)≤j then xs.getD (i+j-k).toNat 0 else xs.getD k 0):=by
  unfold revSeg
  rw[List.getElem?_map,List.getElem?_range h];rfl
theorem revSeg_end {xs:List Int} {i j:Int} (h:j≤i):revSeg xs i j=xs:=by
  apply List.ext_getElem?
  intro k
  rcases Nat.lt_or_ge k xs.length with hk|hk
  · rw[revSeg_at hk,List.getElem?_eq_getElem hk]
    congr 1
    split
    · rw[show (i+j-k).toNat=k from by omega,List.getD_eq_getElem?_getD,List.getElem?_eq_getElem hk];rfl
    · rw[List.getD_eq_getElem?_getD,List.getElem?_eq_getElem hk];rfl
  · rw[List.getElem?_eq_none (by rw[revSeg_len];exact hk),List.getElem?_eq_none hk]
theorem revSeg_step {xs:List Int} {i j:Int} {a b:Int} (h0:0≤i) (hij:i<j) (hj:j<xs.length) (ha:xs[i.toNat]?=some a) (hb:xs[j.toNat]?=some b):revSeg ((xs.set i.toNat b).set j.toNat a) (i+1) (j-1)=revSeg xs i j:=by
  apply List.ext_getElem?
  intro k
  rcases Nat.lt_or_ge k xs.length with hk|hk
  · rw[revSeg_at hk,revSeg_at (by simpa using hk)]
    congr 1
    have get : ∀ q:Nat,((xs.set i.toNat b).set j.toNat a).getD q 0=if q=j.toNat then a else if q=i.toNat then b else xs.getD q 0:=fun q=>by
      simp only[List.getD_eq_getElem?_getD,List.getElem?_set,List.length_set]
      by_cases e1:j.toNat=q
      · rw[if_pos e1,if_pos (by omega),if_pos e1.symm];rfl
      · rw[if_neg e1,if_neg (Ne.symm e1)]
        by_cases e2:i.toNat=q
        · rw[if_pos e2,if_pos (by omega),if_pos e2.symm];rfl
        · rw[if_neg e2,if_neg (Ne.symm e2)]
    have ga:xs.getD i.toNat 0=a:=by rw[List.getD_eq_getElem?_getD,ha];rfl
    have gb:xs.getD j.toNat 0=b:=by rw[List.getD_eq_getElem?_getD,hb];rfl
    by_cases c1:i+1≤(k:Int)∧(k:Int)≤j-1
    · rw[if_pos c1,if_pos (by omega),get,if_neg (by omega),if_neg (by omega),show i+1+(j-1)-(k:Int)=i+j-k from by omega]
    · rw[if_neg c1,get]
      by_cases e1:k=j.toNat
      · rw[if_pos e1,if_pos (by omega),show (i+j-(k:Int)).toNat=i.toNat from by omega,ga]
      · rw[if_neg e1]
        by_cases e2:k=i.toNat
        · rw[if_pos e2,if_pos (by omega),show (i+j-(k:Int)).toNat=j.toNat from by omega,gb]
        · rw[if_neg e2,if_neg (by omega)]
  · rw[List.getElem?_eq_none (by rw[revSeg_len];simpa using hk),List.getElem?_eq_none (by rw[revSeg_len];exact hk)]
theorem revSeg_all (xs:List Int):revSeg xs 0 ((xs.length:Int)-1)=xs.reverse:=by
  apply List.ext_getElem?
  intro k
  rcases Nat.lt_or_ge k xs.length with hk|hk
  · rw[revSeg_at hk,if_pos (by omega),List.getElem?_reverse hk,List.getD_eq_getElem?_getD,show (0+((xs.length:Int)-1)-k).toNat=xs.length-1-k from by omega,List.getElem?_eq_getElem (by omega)];rfl
  · rw[List.getElem?_eq_none (by rw[revSeg_len];exact hk),List.getElem?_eq_none (by simpa using hk)]
end Ax
namespace Go.Proofs.YtbkfakkkikmcbaaGreatDoor
open Go.RowKit Ax
noncomputable def tr_revL (x:RSpec.X spRev×RSpec.Y spRev×(List (El (RSpec.c spRev))×Nat)):T (RRd spRev):=
 .ite (decide (x.1.1<x.1.2.1))
  (.need ((0:Int)≤x.1.2.1∧x.1.2.1<(↑(List.length x.2.2.1):Int)) (.need ((0:Int)≤x.1.1∧x.1.1<(↑(List.length x.2.2.1):Int)) (.and
     (.get x.2.2.1 x.1.2.1 (fun v0 =>
      .get x.2.2.1 x.1.1 (fun v1 =>
       .need ((0:Int)≤x.1.1∧x.1.1<(↑(List.length x.2.2.1):Int)) (.need (x.1.1<(↑(List.length x.2.2.1):Int)) (.need ((0:Int)≤x.1.2.1∧x.1.2.1<(↑(List.length x.2.2.1):Int)) (.need (x.1.2.1<(↑(List.length (List.set x.2.2.1 (Int.toNat x.1.1) v0)):Int)) (.need (List.length x.2.2.1=List.length (List.set (List.set x.2.2.1 (Int.toNat x.1.1) v0) (Int.toNat x.1.2.1) v1)∧x.2.2.2=x.2.2.2) (.ret (.again (IntKind.wrap .i64 (x.1.1+(1:Int)),(IntKind.wrap .i64 (x.1.2.1-(1:Int)),())) () (some ((List.set (List.set x.2.2.1 (Int.toNat x.1.1) v0) (Int.toNat x.1.2.1) v1,x.2.2.2))))))))))))
     (.get x.2.2.1 x.1.1 (fun v0 =>
      .get x.2.2.1 x.1.2.1 (fun v1 =>
       .need ((0:Int)≤x.1.1∧x.1.1<(↑(List.length x.2.2.1):Int)) (.need (x.1.1<(↑(List.length x.2.2.1):Int)) (.need ((0:Int)≤x.1.2.1∧x.1.2.1<(↑(List.length x.2.2.1):Int)) (.need (x.1.2.1<(↑(List.length (List.set x.2.2.1 (Int.toNat x.1.1) v1)):Int)) (.need (List.length x.2.2.1=List.length (List.set (List.set x.2.2.1 (Int.toNat x.1.1) v1) (Int.toNat x.1.2.1) v0)∧x.2.2.2=x.2.2.2) (.ret (.again (IntKind.wrap .i64 (x.1.1+(1:Int)),(IntKind.wrap .i64 (x.1.2.1-(1:Int)),())) () (some ((List.set (List.set x.2.2.1 (Int.toNat x.1.1) v1) (Int.toNat x.1.2.1) v0,x.2.2.2)))))))))))))))
  (.need (List.length x.2.2.1=List.length x.2.2.1∧x.2.2.2=x.2.2.2) (.ret (.out (Go.Exit.exit (0:Nat)) [] () (some x.2.2))))
theorem tr_revL_eq (x:RSpec.X spRev×RSpec.Y spRev×(List (El (RSpec.c spRev))×Nat)):RSpec.round spRev E8 (fun _=>none) (bodyOf Tryz.f123 0) x.1 x.2.1 (some x.2.2)=tr_revL x:=by kernel_rfl
def outRev (x:RSpec.X spRev) (y:RSpec.Y spRev) (g:RSpec.G spRev):T (Exit×List Av×RSpec.Y spRev×RSpec.G spRev):=
  match g with
  | none=>.fail
  | some r=>.need (0≤x.1∧x.2.1<r.1.length∧lenOk r.1.length) (.ret (.exit 0,[],(),some (revSeg r.1 x.1 x.2.1,r.2)))
theorem revL_core (i j : Int) (xs : List Int) (cap : Nat) (Q : Exit × List Av × RSpec.Y spRev × RSpec.G spRev → Prop) (h : (outRev (i, j, ()) () (some (xs, cap))).wp Q) : (tr_revL ((i, j, ()), (), (xs, cap))).wp fun r => match r with
      | .again x' y' g'=>(x'.2.1-x'.1).toNat<(j-i).toNat∧(outRev x' y' g').wp Q
      | .out e avs y' g'=>Q (e,avs,y',g'):=by
  unfold tr_revL
  unfold outRev at h ⊢
  simp only[T.wp]at h ⊢
  dsimp only [El,vts,spRev]at h ⊢
  obtain ⟨⟨h0,h1,hl⟩,hq⟩:=h
  refine ⟨fun hlt=>?_,fun hge=>?_⟩
  · have hlt:=of_decide_eq_true hlt
    obtain ⟨a,ha⟩:=elem_at (l:=xs) h0 (by omega)
    obtain ⟨b,hb⟩:=elem_at (l:=xs) (i:=j) (by omega) h1
    have hl':=hl
    unfold lenOk at hl'
    have e1:IntKind.i64.wrap (i+1)=i+1:=IntWalk.i64_in _ (by omega)
    have e2:IntKind.i64.wrap (j-1)=j-1:=IntWalk.i64_in _ (by omega)
    have key:(j-1-(i+1)).toNat<(j-i).toNat∧(0≤i+1∧j-1<(((xs.set i.toNat b).set j.toNat a).length:Int)∧lenOk ((xs.set i.toNat b).set j.toNat a).length)∧Q (.exit 0,[],(),some (revSeg ((xs.set i.toNat b).set j.toNat a) (i+1) (j-1),cap)):=by
      rw[revSeg_step h0 hlt h1 ha hb]
      simp only[List.length_set]
      exact ⟨by omega,⟨by omega,by omega,hl⟩,hq⟩
    rw[e1,e2]
    refine ⟨⟨by omega,h1⟩,⟨h0,by omega⟩,⟨b,by omega,hb,a,h0,ha,⟨h0,by omega⟩,by omega,⟨by omega,h1⟩,by simp only[List.length_set];exact h1,⟨by simp only[List.length_set],trivial⟩,key⟩,⟨a,h0,ha,b,by omega,hb,⟨h0,by omega⟩,by omega,⟨by omega,h1⟩,by simp only[List.length_set];exact h1,⟨by simp only[List.length_set],trivial⟩,key⟩⟩
  · have hge:=of_decide_eq_false hge
    rw[revSeg_end (by omega)]at hq
    exact ⟨⟨trivial,trivial⟩,hq⟩
theorem revL_ok:LoopOk Tryz.prog 1 (bodyOf Tryz.f123 0) (spRev.run outRev):=
  loopR_ok (E:=E8) (L:=fun _=>none) mixed 1 (loops_none _ _ _) spRev (Nat.le_refl _) outRev (fun x _ _=>(x.2.1-x.1).toNat) (by
    rintro ⟨i,j,⟨⟩⟩ ⟨⟩ g Q h
    match g,h with
    | some (xs,cap),h =>
      rw[tr_revL_eq ((i,j,()),(),(xs,cap))]
      exact revL_core i j xs cap Q h)
noncomputable def lpRev:Loops:=oneL 1 (spRev.run outRev)
end Go.Proofs.YtbkfakkkikmcbaaGreatDoor
namespace Ax
open Go Go.RowKit
theorem fresh_con {P:Program} {f:FuncId} (ts:List (Bool×Cd)) (sp:Els ts→T Av)
    (h : ∀ x vs w R Q,ArgsAre w R ts x vs→(sp x).wp Q → ∃ av,Q av∧Calls P f vs.toArray w fun e w' => ∃ v,e=.returned v∧Below w.heap.size w w'∧AvIs w' (fun b=>w.heap.size≤b∧b<w'.heap.size) [] av v):ConOk P f [] (pureRun' ts sp):=by
  intro w φ σ m args vs Q hmem hlen hargs hrun
  unfold pureRun' at hrun
  split at hrun
  · rename_i x hx
    rw[T.wp_bind]at hrun
    obtain ⟨av,hQ,hc⟩:=h x vs w _ _ (decs_ok ts args x vs hx hlen hargs) hrun
    refine hc.mono fun e w' hr=>?_
    obtain ⟨v,rfl,hb,hv⟩:=hr
    have hk:=Keep.of_below hb σ
    have hown : ∀ i b:Nat,σ[i]?=some b→w'.heap[b]?=w.heap[b]?:=fun i b hi=>hb.block b (hmem.lt (List.mem_of_getElem? hi))
    refine ⟨v,av,m,σ,rfl,hQ,Ext.refl _ _,hk,fun i b hi _=>hown i b hi,hv.ro (fun b hb'=>⟨hb'.2,fun hm=>?_,fun hm=>?_⟩) σ,hmem.stay hk (Ext.refl _ _) rfl hown⟩
    · have:=hmem.fo b hm;omega
    · have:=hmem.lt hm;omega
  · exact hrun.elim
theorem arg_ptr {w:World} {R:Nat→Prop} {x:Amt} {v:Value} (h:AvIs w R [] (encA false (.ptr .words) x) v) : ∃ b o,v=.pointer (some ⟨b,o,none⟩)∧w.rangeAt b o (Pq.am 32 x.1):=by
  obtain ⟨b,o,vs,hR,hrg,hcs,rfl⟩:=is_one_pr (σ:=[]) (cs:=[.w x]) h
  cases hcs with|w h2=>cases h2;rw[List.append_nil]at hrg;exact ⟨b,o,rfl,hrg⟩
theorem ptr_av {w:World} {R:Nat→Prop} {x:Amt} {b:Nat} (hR:R b) (h:w.rangeAt b 0 (Pq.am 32 x.1)):AvIs w R [] (.one (.pr [.w x])) (.pointer (some ⟨b,0,none⟩)):=by
  refine .one rfl (.pr hR (vs:=Pq.am 32 x.1) h ?_ .nil)
  have:=Is.w (w:=w) (R:=R) (σ:=[]) (x:=x) .nil
  rwa [List.append_nil]at this
def divA (x:Amt) (d:Nat):Amt:=⟨x.1/d,Nat.lt_of_le_of_lt (Nat.div_le_self _ _) x.2⟩
end Ax
namespace Go.Proofs.YtbkfakkkikmcbaaGreatDoor
open Go.RowKit Ax
theorem cf_wof (xs:Array Value) (w:World):(callFunc 120 xs).run Tryz.prog w=.ok (.enter 120 xs) w:=by kernel_rfl
theorem cf_wsize (xs:Array Value) (w:World):(callFunc 121 xs).run Tryz.prog w=.ok (.enter 121 xs) w:=by kernel_rfl
theorem cf_wbyword (xs:Array Value) (w:World):(callFunc 122 xs).run Tryz.prog w=.ok (.enter 122 xs) w:=by kernel_rfl
theorem cf_wtext (xs:Array Value) (w:World):(callFunc 69 xs).run Tryz.prog w=.ok (.enter 69 xs) w:=by kernel_rfl
noncomputable def con_wof:Con Tryz.prog:=⟨120,[],pureRun' [(true,cW)] (fun x=>.ret (.one (.pr [.w x.1.2]))),cf_wof,fresh_con _ _ fun x vs w R Q ha hQ=>by
  obtain ⟨v,rfl,hv⟩:=args1 ha
  have hv:=av_w hv
  subst hv
  refine ⟨_,hQ,(of_ptr x.1.1 x.1.2.1 w).mono fun e w' hr=>?_⟩
  obtain ⟨b,rfl,hrg,hb,h1,h2⟩:=hr
  exact ⟨_,rfl,hb,ptr_av ⟨h1,h2⟩ hrg⟩⟩
noncomputable def con_wsize:Con Tryz.prog:=⟨121,[],pureRun' [(false,.ptr .words)] (fun x=>.ret (aI .i64 ((Pq.szn 32 x.1.1:Nat):Int))),cf_wsize,ret_con _ _ fun x vs w R Q ha hQ=>by
  obtain ⟨v,rfl,hv⟩:=args1 ha
  obtain ⟨b,o,rfl,hrg⟩:=arg_ptr hv
  refine ⟨_,_,hQ,(size_any b o x.1.1 _ rfl w hrg).mono fun e w' hr=>?_,fun w' R'=>.val rfl⟩
  obtain ⟨rfl,rfl⟩:=hr
  exact ⟨rfl,Below.refl _ _⟩⟩
noncomputable def con_wbyword:Con Tryz.prog:=⟨122,[],pureRun' [(false,.ptr .words),(false,.int .u32)] (fun x=>.need (0<x.2.1∧x.2.1<4294967296) (.lt (divA x.1 x.2.1.toNat) fun q=>.ret (.tup [.one (.pr [.w q]),aI .u32 ((x.1.1%x.2.1.toNat:Nat):Int)]))),cf_wbyword,fresh_con _ _ fun x vs w R Q=>by
  obtain ⟨x,d,u⟩:=x
  revert x d
  intro (x:Amt) (d:Int) ha hQ
  obtain ⟨v,v',rfl,hv,hv'⟩:=args2 ha
  obtain ⟨b,o,rfl,hrg⟩:=arg_ptr hv
  have hv':=is_int hv'
  subst hv'
  obtain ⟨⟨h0,h1⟩,hQ⟩:=hQ
  dsimp only [El,vts]at h0 h1
  refine ⟨_,hQ,?_⟩
  have hz:((d.toNat:Nat):Int)=d:=Int.toNat_of_nonneg (by omega)
  have:=byword_any b o x.1 d.toNat w x.2 (by omega) (by omega) hrg
  rw[hz]at this
  refine this.mono fun e w' hr=>?_
  obtain ⟨b,rfl,hrg,hb,h1,h2⟩:=hr
  refine ⟨_,rfl,hb,.tup [_,_] rfl fun i a u hi hu=>?_⟩
  match i,hi,hu with
  | 0,hi,hu=>cases hi;cases hu;exact ptr_av (x:=divA x d.toNat) ⟨h1,h2⟩ hrg
  | 1,hi,hu=>cases hi;cases hu;exact .val rfl⟩
noncomputable def tr_reverse (x:List (El (.int .u8))×Nat×Nat):T (Av×List (El (.int .u8))):=
 .need (x.2.1=List.length (x.1)∧x.2.2=x.2.2) (.need ((0:El (Cd.int .i64))≤(0:Int)∧IntKind.wrap .i64 ((↑x.2.1:Int)-(1:Int))<(↑(List.length (x.1)):El (Cd.int .i64))∧lenOk (List.length (x.1))) (.need (x.2.2=x.2.2) (.ret ((.tup []),revSeg (x.1) (0:Int) (IntKind.wrap .i64 ((↑x.2.1:Int)-(1:Int)))))))
theorem tr_reverse_eq (x:List (El (.int .u8))×Nat×Nat):row1 E8 lpRev Tryz.f123 5 (.int .u8) x.1 x.2.1 x.2.2=tr_reverse x:=by kernel_rfl
noncomputable def con_reverse:Con Tryz.prog:=⟨123,[0],row1Run 5 (.int .u8) (fun xs n cap=>.need (n=xs.length∧lenOk xs.length) (.ret (.tup [],List.reverse (α:=Int) xs))),cf_reverse,
  row1_ok (E:=E8) (L:=lpRev) mixed Tryz.func123 (one_loop revL_ok (by kernel_rfl)) _ _ _ fun xs n cap Q h=>by
  rw[tr_reverse_eq (xs,n,cap)]
  unfold tr_reverse
  simp only[T.wp]at h ⊢
  obtain ⟨⟨hn,hl⟩,hQ⟩:=h
  subst hn
  have hl':=hl
  unfold lenOk at hl'
  have e:IntKind.i64.wrap ((xs.length:Int)-1)=(xs.length:Int)-1:=IntWalk.i64_in _ (by omega)
  rw[e,revSeg_all]
  exact ⟨⟨rfl,trivial⟩,⟨by simp,by dsimp only [El];omega,hl⟩,trivial,hQ⟩⟩
noncomputable def zeroY:Zero Tryz.prog:=⟨5,ck (.int .u8) (0:Int),[.int .u8 0],by kernel_rfl,fun w R σ=>.v rfl .nil⟩
noncomputable def E9:Env Tryz.prog:=⟨con_wof::con_wsize::con_wbyword::con_reverse::E8.con,zeroY::E8.zero,codB::E8.cod,E8.sure,E8.base,E8.frz⟩
abbrev spText:RSpec:=⟨36,[(3,false,.ptr .words)],[(1,0,0)],[(39,cW)],fun _=>[],4,5,.int .u8,false,fun _=>4⟩
end Go.Proofs.YtbkfakkkikmcbaaGreatDoor
namespace Ax
def dg (x:Nat):List Int:=if h:x=0 then [] else (48+(x%10:Nat):Int)::dg (x/10)
decreasing_by exact Nat.div_lt_self (by omega) (by omega)
theorem dg_zero:dg 0=[]:=by rw[dg];simp
theorem dg_pos {x:Nat} (h:x≠0):dg x=(48+(x%10:Nat):Int)::dg (x/10):=by rw[dg,dif_neg h]
theorem dg_len {n:Nat} : ∀ {x:Nat},x<2^n→(dg x).length≤n:=by
  induction n with
  | zero=>intro x h;rw[show x=0 from by simpa using h,dg_zero];simp
  | succ n ih =>
    intro x h
    by_cases h0:x=0
    · rw[h0,dg_zero];simp
    · rw[dg_pos h0,List.length_cons]
      have:=ih (x:=x/10) (by rw[Nat.pow_succ]at h;omega)
      omega
end Ax
namespace Go.Proofs.YtbkfakkkikmcbaaGreatDoor
open Go.RowKit Ax
noncomputable def tr_textL (x:RSpec.X spText×RSpec.Y spText×(List (El (RSpec.c spText))×Nat)):T (RRd spText):=
 .ite (decide ((↑(Pq.szn (32:Nat) x.1.1.1):Int)>(0:Int)))
  (.need ((0:El (Cd.int .u32))<(10:Int)∧(10:Int)<(4294967296:El (Cd.int .u32))) (.lt (divA x.1.1 (Int.toNat (10:Int))) (fun v0 =>
    .need (List.length x.2.2.1=List.length x.2.2.1∧x.2.2.2=x.2.2.2∧(List.length x.2.2.1+List.length [IntKind.wrap .u8 (IntKind.wrap .u32 ((48:Int)+(↑(x.1.1.1%Int.toNat (10:Int)):Int)))])*(nat_lit 0+(1:Nat))≤(140737488355328:Nat)∧List.length x.2.2.1+List.length [IntKind.wrap .u8 (IntKind.wrap .u32 ((48:Int)+(↑(x.1.1.1%Int.toNat (10:Int)):Int)))]≤Go.maxLen) (.and
      (.need (List.length x.2.2.1+List.length [IntKind.wrap .u8 (IntKind.wrap .u32 ((48:Int)+(↑(x.1.1.1%Int.toNat (10:Int)):Int)))]=List.length (x.2.2.1++[IntKind.wrap .u8 (IntKind.wrap .u32 ((48:Int)+(↑(x.1.1.1%Int.toNat (10:Int)):Int)))])∧x.2.2.2=x.2.2.2) (.ret (.again (v0,()) (x.2.1.1,()) (some ((x.2.2.1++[IntKind.wrap .u8 (IntKind.wrap .u32 ((48:Int)+(↑(x.1.1.1%Int.toNat (10:Int)):Int)))],x.2.2.2))))))
      (.up (List.length x.2.2.1+List.length [IntKind.wrap .u8 (IntKind.wrap .u32 ((48:Int)+(↑(x.1.1.1%Int.toNat (10:Int)):Int)))]) (fun v1 =>
       .need (List.length x.2.2.1+List.length [IntKind.wrap .u8 (IntKind.wrap .u32 ((48:Int)+(↑(x.1.1.1%Int.toNat (10:Int)):Int)))]=List.length (x.2.2.1++[IntKind.wrap .u8 (IntKind.wrap .u32 ((48:Int)+(↑(x.1.1.1%Int.toNat (10:Int)):Int)))])∧v1=v1) (.ret (.again (v0,()) (x.2.1.1,()) (some ((x.2.2.1++[IntKind.wrap .u8 (IntKind.wrap .u32 ((48:Int)+(↑(x.1.1.1%Int.toNat (10:Int)):Int)))],v1)))))))))))
  (.need (List.length x.2.2.1=List.length x.2.2.1∧x.2.2.2=x.2.2.2) (.ret (.out (Go.Exit.exit (0:Nat)) [] (x.2.1.1,()) (some x.2.2))))
theorem tr_textL_eq (x:RSpec.X spText×RSpec.Y spText×(List (El (RSpec.c spText))×Nat)):RSpec.round spText E9 (fun _=>none) (bodyOf Tryz.f69 0) x.1 x.2.1 (some x.2.2)=tr_textL x:=by kernel_rfl
noncomputable def tr_textL0 (x:RSpec.X spText×RSpec.Y spText):T (RRd spText):=
 .ite (decide ((↑(Pq.szn (32:Nat) x.1.1.1):Int)>(0:Int)))
  (.need ((0:El (Cd.int .u32))<(10:Int)∧(10:Int)<(4294967296:El (Cd.int .u32))) (.lt (divA x.1.1 (Int.toNat (10:Int))) (fun v0 =>
    .need (List.length [IntKind.wrap .u8 (IntKind.wrap .u32 ((48:Int)+(↑(x.1.1.1%Int.toNat (10:Int)):Int)))]*(nat_lit 0+(1:Nat))≤(140737488355328:Nat)∧List.length [IntKind.wrap .u8 (IntKind.wrap .u32 ((48:Int)+(↑(x.1.1.1%Int.toNat (10:Int)):Int)))]≤Go.maxLen) (.up (List.length [IntKind.wrap .u8 (IntKind.wrap .u32 ((48:Int)+(↑(x.1.1.1%Int.toNat (10:Int)):Int)))]) (fun v1 =>
      .need (List.length [IntKind.wrap .u8 (IntKind.wrap .u32 ((48:Int)+(↑(x.1.1.1%Int.toNat (10:Int)):Int)))]=List.length [IntKind.wrap .u8 (IntKind.wrap .u32 ((48:Int)+(↑(x.1.1.1%Int.toNat (10:Int)):Int)))]∧v1=v1) (.ret (.again (v0,()) (x.2.1,()) (some (([IntKind.wrap .u8 (IntKind.wrap .u32 ((48:Int)+(↑(x.1.1.1%Int.toNat (10:Int)):Int)))],v1))))))))))
  (.need (True) (.ret (.out (Go.Exit.exit (0:Nat)) [] (x.2.1,()) none)))
theorem tr_textL0_eq (x:RSpec.X spText×RSpec.Y spText):RSpec.round spText E9 (fun _=>none) (bodyOf Tryz.f69 0) x.1 x.2 none=tr_textL0 x:=by kernel_rfl
def outText (x:RSpec.X spText) (y:RSpec.Y spText) (g:RSpec.G spText):T (Exit×List Av×RSpec.Y spText×RSpec.G spText):=
  match g with
  | none=>.need ((dg x.1.1).length≤1000000) (.ite (decide (x.1.1=0)) (.ret (.exit 0,[],y,none)) (.up 0 fun k=>.ret (.exit 0,[],y,some (dg x.1.1,k))))
  | some r=>.need (r.1.length+(dg x.1.1).length≤1000000) (.up 0 fun k=>.ret (.exit 0,[],y,some ((r.1:List Int)++dg x.1.1,k)))
theorem digit_wrap (x:Nat):IntKind.u8.wrap (IntKind.u32.wrap ((48:Int)+((x%Int.toNat (10:Int):Nat):Int)))=48+((x%10:Nat):Int):=by
  rw[show Int.toNat (10:Int)=10 from rfl,IntWalk.u32_in _ (by omega),IntWalk.u8_in _ (by omega)]
theorem textL_core (x : Amt) (y : W) (xs : List Int) (cap : Nat) (Q : Exit × List Av × RSpec.Y spText × RSpec.G spText → Prop) (h : (outText (x, ()) (y, ()) (some (xs, cap))).wp Q) : (tr_textL ((x, ()), (y, ()), (xs, cap))).wp fun r => match r with
      | .again x' y' g'=>x'.1.1<x.1∧(outText x' y' g').wp Q
      | .out e avs y' g'=>Q (e,avs,y',g'):=by
  unfold tr_textL
  unfold outText at h ⊢
  simp only[T.wp,digit_wrap]at h ⊢
  dsimp only [El,vts,spText]at h ⊢
  obtain ⟨hl,hq⟩:=h
  refine ⟨fun hlt=>?_,fun hge=>?_⟩
  · have hne:x.1≠0:=(Pq.szn_pos x.2).1 (by have:=of_decide_eq_true hlt;omega)
    rw[dg_pos hne]at hl hq
    have hd:(divA x (Int.toNat (10:Int))).1=x.1/10:=rfl
    have hlt':x.1/10<x.1:=Nat.div_lt_self (by omega) (by omega)
    simp only[hd,List.length_append,List.length_cons,List.length_nil,Go.maxLen,List.append_assoc,List.singleton_append,List.cons_append,List.nil_append]at hl ⊢
    exact ⟨⟨by omega,by omega⟩,⟨trivial,trivial,by omega,by omega⟩,⟨⟨trivial,trivial⟩,hlt',by omega,hq⟩,fun k hk=>⟨⟨trivial,trivial⟩,hlt',by omega,hq⟩⟩
  · have h0:x.1=0:=by
      by_cases h0:x.1=0
      · exact h0
      · have:=(Pq.szn_pos x.2).2 h0
        have:=of_decide_eq_false hge
        omega
    rw[h0,dg_zero,List.append_nil]at hq
    exact ⟨⟨trivial,trivial⟩,hq cap (Nat.zero_le _)⟩
theorem textL_core0 (x : Amt) (y : W) (Q : Exit × List Av × RSpec.Y spText × RSpec.G spText → Prop) (h : (outText (x, ()) (y, ()) none).wp Q) : (tr_textL0 ((x, ()), (y, ()))).wp fun r => match r with
      | .again x' y' g'=>x'.1.1<x.1∧(outText x' y' g').wp Q
      | .out e avs y' g'=>Q (e,avs,y',g'):=by
  unfold tr_textL0
  unfold outText at h ⊢
  simp only[T.wp,digit_wrap]at h ⊢
  dsimp only [El,vts,spText]at h ⊢
  obtain ⟨hl,h1,h2⟩:=h
  refine ⟨fun hlt=>?_,fun hge=>?_⟩
  · have hne:x.1≠0:=(Pq.szn_pos x.2).1 (by have:=of_decide_eq_true hlt;omega)
    have hq:=h2 (decide_eq_false hne)
    rw[dg_pos hne]at hl hq
    have hd:(divA x (Int.toNat (10:Int))).1=x.1/10:=rfl
    have hlt':x.1/10<x.1:=Nat.div_lt_self (by omega) (by omega)
    simp only[hd,List.length_append,List.length_cons,List.length_nil,Go.maxLen,List.append_assoc,List.singleton_append,List.cons_append,List.nil_append]at hl ⊢
    exact ⟨⟨by omega,by omega⟩,⟨by omega,by omega⟩,fun k hk=>⟨⟨trivial,trivial⟩,hlt',by omega,hq⟩⟩
  · have h0:x.1=0:=by
      by_cases h0:x.1=0
      · exact h0
      · have:=(Pq.szn_pos x.2).2 h0
        have:=of_decide_eq_false hge
        omega
    exact ⟨trivial,h1 (decide_eq_true h0)⟩
theorem textL_ok:LoopOk Tryz.prog 0 (bodyOf Tryz.f69 0) (spText.run outText):=
  loopR_ok (E:=E9) (L:=fun _=>none) mixed 0 (loops_none _ _ _) spText (Nat.zero_le _) outText (fun x _ _=>x.1.1) (by
    rintro ⟨x,⟨⟩⟩ ⟨y,⟨⟩⟩ g Q h
    match g,h with
    | some (xs,cap),h =>
      rw[tr_textL_eq ((x,()),(y,()),(xs,cap))]
      exact textL_core x y xs cap Q h
    | none,h =>
      rw[tr_textL0_eq ((x,()),(y,()))]
      exact textL_core0 x y Q h)
noncomputable def lpText:Loops:=oneL 3 (spText.run outText)
noncomputable def tr_wtext (x:Els [(true,cW)]):T Av:=
 .need (True) (.need (List.length (dg x.1.2.1)≤(1000000:Nat)) (.ite (decide (x.1.2.1=(0:Nat)))
    (.ite ((↑(0:Nat):Int)==(0:Int))
     (.ret (.one (.v (.string ({ data := #[(48:UInt8)] })))))
     (.ite x.1.1
      (.need (List.length [(45:Int)]*(nat_lit 0+(1:Nat))≤(140737488355328:Nat)∧List.length [(45:Int)]≤Go.maxLen) (.up (List.length [(45:Int)]) (fun v0 =>
        .need (v0=v0) (.need (List.length [(45:Int)]=List.length [(45:Int)]∧lenOk (List.length [(45:Int)])) (.need (List.length [(45:Int)]≤List.length (List.reverse [(45:Int)])) (.ret (.one (.v (.string (bytesOf (List.take (List.length [(45:Int)]) (List.reverse [(45:Int)]))))))))))))
      (.fail)))
    (.up ((0:Nat)) (fun v0 =>
     .ite ((↑(List.length (dg x.1.2.1)):Int)==(0:Int))
      (.ret (.one (.v (.string ({ data := #[(48:UInt8)] })))))
      (.ite x.1.1
       (.need (List.length (dg x.1.2.1)=List.length (dg x.1.2.1)∧v0=v0∧(List.length (dg x.1.2.1)+List.length [(45:Int)])*(nat_lit 0+(1:Nat))≤(140737488355328:Nat)∧List.length (dg x.1.2.1)+List.length [(45:Int)]≤Go.maxLen) (.and
         (.need (v0=v0) (.need (List.length (dg x.1.2.1)+List.length [(45:Int)]=List.length (dg x.1.2.1++[(45:Int)])∧lenOk (List.length (dg x.1.2.1++[(45:Int)]))) (.need (List.length (dg x.1.2.1)+List.length [(45:Int)]≤List.length (List.reverse (dg x.1.2.1++[(45:Int)]))) (.ret (.one (.v (.string (bytesOf (List.take (List.length (dg x.1.2.1)+List.length [(45:Int)]) (List.reverse (dg x.1.2.1++[(45:Int)])))))))))))
         (.up (List.length (dg x.1.2.1)+List.length [(45:Int)]) (fun v1 =>
          .need (v1=v1) (.need (List.length (dg x.1.2.1)+List.length [(45:Int)]=List.length (dg x.1.2.1++[(45:Int)])∧lenOk (List.length (dg x.1.2.1++[(45:Int)]))) (.need (List.length (dg x.1.2.1)+List.length [(45:Int)]≤List.length (List.reverse (dg x.1.2.1++[(45:Int)]))) (.ret (.one (.v (.string (bytesOf (List.take (List.length (dg x.1.2.1)+List.length [(45:Int)]) (List.reverse (dg x.1.2.1++[(45:Int)]))))))))))))))
       (.need (v0=v0) (.need (List.length (dg x.1.2.1)=List.length (dg x.1.2.1)∧lenOk (List.length (dg x.1.2.1))) (.need (List.length (dg x.1.2.1)≤List.length (List.reverse (dg x.1.2.1))) (.ret (.one (.v (.string (bytesOf (List.take (List.length (dg x.1.2.1)) (List.reverse (dg x.1.2.1))))))))))))))))
theorem tr_wtext_eq (x:Els [(true,cW)]):fnP E9 lpText Tryz.f69 (encs [(true,cW)] x)=tr_wtext x:=by kernel_rfl
def txt (x:W):ByteArray:=if x.2.1=0 then ⟨#[48]⟩ else bytesOf ((dg x.2.1++(if x.1=true then [(45:Int)] else [])).reverse)
theorem dg_amt (x:Amt):(dg x.1).length≤1024:=dg_len (bp_le 1024 rfl x.2)
theorem wtext_ok (x:Els [(true,cW)]):(tr_wtext x).wp (· = .one (.v (.string (txt x.1)))):=by
  obtain ⟨⟨n,x⟩,u⟩:=x
  revert n x
  intro (n:Bool) (x:Amt)
  unfold tr_wtext
  simp only[T.wp]
  dsimp only [El]
  have hl:=dg_amt x
  unfold txt
  dsimp only
  refine ⟨trivial,by omega,fun h0=>⟨fun _=>?_,fun h=>(by cases h)⟩,fun h0 k _=>⟨fun h1=>?_,fun h1=>⟨fun h2=>?_,fun h2=>?_⟩⟩⟩
  · rw[if_pos (of_decide_eq_true h0)]
  · exfalso
    have h0:=of_decide_eq_false h0
    rw[dg_pos h0]at h1
    simp at h1
    omega
  · subst h2
    rw[if_neg (of_decide_eq_false h0)]
    have e:List.take ((dg x.1).length+List.length [(45:Int)]) (List.reverse (dg x.1++[(45:Int)]))=(dg x.1++[(45:Int)]).reverse:=List.take_of_length_le (by simp)
    simp only[e,if_true]
    refine ⟨⟨trivial,trivial,by simp;omega,by simp[Go.maxLen];omega⟩,⟨trivial,⟨by simp,by unfold lenOk;simp;omega⟩,by simp,trivial⟩,fun q hq=>⟨trivial,⟨by simp,by unfold lenOk;simp;omega⟩,by simp,trivial⟩⟩
  · subst h2
    rw[if_neg (of_decide_eq_false h0)]
    have e:List.take ((dg x.1).length) (List.reverse (dg x.1))=(dg x.1).reverse:=List.take_of_length_le (by simp)
    simp only[e,Bool.false_eq_true,if_false,List.append_nil]
    exact ⟨trivial,⟨trivial,by unfold lenOk;omega⟩,by simp,trivial⟩
noncomputable def con_wtext:Con Tryz.prog:=⟨69,[],_,cf_wtext,tot_con (E:=E9) (L:=lpText) mixed Tryz.func69 (one_loop textL_ok (by kernel_rfl)) [(true,cW)] (fun x=>.one (.v (.string (txt x.1)))) fun x=>by rw[tr_wtext_eq];exact wtext_ok x⟩
noncomputable def E10:Env Tryz.prog:=⟨con_wtext::E9.con,E9.zero,E9.cod,E9.sure,E9.base,E9.frz⟩
theorem cf_rtext (xs:Array Value) (w:World):(callFunc 37 xs).run Tryz.prog w=.ok (.enter 37 xs) w:=by kernel_rfl
theorem cf_wparse (xs:Array Value) (w:World):(callFunc 125 xs).run Tryz.prog w=.ok (.enter 125 xs) w:=by kernel_rfl
theorem cf_rparse (xs:Array Value) (w:World):(callFunc 72 xs).run Tryz.prog w=.ok (.enter 72 xs) w:=by kernel_rfl
noncomputable def tr_rtext (x:Els [(true,cF)]):T Av:=
 .ite (!okF (x.1))
  (.ret (.one (.v (.string ({ data := #[] })))))
  (.ite (decide (zW x.1.2=(1:Int)))
   (.ret (.one (.v (.string (txt x.1.1)))))
   (.need ((↑(ByteArray.size (txt x.1.1)+ByteArray.size { data := #[(47:UInt8)] }):Int)≤IntKind.max .i64) (.lt (txt x.1.1++{ data := #[(47:UInt8)] }) (fun v0 =>
     .need ((↑(ByteArray.size v0+ByteArray.size (txt x.1.2)):Int)≤IntKind.max .i64) (.lt (v0++txt x.1.2) (fun v1 =>
       .ret (.one (.v (.string (v1))))))))))
theorem tr_rtext_eq (x:Els [(true,cF)]):fnP E10 (fun _=>none) Tryz.f37 (encs [(true,cF)] x)=tr_rtext x:=by kernel_rfl
def ftxt (x:F):ByteArray:=if okF x=true then (if zW x.2=1 then txt x.1 else txt x.1++⟨#[47]⟩++txt x.2) else ⟨#[]⟩
theorem bytesOf_size (l:List Int):(bytesOf l).size=l.length:=by
  show (bytesOf l).data.size=_
  simp[bytesOf]
theorem txt_size (x:W):(txt x).size≤1025:=by
  have:=dg_amt x.2
  unfold txt
  split
  · show 1≤1025;omega
  · rw[bytesOf_size,List.length_reverse,List.length_append]
    split <;> simp <;> omega
theorem rtext_ok (x:Els [(true,cF)]):(tr_rtext x).wp (· = .one (.v (.string (ftxt x.1)))):=by
  obtain ⟨x,u⟩:=x
  revert x
  intro (x:F)
  unfold tr_rtext
  simp only[T.wp]
  unfold ftxt
  have h1:=txt_size x.1
  have h2:=txt_size x.2
  refine ⟨fun h=>?_,fun h=>⟨fun hd=>?_,fun hd=>⟨?_,?_,?_⟩⟩⟩
  · rw[if_neg (by simpa using h)]
  · rw[if_pos (by simpa using h),if_pos (of_decide_eq_true hd)]
  · have:(ByteArray.size ⟨#[(47:UInt8)]⟩)=1:=rfl
    rw[this]
    show ((_:Nat):Int)≤9223372036854775807
    omega
  · have:(ByteArray.size ⟨#[(47:UInt8)]⟩)=1:=rfl
    rw[ByteArray.size_append,this]
    show ((_:Nat):Int)≤9223372036854775807
    omega
  · rw[if_pos (by simpa using h),if_neg (of_decide_eq_false hd)]
noncomputable def con_rtext:Con Tryz.prog:=⟨37,[],_,cf_rtext,tot_con (E:=E10) mixed Tryz.func37 no_loops [(true,cF)] (fun x=>.one (.v (.string (ftxt x.1)))) fun x=>by rw[tr_rtext_eq];exact rtext_ok x⟩
noncomputable def E11:Env Tryz.prog:=⟨con_rtext::E10.con,E10.zero,E10.cod,E10.sure,E10.base,E10.frz⟩
abbrev spPar:LSpec:=⟨89,[(4,false,.str),(5,false,.bool),(44,false,.int .i64),(45,false,.int .i64)],[(2,0,0),(6,1,0),(7,2,0)],[(39,cW),(39,cW),(39,cW)],fun e=>match e with|.ret=>[3]|.exit _=>[5]|_=>[]⟩
noncomputable def tr_parL (x:LSpec.X spPar×LSpec.Y spPar):T (Rd spPar):=
 .ite (decide (x.1.2.2.2.1<x.1.2.2.1))
  (.get (Array.toList (ByteArray.data x.1.1)) x.1.2.2.2.1 (fun v0 =>
   .ite (decide ((↑(UInt8.toNat v0):Int)<(48:Int)))
    (.ret (.out (Go.Exit.ret) [(.one (.v (.bool (false))))] (w0,(x.2.2.1,(x.2.2.2.1,())))))
    (.get (Array.toList (ByteArray.data x.1.1)) x.1.2.2.2.1 (fun v1 =>
     .ite (decide ((↑(UInt8.toNat v1):Int)>(57:Int)))
      (.ret (.out (Go.Exit.ret) [(.one (.v (.bool (false))))] (w0,(x.2.2.1,(x.2.2.2.1,())))))
      (.lt (zW x.2.2.1*zW x.2.2.2.1) (fun v2 =>
       .get (Array.toList (ByteArray.data x.1.1)) x.1.2.2.2.1 (fun v3 =>
        .need (in64 (IntKind.wrap .i64 (IntKind.wrap .u8 ((↑(UInt8.toNat v3):Int)-(48:Int))))) (.lt (zW (wOf v2)+zW (wOf (IntKind.wrap .i64 (IntKind.wrap .u8 ((↑(UInt8.toNat v3):Int)-(48:Int)))))) (fun v4 =>
          .ite (!Pq.fits v2)
           (.ret (.out (Go.Exit.ret) [(.one (.v (.bool (false))))] (w0,(x.2.2.1,(x.2.2.2.1,())))))
           (.ite (!Pq.fits v4)
            (.ret (.out (Go.Exit.ret) [(.one (.v (.bool (false))))] (w0,(x.2.2.1,(x.2.2.2.1,())))))
            (.ret (.again (x.1.1,(x.1.2.1,(x.1.2.2.1,(IntKind.wrap .i64 (x.1.2.2.2.1+(1:Int)),())))) (x.2.1,(wOf v4,(x.2.2.2.1,())))))))))))))))
  (.ret (.out (Go.Exit.exit (0:Nat)) [(.one (.v (.bool x.1.2.1)))] (x.2.1,(x.2.2.1,(x.2.2.2.1,())))))
theorem tr_parL_eq (x:LSpec.X spPar×LSpec.Y spPar):LSpec.round spPar E11 (fun _=>none) (bodyOf Tryz.f125 0) x.1 x.2=tr_parL x:=by kernel_rfl
def parD:Int→List UInt8→Bool×Int
  | v,[]=>(true,v)
  | v,b::r=>if (b.toNat:Int)<48∨(b.toNat:Int)>57 then (false,v) else if Pq.fits (v*10)=true∧Pq.fits (v*10+((b.toNat:Int)-48))=true then parD (v*10+((b.toNat:Int)-48)) r else (false,v)
def outPar (x:LSpec.X spPar) (y:LSpec.Y spPar):T (Exit×List Av×LSpec.Y spPar):=
  .need (x.2.2.1=x.1.data.toList.length∧0≤x.2.2.2.1∧x.2.2.2.1≤x.2.2.1∧x.2.2.1≤1000∧zW y.2.2.1=10∧wOf (zW y.2.1)=y.2.1) (.lt (parD (zW y.2.1) (x.1.data.toList.drop x.2.2.2.1.toNat)) fun r =>
    .ite r.1 (.ret (.exit 0,[aB x.2.1],(y.1,wOf r.2,y.2.2.1,()))) (.ret (.ret,[aB false],(w0,wOf r.2,y.2.2.1,()))))
theorem parL_core (s : ByteArray) (ng : Bool) (n i : Int) (r v t : W) (Q : Exit × List Av × LSpec.Y spPar → Prop) (h : (outPar (s, ng, n, i, ()) (r, v, t, ())).wp Q) : (tr_parL ((s, ng, n, i, ()), (r, v, t, ()))).wp fun r => match r with
      | .again x' y'=>(x'.2.2.1-x'.2.2.2.1).toNat<(n-i).toNat∧(outPar x' y').wp Q
      | .out e avs y'=>Q (e,avs,y'):=by
  unfold tr_parL
  unfold outPar at h ⊢
  simp only[T.wp]at h ⊢
  dsimp only [El,vts,bts,spPar]at h ⊢
  generalize s.data.toList=l at *
  obtain ⟨⟨hn,h0,h1,hl,ht,hw⟩,hq1,hq2⟩:=h
  refine ⟨fun hlt=>?_,fun hge=>?_⟩
  · have hlt:=of_decide_eq_true hlt
    obtain ⟨b,hb⟩:=elem_at (l:=l) (i:=i) h0 (by omega)
    have hd:=drop_at h0 hb
    have hb8:=b.toNat_lt
    rw[hd,parD]at hq1 hq2
    refine ⟨b,h0,hb,fun c1=>?_,fun c1=>⟨b,h0,hb,fun c2=>?_,fun c2=>?_⟩⟩
    · rw[if_pos (.inl (of_decide_eq_true c1))]at hq2
      rw[hw]at hq2
      exact hq2 rfl
    · rw[if_pos (.inr (of_decide_eq_true c2))]at hq2
      rw[hw]at hq2
      exact hq2 rfl
    · have c1:=of_decide_eq_false c1
      have c2:=of_decide_eq_false c2
      rw[if_neg (by omega)]at hq1 hq2
      have e1:IntKind.i64.wrap (IntKind.u8.wrap ((b.toNat:Int)-48))=(b.toNat:Int)-48:=by
        rw[IntWalk.u8_in _ (by omega),IntWalk.i64_in _ (by omega)]
      have hz:zW (wOf ((b.toNat:Int)-48))=(b.toNat:Int)-48:=zW_wOf (i64_lt (by omega) (by omega))
      refine ⟨b,h0,hb,?_⟩
      rw[e1,ht,hz]
      refine ⟨⟨by omega,by omega⟩,fun f1=>?_,fun f1=>?_⟩
      · have f1:Pq.fits (zW v*10)=false:=by simpa using f1
        rw[if_neg (by rw[f1];simp)]at hq2
        rw[hw]at hq2
        exact hq2 rfl
      · have f1:Pq.fits (zW v*10)=true:=by simpa using f1
        have e2:zW (wOf (zW v*10))=zW v*10:=zW_wOf (by unfold Pq.fits at f1;exact of_decide_eq_true f1)
        rw[e2]
        refine ⟨fun f2=>?_,fun f2=>?_⟩
        · have f2:Pq.fits (zW v*10+((b.toNat:Int)-48))=false:=by simpa using f2
          rw[if_neg (by rw[f2];simp)]at hq2
          rw[hw]at hq2
          exact hq2 rfl
        · have f2:Pq.fits (zW v*10+((b.toNat:Int)-48))=true:=by simpa using f2
          rw[if_pos ⟨f1,f2⟩]at hq1 hq2
          have e3:zW (wOf (zW v*10+((b.toNat:Int)-48)))=zW v*10+((b.toNat:Int)-48):=zW_wOf (by unfold Pq.fits at f2;exact of_decide_eq_true f2)
          rw[IntWalk.i64_in (i+1) (by omega),e3]
          exact ⟨by omega,⟨hn,by omega,by omega,hl,rfl,rfl⟩,hq1,hq2⟩
  · have hge:=of_decide_eq_false hge
    rw[drop_end (by omega),parD]at hq1
    have:=hq1 rfl
    rw[hw]at this
    exact this
theorem parL_ok:LoopOk Tryz.prog 0 (bodyOf Tryz.f125 0) (spPar.run outPar):=
  loop_ok (E:=E11) (L:=fun _=>none) mixed 0 (loops_none _ _ _) spPar (Nat.zero_le _) outPar (fun x _=>(x.2.2.1-x.2.2.2.1).toNat) (by
    rintro ⟨s,ng,n,i,⟨⟩⟩ ⟨r,v,t,⟨⟩⟩ Q h
    rw[tr_parL_eq ((s,ng,n,i,()),(r,v,t,()))]
    exact parL_core s ng n i r v t Q h)
noncomputable def lpPar:Loops:=oneL 9 (spPar.run outPar)
end Go.Proofs.YtbkfakkkikmcbaaGreatDoor
