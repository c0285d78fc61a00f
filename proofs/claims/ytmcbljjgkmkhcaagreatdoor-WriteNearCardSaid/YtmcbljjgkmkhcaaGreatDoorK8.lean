import Derived.ProofKit
import Derived.OpenShut
import Derived.Deep.Slices
import Derived.Handed
import Derived.LaidLaws
import Derived.Lib.LaidU8
import Derived.Shelf.Vars
import Derived.Lay
import Derived.MakeChecks
import Derived.PinnedBridge
import Derived.SevenTiedAt
import Derived.Test.YtmcbljjgkmkhcaaGreatDoorRows
import Derived.Test.YtmcbljjgkmkhcaaGreatDoorK7
set_option linter.unusedSimpArgs false
set_option linter.unusedVariables false
namespace Go.Proofs.YtmcbljjgkmkhcaaGreatDoor
open Go.RowKit Ax
noncomputable def EW8:Env Tryz.prog:=EW7.add [con_wknown]
abbrev spWA:LSpec:=⟨153,[(9,false,.int .i64),(12,false,.sl cL),(14,false,.int .i64),(15,false,.bool),(16,false,.int .i64),(17,false,.int .i64)],[(7,0,0)],[(29,cF)],fun e=>match e with|.exit _=>[9,14,15,16]|_=>[]⟩
abbrev spWB:LSpec:=⟨153,[(9,false,.int .i64),(14,false,.int .i64),(16,false,.int .i64),(19,false,.int .i64)],[(7,0,0)],[(29,cF)],fun e=>match e with|.exit _=>[14,16]|_=>[]⟩
def gW {β:Type} (l:LLw) (K:ByteArray→T β):T β:=.get l 1 fun e=>.get e.2 1 K
def aAg (k:Int) (l:LLw) (v:Int) (n:Bool) (t i:Int) (y:F):T (Rd spWA):=.ret (.again (k,l,v,n,t,wi1 i,()) (y,()))
def aR (k:Int) (l:LLw) (v:Int) (n:Bool) (t i:Int) (y:F):T (Rd spWA):=gW l fun w=>.ite (decide (i<(ByteArray.size w:Int))) (gW l fun w=>.get w.data.toList i fun c=>.ite ((c.toNat:Int)==45) (aAg k l v true t i y) (.ite ((c.toNat:Int) != 46) (aAg k l (IntKind.wrap .i64 (IntKind.wrap .i64 (v*10)+IntKind.wrap .i64 (IntKind.wrap .u8 ((c.toNat:Int)-48)))) n t i y) (aAg k l v n t i y))) (.ret (.out (Exit.exit 0) [aI .i64 k,aI .i64 v,aB n,aI .i64 t] (y,())))
def bR (k v t i:Int) (y:F):T (Rd spWB):=.ite (decide (i<k)) (.ret (.again (k,v,IntKind.wrap .i64 (t*10),wi1 i,()) (y,()))) (.ret (.out (Exit.exit 2) [aI .i64 v,aI .i64 t] (y,())))
theorem tr_wnA_eq (k:Int) (l:LLw) (v:Int) (n:Bool) (t i:Int) (y:F):LSpec.round spWA EW8 (fun _=>none) (bodyOf Tryz.f3 0) (k,l,v,n,t,i,()) (y,())=aR k l v n t i y:=by kernel_rfl
theorem tr_wnB_eq (k v t i:Int) (y:F):LSpec.round spWB EW8 (fun _=>none) (bodyOf Tryz.f3 1) (k,v,t,i,()) (y,())=bR k v t i y:=by kernel_rfl
def lAt (l:LLw):List ByteArray:=((l[1]?).map (·.2)).getD []
def lW (l:LLw):ByteArray:=wat (lAt l) 1
theorem gW_wp {β:Type} {l:LLw} {K:ByteArray→T β} {Q:β→Prop} (h1:2≤l.length) (h2:2≤(lAt l).length) (h:(K (lW l)).wp Q):(gW l K).wp Q:=by
  have e1:l[1]?=some (l[1]'(by omega)):=List.getElem?_eq_getElem _
  have e2:lAt l=(l[1]'(by omega)).2:=by unfold lAt;rw[e1];rfl
  refine wget (by decide) e1 (wget (by decide) ?_ h)
  rw[←e2]
  exact wat_get (by omega)
def okC (c:UInt8):Prop:=isDig c∨(c.toNat:Int)=45∨(c.toNat:Int)=46
theorem scw_mono : ∀ (l:List UInt8) (v:Int) (n:Bool),0≤v→(∀ c∈l,okC c)→v≤(scw l v n).1
  | [],v,n,_,_=>Int.le_refl _
  | c::r,v,n,h0,hd=>by
    have hr : ∀ d∈r,okC d:=fun d hd'=>hd d (by simp[hd'])
    rw[scw]
    split
    · exact scw_mono r v true h0 hr
    · split
      · exact scw_mono r v n h0 hr
      · have hc:isDig c:=by
          rcases hd c (by simp) with h|h|h
          · exact h
          · omega
          · omega
        unfold isDig at hc
        have:=scw_mono r (v*10+((c.toNat:Int)-48)) n (by omega) hr
        omega
def WnInv (l:LLw) (v:Int) (n:Bool) (i:Int):Prop:=2≤l.length∧2≤(lAt l).length∧0≤i∧i≤((lW l).size:Int)∧(lW l).size≤100∧0≤v∧(∀ c∈(lW l).data.toList,okC c)∧(scw ((lW l).data.toList.drop i.toNat) v n).1≤4611686018427387904
def outWA (x:LSpec.X spWA) (y:LSpec.Y spWA):T (Exit×List Av×LSpec.Y spWA):=
  .need (WnInv x.2.1 x.2.2.1 x.2.2.2.1 x.2.2.2.2.2.1) (.lt (scw ((lW x.2.1).data.toList.drop (Int.toNat x.2.2.2.2.2.1)) x.2.2.1 x.2.2.2.1) fun r=>.ret (.exit 0,[aI .i64 x.1,aI .i64 r.1,aB r.2,aI .i64 x.2.2.2.2.1],y))
theorem wnA_core (k : Int) (l : LLw) (v : Int) (n : Bool) (t i : Int) (y : F) (Q : Exit × List Av × LSpec.Y spWA → Prop) (hq : (outWA (k, l, v, n, t, i, ()) (y, ())).wp Q) : (aR k l v n t i y).wp fun r => match r with
      | .again x' y'=>((ByteArray.size (lW x'.2.1):Int)-x'.2.2.2.2.2.1).toNat<(((lW l).size:Int)-i).toNat∧(outWA x' y').wp Q
      | .out e avs y'=>Q (e,avs,y'):=by
  obtain ⟨⟨h1,h2,i0,hi,h100,hv,hd,hb⟩,hq⟩:=hq
  have h1:2≤l.length:=h1
  have h2:2≤(lAt l).length:=h2
  have i0:0≤i:=i0
  have hi:i≤((lW l).size:Int):=hi
  have h100:(lW l).size≤100:=h100
  have hv:0≤v:=hv
  have hd : ∀ c∈(lW l).data.toList,okC c:=hd
  have hb:(scw ((lW l).data.toList.drop i.toNat) v n).1≤4611686018427387904:=hb
  have hq:Q (.exit 0,[aI .i64 k,aI .i64 (scw ((lW l).data.toList.drop i.toNat) v n).1,aB (scw ((lW l).data.toList.drop i.toNat) v n).2,aI .i64 t],(y,())):=hq
  have hsz:(lW l).size=(lW l).data.toList.length:=Lib.size_eq _
  refine gW_wp h1 h2 ⟨fun hlt=>?_,fun hge=>?_⟩
  · have hlt:=of_decide_eq_true hlt
    obtain ⟨c,hc⟩:=elem_at (l:=(lW l).data.toList) i0 (by omega)
    have hdr:=drop_at i0 hc
    have ag : ∀ (v':Int) (n':Bool),0≤v'→scw ((lW l).data.toList.drop i.toNat) v n=scw ((lW l).data.toList.drop (i+1).toNat) v' n'→(aAg k l v' n' t i y).wp fun r=>match r with
        | .again x' y'=>((ByteArray.size (lW x'.2.1):Int)-x'.2.2.2.2.2.1).toNat<(((lW l).size:Int)-i).toNat∧(outWA x' y').wp Q
        | .out e avs y'=>Q (e,avs,y'):=fun v' n' hv' e=>by
      rw[e]at hb hq
      unfold aAg
      rw[wi1_eq (i:=i) (by omega)]
      exact ⟨show (((lW l).size:Int)-(i+1)).toNat<(((lW l).size:Int)-i).toNat by omega,wned ⟨h1,h2,show 0≤i+1 by omega,show i+1≤((lW l).size:Int) by omega,h100,hv',hd,hb⟩ hq⟩
    have hcm:=hd c (List.mem_of_getElem? hc)
    refine gW_wp h1 h2 (wget i0 hc ⟨fun h45=>?_,fun h45=>⟨fun h46=>?_,fun h46=>?_⟩⟩)
    · have h45:(c.toNat:Int)=45:=by simpa using h45
      exact ag v true hv (by rw[hdr,scw,if_pos h45])
    · have h45:¬ (c.toNat:Int)=45:=by simpa using h45
      have h46:¬ (c.toNat:Int)=46:=by simpa using h46
      have hc8:c.toNat<256:=UInt8.toNat_lt c
      have hdc:48≤(c.toNat:Int)∧(c.toNat:Int)≤57:=by
        rcases hcm with h|h|h
        · exact h
        · exact absurd h h45
        · exact absurd h h46
      have e:scw ((lW l).data.toList.drop i.toNat) v n=scw ((lW l).data.toList.drop (i+1).toNat) (v*10+((c.toNat:Int)-48)) n:=by
        rw[hdr,scw,if_neg h45,if_neg h46]
      have hm:=scw_mono ((lW l).data.toList.drop (i+1).toNat) (v*10+((c.toNat:Int)-48)) n (by omega) (fun d hd'=>hd d (List.mem_of_mem_drop hd'))
      rw[←e]at hm
      have e3:IntKind.i64.wrap (IntKind.i64.wrap (v*10)+IntKind.i64.wrap (IntKind.u8.wrap ((c.toNat:Int)-48)))=v*10+((c.toNat:Int)-48):=by
        rw[IntKind.wrap_u8,show ((c.toNat:Int)-48)%256=(c.toNat:Int)-48 from by omega]
        rw[IntWalk.i64_in (v*10) (by omega),IntWalk.i64_in ((c.toNat:Int)-48) (by omega),IntWalk.i64_in _ (by omega)]
      rw[e3]
      exact ag _ n (by omega) e
    · have h45:¬ (c.toNat:Int)=45:=by simpa using h45
      have h46:(c.toNat:Int)=46:=by simpa using h46
      exact ag v n hv (by rw[hdr,scw,if_neg h45,if_pos h46])
  · have hge:=of_decide_eq_false hge
    rw[drop_end (by omega),scw]at hq
    exact hq
theorem wnA_ok:LoopOk Tryz.prog 0 (bodyOf Tryz.f3 0) (spWA.run outWA):=
  loop_ok (E:=EW8) (L:=fun _=>none) mixed 0 (loops_none _ _ _) spWA (Nat.zero_le _) outWA (fun x _=>((ByteArray.size (lW x.2.1):Int)-x.2.2.2.2.2.1).toNat) (by
    rintro ⟨k,l,v,n,t,i,⟨⟩⟩ ⟨y,⟨⟩⟩ Q hq
    rw[tr_wnA_eq k l v n t i y]
    exact wnA_core k l v n t i y Q hq)
def outWB (x:LSpec.X spWB) (y:LSpec.Y spWB):T (Exit×List Av×LSpec.Y spWB):=
  .need (0≤x.2.2.2.1∧x.2.2.2.1≤x.1∧x.1≤9∧x.2.2.1=10^x.2.2.2.1.toNat) (.ret (.exit 2,[aI .i64 x.2.1,aI .i64 (10^(Int.toNat x.1))],y))
theorem wnB_core (k v t i : Int) (y : F) (Q : Exit × List Av × LSpec.Y spWB → Prop) (hq : (outWB (k, v, t, i, ()) (y, ())).wp Q) : (bR k v t i y).wp fun r => match r with
      | .again x' y'=>(x'.1-x'.2.2.2.1).toNat<(k-i).toNat∧(outWB x' y').wp Q
      | .out e avs y'=>Q (e,avs,y'):=by
  obtain ⟨⟨h0,h1,h9,ht⟩,hq⟩:=hq
  have h0:0≤i:=h0
  have h1:i≤k:=h1
  have h9:k≤9:=h9
  have ht:t=10^i.toNat:=ht
  have hq:Q (.exit 2,[aI .i64 v,aI .i64 (10^k.toNat)],(y,())):=hq
  subst ht
  refine ⟨fun hlt=>?_,fun hge=>?_⟩
  · have hlt:=of_decide_eq_true hlt
    have hb:=ten_b (n:=i.toNat) (by omega)
    rw[wi1_eq (i:=i) (by omega),IntWalk.i64_in (10^i.toNat*10) (by omega)]
    refine ⟨show (k-(i+1)).toNat<(k-i).toNat by omega,wned ⟨show 0≤i+1 by omega,show i+1≤k by omega,h9,?_⟩ hq⟩
    show (10:Int)^i.toNat*10=10^(i+1).toNat
    rw[show (i+1).toNat=i.toNat+1 from by omega,Int.pow_succ]
  · have hge:=of_decide_eq_false hge
    obtain rfl:i=k:=by omega
    exact hq
theorem wnB_ok:LoopOk Tryz.prog 0 (bodyOf Tryz.f3 1) (spWB.run outWB):=
  loop_ok (E:=EW8) (L:=fun _=>none) mixed 0 (loops_none _ _ _) spWB (Nat.zero_le _) outWB (fun x _=>(x.1-x.2.2.2.1).toNat) (by
    rintro ⟨k,v,t,i,⟨⟩⟩ ⟨y,⟨⟩⟩ Q hq
    rw[tr_wnB_eq k v t i y]
    exact wnB_core k v t i y Q hq)
noncomputable def lpWn:Loops:=manyL [(11,spWA.run outWA),(21,spWB.run outWB)]
end Go.Proofs.YtmcbljjgkmkhcaaGreatDoor
namespace Ax
open Go Go.RowKit Go.Proofs.YtmcbljjgkmkhcaaGreatDoor
def Bd (k:Nat) (r:Rat):Prop:=r.num.natAbs<2^k∧r.den<2^k
theorem Bd.mono {j k:Nat} {r:Rat} (h:Bd j r) (hk:j≤k):Bd k r:=
  ⟨Nat.lt_of_lt_of_le h.1 (Nat.pow_le_pow_right (by omega) hk),Nat.lt_of_lt_of_le h.2 (Nat.pow_le_pow_right (by omega) hk)⟩
theorem bd_divInt {a b:Int} {k:Nat} (h0:b≠0) (ha:a.natAbs<2^k) (hb:b.natAbs<2^k):Bd k (Rat.divInt a b):=by
  obtain ⟨h1,h2⟩:=divInt_le (a:=a) h0
  exact ⟨by omega,by omega⟩
theorem pow_mul {a b j k:Nat} (ha:a<2^j) (hb:b<2^k):a*b<2^(j+k):=by
  rw[Nat.pow_add];exact Nat.mul_lt_mul'' ha hb
theorem pow_mul_z {a b:Int} {j k:Nat} (ha:a.natAbs<2^j) (hb:b.natAbs<2^k):(a*b).natAbs<2^(j+k):=by
  rw[Int.natAbs_mul];exact pow_mul ha hb
theorem pow_add_z {a b:Int} {k:Nat} (ha:a.natAbs<2^k) (hb:b.natAbs<2^k):(a+b).natAbs<2^(k+1):=by
  have:=Int.natAbs_add_le a b
  rw[Nat.pow_succ];omega
theorem pow_up {a k:Nat} (h:a<2^k):a<2^(k+1):=by rw[Nat.pow_succ];omega
theorem den_z (x:Rat):(x.den:Int)≠0:=by have:=x.den_pos;omega
theorem bd_add {x y:Rat} {j k:Nat} (hx:Bd j x) (hy:Bd k y):Bd (j+k+1) (x+y):=by
  rw[←Rat.num_divInt_den x,←Rat.num_divInt_den y,Rat.divInt_add_divInt _ _ (den_z x) (den_z y)]
  refine bd_divInt (Int.mul_ne_zero (den_z x) (den_z y)) ?_ (pow_up (pow_mul_z hx.2 hy.2))
  refine pow_add_z (pow_mul_z hx.1 hy.2) ?_
  rw[Nat.add_comm]
  exact pow_mul_z hy.1 hx.2
theorem bd_neg {x:Rat} {k:Nat} (h:Bd k x):Bd k (-x):=by
  refine ⟨?_,?_⟩
  · rw[Rat.neg_num,Int.natAbs_neg];exact h.1
  · rw[Rat.neg_den];exact h.2
theorem bd_sub {x y:Rat} {j k:Nat} (hx:Bd j x) (hy:Bd k y):Bd (j+k+1) (x-y):=by
  rw[Rat.sub_eq_add_neg];exact bd_add hx (bd_neg hy)
theorem pow_bp {a k:Nat} (h:a<2^k) (hk:k≤1024):a<Pq.bp 32:=by
  exact Nat.lt_of_lt_of_le h (bp_ge 1024 rfl hk)
theorem Bd.fits {k:Nat} {r:Rat} (h:Bd k r) (hk:k≤1024):Fits r:=⟨pow_bp h.1 hk,pow_bp h.2 hk⟩
theorem safe_rOf {k:Nat} {b:Int} {r:Rat} (h:Bd k r) (hk:k≤1024) (hb:(k:Int)≤b):SafeF b (rOf r)∧qF (rOf r)=r:=by
  have hf:=h.fits hk
  obtain ⟨h1,h2⟩:=ok_rOf hf
  have e1:zW (rOf r).1=r.num:=zW_wOf hf.1
  have e2:zW (rOf r).2=(r.den:Int):=zW_wOf (by simpa using hf.2)
  refine ⟨⟨?_,?_,h1⟩,h2⟩
  · rw[e1]
    have:=Pq.bitn_le.2 h.1
    omega
  · rw[e2,Int.natAbs_natCast]
    have:=Pq.bitn_le.2 h.2
    omega
theorem safeF_iff {b:Int} {x:F}:safeF b x=true↔SafeF b x:=by unfold safeF;simp
theorem both_rOf {j k:Nat} {p q:Rat} (hp:Bd j p) (hq:Bd k q) (hj:j≤500) (hk:k≤500):both (rOf p) (rOf q)=true:=
  both_iff.2 ⟨(safe_rOf hp (by omega) (by omega)).1,(safe_rOf hq (by omega) (by omega)).1⟩
theorem q_rOf {k:Nat} {r:Rat} (h:Bd k r) (hk:k≤1024):qF (rOf r)=r:=(safe_rOf h hk (Int.le_refl _)).2
theorem cq_le {p q:Rat}:cq p q≤0↔p≤q:=by
  unfold cq
  split
  · rename_i h;exact ⟨fun _=>Rat.le_of_lt h,fun _=>by omega⟩
  · split
    · rename_i h;exact ⟨fun h=>by omega,fun h'=>absurd h (Rat.not_lt.2 h')⟩
    · rename_i h h';exact ⟨fun _=>Rat.not_lt.1 h',fun _=>by omega⟩
end Ax
namespace Go.Proofs.YtmcbljjgkmkhcaaGreatDoor
open Go.RowKit Ax
noncomputable def EWL:Env Tryz.prog:=⟨EW8.con,EW8.zero,EW8.cod,fun _=>false,EW8.base,EW8.frz⟩
noncomputable def OWL:Opt EWL.con:=⟨[],[],fcs [(29,false),(75,false)]⟩
def subV (a b:F):F:=if both a b=true then rOf (qF a-qF b) else (w0,w0)
def cmpV (a b:F):Int:=if both a b=true then cq (qF a) (qF b) else 0
def wEnd (e:F) (ten:Int):T Av:=.need (sg 1∧sg (IntKind.wrap .i64 (2*ten))∧1≤IntKind.wrap .i64 (2*ten)) (.ite (both e (rOf (Rat.divInt 1 (IntKind.wrap .i64 (2*ten))))) (.ret (.one (.v (.bool (decide (cmpV e (rOf (Rat.divInt 1 (IntKind.wrap .i64 (2*ten))))≤0)))))) (.ret (.one (.v (.bool false)))))
def wRest (a:F) (k v:Int):T Av:=.need ((0:Int)≤0∧0≤k∧k≤9∧(1:Int)=10^(Int.toNat 0)) (.need (sg v∧sg (10^k.toNat)∧(1:Int)≤10^k.toNat) (.ite (decide (Pq.cz (zW (subV a (rOf (Rat.divInt v (10^k.toNat)))).1) 0<0)) (wEnd (subV (rOf (Rat.divInt v (10^k.toNat))) a) (10^k.toNat)) (wEnd (subV a (rOf (Rat.divInt v (10^k.toNat)))) (10^k.toNat))))
def wMid (a:F) (k:Int) (l:LLw):T Av:=.need (WnInv l 0 false 0) (.lt (scw ((lW l).data.toList.drop (Int.toNat 0)) 0 false) fun r=>.ite r.2 (wRest a k (IntKind.wrap .i64 (0-r.1))) (wRest a k r.1))
def wNo:T Av:=.ret (.one (.v (.bool false)))
def wLin (a:F) (k:Int) (l:LLw):T Av:=.ite (!true) wNo (.ite (!true) wNo (.ite ((List.length l:Int) != 2) wNo (.get l 1 fun e=>.need (((List.length e.2:Int) != 3)=false) (wMid a k l))))
def wHead (n d k:Int):T Av:=.need (sg n∧sg d∧1≤d) (.need ((8:Int)≠0) (.need (in64 0) (.need (List.length [(rOf (Rat.divInt n d),rIw 0)]≤1000 ∧ ∀ p∈[(rOf (Rat.divInt n d),rIw 0)],RoOk k p) (.need ((roundS k [(rOf (Rat.divInt n d),rIw 0)]).size≤900000) (wLin (rOf (Rat.divInt n d)) k (linesOf (roundS k [(rOf (Rat.divInt n d),rIw 0)])))))))
def wLaw (n d g:Int):T Av:=.need True (.need ((!true)=false) (wHead (IntKind.wrap .i64 n) (IntKind.wrap .i64 (IntKind.wrap .i64 d+1)) (IntKind.wrap .i64 (Int.tmod g 8))))
theorem tr_wlaw_eq (n d g:Int):fnPC OWL EWL lpWn Tryz.f3 (encs [(false,.int .i32),(false,.int .u16),(false,.int .u8)] (n,d,g,()))=wLaw n d g:=by kernel_rfl
theorem wi64 {z:Int} (h : -9223372036854775808≤z∧z≤9223372036854775807):IntKind.i64.wrap z=z:=IntWalk.i64_in _ (by omega)
theorem wpow64 {z:Int} (h:in64 z):z.natAbs<2^64:=by unfold in64 at h;show z.natAbs<18446744073709551616;omega
theorem okC_ne {c:UInt8} (h:okC c):c≠10∧c≠35∧bl c=false:=by
  unfold okC isDig at h
  refine ⟨fun e=>?_,fun e=>?_,?_⟩
  · subst e;revert h;decide
  · subst e;revert h;decide
  · rw[bl_of];exact decide_eq_false (by omega)
theorem dec_word {z k nz:Int} (h0:0≤z) (hz:z.natAbs<Pq.bp 32) (hk:0≤k):wordU (decS z k nz).data.toList:=by
  obtain ⟨_,h2,h3⟩:=scw_dec (z:=z) (k:=k) (nz:=nz) h0 hz hk
  exact ⟨h3,fun c hc=>okC_ne (h2 c hc)⟩
theorem hd_list:(intsS [1,2,0,0]).data.toList=rowU [[49],[50],[48],[48]]:=by kernel_rfl
theorem one_s:itoaS 1=⟨#[49]⟩:=by kernel_rfl
theorem simp_word {l:List UInt8} (h:l≠[]) (h2:l.all (fun c=>decide (48≤c.toNat∧c.toNat≤57))=true):wordU l:=⟨h,fun c hc=>okC_ne (.inl (by
  have:=of_decide_eq_true (List.all_eq_true.1 h2 c hc)
  unfold isDig
  omega))⟩
theorem round_list {k:Int} {a b:F}:(roundS k [(a,b)]).data.toList=rowsU [[[49],[50],[48],[48]],[[49],(decV a k).data.toList,(decV b k).data.toList]]:=by
  have e:roundS k [(a,b)]=intsS [1,2,0,0]++(roF k 1 (a,b)++⟨#[]⟩):=rfl
  rw[e,app_nil]
  unfold roF
  rw[one_s]
  show ((intsS [1,2,0,0])++rowS [⟨#[49]⟩,decV a k,decV b k]).data.toList=_
  have e2:(intsS [1,2,0,0]++rowS [⟨#[49]⟩,decV a k,decV b k]).data.toList=(intsS [1,2,0,0]).data.toList++(rowS [⟨#[49]⟩,decV a k,decV b k]).data.toList:=by simp
  rw[e2,hd_list,rowS_list]
  simp only[rowsU,List.map_cons,List.map_nil,List.append_nil]
theorem round_lines {k:Int} {a b:F} (ha:wordU (decV a k).data.toList) (hb:wordU (decV b k).data.toList):linesOf (roundS k [(a,b)])=[(1,[⟨#[49]⟩,⟨#[50]⟩,⟨#[48]⟩,⟨#[48]⟩]),(2,[⟨#[49]⟩,decV a k,decV b k])]:=by
  have w1:wordU [49]:=simp_word (by simp) (by decide)
  have w2:wordU [50]:=simp_word (by simp) (by decide)
  have w0:wordU [48]:=simp_word (by simp) (by decide)
  rw[linesOf_rows _ ?_ _ round_list]
  · show [((0:Int)+1,_),((0:Int)+1+1,[mkB [49],mkB (decV a k).data.toList,mkB (decV b k).data.toList])]=_
    rw[mkB_data,mkB_data]
    rfl
  · intro ws hws
    simp only[List.mem_cons,List.not_mem_nil,or_false]at hws
    rcases hws with rfl|rfl
    · refine ⟨by simp,fun w hw=>?_⟩
      simp only[List.mem_cons,List.not_mem_nil,or_false]at hw
      rcases hw with rfl|rfl|rfl|rfl
      · exact w1
      · exact w2
      · exact w0
      · exact w0
    · refine ⟨by simp,fun w hw=>?_⟩
      simp only[List.mem_cons,List.not_mem_nil,or_false]at hw
      rcases hw with rfl|rfl|rfl
      · exact w1
      · exact ha
      · exact hb
theorem z0_dec (k:Int):decV (rIw 0) k=decS 0 (clampD k) 0:=by
  unfold decV
  rw[if_pos (show safeF 500 (rIw 0)=true by kernel_rfl)]
  have e1:zW (rIw 0).1=0:=by kernel_rfl
  have e2:zW (rIw 0).2=1:=by kernel_rfl
  have e3:qdec (rIw 0) (clampD k)=0:=by
    unfold qdec
    rw[e1,e2]
    simp
  rw[e3,e1]
theorem wEnd_wp {e:F} {t:Int} (ht:0<t∧t≤1000000000) (h1:both e (rOf (Rat.divInt 1 (2*t)))=true) (h2:decide (cq (qF e) (qF (rOf (Rat.divInt 1 (2*t))))≤0)=true):(wEnd e t).wp (· = aB true):=by
  unfold wEnd
  have w2:IntKind.i64.wrap (2*t)=2*t:=wi64 (by omega)
  rw[w2]
  refine wned ⟨by unfold sg;decide,by unfold sg;omega,by omega⟩ (witt h1 ?_)
  show Av.one _=_
  unfold cmpV
  rw[if_pos h1,h2]
  rfl
theorem wRest_wp {p:Rat} {k v:Int} (hk:0≤k∧k≤9) (Bp:Bd 64 p) (hv : -4611686018427387903≤v∧v≤4611686018427387903) (h1:2*(p.num*10^k.toNat-v*p.den)≤p.den) (h2 : -(p.den:Int)≤2*(p.num*10^k.toNat-v*p.den)):(wRest (rOf p) k v).wp (· = aB true):=by
  obtain ⟨t0,t9⟩:=ten_b (n:=k.toNat) (by omega)
  have hden:0<(p.den:Int):=by have:=p.den_pos;omega
  have et:(10:Int)^k.toNat≠0:=by omega
  have iT:in64 (10^k.toNat):=⟨by omega,by omega⟩
  have iT2:in64 (2*10^k.toNat):=⟨by omega,by omega⟩
  have i11:in64 1:=⟨by omega,by omega⟩
  have iv:in64 v:=⟨by omega,by omega⟩
  have Bh:Bd 64 (Rat.divInt 1 (2*10^k.toNat)):=bd_divInt (by omega) (wpow64 i11) (wpow64 iT2)
  have Bv:Bd 64 (Rat.divInt v (10^k.toNat)):=bd_divInt et (wpow64 iv) (wpow64 iT)
  have ep:=Rat.num_divInt_den p
  have n1:p-Rat.divInt v (10^k.toNat)≤Rat.divInt 1 (2*10^k.toNat):=by
    conv=>lhs;rw[←ep]
    exact near_q hden t0 h1
  have n2:Rat.divInt v (10^k.toNat)-p≤Rat.divInt 1 (2*10^k.toNat):=by
    conv=>lhs;rw[←ep]
    exact near_q' hden t0 h2
  have B1:Bd 129 (p-Rat.divInt v (10^k.toNat)):=bd_sub Bp Bv
  have B2:Bd 129 (Rat.divInt v (10^k.toNat)-p):=bd_sub Bv Bp
  have b1:=both_rOf Bp Bv (by decide) (by decide)
  have b2:=both_rOf Bv Bp (by decide) (by decide)
  have q1:=q_rOf Bp (by decide)
  have q2:=q_rOf Bv (by decide)
  have s1:subV (rOf p) (rOf (Rat.divInt v (10^k.toNat)))=rOf (p-Rat.divInt v (10^k.toNat)):=by unfold subV;rw[if_pos b1,q1,q2]
  have s2:subV (rOf (Rat.divInt v (10^k.toNat))) (rOf p)=rOf (Rat.divInt v (10^k.toNat)-p):=by unfold subV;rw[if_pos b2,q1,q2]
  unfold wRest
  rw[s1,s2]
  refine wned ⟨Int.le_refl 0,hk.1,hk.2,rfl⟩ (wned ⟨by unfold sg;omega,by unfold sg;omega,by omega⟩ ⟨fun _=>wEnd_wp ⟨t0,t9⟩ (both_rOf B2 Bh (by decide) (by decide)) ?_,fun _=>wEnd_wp ⟨t0,t9⟩ (both_rOf B1 Bh (by decide) (by decide)) ?_⟩)
  · rw[q_rOf B2 (by decide),q_rOf Bh (by decide)];exact decide_eq_true (cq_le.2 n2)
  · rw[q_rOf B1 (by decide),q_rOf Bh (by decide)];exact decide_eq_true (cq_le.2 n1)
theorem wlaw_wp (n d g:Int) (hn : -2147483648≤n∧n≤2147483647) (hd:0≤d∧d≤65535) (hg:0≤g∧g≤255):(wLaw n d g).wp (· = aB true):=by
  have e1:IntKind.i64.wrap n=n:=wi64 (by omega)
  have e2:IntKind.i64.wrap (IntKind.i64.wrap d+1)=d+1:=by rw[wi64 (z:=d) (by omega),wi64 (by omega)]
  have e3:IntKind.i64.wrap (Int.tmod g 8)=g%8:=by rw[Int.tmod_eq_emod_of_nonneg (by omega),wi64 (by omega)]
  have hk:0≤g%8∧g%8≤9:=by omega
  unfold wLaw
  rw[e1,e2,e3]
  generalize g%8=k at *
  obtain ⟨t0,t9⟩:=ten_b (n:=k.toNat) (by omega)
  have i1:in64 n:=⟨by omega,by omega⟩
  have i2:in64 (d+1):=⟨by omega,by omega⟩
  have hd0:0<d+1:=by omega
  have Bp:Bd 64 (Rat.divInt n (d+1)):=bd_divInt (by omega) (wpow64 i1) (wpow64 i2)
  have hpd:=divInt_le (a:=n) (b:=d+1) (by omega)
  unfold wHead
  refine wned trivial (wned rfl (wned ⟨by unfold sg;omega,by unfold sg;omega,by omega⟩ (wned (by decide) (wned ⟨by decide,by decide⟩ ?_))))
  generalize hp:Rat.divInt n (d+1)=p at *
  have hfs:=safe_rOf (b:=500) Bp (by decide) (by decide)
  have zn:zW (rOf p).1=p.num:=zW_wOf (Bp.fits (by decide)).1
  have zd:zW (rOf p).2=(p.den:Int):=zW_wOf (by have:=(Bp.fits (by decide)).2;simpa using this)
  have hden:0<(p.den:Int):=by have:=p.den_pos;omega
  have hz : ∃ z,qdec (rOf p) k=z∧0≤z∧z≤2147483649000000000∧2*((p.num.natAbs:Int)*10^k.toNat-z*p.den)≤p.den ∧ -(p.den:Int)≤2*((p.num.natAbs:Int)*10^k.toNat-z*p.den):=by
    refine ⟨_,rfl,?_⟩
    have e:qdec (rOf p) k=if (p.num.natAbs:Int)*10^k.toNat%p.den*2≥p.den then (p.num.natAbs:Int)*10^k.toNat/p.den+1 else (p.num.natAbs:Int)*10^k.toNat/p.den:=by
      unfold qdec;rw[zn,zd]
    have hne:=near_int hden e
    have hm0:0≤(p.num.natAbs:Int)*10^k.toNat:=Int.mul_nonneg (by omega) (by omega)
    have hm1:(p.num.natAbs:Int)*10^k.toNat≤2147483648*1000000000:=Int.mul_le_mul (by omega) t9 (by omega) (by omega)
    have hq0:=Int.ediv_nonneg hm0 (show 0≤(p.den:Int) by omega)
    have hq1:=Int.ediv_le_self (p.den:Int) hm0
    refine ⟨?_,?_,hne⟩
    · rw[e];split <;> omega
    · rw[e];split <;> omega
  obtain ⟨z,hze,z0,z1,n1,n2⟩:=hz
  have hcl:clampD k=k:=clamp_in (k:=k) (by omega)
  have hsf:safeF 500 (rOf p)=true:=safeF_iff.2 hfs.1
  have ea:decV (rOf p) k=decS z k p.num:=by
    unfold decV
    rw[if_pos hsf,hcl,hze,zn]
  have eb:decV (rIw 0) k=decS 0 k 0:=by rw[z0_dec,hcl]
  have hzb:z.natAbs<Pq.bp 32:=i64_lt (by omega) (by omega)
  have h0b:(0:Int).natAbs<Pq.bp 32:=i64_lt (by omega) (by omega)
  have sa:=decW_size (z:=z) (k:=k) (nz:=p.num) z0 (by omega) hk.1 hk.2
  have sb:=decW_size (z:=0) (k:=k) (nz:=0) (Int.le_refl 0) (by omega) hk.1 hk.2
  have wa:wordU (decV (rOf p) k).data.toList:=by rw[ea];exact dec_word z0 hzb hk.1
  have wb:wordU (decV (rIw 0) k).data.toList:=by rw[eb];exact dec_word (Int.le_refl 0) h0b hk.1
  obtain ⟨hsc,hch,hnn⟩:=scw_dec (z:=z) (k:=k) (nz:=p.num) z0 hzb hk.1
  have hsz:(roundS k [(rOf p,rIw 0)]).size≤900000:=by
    have h:=congrArg List.length (round_list (k:=k) (a:=rOf p) (b:=rIw 0))
    rw[←Lib.size_eq]at h
    rw[h]
    simp only[rowsU,rowU,inter,List.length_append,List.length_cons,List.length_nil]
    rw[←Lib.size_eq,←Lib.size_eq,ea,eb]
    omega
  refine wned ⟨show (1:Nat)≤1000 by decide,fun q hq=>?_⟩ (wned hsz ?_)
  · rw[List.mem_singleton.1 hq]
    refine ⟨hsf,by kernel_rfl,?_,?_⟩
    · show (decV (rOf p) k).size≤2000;rw[ea];omega
    · show (decV (rIw 0) k).size≤2000;rw[eb];omega
  rw[round_lines wa wb,ea,eb]
  have hl:lW [(1,[⟨#[49]⟩,⟨#[50]⟩,⟨#[48]⟩,⟨#[48]⟩]),(2,[⟨#[49]⟩,decS z k p.num,decS 0 k 0])]=decS z k p.num:=rfl
  refine witf rfl (witf rfl (witf rfl (wget (by decide) rfl (wned rfl ?_))))
  unfold wMid
  rw[Int.toNat_zero,List.drop_zero,hl,hsc]
  refine wned ⟨by simp,show (2:Nat)≤3 by decide,Int.le_refl 0,by omega,by rw[hl];exact sa,Int.le_refl 0,by rw[hl];exact hch,by rw[hl,Int.toNat_zero,List.drop_zero,hsc];show z≤_;omega⟩ ⟨fun hneg=>?_,fun hneg=>?_⟩
  · have hneg:=of_decide_eq_true hneg
    have w0:IntKind.i64.wrap (0-z) = -z:=by rw[wi64 (by omega)];omega
    show (wRest (rOf p) k (IntKind.i64.wrap (0-z))).wp _
    rw[w0]
    have eb:(p.num.natAbs:Int)*10^k.toNat = -(p.num*10^k.toNat):=by rw[show (p.num.natAbs:Int) = -p.num by omega,Int.neg_mul]
    rw[eb]at n1 n2
    have ec:(-z)*(p.den:Int) = -(z*p.den):=Int.neg_mul _ _
    exact wRest_wp hk Bp (by omega) (by rw[ec];omega) (by rw[ec];omega)
  · have hneg:=of_decide_eq_false hneg
    have hcase:2*(p.num*10^k.toNat-z*p.den)≤p.den ∧ -(p.den:Int)≤2*(p.num*10^k.toNat-z*p.den):=by
      by_cases hz0:z=0
      · subst hz0
        rw[Int.zero_mul]at n1 n2 ⊢
        by_cases hs:p.num<0
        · have eb:(p.num.natAbs:Int)*10^k.toNat = -(p.num*10^k.toNat):=by rw[show (p.num.natAbs:Int) = -p.num by omega,Int.neg_mul]
          rw[eb]at n1 n2
          omega
        · rw[show (p.num.natAbs:Int)=p.num by omega]at n1 n2
          exact ⟨n1,n2⟩
      · have hs:¬ p.num<0:=fun h=>hneg ⟨h,hz0⟩
        rw[show (p.num.natAbs:Int)=p.num by omega]at n1 n2
        exact ⟨n1,n2⟩
    exact wRest_wp hk Bp (by omega) hcase.1 hcase.2
end Go.Proofs.YtmcbljjgkmkhcaaGreatDoor
namespace Ax
open Go Go.RowKit Go.ChangeShapes Go.WideShapes
def Fit:(c:Cd)→El c→Prop
  | .int k,z=>(Lit.int k z).wf=true
  | .bool,_=>True
  | .str,s=>s.size≤maxLen
  | .words,_=>True
  | .unit,_=>True
  | .pair a b,x=>Fit a x.1∧Fit b x.2
  | .sl c,xs=>xs.length≤maxLen ∧ ∀ x∈xs,Fit c x
  | .ptr c,x=>Fit c x
abbrev Rw (w:World):Nat→Prop:=fun b=>b<w.heap.size
structure Opens (P:Program) (t:TypeId) (c:Cd):Prop where
  size:P.cellsOf t=csz c
  ok : ∀ {H:Type} (enc:TypeId×Value→H) (w:World) (fuel:Nat) (cs:List Value) (x:DataW H×List MemPlace),
    DataW.trod enc P w 0 (fun _=>true) true fuel t cs=some x → ∃ y:El c,Fit c y∧Is w (Rw w) [] (ck c y) cs
section
variable {P:Program}
theorem opens_int {t:TypeId} {k:IntKind} (hu:P.underlying t=some (.int k)) (hs:P.cellsOf t=1):Opens P t (.int k):=
  ⟨hs,fun enc w fuel cs x h=>by
    obtain ⟨n,rfl,rfl,hw⟩:=DataW.trod_int hu h
    exact ⟨n,hw,.v rfl .nil⟩⟩
def aggT (P:Program) (t:TypeId):Option Bool:=match P.underlying t with
  | some (.struct _)|some (.array _ _)=>some true
  | some .bool|some (.int _)|some .string|some (.slice _)|some (.pointer _)=>some false
  | _=>none
def OpensAll (P:Program):List TypeId→List (Bool×Cd)→Prop
  | [],[]=>True
  | t::ts,c::cs=>Opens P t c.2∧aggT P t=some c.1∧OpensAll P ts cs
  | _,_=>False
def FitA:(ts:List (Bool×Cd))→Els ts→Prop
  | [],_=>True
  | t::ts,x=>Fit t.2 x.1∧FitA ts x.2
theorem single_cells {w:World} {r:Reach} {base:Nat} {t:TypeId} {v:Value} (ha:aggT P t=some false) (h:Value.okWide P w r base t v):v.cells.toList=[v]:=by
  unfold aggT at ha
  unfold Value.okWide at h
  cases hu:P.underlying t with
  | none=>simp[hu]at ha
  | some u =>
    cases u <;> simp[hu]at ha h
    all_goals
      unfold Cell.okWide Cell.ok at h
      cases v <;> simp_all [Value.cells]
theorem agg_cells {w:World} {r:Reach} {base:Nat} {t:TypeId} {v:Value} (ha:aggT P t=some true) (h:Value.okWide P w r base t v) : ∃ us:List Value,v=.agg us.toArray∧v.cells.toList=us:=by
  unfold aggT at ha
  unfold Value.okWide at h
  cases hu:P.underlying t with
  | none=>simp[hu]at ha
  | some u =>
    cases u <;> simp[hu]at ha h
    all_goals
      obtain ⟨cs,rfl,_⟩:=h
      exact ⟨cs.toList,by simp,by simp[Value.cells]⟩
theorem is_one {w:World} {R:Nat→Prop} {σ:List Nat} {l:List Ck} {us:List Value} (h:Is w R σ l us) (h1:us.length=1) (hc : ∀ k∈l,0<k.size) : ∃ k,l=[k]∧k.size=1:=by
  match l,h with
  | [],h=>cases h;simp at h1
  | k::r,h =>
    obtain ⟨ua,ub,rfl,e,i1,i2⟩:=h.head
    have hk:=hc k (by simp)
    rw[List.length_append]at h1
    have hub:ub=[]:=List.length_eq_zero_iff.1 (by omega)
    subst hub
    match r,i2 with
    | [],_=>exact ⟨k,rfl,by simp at h1;omega⟩
    | k2::r2,i2 =>
      obtain ⟨uc,ud,e1,e2,_,_⟩:=i2.head
      have:=hc k2 (by simp)
      have:uc=[]:=by
        have:=congrArg List.length e1
        rw[List.length_append]at this
        exact List.length_eq_zero_iff.1 (by simp at this;omega)
      subst this
      simp at e2
      omega
theorem ck_size : ∀ (c:Cd) (x:El c),∀ k∈ck c x,0<k.size
  | .int k,x,k',h=>by simp[ck]at h;subst h;simp[Ck.size]
  | .bool,x,k',h=>by simp[ck]at h;subst h;simp[Ck.size]
  | .str,x,k',h=>by simp[ck]at h;subst h;simp[Ck.size]
  | .words,x,k',h=>by simp[ck]at h;subst h;simp[Ck.size]
  | .unit,x,k',h=>by simp[ck]at h
  | .pair a b,x,k',h=>by
    simp only[ck,List.mem_append]at h
    rcases h with h|h
    · exact ck_size a _ _ h
    · exact ck_size b _ _ h
  | .sl c,x,k',h=>by simp[ck]at h;subst h;simp[Ck.size]
  | .ptr c,x,k',h=>by simp[ck]at h;subst h;simp[Ck.size]
theorem arg_is {H:Type} {enc:TypeId×Value→H} {w:World} {r:Reach} {base:Nat} {t:TypeId} {b:Bool} {c:Cd} {v:Value} {d:DataW H} {p:List MemPlace} (hO:Opens P t c) (ha:aggT P t=some b)
    (hv:Value.okWide P w r base t v) (h:DataW.Trod enc P w 0 (fun _=>true) true t v d p) : ∃ y:El c,Fit c y∧AvIs w (Rw w) [] (encA b c y) v:=by
  obtain ⟨fuel,hf⟩:=h
  obtain ⟨y,h1,h2⟩:=hO.ok enc w fuel _ _ hf
  refine ⟨y,h1,?_⟩
  cases b with
  | true =>
    obtain ⟨us,rfl,e⟩:=agg_cells ha hv
    rw[e]at h2
    exact .agg h2
  | false =>
    have e:=single_cells ha hv
    rw[e]at h2
    obtain ⟨k,hk,hs⟩:=is_one h2 rfl (ck_size c y)
    unfold encA
    simp only[hk]at h2 ⊢
    exact .one hs h2
theorem args_are {H:Type} {enc:TypeId×Value→H} {w:World} {r:Reach} {base:Nat} : ∀ (ts:List (Bool×Cd)) (tys:List TypeId) (vs:List Value) (ds:List (DataW H)) (p:List MemPlace),OpensAll P tys ts →
    DataW.TrodAll enc P w 0 (fun _=>true) true tys vs ds p→(∀ (j:Nat) t v,tys[j]?=some t→vs[j]?=some v→Value.okWide P w r base t v) →
    ∃ x:Els ts,FitA ts x∧vs.length=(encs ts x).length∧(∀ (i:Nat) a v,(encs ts x)[i]?=some a→vs[i]?=some v→AvIs w (Rw w) [] a v)
  | [],[],vs,ds,p,_,h,_=>by
    obtain ⟨rfl,rfl,rfl⟩:=trodAll_nil h
    exact ⟨(),trivial,rfl,fun i a v h1=>by simp[encs]at h1⟩
  | [],_::_,_,_,_,hO,_,_=>hO.elim
  | _::_,[],_,_,_,hO,_,_=>hO.elim
  | c::ts,t::tys,vs,ds,p,hO,h,hv=>by
    obtain ⟨v,vs1,d,ds1,a,b,rfl,rfl,rfl,h1,h2⟩:=trodAll_cons h
    obtain ⟨o1,o2,o3⟩:=hO
    obtain ⟨y,f1,i1⟩:=arg_is o1 o2 (hv 0 t v rfl rfl) h1
    obtain ⟨x,f2,hl,i2⟩:=args_are ts tys vs1 ds1 b o3 h2 (fun j t' v' ht hv'=>hv (j+1) t' v' (by simpa using ht) (by simpa using hv'))
    refine ⟨(y,x),⟨f1,f2⟩,by simp[encs,hl],fun i a' v' ha' hv'=>?_⟩
    rcases i with _|i
    · cases ha';cases hv';exact i1
    · exact i2 i a' v' (by simpa [encs] using ha') (by simpa using hv')
theorem trod_stays {H:Type} {enc:TypeId×Value→H} {W W':World} (hl:laidOutB P=true) (hb:Below W.heap.size W W') : ∀ (tys:List TypeId) (vs:List Value) (ds:List (DataW H)) (p:List MemPlace),(∀ t∈tys,P.readableRec t=true∧t<P.types.size) →
    DataW.TrodAll enc P W 0 (fun _=>true) true tys vs ds p→(∀ x∈p,x.block<W.heap.size)→DataW.TrodAll enc P W' 0 (fun b=>decide (b<W.heap.size)) true tys vs ds p
  | [],vs,ds,p,_,h,_=>by
    obtain ⟨rfl,rfl,rfl⟩:=trodAll_nil h
    exact trodAll_mk0
  | t::tys,vs,ds,p,ht,h,hp=>by
    obtain ⟨v,vs1,d,ds1,a,b,rfl,rfl,rfl,h1,h2⟩:=trodAll_cons h
    exact trodAll_cons_mk (Below.trod hl (ht t (by simp)).1 (ht t (by simp)).2 h1 hb (fun x hx=>hp x (by simp[hx])))
      (trod_stays hl hb tys vs1 ds1 b (fun t' h'=>ht t' (by simp[h'])) h2 (fun x hx=>hp x (by simp[hx])))
theorem law_post {E:Env P} {L:Loops} {f:FuncId} {fn:Func} {H:Type} {enc:TypeId×Value→H} {s:ChangeSpec} {tb:TypeId} {W:World} {base:Nat} {args:Array Value} {ds gs:List (DataW H)} {before:List MemPlace}
    (hm:P.follows .mixedOrders=true) (hf:P.funcs[f]?=some fn) (hL : ∀ c,fn.body=some c→LoopsOk P 0 L c) (hlaid:laidOutB P=true) (ts:List (Bool×Cd))
    (hrun : ∀ x:Els ts,FitA ts x→(fnP E L fn (encs ts x)).wp fun av=>av=.one (.v (.bool true)))
    (tys:List TypeId) (hty:fn.params.toList=tys) (hO:OpensAll P tys ts) (hread : ∀ t∈tys,P.readableRec t=true∧t<P.types.size) (hres:fn.resultTypes = #[tb]) (hub:P.underlying tb=some .bool)
    (hvars:s.vars=[]) (hspec : ∀ ds:List (DataW H),ds.length=tys.length→s.fn H ds={ results:=[.lit (.bool true)],args:=ds })
    (hval : ∀ (j:Nat) t v,fn.params[j]?=some t→args[j]?=some v→Value.okWide P W .any base t v) (hW:DataW.Whole enc P fn.params.toList s.vars false W args.toList ds gs before) (hgl:GlobAt W (Ro W [] [])) :
    Calls P f args W fun e W' => ∃ v,e=.returned v∧s.post enc P fn false true false false W args v W':=by
  have hW':=hW
  obtain ⟨p,q,hA,hV,rfl,hfz,hnd⟩:=hW
  rw[hvars]at hV
  obtain ⟨rfl,rfl⟩:=trodVars_none hV
  rw[hty]at hA
  obtain ⟨x,hfit,hlen,hargs⟩:=args_are (r:=.any) (base:=base) ts tys args.toList ds p hO hA (fun j t v ht hv=>hval j t v (by rw[←hty]at ht;simpa using ht) (by simpa using hv))
  have hdl:ds.length=tys.length:=by
    have : ∀ (tys:List TypeId) (vs:List Value) (ds:List (DataW H)) (p:List MemPlace),DataW.TrodAll enc P W 0 (fun _=>true) true tys vs ds p→ds.length=tys.length:=by
      intro tys
      induction tys with
      | nil=>intro vs ds p h;obtain ⟨rfl,rfl,rfl⟩:=trodAll_nil h;rfl
      | cons t tys ih =>
        intro vs ds p h
        obtain ⟨v,vs1,d,ds1,a,b,rfl,rfl,rfl,h1,h2⟩:=trodAll_cons h
        simp[ih _ _ _ h2]
    exact this _ _ _ _ hA
  have hmem0:MemOk W [] [] []:=⟨rfl,by simp,by simp,hgl,fun i t cs b h1 h2=>by simp at h1⟩
  have hro : ∀ b,Rw W b→Ro W [] [] b:=fun b hb=>⟨hb,by simp,by simp⟩
  have hw:=fnP_wp (hrun x hfit)
  have hcall:=fn_ok (E:=E) (L:=L) (w:=W) (φ:=[]) (σ:=[]) hm hf hL (Nat.zero_le _) hmem0 hlen (fun i a v h1 h2=>(hargs i a v h1 h2).ro hro []) hw
  have hargsE:args.toList.toArray=args:=by simp
  rw[hargsE]at hcall
  refine hcall.mono fun e W' hr=>?_
  obtain ⟨v,av,m',σ',rfl,⟨hQ,hno⟩,hext,hkeep,hav,hmem'⟩:=hr
  have hv:v=.bool true:=by
    have:=nA_is hav
    rw[hQ]at this
    exact val_of this rfl
  subst hv
  have hb:=hkeep.below
  have hps : ∀ y∈p,y.block<W.heap.size:=fun y hy=>by simpa using hW'.lt y (by simp[hy])
  have hst:=trod_stays (enc:=enc) hlaid hb tys args.toList ds p hread hA hps
  refine ⟨_,rfl,ds,[],p++[],[],p,[],hW',?_,?_,?_,hb.frame _,fun h=>by cases h⟩
  · rw[List.append_nil,hspec ds hdl,hres]
    exact trodAll_mk1 (shut_bool hub true)
  · rw[List.append_nil,hspec ds hdl,hty]
    exact hst
  · rw[List.append_nil,hspec ds hdl,hvars]
    rfl
end
theorem handed_laid {H:Type} {enc:TypeId×Value→H} {a:Assume} {C:Checked} {os:Os} {f:FuncId} {fn:Func} {s:ChangeSpec} {conds:List PathCond} {apart fresh handsOn again:Bool} {laid:List (String×DataW Unit)}
    (own:ownKnob C.prog.godebug=none) (started:os.Started) (noInit:C.prog.inits.idxOf? f=none) (hfn:C.prog.funcs[f]?=some fn)
    (witness : ∃ (w:World) (tape:Tape) (i:Input),w.os=os∧(w.forCall tape i).Shaped C.prog∧i.vars=[]∧Input.okWide C.prog (w.forCall tape i) .any w.heap.size f i ∧
      ((s.pre enc C.prog fn conds apart (w.forCall tape i).memory i.args∧laidMetH C.prog laid (w.forCall tape i).memory)∧sizedMet enc C.prog fn (OpenSpec.ofChange s) apart (w.forCall tape i).memory i.args)∧a.holds C.prog (lone (Frame.enter C.prog f i.args .normal) [] (w.forCall tape i)))
    (contract : ∀ (W:World) (base:Nat) (args:Array Value) (ds gs:List (DataW H)) (before:List MemPlace),
      (∀ (j:Nat) t v,fn.params[j]?=some t→args[j]?=some v→Value.okWide C.prog W .any base t v) →
      DataW.Whole enc C.prog fn.params.toList s.vars apart W args.toList ds gs before→laidMetH C.prog laid W→W.ShapedOpen C.prog →
      Calls C.prog f args W fun e W' => ∃ v,e=.returned v∧s.post enc C.prog fn apart fresh handsOn again W args v W') :
    ReturnsInHanded a C os f .any (fun w args=>(s.pre enc C.prog fn conds apart w args∧laidMetH C.prog laid w)∧sizedMet enc C.prog fn (OpenSpec.ofChange s) apart w args) (s.post enc C.prog fn apart fresh handsOn again):=by
  refine returnsInHanded_of_calls own started noInit witness ?_
  intro w tape i _ hsh _ hok hpre hholds
  obtain ⟨_,_,_,fn',hfn',_,_,_,_,hval⟩:=hok
  have e:fn'=fn:=Option.some.inj (hfn'.symm.trans hfn)
  subst e
  obtain ⟨⟨⟨ds,gs,before,hw,hc⟩,hx⟩,hz⟩:=hpre
  have hw':=DataW.Whole.of_heap (w':=w.forCall tape i) (by rfl) hw
  refine (contract (w.forCall tape i) w.heap.size i.args ds gs before hval hw' (hx.of_heap (by rfl)) hsh).mono fun e W' ⟨v,he,hp⟩=>?_
  subst he
  exact ChangeSpec.post_blind hp
theorem cells_of_var {P:Program} {W:World} {n:String} {g:Nat} {cs:Array Value} (h:W.var? P n=some cs) (hg:P.globalNamed n=some g) : ∃ t z,W.heap[g]?=some (.cells cs t z):=by
  unfold World.var? at h
  rw[hg]at h
  simp only[Option.bind_some]at h
  split at h
  · rename_i c t z hh
    cases h
    exact ⟨t,z,hh⟩
  · cases h
theorem reads_iface {P:Program} {W:World} {n nm:String} {d:DataW Unit} {g ti:Nat} {ms:Array (String×TypeId)} (h:Lib.VarReads P W n (.iface nm d)) (hg:P.globalNamed n=some g) (ht:(P.globals[g]?).map (·.type)=some ti) (hi:P.underlying ti=some (.interface ms)) :
    ∃ cs t z,W.heap[g]?=some (.cells cs t z) ∧ ∃ te pe,cs = #[.iface te pe]:=by
  obtain ⟨g',t',cs,fuel,p,hg',ht',hv,hd⟩:=h
  obtain rfl:=Option.some.inj (hg.symm.trans hg')
  obtain rfl:=Option.some.inj (ht.symm.trans ht')
  obtain ⟨t,z,hh⟩:=cells_of_var hv hg
  obtain ⟨_,u,v,e,_⟩:=iface_of_trod hi hd
  refine ⟨cs,t,z,hh,u,v,?_⟩
  obtain ⟨l⟩:=cs
  have e:l=[.iface u v]:=e
  rw[e]
theorem reads_tab {P:Program} {W:World} {n:String} {k:IntKind} {zs:List Int} {g ti te m:Nat} (h:Lib.VarReads P W n (Lib.tabData k zs)) (hg:P.globalNamed n=some g) (ht:(P.globals[g]?).map (·.type)=some ti) (hu:P.underlying ti=some (.array m te)) (he:P.underlying te=some (.int k)) (hce:P.cellsOf te=1) (hct:P.cellsOf ti=m) :
    ∃ cs t z,W.heap[g]?=some (.cells cs t z)∧cs=(zs.map fun z=>Value.int k z).toArray:=by
  obtain ⟨g',t',cs,fuel,p,hg',ht',hv,hd⟩:=h
  obtain rfl:=Option.some.inj (hg.symm.trans hg')
  obtain rfl:=Option.some.inj (ht.symm.trans ht')
  obtain ⟨t,z,hh⟩:=cells_of_var hv hg
  refine ⟨cs,t,z,hh,?_⟩
  rw[←Lib.cells_of_tab hu he hce hct hd]
theorem shaped_int {P:Program} {w:World} {g t:Nat} {zero:Array Value} {k:IntKind} (h:w.ShapedOpen P) (hg:g<P.globals.size) (h0:((begin P (fun _ _=>0) default).world.heap[g]?).bind Obj.row?=some (zero,t)) (hz:zero.size=1)
    (hb:P.buildable t=true) (hc:P.cellTypes P.depth t=some [t]) (hu:P.underlying t=some (.int k)) : ∃ cs t z,w.heap[g]?=some (.cells cs t z) ∧ ∃ m,cs = #[.int k m]:=by
  obtain ⟨m,hm⟩:=Go.Proofs.cell_of_shapedOpen_int h hg h0 hz hb hc hu
  obtain ⟨cs,hh,hs,_⟩:=h.1 g zero t hg h0
  refine ⟨cs,t,_,hh,m,?_⟩
  rw[hz]at hs
  obtain ⟨l⟩:=cs
  match l,hs with
  | [x],_ =>
    have:w.cell? ⟨g,0,none⟩=some x:=by simp[World.cell?,hh]
    rw[hm]at this
    cases this
    rfl
end Ax
namespace Go.Proofs.YtmcbljjgkmkhcaaGreatDoor
open Go.ChangeShapes Go.WideShapes Go.ChangeAt Go.RowKit Ax
theorem own:ownKnob Tryz.prog.godebug=none:=by kernel_rfl
theorem laidOut:laidOutB Tryz.prog=true:=by kernel_rfl
abbrev laidL:List (String×DataW Unit):=Rows.writeNearRow.laid
theorem glob_laid {W:World} (h:laidMetH Tryz.prog laidL W) (hs:W.ShapedOpen Tryz.prog):GlobAt W (Ro W [] []):=by
  rw[MakeChecks.laidMetH_plain _ _ _ (by kernel_rfl)]at h
  have hro : ∀ (g:Nat) cs t z,W.heap[g]?=some (.cells cs t z)→Ro W [] [] g:=fun g cs t z hh=>⟨(Array.getElem?_eq_some_iff.1 hh).1,by simp,by simp⟩
  intro f hf g hg
  unfold gfacts at hf
  simp only[List.mem_cons,List.not_mem_nil,or_false]at hf
  have fin:(∃ cs t z,W.heap[g]?=some (.cells cs t z)∧f.2 cs)→Ro W [] [] g ∧ ∃ cs t z,W.heap[g]?=some (.cells cs t z)∧f.2 cs:=fun ⟨cs,t,z,h1,h2⟩=>⟨hro g cs t z h1,cs,t,z,h1,h2⟩
  refine fin ?_
  rcases hf with rfl|rfl|rfl|rfl
  · have e:Tryz.prog.globalNamed "strconv.ErrSyntax" = some 3:=by kernel_rfl
    obtain rfl:=Option.some.inj (e.symm.trans hg)
    exact reads_iface (ti:=160) (Lib.laidMet.reads h (n := "strconv.ErrSyntax") (d:=Rows.laid_strconv_ErrSyntax) (.tail _ (.tail _ (.tail _ (.tail _ (.tail _ (.head _))))))) e (by kernel_rfl) Tryz.underlying160
  · have e:Tryz.prog.globalNamed "strconv.ErrRange" = some 4:=by kernel_rfl
    obtain rfl:=Option.some.inj (e.symm.trans hg)
    exact reads_iface (ti:=160) (Lib.laidMet.reads h (n := "strconv.ErrRange") (d:=Rows.laid_strconv_ErrRange) (.tail _ (.tail _ (.tail _ (.tail _ (.head _)))))) e (by kernel_rfl) Tryz.underlying160
  · have e:Tryz.prog.globalNamed "internal/bytealg.MaxLen" = some 0:=by kernel_rfl
    obtain rfl:=Option.some.inj (e.symm.trans hg)
    exact shaped_int (P:=Tryz.prog) (t:=3) (zero := #[.int .i64 0]) hs (by decide +kernel) (by kernel_rfl) rfl (by kernel_rfl) (by kernel_rfl) (by kernel_rfl)
  · have e:Tryz.prog.globalNamed "internal/strconv.uint64pow10" = some 2:=by kernel_rfl
    obtain rfl:=Option.some.inj (e.symm.trans hg)
    exact reads_tab (zs:=Lib.pow10Tab) (ti:=257) (te:=117) (m:=20) (Lib.laidMet.reads h (n := "internal/strconv.uint64pow10") (d:=Rows.laid_internal_strconv_uint64pow10) (.tail _ (.tail _ (.head _)))) e (by kernel_rfl) (by kernel_rfl) (by kernel_rfl) (by kernel_rfl) (by kernel_rfl)
theorem o_i32:Opens Tryz.prog 21 (.int .i32):=opens_int (by kernel_rfl) (by kernel_rfl)
theorem o_u16:Opens Tryz.prog 22 (.int .u16):=opens_int (by kernel_rfl) (by kernel_rfl)
theorem o_u8:Opens Tryz.prog 5 (.int .u8):=opens_int (by kernel_rfl) (by kernel_rfl)
theorem fit_i32 {z:Int} (h:(Lit.int .i32 z).wf=true) : -2147483648≤z∧z≤2147483647:=by simpa [Lit.wf,IntKind.min,IntKind.max,IntKind.signed,IntKind.bits] using h
theorem fit_u16 {z:Int} (h:(Lit.int .u16 z).wf=true):0≤z∧z≤65535:=by simpa [Lit.wf,IntKind.min,IntKind.max,IntKind.signed,IntKind.bits] using h
theorem fit_u8 {z:Int} (h:(Lit.int .u8 z).wf=true):0≤z∧z≤255:=by simpa [Lit.wf,IntKind.min,IntKind.max,IntKind.signed,IntKind.bits] using h
theorem loopsWn : ∀ c,(Tryz.f3).body=some c→LoopsOk Tryz.prog 0 lpWn c:=many_loops (by kernel_rfl) (by simp) (fun i p hp=>by
    match i,hp with
    | 0,hp=>cases hp;exact wnA_ok
    | 1,hp=>cases hp;exact wnB_ok
    | i+2,hp=>simp at hp)
theorem law_run {x:Els [(false,.int .i32),(false,.int .u16),(false,.int .u8)]} (hn : -2147483648≤(x.1:Int)∧(x.1:Int)≤2147483647) (hd:0≤(x.2.1:Int)∧(x.2.1:Int)≤65535) (hg:0≤(x.2.2.1:Int)∧(x.2.2.1:Int)≤255) :
    (fnP EWL lpWn Tryz.f3 (encs [(false,.int .i32),(false,.int .u16),(false,.int .u8)] x)).wp (· = .one (.v (.bool true))):=by
  obtain ⟨n,d,g,u⟩:=x
  exact fnPC_of (O:=OWL) rfl (tr_wlaw_eq n d g) (wlaw_wp n d g hn hd hg)
theorem laid_wit (os:Os) (args:Array Value):laidMetH Tryz.prog laidL ((World.laidAll Tryz.prog os laidL).forCall (fun _ _=>0) ⟨#[],args,[]⟩).memory:=by
  rw[MakeChecks.laidMetH_plain _ _ _ (by kernel_rfl)]
  exact laidMet_laidAll _ (by kernel_rfl) (by kernel_rfl)
end Go.Proofs.YtmcbljjgkmkhcaaGreatDoor
