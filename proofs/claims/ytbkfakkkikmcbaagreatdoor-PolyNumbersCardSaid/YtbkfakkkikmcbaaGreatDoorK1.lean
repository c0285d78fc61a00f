import GoSem.Core.Value
import Derived.Deep.MidRow
import Derived.Deep.WholeRow
import Derived.Below
import Derived.Laws.BitsLemmas
import Derived.Laws.BitsAllLaws
import Derived.Lib.ItoaNum
import Derived.Lib.BitFns
import Derived.OrdersHeld
import Derived.Deep.RegionHeld
import Derived.Laws.Entries
import Derived.WalkKit
import Derived.Deep.Cut
import Derived.Test.YtbkfakkkikmcbaaGreatDoorProg
import Derived.ChangeKeysEq
import Derived.Stop.IfaceNil
set_option linter.unusedSimpArgs false
set_option linter.unusedVariables false
namespace Pq
open Go
def bp (i:Nat):Nat:=4294967296^i
theorem bp_zero:bp 0=1:=rfl
theorem bp_succ (i:Nat):bp (i+1)=bp i*4294967296:=Nat.pow_succ ..
theorem bp_pos (i:Nat):0<bp i:=Nat.pow_pos (by decide)
theorem bp_add (i j:Nat):bp (i+j)=bp i*bp j:=Nat.pow_add _ _ _
theorem bp_mono {i j:Nat} (h:i≤j):bp i≤bp j:=Nat.pow_le_pow_right (by decide) h
theorem bp_one:bp 1=4294967296:=rfl
def wd (x i:Nat):Nat:=x/bp i%4294967296
def lo (x i:Nat):Nat:=x%bp i
theorem wd_lt (x i:Nat):wd x i<4294967296:=Nat.mod_lt _ (by decide)
theorem lo_lt (x i:Nat):lo x i<bp i:=Nat.mod_lt _ (bp_pos i)
theorem lo_zero (x:Nat):lo x 0=0:=Nat.mod_one x
theorem lo_succ (x i:Nat):lo x (i+1)=lo x i+bp i*wd x i:=by
  unfold lo wd;rw[bp_succ,Nat.mod_mul]
theorem lo_self {x i:Nat} (h:x<bp i):lo x i=x:=Nat.mod_eq_of_lt h
theorem wd_zero (i:Nat):wd 0 i=0:=by simp[wd]
theorem wd_top {x i j:Nat} (h:x<bp i) (hij:i≤j):wd x j=0:=by
  unfold wd;rw[Nat.div_eq_of_lt (Nat.lt_of_lt_of_le h (bp_mono hij))]
theorem split_at (x i:Nat):x=lo x i+bp i*(x/bp i):=(Nat.mod_add_div x (bp i)).symm
theorem hi_split (x i:Nat):x/bp i=wd x i+4294967296*(x/bp (i+1)):=by
  unfold wd;rw[bp_succ,←Nat.div_div_eq_div_mul];omega
theorem wd_below {i j:Nat} (h:j<i) (a t:Nat):wd (a+bp i*t) j=wd a j:=by
  obtain ⟨k,rfl⟩ : ∃ k,i=j+1+k:=⟨i-j-1,by omega⟩
  unfold wd
  rw[bp_add,bp_succ,Nat.mul_assoc,Nat.mul_assoc,Nat.add_mul_div_left _ _ (bp_pos j),Nat.add_mul_mod_self_left]
theorem wd_above {a i:Nat} (h:a<bp i) (t k:Nat):wd (a+bp i*t) (i+k)=wd t k:=by
  unfold wd
  rw[bp_add,←Nat.div_div_eq_div_mul,Nat.add_mul_div_left _ _ (bp_pos i),Nat.div_eq_of_lt h,Nat.zero_add]
theorem wd_lo {i j:Nat} (h:j<i) (x:Nat):wd (lo x i) j=wd x j:=by
  conv=>rhs;rw[split_at x i]
  rw[wd_below h]
theorem wd_small {x:Nat} (h:x<4294967296):wd x 0=x:=by
  unfold wd;rw[bp_zero,Nat.div_one,Nat.mod_eq_of_lt h]
def st (x i w:Nat):Nat:=lo x i+bp i*(w+4294967296*(x/bp (i+1)))
theorem wd_st {x i w j:Nat} (hw:w<4294967296):wd (st x i w) j=if j=i then w else wd x j:=by
  unfold st
  rcases Nat.lt_trichotomy j i with h|h|h
  · rw[wd_below h,wd_lo h,if_neg (by omega)]
  · subst h
    have:=wd_above (lo_lt x j) (w+4294967296*(x/bp (j+1))) 0
    simp only[Nat.add_zero]at this
    rw[this,if_pos rfl]
    unfold wd;rw[bp_zero,Nat.div_one];omega
  · obtain ⟨k,rfl⟩ : ∃ k,j=i+(1+k):=⟨j-i-1,by omega⟩
    rw[wd_above (lo_lt x i),if_neg (by omega)]
    have e:w+4294967296*(x/bp (i+1))=w+bp 1*(x/bp (i+1)):=by rw[bp_one]
    rw[e,wd_above (by rw[bp_one];exact hw)]
    unfold wd
    rw[Nat.div_div_eq_div_mul,←bp_add,←Nat.add_assoc]
theorem st_zero {x i w:Nat} (h:x<bp i):st x i w=x+bp i*w:=by
  unfold st
  rw[lo_self h,Nat.div_eq_of_lt (Nat.lt_of_lt_of_le h (bp_mono (Nat.le_succ i)))]
  simp
theorem st_eq (x i w:Nat):st x i w+bp i*wd x i=x+bp i*w:=by
  have h1:=split_at x i
  have h2:=hi_split x i
  unfold st
  conv=>rhs;rw[h1,h2]
  generalize wd x i=a at *
  generalize x/bp (i+1)=b at *
  generalize bp i=c
  simp only[Nat.mul_add]
  omega
def am (n x:Nat):List Value:=(List.range n).map fun i=>.int .u32 (wd x i:Int)
theorem am_length (n x:Nat):(am n x).length=n:=by simp[am]
theorem am_get {n x i:Nat} (h:i<n):(am n x)[i]?=some (.int .u32 (wd x i)):=by simp[am,h]
theorem am_ext {n:Nat} {l:List Value} {x:Nat} (hl:l.length=n) (h : ∀ i,i<n→l[i]?=some (.int .u32 (wd x i))):l=am n x:=by
  apply List.ext_getElem?
  intro i
  by_cases hi:i<n
  · rw[h i hi,am_get hi]
  · rw[List.getElem?_eq_none (by omega),List.getElem?_eq_none (by rw[am_length];omega)]
theorem am_set {n x i w:Nat} (hw:w<4294967296) (hi:i<n):(am n x).set i (.int .u32 (w:Int))=am n (st x i w):=by
  apply am_ext (by simp[am_length])
  intro j hj
  rw[List.getElem?_set]
  rw[wd_st hw]
  by_cases e:i=j
  · subst e;simp[am_length,hi]
  · rw[if_neg e,am_get hj,if_neg (fun h=>e h.symm)]
theorem eq_of_wd {n x y:Nat} (hx:x<bp n) (hy:y<bp n) (h : ∀ i,i<n→wd x i=wd y i):x=y:=by
  have : ∀ i,i≤n→lo x i=lo y i:=by
    intro i
    induction i with
    | zero=>intro _;rw[lo_zero,lo_zero]
    | succ i ih=>intro hi;rw[lo_succ,lo_succ,ih (by omega),h i (by omega)]
  have:=this n (Nat.le_refl _)
  rwa [lo_self hx,lo_self hy]at this
end Pq
namespace Pq
open Go
def szn:Nat→Nat→Nat
  | 0,_=>0
  | n+1,x=>if wd x n=0 then szn n x else n+1
theorem szn_le (n x:Nat):szn n x≤n:=by
  induction n with
  | zero=>exact Nat.le_refl _
  | succ n ih=>unfold szn;split <;> omega
theorem szn_lt (n x:Nat):lo x n<bp (szn n x):=by
  induction n with
  | zero=>rw[lo_zero];exact bp_pos _
  | succ n ih =>
    unfold szn;split
    · rename_i h;rw[lo_succ,h,Nat.mul_zero,Nat.add_zero];exact ih
    · exact lo_lt _ _
theorem szn_top (n x:Nat) (h:0<szn n x):wd x (szn n x-1)≠0:=by
  induction n with
  | zero=>exact absurd h (by simp[szn])
  | succ n ih =>
    unfold szn at h ⊢
    by_cases hz:wd x n=0
    · rw[if_pos hz]at h ⊢;exact ih h
    · rw[if_neg hz];simpa using hz
theorem szn_ge {n x:Nat} (h:0<szn n x):bp (szn n x-1)≤x:=by
  have h1:=szn_top n x h
  generalize szn n x-1=k at *
  unfold wd at h1
  rcases Nat.lt_or_ge x (bp k) with h2|h2
  · rw[Nat.div_eq_of_lt h2]at h1;simp at h1
  · exact h2
theorem szn_zero {n x:Nat} (hx:x<bp n):szn n x=0↔x=0:=by
  constructor
  · intro h
    have:=szn_lt n x
    rw[lo_self hx,h,bp_zero]at this
    omega
  · rintro rfl
    induction n with
    | zero=>rfl
    | succ n ih=>unfold szn;rw[if_pos (wd_zero n)];exact ih (bp_pos n)
theorem szn_lt' {n x:Nat} (hx:x<bp n):x<bp (szn n x):=by
  have:=szn_lt n x;rwa [lo_self hx]at this
theorem szn_gt {n x k:Nat} (hx:x<bp n) (h:bp k≤x):k<szn n x:=by
  rcases Nat.lt_or_ge k (szn n x) with h'|h'
  · exact h'
  · have h1:=szn_lt' hx
    have h2:=bp_mono h'
    omega
theorem hi_eq {a b i n:Nat} (ha:a<bp n) (hb:b<bp n) (h : ∀ j,i≤j→j<n→wd a j=wd b j):a/bp i=b/bp i:=by
  rcases Nat.lt_or_ge i n with hin|hin
  · obtain ⟨d,rfl⟩ : ∃ d,n=i+d:=⟨n-i,by omega⟩
    apply eq_of_wd (n:=d)
    · rw[Nat.div_lt_iff_lt_mul (bp_pos i),Nat.mul_comm,←bp_add];exact ha
    · rw[Nat.div_lt_iff_lt_mul (bp_pos i),Nat.mul_comm,←bp_add];exact hb
    · intro k hk
      have:=h (i+k) (by omega) (by omega)
      unfold wd at this ⊢
      rwa [Nat.div_div_eq_div_mul,Nat.div_div_eq_div_mul,←bp_add]
  · rw[Nat.div_eq_of_lt (Nat.lt_of_lt_of_le ha (bp_mono hin)),Nat.div_eq_of_lt (Nat.lt_of_lt_of_le hb (bp_mono hin))]
theorem lt_of_wd {a b i n:Nat} (ha:a<bp n) (hb:b<bp n) (h : ∀ j,i+1≤j→j<n→wd a j=wd b j) (hlt:wd a i<wd b i):a<b:=by
  have h1:=hi_eq ha hb h
  have h2:=hi_split a i
  have h3:=hi_split b i
  have h4:a/bp i<b/bp i:=by omega
  rcases Nat.lt_or_ge a b with h5|h5
  · exact h5
  · have:=Nat.div_le_div_right (c:=bp i) h5;omega
theorem carry_add (a b i:Nat) :
    let s:=lo a i+lo b i
    let c:=s/bp i
    wd (lo a (i+1)+lo b (i+1)) i=(wd a i+wd b i+c)%4294967296 ∧
    (lo a (i+1)+lo b (i+1))/bp (i+1)=(wd a i+wd b i+c)/4294967296 ∧
    lo (lo a (i+1)+lo b (i+1)) i=lo s i:=by
  intro s c
  have e:lo a (i+1)+lo b (i+1)=s+bp i*(wd a i+wd b i):=by
    rw[lo_succ,lo_succ,Nat.mul_add];omega
  have e2:(lo a (i+1)+lo b (i+1))/bp i=wd a i+wd b i+c:=by
    rw[e,Nat.add_mul_div_left _ _ (bp_pos i)];omega
  refine ⟨?_,?_,?_⟩
  · unfold wd;unfold wd at e2;rw[e2]
  · rw[bp_succ,←Nat.div_div_eq_div_mul,e2]
  · rw[e];unfold lo;rw[Nat.add_mul_mod_self_left]
theorem carry_le (a b i:Nat):(lo a i+lo b i)/bp i≤1:=by
  have h1:=lo_lt a i
  have h2:=lo_lt b i
  have:(lo a i+lo b i)/bp i<2:=by rw[Nat.div_lt_iff_lt_mul (bp_pos i)];omega
  omega
end Pq
namespace Pq
open Go Go.RowKit
def wl (n:Bool) (x:Nat):List Value:=.bool n::am 32 x
def wc (n:Bool) (x:Nat):Array Value:=(wl n x).toArray
theorem wl_length (n:Bool) (x:Nat):(wl n x).length=33:=by simp[wl,am_length]
theorem wc_size (n:Bool) (x:Nat):(wc n x).size=33:=by simp[wc,wl_length]
theorem range_cons {w:World} {b o:Nat} {v:Value} {l:List Value} (h:w.rangeAt b o (v::l)):w.cell? ⟨b,o,none⟩=some v∧w.rangeAt b (o+1) l:=
  ⟨h 0 v rfl,fun j u hj=>by have:=h (j+1) u (by simpa using hj);rwa [show o+(j+1)=o+1+j from by omega]at this⟩
theorem range_app {w:World} {b o:Nat} {k l:List Value} (h:w.rangeAt b o (k++l)):w.rangeAt b o k∧w.rangeAt b (o+k.length) l:=
  ⟨fun j u hj=>h j u (by rw[List.getElem?_append_left (List.getElem?_eq_some_iff.1 hj).1];exact hj),
   fun j u hj=>by have:=h (k.length+j) u (by rw[List.getElem?_append_right (by omega)];rwa [Nat.add_sub_cancel_left]);rwa [←Nat.add_assoc]at this⟩
theorem range_block {w:World} {b:Nat} {l:List Value} {t:TypeId} {fr:Nat×Nat} (h:w.heap[b]?=some (.cells l.toArray t fr)):w.rangeAt b 0 l:=fun j u hj=>by
  rw[Nat.zero_add,cell_of_row w b j _ t fr h];simpa using hj
theorem am_one (n x:Nat):((am n x).toArray).all (·.oneCell')=true:=by
  rw[Array.all_eq_true_iff_forall_mem]
  intro v hv
  simp only[List.mem_toArray,am,List.mem_map]at hv
  obtain ⟨i,_,rfl⟩:=hv
  rfl
theorem wpList_store_new {P:Program} {ops:Array Oper} {rest:List Oper} {o:Oper} {a:Act} {w0:World} {Q:Exit→Act→World→Prop} (hgd:o.guard=none) (ty:TypeId) (x y:Operand) (ho:o.op=.store ty x y)
    (g:Nat) (cells old:Array Value) (t:TypeId) (hx:a.eval x=.pointer (some ⟨g,0,none⟩)) (hg:g=w0.heap.size) (hy:a.eval y=.agg cells)
    (hi:(P.info? ty).map (·.size)=some cells.size) (hold:old.size=cells.size) (h1:cells.all (·.oneCell')=true)
    (h:wpList P ops Q rest (a.put o.dst undef) (w0.alloc (.cells cells t))):wpList P ops Q (o::rest) a (w0.alloc (.cells old t)):=by
  subst hg
  refine wpList_store_row hgd ty x y ho _ cells hx hy t old (heap_alloc_new _ _) hi hold h1 ?_
  rw[World.setRow_alloc_new];exact h
def ng (n:Bool) (x:Nat):Bool:=n && !(x==0)
def zv (n:Bool) (x:Nat):Int:=if n then -(x:Int) else x
def wz (z:Int):Array Value:=wc (decide (z<0)) z.natAbs
theorem ng_eq (n:Bool) (x:Nat):ng n x=decide (zv n x<0):=by
  rw[Bool.eq_iff_iff]
  unfold ng zv
  cases n
  · simp
  · simp;omega
theorem zv_abs (n:Bool) (x:Nat):(zv n x).natAbs=x:=by unfold zv;split <;> simp
theorem wc_ng (n:Bool) (x:Nat):wc (ng n x) x=wz (zv n x):=by unfold wz;rw[ng_eq,zv_abs]
theorem wc_not (n:Bool) (x:Nat):wc (ng (!ng n x) x) x=wz (-(zv n x)):=by
  unfold wz
  have e:ng (!ng n x) x=decide (-(zv n x)<0):=by
    rw[Bool.eq_iff_iff]
    unfold ng zv
    cases n <;> by_cases h:x=0 <;> simp[h] <;> omega
  rw[e,Int.natAbs_neg,zv_abs]
theorem wc_one (n:Bool) (x:Nat):(wc n x).all (·.oneCell')=true:=by
  have:=am_one 32 x
  rw[Array.all_eq_true_iff_forall_mem]at this ⊢
  intro v hv
  simp only[wc,wl,List.mem_toArray,List.mem_cons]at hv
  rcases hv with rfl|hv
  · rfl
  · exact this v (by simpa using hv)
theorem szn_pos {x:Nat} (hx:x<bp 32):(0<szn 32 x)↔x≠0:=by
  have:=szn_zero (n:=32) hx;omega
theorem wc_zero (n:Bool) (x:Nat):(wc n x)[0]?=some (.bool n):=rfl
def cm (x y:Nat):Int:=if x<y then -1 else if y<x then 1 else 0
theorem cm_lt {x y:Nat} (h:x<y):cm x y = -1:=by unfold cm;rw[if_pos h]
theorem cm_gt {x y:Nat} (h:y<x):cm x y=1:=by unfold cm;rw[if_neg (by omega),if_pos h]
theorem cm_eq (x:Nat):cm x x=0:=by unfold cm;simp
def cz (a b:Int):Int:=if a<b then -1 else if b<a then 1 else 0
theorem cz_lt {a b:Int} (h:a<b):cz a b = -1:=by unfold cz;rw[if_pos h]
theorem cz_gt {a b:Int} (h:b<a):cz a b=1:=by unfold cz;rw[if_neg (by omega),if_pos h]
theorem ng_cases (n:Bool) (x:Nat):(ng n x=true∧zv n x = -(x:Int)∧0<x)∨(ng n x=false∧zv n x=(x:Int)):=by
  unfold ng zv
  cases n
  · right;simp
  · by_cases h:x=0
    · right;simp[h]
    · left;simp[h];omega
theorem cz_lo {n m:Bool} {x y:Nat} (h1:ng n x=true) (h2:ng m y=false):cz (zv n x) (zv m y) = -1:=by
  rcases ng_cases n x with ⟨_,h,_⟩|⟨h,_⟩ <;> rcases ng_cases m y with ⟨k,_⟩|⟨_,k⟩ <;> simp_all
  exact cz_lt (by omega)
theorem cz_hi {n m:Bool} {x y:Nat} (h1:ng n x=false) (h2:ng m y=true):cz (zv n x) (zv m y)=1:=by
  rcases ng_cases n x with ⟨h,_⟩|⟨_,h⟩ <;> rcases ng_cases m y with ⟨_,k,_⟩|⟨k,_⟩ <;> simp_all
  exact cz_gt (by omega)
theorem cz_pp {n m:Bool} {x y:Nat} (h1:ng n x=false) (h2:ng m y=false):cz (zv n x) (zv m y)=cm x y:=by
  rcases ng_cases n x with ⟨h,_⟩|⟨_,h⟩ <;> rcases ng_cases m y with ⟨k,_⟩|⟨_,k⟩ <;> simp_all
  unfold cz cm;simp
theorem cz_mm {n m:Bool} {x y:Nat} (h1:ng n x=true) (h2:ng m y=true):cz (zv n x) (zv m y)=cm y x:=by
  rcases ng_cases n x with ⟨_,h,_⟩|⟨h,_⟩ <;> rcases ng_cases m y with ⟨_,k,_⟩|⟨k,_⟩ <;> simp_all
  unfold cz cm;simp
def bor (x y c:Nat):Nat:=if x<y+c then 1 else 0
def dif (x y c:Nat):Nat:=(x+4294967296-y-c)%4294967296
theorem dif_lt (x y c:Nat):dif x y c<4294967296:=Nat.mod_lt _ (by decide)
theorem dif_eq {x y c:Nat} (hx:x<4294967296) (hy:y<4294967296) (hc:c≤1):dif x y c+y+c=x+4294967296*bor x y c:=by
  unfold dif bor;split <;> omega
theorem top_bit {n:Nat} (h:n<4294967296):n/2147483648=(n.testBit 31).toNat:=by
  rw[Nat.testBit_eq_decide_div_mod_eq]
  have h1:n/2147483648<2:=by omega
  have e:(2:Nat)^31=2147483648:=by decide
  rw[e]
  generalize n/2147483648=k at *
  match k,h1 with
  | 0,_=>rfl
  | 1,_=>rfl
theorem borrow_bit {x y c:Nat} (hx:x<4294967296) (hy:y<4294967296) (hc:c≤1) :
    ((4294967295 ^^^ x) &&& y ||| (4294967295 ^^^ (x ^^^ y)) &&& dif x y c)/2147483648=bor x y c:=by
  have hd:=dif_lt x y c
  have hde:=dif_eq hx hy hc
  have hb:bor x y c≤1:=by unfold bor;split <;> omega
  have hlt:((4294967295 ^^^ x) &&& y ||| (4294967295 ^^^ (x ^^^ y)) &&& dif x y c)<4294967296:=
    Nat.or_lt_two_pow (n:=32) (Nat.lt_of_le_of_lt Nat.and_le_right hy) (Nat.lt_of_le_of_lt Nat.and_le_right hd)
  rw[top_bit hlt,Nat.testBit_or,Nat.testBit_and,Nat.testBit_and,Nat.testBit_xor,Nat.testBit_xor,Nat.testBit_xor]
  have t:(4294967295:Nat).testBit 31=true:=by decide
  rw[t]
  have e1:=top_bit hx
  have e2:=top_bit hy
  have e3:=top_bit hd
  generalize Nat.testBit x 31=p at *
  generalize Nat.testBit y 31=q at *
  generalize Nat.testBit (dif x y c) 31=r at *
  generalize bor x y c=z at *
  generalize dif x y c=u at *
  cases p <;> cases q <;> cases r <;> simp at * <;> omega
def sww (x y c:Nat):Nat:=(x+y+c)%4294967296
def swc (x y c:Nat):Nat:=(x+y+c)/4294967296
theorem sww_lt (x y c:Nat):sww x y c<4294967296:=Nat.mod_lt _ (by decide)
theorem swc_le {x y c:Nat} (hx:x<4294967296) (hy:y<4294967296) (hc:c≤1):swc x y c≤1:=by unfold swc;omega
theorem bor_le (x y c:Nat):bor x y c≤1:=by unfold bor;split <;> omega
theorem plus_carry (x y k:Nat):swc (wd x k) (wd y k) ((lo x k+lo y k)/bp k)=(lo x (k+1)+lo y (k+1))/bp (k+1):=(carry_add x y k).2.1.symm
theorem plus_row {x y k:Nat} (hk:k<32) :
    (am 32 (lo (lo x k+lo y k) k)).set k (.int .u32 ((sww (wd x k) (wd y k) ((lo x k+lo y k)/bp k):Nat):Int))=am 32 (lo (lo x (k+1)+lo y (k+1)) (k+1)):=by
  obtain ⟨h1,_,h3⟩:=carry_add x y k
  rw[am_set (sww_lt _ _ _) hk,st_zero (lo_lt _ _)]
  congr 1
  rw[lo_succ (lo x (k+1)+lo y (k+1)) k,h3,h1]
  rfl
theorem less_step {x y:Nat} (k:Nat) (z b:Nat) (_hz:z<bp k) (h:z+lo y k=lo x k+bp k*b) (hb:b≤1) :
    (z+bp k*dif (wd x k) (wd y k) b)+lo y (k+1)=lo x (k+1)+bp (k+1)*bor (wd x k) (wd y k) b:=by
  have h1:=dif_eq (wd_lt x k) (wd_lt y k) hb
  rw[lo_succ,lo_succ,bp_succ]
  generalize dif (wd x k) (wd y k) b=d at *
  generalize bor (wd x k) (wd y k) b=c at *
  generalize wd x k=p at *
  generalize wd y k=q at *
  have h2:bp k*d+bp k*q+bp k*b=bp k*p+bp k*4294967296*c:=by
    rw[←Nat.mul_add,←Nat.mul_add,h1,Nat.mul_add,Nat.mul_assoc]
  omega
theorem less_lt {k z d:Nat} (hz:z<bp k) (hd:d<4294967296):z+bp k*d<bp (k+1):=by
  rw[bp_succ]
  have:bp k*(d+1)≤bp k*4294967296:=Nat.mul_le_mul_left _ (by omega)
  rw[Nat.mul_add]at this;omega
theorem less_row {k z d:Nat} (hk:k<32) (hz:z<bp k) (hd:d<4294967296):(am 32 z).set k (.int .u32 (d:Int))=am 32 (z+bp k*d):=by
  rw[am_set hd hk,st_zero hz]
def fits (z:Int):Bool:=decide (z.natAbs<bp 32)
def rz (z:Int):Value:=.tuple #[.agg (if fits z then wz z else wz 0),.bool (fits z)]
theorem rz_ok {z:Int} (h:z.natAbs<bp 32):rz z=.tuple #[.agg (wz z),.bool true]:=by
  have:fits z=true:=by simpa [fits] using h
  simp[rz,this]
theorem rz_no {z:Int} (h:¬ z.natAbs<bp 32):rz z=.tuple #[.agg (wc false 0),.bool false]:=by
  have:fits z=false:=by simpa [fits] using h
  simp[rz,this,wz]
theorem wc_sum {n m:Bool} {x y:Nat} (h:ng n x=ng m y):wc (ng (ng n x) (x+y)) (x+y)=wz (zv n x+zv m y)∧(zv n x+zv m y).natAbs=x+y:=by
  rcases ng_cases n x with ⟨h1,h2,h3⟩|⟨h1,h2⟩ <;> rcases ng_cases m y with ⟨k1,k2,k3⟩|⟨k1,k2⟩ <;> rw[h1,k1]at h <;> try (cases h;done)
  · rw[h1,h2,k2]
    have e:(-(x:Int) + -(y:Int)) = -((x+y:Nat):Int):=by omega
    rw[e]
    refine ⟨?_,by omega⟩
    rw[show -((x+y:Nat):Int)=zv true (x+y) from rfl,←wc_ng]
  · rw[h1,h2,k2]
    have e:((x:Int)+(y:Int))=((x+y:Nat):Int):=by omega
    rw[e]
    refine ⟨?_,by omega⟩
    rw[show ((x+y:Nat):Int)=zv false (x+y) from rfl,←wc_ng]
theorem wc_dif {n m:Bool} {x y:Nat} (h:ng n x≠ng m y) (hxy:y≤x):wc (ng (ng n x) (x-y)) (x-y)=wz (zv n x+zv m y)∧(zv n x+zv m y).natAbs=x-y:=by
  rcases ng_cases n x with ⟨h1,h2,h3⟩|⟨h1,h2⟩ <;> rcases ng_cases m y with ⟨k1,k2,k3⟩|⟨k1,k2⟩ <;> rw[h1,k1]at h <;> try (exact absurd rfl h)
  · rw[h1,h2,k2]
    have e:(-(x:Int)+(y:Int)) = -((x-y:Nat):Int):=by omega
    rw[e]
    refine ⟨?_,by omega⟩
    rw[show -((x-y:Nat):Int)=zv true (x-y) from rfl,←wc_ng]
  · rw[h1,h2,k2]
    have e:((x:Int) + -(y:Int))=((x-y:Nat):Int):=by omega
    rw[e]
    refine ⟨?_,by omega⟩
    rw[show ((x-y:Nat):Int)=zv false (x-y) from rfl,←wc_ng]
def bitn (x:Nat):Nat:=if x=0 then 0 else Nat.log2 x+1
theorem am_two {a b:Nat} (ha:a<4294967296) (hb:b<4294967296):am 32 (a+bp 1*b)=.int .u32 (a:Int)::.int .u32 (b:Int)::List.replicate 30 (.int .u32 0):=by
  symm
  apply am_ext (by simp)
  intro i hi
  rcases i with _|_|i
  · rw[wd_below (by omega),wd_small ha];rfl
  · have:=wd_above (a:=a) (i:=1) (by rw[bp_one];exact ha) b 0
    rw[Nat.add_zero]at this
    rw[show 0+1=1 from rfl,this,wd_small hb];rfl
  · rw[wd_top (i:=2)]
    · have:i<30:=by omega
      show (List.replicate 30 (Value.int .u32 0))[i]?=_
      rw[List.getElem?_replicate,if_pos this];rfl
    · have h2:bp 2=18446744073709551616:=by decide
      rw[h2,bp_one];omega
    · omega
theorem bp_two_lt (a b:Nat) (ha:a<4294967296) (hb:b<4294967296):a+bp 1*b<bp 32:=by
  have h1:bp 2≤bp 32:=bp_mono (by omega)
  have h2:bp 2=18446744073709551616:=by decide
  rw[bp_one];omega
theorem zv_back (z:Int):zv (decide (z<0)) z.natAbs=z:=by
  unfold zv;by_cases h:z<0 <;> simp[h] <;> omega
theorem bitLenAux_le (f x:Nat):Lib.bitLenAux f x≤f:=by
  induction f generalizing x with
  | zero=>simp[Lib.bitLenAux]
  | succ f ih=>unfold Lib.bitLenAux;have:=ih (x/2);split <;> omega
theorem or_hl {h l:Nat} (hh:h<4294967296) (hl:l<4294967296):bits .or .u64 ((h:Int)*4294967296) (l:Int)=((h*4294967296+l:Nat):Int):=by
  have e:(h:Int)*4294967296=((h*4294967296:Nat):Int):=by simp
  rw[e,u64_or_nat _ _ (by omega) (by omega)]
  congr 1
  have:=Nat.two_pow_add_eq_or_of_lt (i:=32) (b:=l) (by simpa using hl) h
  rw[Nat.mul_comm,show (2:Nat)^32=4294967296 from by decide]at this
  exact this.symm
theorem div_step (x k d:Nat) (hd:0<d) :
    (x/bp (k+1)%d*4294967296+wd x k)%d=x/bp k%d ∧
    x/bp k/d=4294967296*(x/bp (k+1)/d)+(x/bp (k+1)%d*4294967296+wd x k)/d ∧
    (x/bp (k+1)%d*4294967296+wd x k)/d<4294967296:=by
  have e:=hi_split x k
  have hw:=wd_lt x k
  generalize x/bp k=A at *
  generalize x/bp (k+1)=H at *
  generalize wd x k=w at *
  subst e
  have h1:w+4294967296*H=(H%d*4294967296+w)+d*(4294967296*(H/d)):=by
    have:=Nat.mod_add_div H d
    have e2:4294967296*H=4294967296*(H%d)+4294967296*(d*(H/d)):=by rw[←Nat.mul_add,this]
    rw[e2,Nat.mul_left_comm 4294967296 d];omega
  refine ⟨?_,?_,?_⟩
  · rw[h1,Nat.add_mul_mod_self_left]
  · rw[h1,Nat.add_mul_div_left _ _ hd];omega
  · rw[Nat.div_lt_iff_lt_mul hd]
    have:H%d<d:=Nat.mod_lt _ hd
    have:(H%d+1)*4294967296≤d*4294967296:=Nat.mul_le_mul_right _ (by omega)
    rw[Nat.mul_comm]at this;omega
theorem div_row (x k d:Nat) (hd:0<d) (hk:k<32) :
    (am 32 (bp (k+1)*(x/bp (k+1)/d))).set k (.int .u32 (((x/bp (k+1)%d*4294967296+wd x k)/d:Nat):Int))=am 32 (bp k*(x/bp k/d)):=by
  obtain ⟨_,h2,h3⟩:=div_step x k d hd
  rw[am_set h3 hk]
  congr 1
  generalize (x/bp (k+1)%d*4294967296+wd x k)/d=q at *
  generalize x/bp (k+1)/d=t at *
  rw[h2]
  have e:=st_eq (bp (k+1)*t) k q
  have h0:wd (bp (k+1)*t) k=0:=by
    have:=wd_below (i:=k+1) (j:=k) (by omega) 0 t
    rw[Nat.zero_add,wd_zero]at this;exact this
  rw[h0,Nat.mul_zero,Nat.add_zero]at e
  rw[e,bp_succ,Nat.mul_add,Nat.mul_assoc]
theorem or_lo {a b n:Nat} (ha:a<2^n) (hb:b%2^n=0):a ||| b=a+b:=by
  have hq:b=2^n*(b/2^n):=by have:=Nat.div_add_mod b (2^n);omega
  have:=Nat.two_pow_add_eq_or_of_lt ha (b/2^n)
  rw[←hq]at this
  rw[Nat.or_comm,←this];omega
theorem pow_dvd_mod (t:Nat) {n:Nat} (hn:n≤32):(t*2^n)%4294967296%2^n=0:=by
  have e:(4294967296:Nat)=2^n*2^(32-n):=by rw[←Nat.pow_add,show n+(32-n)=32 from by omega]
  rw[e,Nat.mul_comm t,Nat.mul_mod_mul_left]
  exact Nat.mul_mod_right _ _
theorem shl_step {X k n:Nat} (hn:n<32) :
    let V:=lo X k*2^n
    let t:=wd X k*2^n
    wd V k<2^n∧(wd V k ||| t%4294967296)=wd V k+t%4294967296∧wd V k+t%4294967296<4294967296∧t/4294967296<4294967296 ∧
    st (st V k (wd V k+t%4294967296)) (k+1) (t/4294967296)=lo X (k+1)*2^n:=by
  intro V t
  have hp:(2:Nat)^n*2^(32-n)=4294967296:=by rw[←Nat.pow_add,show n+(32-n)=32 from by omega]
  have hp0:0<(2:Nat)^n:=Nat.pow_pos (by decide)
  have hV:V<bp k*2^n:=Nat.mul_lt_mul_of_pos_right (lo_lt X k) hp0
  have hVd:V/bp k<2^n:=by rw[Nat.div_lt_iff_lt_mul (bp_pos k),Nat.mul_comm];exact hV
  have hw:wd V k=V/bp k:=by
    unfold wd
    exact Nat.mod_eq_of_lt (Nat.lt_of_lt_of_le hVd (by rw[←hp];exact Nat.le_mul_of_pos_right _ (Nat.pow_pos (by decide))))
  have h1:wd V k<2^n:=by rw[hw];exact hVd
  have h2:t%4294967296%2^n=0:=pow_dvd_mod _ (by omega)
  have h3:t%4294967296<4294967296:=Nat.mod_lt _ (by decide)
  have h4:wd V k+t%4294967296<4294967296:=by
    have e:t%4294967296=2^n*(t%4294967296/2^n):=by have:=Nat.div_add_mod (t%4294967296) (2^n);omega
    have:t%4294967296/2^n<2^(32-n):=by rw[Nat.div_lt_iff_lt_mul hp0,Nat.mul_comm,hp];exact h3
    have h7:2^n*(t%4294967296/2^n+1)≤4294967296:=by
      have:=Nat.mul_le_mul_left (2^n) (show t%4294967296/2^n+1≤2^(32-n) by omega)
      rwa [hp]at this
    rw[Nat.mul_add]at h7;omega
  have h5:t/4294967296<4294967296:=by
    have:=wd_lt X k
    rw[Nat.div_lt_iff_lt_mul (by decide)]
    have:wd X k*2^n<4294967296*2^n:=Nat.mul_lt_mul_of_pos_right this hp0
    have:2^n≤4294967296:=by rw[←hp];exact Nat.le_mul_of_pos_right _ (Nat.pow_pos (by decide))
    have:4294967296*2^n≤4294967296*4294967296:=Nat.mul_le_mul_left _ this
    omega
  refine ⟨h1,or_lo h1 h2,h4,h5,?_⟩
  have e1:=st_eq V k (wd V k+t%4294967296)
  have hst:st V k (wd V k+t%4294967296)=V+bp k*(t%4294967296):=by rw[Nat.mul_add]at e1;omega
  have hlt:st V k (wd V k+t%4294967296)<bp (k+1):=by
    rw[hst,bp_succ]
    have hs:=split_at V k
    have:=lo_lt V k
    rw[←hw]at hs
    have:bp k*(wd V k+t%4294967296+1)≤bp k*4294967296:=Nat.mul_le_mul_left _ (by omega)
    rw[Nat.mul_add,Nat.mul_add]at this;omega
  rw[st_zero hlt,hst,lo_succ,bp_succ,Nat.add_mul,Nat.mul_assoc,Nat.mul_assoc,Nat.add_assoc,←Nat.mul_add]
  congr 2
  exact Nat.mod_add_div t 4294967296
end Pq
namespace Pq
open Go Go.RowKit
theorem and_lo {t:Nat} (ht:t<18446744073709551616):bits .and .u64 (t:Int) 4294967295=((t%4294967296:Nat):Int):=by
  have e:(4294967295:Int)=((4294967295:Nat):Int):=rfl
  rw[e,u64_and_nat _ _ ht (by decide)]
  congr 1
  have:=Nat.and_two_pow_sub_one_eq_mod t 32
  simpa using this
theorem lt_aux (B:Nat) {a b r T u:Nat} (he:a+r=T) (hc:r*B+u<b):T*B+u<a*B+b:=by
  subst he;rw[Nat.add_mul];omega
def gw (u0 u1 u2 v0 v1:Nat):Nat:=min (((u2*4294967296+u1)*4294967296+u0)/(v1*4294967296+v0)) 4294967295
structure GI (u0 u1 u2 v0 v1 q rest:Nat):Prop where
  eq:q*v1+rest=u2*4294967296+u1
  small:rest≤4294967295
  top:q≤4294967297
  ge:gw u0 u1 u2 v0 v1≤q
section
variable {u0 u1 u2 v0 v1:Nat}
set_option maxRecDepth 100000 in
theorem GI.start (h0:u0<4294967296) (h1:u1<4294967296) (hv0:v0<4294967296) (hv1:v1<4294967296) (hv:2147483648≤v1) (hu:u2≤v1):GI u0 u1 u2 v0 v1 ((u2*4294967296+u1)/v1) ((u2*4294967296+u1)%v1):=by
  have hv1':0<v1:=by omega
  have e:=Nat.div_add_mod (u2*4294967296+u1) v1
  have hm:=Nat.mod_lt (u2*4294967296+u1) hv1'
  refine ⟨by rw[Nat.mul_comm];exact e,by omega,?_,?_⟩
  · have:u2*4294967296≤v1*4294967296:=Nat.mul_le_mul_right _ hu
    have:(u2*4294967296+u1)/v1<4294967298:=by
      rw[Nat.div_lt_iff_lt_mul hv1']
      omega
    omega
  · unfold gw
    refine Nat.le_trans (Nat.min_le_left _ _) ?_
    rw[Nat.le_div_iff_mul_le hv1']
    have hd:0<v1*4294967296+v0:=by omega
    have h2:=Nat.div_mul_le_self ((u2*4294967296+u1)*4294967296+u0) (v1*4294967296+v0)
    obtain ⟨k,hk⟩ : ∃ k,k=((u2*4294967296+u1)*4294967296+u0)/(v1*4294967296+v0):=⟨_,rfl⟩
    rw[←hk]at h2 ⊢
    clear hk
    rw[Nat.mul_add]at h2
    have e3:k*(v1*4294967296)=(k*v1)*4294967296:=by rw[Nat.mul_assoc]
    rw[e3]at h2
    generalize k*v1=a at *
    omega
set_option maxRecDepth 100000 in
theorem GI.done {q rest:Nat} (h:GI u0 u1 u2 v0 v1 q rest) (hv:2147483648≤v1) (hq:q≤4294967295) (hc:q*v0≤rest*4294967296+u0):q=gw u0 u1 u2 v0 v1:=by
  refine Nat.le_antisymm ?_ h.ge
  unfold gw
  refine Nat.le_min.2 ⟨?_,hq⟩
  rw[Nat.le_div_iff_mul_le (by omega)]
  have:=h.eq
  rw[Nat.mul_add,←Nat.mul_assoc]
  generalize q*v1=a at *
  generalize q*v0=b at *
  omega
set_option maxRecDepth 100000 in
theorem GI.lt {q rest:Nat} (h:GI u0 u1 u2 v0 v1 q rest) (hv:2147483648≤v1) (hc:4294967295<q∨rest*4294967296+u0<q*v0):gw u0 u1 u2 v0 v1<q:=by
  unfold gw
  rcases hc with hc|hc
  · exact Nat.lt_of_le_of_lt (Nat.min_le_right _ _) hc
  · refine Nat.lt_of_le_of_lt (Nat.min_le_left _ _) ?_
    rw[Nat.div_lt_iff_lt_mul (by omega),Nat.mul_add,←Nat.mul_assoc]
    exact lt_aux 4294967296 h.eq hc
set_option maxRecDepth 100000 in
theorem GI.next {q rest:Nat} (h:GI u0 u1 u2 v0 v1 q rest) (hv:2147483648≤v1) (hc:4294967295<q∨rest*4294967296+u0<q*v0) (hr:rest+v1≤4294967295):GI u0 u1 u2 v0 v1 (q-1) (rest+v1):=by
  have h1:=h.lt hv hc
  have h2:=h.eq
  obtain ⟨p,rfl⟩ : ∃ p,q=p+1:=⟨q-1,by omega⟩
  rw[Nat.add_mul,Nat.one_mul]at h2
  have:=h.top
  exact ⟨by rw[Nat.add_sub_cancel];omega,hr,by omega,by omega⟩
set_option maxRecDepth 100000 in
theorem GI.stop {q rest:Nat} (h:GI u0 u1 u2 v0 v1 q rest) (h1:u1<4294967296) (hv0:v0<4294967296) (hv:2147483648≤v1) (hu:u2≤v1) (hc:4294967295<q∨rest*4294967296+u0<q*v0) (hr:4294967295<rest+v1):q-1=gw u0 u1 u2 v0 v1:=by
  have hl:=h.lt hv hc
  have h2:=h.eq
  have ht:=h.top
  obtain ⟨p,rfl⟩ : ∃ p,q=p+1:=⟨q-1,by omega⟩
  rw[Nat.add_mul,Nat.one_mul]at h2
  rw[Nat.add_sub_cancel]
  have hp:p≤4294967295:=by
    rcases Nat.lt_or_ge p 4294967296 with h|h
    · omega
    · exfalso
      have h3:4294967296*v1≤p*v1:=Nat.mul_le_mul_right _ h
      have h4:u2*4294967296≤v1*4294967296:=Nat.mul_le_mul_right _ hu
      omega
  refine Nat.le_antisymm ?_ (by omega)
  unfold gw
  refine Nat.le_min.2 ⟨?_,hp⟩
  rw[Nat.le_div_iff_mul_le (by omega),Nat.mul_add,←Nat.mul_assoc]
  have h5:p*v0≤4294967295*4294967295:=Nat.mul_le_mul hp (by omega)
  generalize p*v1=a at *
  generalize p*v0=b at *
  omega
end
theorem st_form (Y k d:Nat):st Y k d=(lo Y k+bp k*d)+bp (k+1)*(Y/bp (k+1)):=by
  unfold st;rw[Nat.mul_add,bp_succ,Nat.mul_assoc];omega
theorem lo_st {Y k d:Nat} (hd:d<4294967296):lo (st Y k d) (k+1)=lo Y k+bp k*d:=by
  rw[st_form];unfold lo
  rw[Nat.add_mul_mod_self_left]
  exact Nat.mod_eq_of_lt (less_lt (lo_lt Y k) hd)
theorem st_hi {Y k d:Nat} (hd:d<4294967296):st Y k d/bp (k+1)=Y/bp (k+1):=by
  rw[st_form,Nat.add_mul_div_left _ _ (bp_pos _),Nat.div_eq_of_lt (less_lt (lo_lt Y k) hd),Nat.zero_add]
theorem wd_of_hi {X Y k:Nat} (h:Y/bp k=X/bp k):wd Y k=wd X k:=by unfold wd;rw[h]
theorem hi_next {X Y k:Nat} (h:Y/bp k=X/bp k):Y/bp (k+1)=X/bp (k+1):=by
  rw[bp_succ,←Nat.div_div_eq_div_mul,←Nat.div_div_eq_div_mul,h]
theorem last_arith {A G F D E L H LX X:Nat} (e1:A+G+F=D+E) (he:L+H=LX+(F+G)) (hx:X=LX+D):L+A+H=X+E:=by omega
theorem last_arith2 {A C D F L LX V X:Nat} (e1:A+C=D+F) (he:L+F=LX+V) (hx:X=LX+D):X+V=L+A+C:=by omega
theorem last_arith3 {A C FG D E L H LX:Nat} (e1:A+C+FG=D+E) (he:L+H=LX+FG):L+A+(H+C)=LX+D+E:=by omega
theorem next_arith {d r b x c qv B b2 c2:Nat} (h1:d+r+b=x+B*b2) (h2:r+B*c2=qv+c):d+qv+(b+c)=x+B*(b2+c2):=by rw[Nat.mul_add];omega
theorem last_arith4 {A C D E F L LX LV:Nat} (e1:A+C=D+E+F) (he:L+F=LX+LV):L+A+C=LX+D+(LV+E):=by omega
structure TI (X V q k c bo Y:Nat):Prop where
  hi:Y/bp k=X/bp k
  eq:lo Y k+q*lo V k=lo X k+bp k*(bo+c)
  cl:c<4294967296
  bl:bo≤1
theorem TI.start (X V q:Nat):TI X V q 0 0 0 X:=⟨rfl,by simp[lo_zero],by decide,by decide⟩
theorem TI.word {X V q k c bo Y:Nat} (h:TI X V q k c bo Y):wd Y k=wd X k:=wd_of_hi h.hi
theorem tmul_lt {q v c:Nat} (hq:q<4294967296) (hv:v<4294967296) (hc:c<4294967296):q*v+c<18446744073709551616∧(q*v+c)/4294967296<4294967296:=by
  have h1:q*v≤4294967295*4294967295:=Nat.mul_le_mul (by omega) (by omega)
  constructor <;> omega
theorem TI.next {X V q k c bo Y:Nat} (h:TI X V q k c bo Y) (hq:q<4294967296) :
    TI X V q (k+1) ((q*wd V k+c)/4294967296) (bor (wd X k) ((q*wd V k+c)%4294967296) bo) (st Y k (dif (wd X k) ((q*wd V k+c)%4294967296) bo)):=by
  have ht:=tmul_lt hq (wd_lt V k) h.cl
  have hd:=dif_eq (wd_lt X k) (Nat.mod_lt (q*wd V k+c) (show 0<4294967296 by decide)) h.bl
  refine ⟨by rw[st_hi (dif_lt _ _ _)];exact hi_next h.hi,?_,ht.2,bor_le _ _ _⟩
  rw[lo_st (dif_lt _ _ _),lo_succ V,lo_succ X,bp_succ]
  have he:=h.eq
  have hmd:=Nat.mod_add_div (q*wd V k+c) 4294967296
  have e1:bp k*(dif (wd X k) ((q*wd V k+c)%4294967296) bo+q*wd V k+(bo+c))=bp k*(wd X k+4294967296*(bor (wd X k) ((q*wd V k+c)%4294967296) bo+(q*wd V k+c)/4294967296)):=
    congrArg (bp k * ·) (next_arith hd hmd)
  rw[Nat.mul_add,Nat.mul_add,Nat.mul_add (bp k) (wd X k),←Nat.mul_assoc (bp k) 4294967296]at e1
  rw[Nat.mul_add q,Nat.mul_left_comm q]
  exact last_arith3 e1 he
theorem TI.last {X V q m c bo Y:Nat} (h:TI X V q m c bo Y) (hX:X<bp (m+1)) (hV:V<bp m) :
    st Y m (dif (wd X m) c bo)<bp (m+1)∧st Y m (dif (wd X m) c bo)+q*V=X+bp (m+1)*bor (wd X m) c bo:=by
  have hd:=dif_eq (wd_lt X m) h.cl h.bl
  have hz:Y/bp (m+1)=0:=by rw[hi_next h.hi,Nat.div_eq_of_lt hX]
  have hf:st Y m (dif (wd X m) c bo)=lo Y m+bp m*dif (wd X m) c bo:=by rw[st_form,hz,Nat.mul_zero,Nat.add_zero]
  refine ⟨by rw[hf];exact less_lt (lo_lt Y m) (dif_lt _ _ _),?_⟩
  rw[hf,bp_succ]
  have he:=h.eq
  rw[lo_self hV]at he
  have hxs:X=lo X m+bp m*wd X m:=by
    have:=lo_succ X m;rw[lo_self hX]at this;exact this
  have e1:bp m*(dif (wd X m) c bo+c+bo)=bp m*(wd X m+4294967296*bor (wd X m) c bo):=congrArg (bp m * ·) hd
  rw[Nat.mul_add,Nat.mul_add,Nat.mul_add,←Nat.mul_assoc (bp m)]at e1
  rw[Nat.mul_add]at he
  exact last_arith e1 he hxs
structure AI (X V k c Y:Nat):Prop where
  hi:Y/bp k=X/bp k
  eq:lo Y k+bp k*c=lo X k+lo V k
  cl:c≤1
theorem AI.start (X V:Nat):AI X V 0 0 X:=⟨rfl,by simp[lo_zero],by decide⟩
theorem AI.word {X V k c Y:Nat} (h:AI X V k c Y):wd Y k=wd X k:=wd_of_hi h.hi
theorem sw_eq (x y c:Nat):sww x y c+4294967296*swc x y c=x+y+c:=Nat.mod_add_div _ _
theorem AI.next {X V k c Y:Nat} (h:AI X V k c Y):AI X V (k+1) (swc (wd X k) (wd V k) c) (st Y k (sww (wd X k) (wd V k) c)):=by
  refine ⟨by rw[st_hi (sww_lt _ _ _)];exact hi_next h.hi,?_,swc_le (wd_lt _ _) (wd_lt _ _) h.cl⟩
  rw[lo_st (sww_lt _ _ _),lo_succ V,lo_succ X,bp_succ]
  have he:=h.eq
  have hs:=sw_eq (wd X k) (wd V k) c
  have e1:bp k*(sww (wd X k) (wd V k) c+4294967296*swc (wd X k) (wd V k) c)=bp k*(wd X k+wd V k+c):=congrArg (bp k * ·) hs
  rw[Nat.mul_add,Nat.mul_add,Nat.mul_add,←Nat.mul_assoc (bp k)]at e1
  exact last_arith4 e1 he
theorem AI.last {X V m c Y:Nat} (h:AI X V m c Y) (hX:X<bp (m+1)) (hV:V<bp m) :
    st Y m ((wd X m+c)%4294967296)=(X+V)%bp (m+1):=by
  have hz:Y/bp (m+1)=0:=by rw[hi_next h.hi,Nat.div_eq_of_lt hX]
  have hd:(wd X m+c)%4294967296<4294967296:=Nat.mod_lt _ (by decide)
  have hf:st Y m ((wd X m+c)%4294967296)=lo Y m+bp m*((wd X m+c)%4294967296):=by rw[st_form,hz,Nat.mul_zero,Nat.add_zero]
  rw[hf]
  have hlt:=less_lt (lo_lt Y m) hd
  have he:=h.eq
  rw[lo_self hV]at he
  have hxs:X=lo X m+bp m*wd X m:=by
    have:=lo_succ X m;rw[lo_self hX]at this;exact this
  have hmd:=Nat.mod_add_div (wd X m+c) 4294967296
  have e1:bp m*((wd X m+c)%4294967296+4294967296*((wd X m+c)/4294967296))=bp m*(wd X m+c):=congrArg (bp m * ·) hmd
  rw[Nat.mul_add,Nat.mul_add,←Nat.mul_assoc (bp m),←bp_succ]at e1
  have e:X+V=(lo Y m+bp m*((wd X m+c)%4294967296))+bp (m+1)*((wd X m+c)/4294967296):=last_arith2 e1 he hxs
  rw[e,Nat.add_mul_mod_self_left,Nat.mod_eq_of_lt hlt]
theorem set_mid (p:List Value) (n Y:Nat) (s:List Value) {k d:Nat} (hd:d<4294967296) (hk:k<n) :
    (p++(am n Y++s)).set (p.length+k) (.int .u32 (d:Int))=p++(am n (st Y k d)++s):=by
  rw[List.set_append_right _ _ (by omega),Nat.add_sub_cancel_left,List.set_append_left _ _ (by rw[am_length];exact hk),am_set hd hk]
theorem get_mid (p:List Value) (n Y:Nat) (s:List Value) {k:Nat} (hk:k<n):(p++(am n Y++s))[p.length+k]?=some (.int .u32 (wd Y k)):=by
  rw[List.getElem?_append_right (by omega),Nat.add_sub_cancel_left,List.getElem?_append_left (by rw[am_length];exact hk),am_get hk]
theorem len_mid (p:List Value) (n Y:Nat) (s:List Value) {k:Nat} (hk:k<n):p.length+k<(p++(am n Y++s)).length:=by
  simp[am_length];omega
theorem am_app (a b x y:Nat):am a x++am b y=am (a+b) (lo x a+bp a*y):=by
  refine am_ext (by simp[am_length]) fun i hi=>?_
  rcases Nat.lt_or_ge i a with h|h
  · rw[List.getElem?_append_left (by rw[am_length];exact h),am_get h,wd_below h,wd_lo h]
  · rw[List.getElem?_append_right (by rw[am_length];exact h),am_length,am_get (by omega)]
    have:=wd_above (lo_lt x a) y (i-a)
    rw[show a+(i-a)=i from by omega]at this
    rw[this]
theorem am_split (a b x:Nat):am (a+b) x=am a x++am b (x/bp a):=by rw[am_app,←split_at]
theorem row_open {n i m k U:Nat} (hn:n=i+(m+k)) (h:U/bp i<bp m):am n U=am i U++(am m (U/bp i)++am k 0):=by
  rw[hn,am_split,am_split m k,Nat.div_eq_of_lt h]
theorem row_close {n i m k U Z:Nat} (hn:n=i+(m+k)) (h:Z<bp m):am i U++(am m Z++am k 0)=am n (lo U i+bp i*Z):=by
  rw[hn,am_app m k,am_app,lo_self h,Nat.mul_zero,Nat.add_zero]
structure DI (X0 V k U Q:Nat):Prop where
  lt:U<V*bp k
  eq:U+V*Q=X0
  low:lo Q k=0
theorem DI.head {X0 V k U Q:Nat} (h:DI X0 V (k+1) U Q):U/bp k<V*4294967296:=by
  have:=h.lt
  rw[bp_succ,Nat.mul_comm (bp k),←Nat.mul_assoc]at this
  exact (Nat.div_lt_iff_lt_mul (bp_pos k)).2 this
theorem di_eq (V Q L K q r:Nat):L+K*r+V*(Q+K*q)=L+K*(r+V*q)+V*Q:=by
  simp only[Nat.mul_add]
  rw[Nat.mul_left_comm V K q];omega
theorem DI.next {X0 V k U Q:Nat} (h:DI X0 V (k+1) U Q) (hV:0<V):DI X0 V k (lo U k+bp k*(U/bp k%V)) (st Q k (U/bp k/V)):=by
  have hq:lo Q k=0∧wd Q k=0:=by
    have h1:=h.low
    rw[lo_succ]at h1
    have:=bp_pos k
    refine ⟨by omega,?_⟩
    have h2:bp k*wd Q k=0:=by omega
    rcases Nat.mul_eq_zero.1 h2 with h3|h3
    · omega
    · exact h3
  have hs:=st_eq Q k (U/bp k/V)
  rw[hq.2,Nat.mul_zero,Nat.add_zero]at hs
  refine ⟨?_,?_,?_⟩
  · have h1:=lo_lt U k
    have h2:U/bp k%V+1≤V:=Nat.mod_lt _ hV
    have h3:bp k*(U/bp k%V+1)≤bp k*V:=Nat.mul_le_mul_left _ h2
    rw[Nat.mul_add,Nat.mul_one]at h3
    rw[Nat.mul_comm V];omega
  · rw[hs,di_eq,Nat.mod_add_div,←split_at,h.eq]
  · rw[hs]
    unfold lo at hq ⊢
    rw[Nat.add_mul_mod_self_left];exact hq.1
theorem DI.done {X0 V U Q:Nat} (h:DI X0 V 0 U Q):Q=X0/V∧U=X0%V:=by
  have h1:=h.lt
  rw[bp_zero,Nat.mul_one]at h1
  have h2:=h.eq
  have hV:0<V:=by omega
  subst h2
  rw[Nat.add_mul_div_left _ _ hV,Nat.div_eq_of_lt h1,Nat.add_mul_mod_self_left,Nat.mod_eq_of_lt h1]
  exact ⟨by omega,rfl⟩
theorem guess_core {B XH VH K XL VL X V:Nat} (hX:X=XH*K+XL) (hXL:XL<K) (hV:V=VH*K+VL) (hVL:VL<K) (hB:B≤VH) (hB0:0<B) (h:X<V*B):X/V≤min (XH/VH) (B-1)∧min (XH/VH) (B-1)≤X/V+1:=by
  have hVH:0<VH:=by omega
  have hK:0<K:=by omega
  have hVp:0<V:=by have:=Nat.mul_pos hVH hK;omega
  constructor
  · refine Nat.le_min.2 ⟨?_,?_⟩
    · refine (Nat.le_div_iff_mul_le hVH).2 ?_
      have h1:X/V*V≤X:=Nat.div_mul_le_self X V
      have h2:X/V*VH*K≤X/V*V:=by rw[Nat.mul_assoc];exact Nat.mul_le_mul_left _ (by omega)
      have h3:X/V*VH*K<(XH+1)*K:=by rw[Nat.add_mul,Nat.one_mul];omega
      have:=Nat.lt_of_mul_lt_mul_right h3
      omega
    · have:X/V<B:=(Nat.div_lt_iff_lt_mul hVp).2 (by rw[Nat.mul_comm];exact h)
      omega
  · obtain ⟨g,hg⟩ : ∃ g,g=min (XH/VH) (B-1):=⟨_,rfl⟩
    rw[←hg]
    have g1:g≤XH/VH:=by omega
    have g2:g≤B:=by omega
    have h1:g*VH≤XH:=(Nat.le_div_iff_mul_le hVH).1 g1
    have h2:g*V≤X+V:=by
      rw[hV,Nat.mul_add,←Nat.mul_assoc]
      have h3:g*VH*K≤XH*K:=Nat.mul_le_mul_right _ h1
      have h4:g*VL≤VH*K:=Nat.mul_le_mul (by omega) (by omega)
      omega
    rcases Nat.eq_zero_or_pos g with h0|h0
    · rw[h0];exact Nat.zero_le _
    · have h3:(g-1)*V≤X:=by rw[Nat.sub_mul,Nat.one_mul];omega
      have:=(Nat.le_div_iff_mul_le hVp).2 h3
      omega
theorem three_words (X k:Nat):X=((X/bp (k+2)*4294967296+wd X (k+1))*4294967296+wd X k)*bp k+lo X k:=by
  have h1:=hi_split X k
  have h2:X/bp (k+1)=wd X (k+1)+4294967296*(X/bp (k+2)):=hi_split X (k+1)
  have h3:=split_at X k
  rw[h2]at h1
  have h4:X/bp k=(X/bp (k+2)*4294967296+wd X (k+1))*4294967296+wd X k:=by
    rw[h1];omega
  rw[←h4,Nat.mul_comm];omega
theorem two_words (V k:Nat):V=(V/bp (k+1)*4294967296+wd V k)*bp k+lo V k:=by
  have h1:=hi_split V k
  have h3:=split_at V k
  have h4:V/bp k=V/bp (k+1)*4294967296+wd V k:=by rw[h1];omega
  rw[←h4,Nat.mul_comm];omega
theorem gw_core {B B1 u0 u1 u2 v0 v1 K XL VL X V:Nat} (hX:X=((u2*B+u1)*B+u0)*K+XL) (hXL:XL<K) (hV:V=(v1*B+v0)*K+VL) (hVL:VL<K) (h1:0<v1) (hB0:0<B) (h:X<V*B) (hB1:B-1=B1) :
    X/V≤min (((u2*B+u1)*B+u0)/(v1*B+v0)) B1∧min (((u2*B+u1)*B+u0)/(v1*B+v0)) B1≤X/V+1:=by
  have hB:B≤v1*B+v0:=by have:=Nat.le_mul_of_pos_left B h1;omega
  have:=guess_core hX hXL hV hVL hB hB0 h
  rw[hB1]at this;exact this
theorem top_core {B X V v1 u2 P:Nat} (hX:X<V*B) (h1:V<(v1+1)*P) (hP:0<P) (hB:0<B) (hu:X/(P*B)=u2):u2≤v1:=by
  have h2:X<(v1+1)*(P*B):=by
    rw[←Nat.mul_assoc]
    exact Nat.lt_trans hX ((Nat.mul_lt_mul_right hB).2 h1)
  have:=(Nat.div_lt_iff_lt_mul (Nat.mul_pos hP hB)).2 h2
  rw[hu]at this;omega
theorem top_word {X i:Nat} (h:X<bp (i+1)):X/bp i=wd X i:=by
  have:=hi_split X i;rw[Nat.div_eq_of_lt h,Nat.mul_zero,Nat.add_zero]at this;exact this
theorem big_pos {v:Nat} (h:2147483648≤v):0<v:=Nat.lt_of_lt_of_le (by decide) h
theorem gw_fit {k X V:Nat} (hX:X<V*4294967296) (hV:V<bp (k+2)):X<bp (k+3):=by
  rw[bp_succ];exact Nat.lt_of_lt_of_le hX (Nat.mul_le_mul_right _ (Nat.le_of_lt hV))
theorem gw_bounds {k X V:Nat} (hX:X<V*4294967296) (hV:V<bp (k+2)) (hv:2147483648≤wd V (k+1)) :
    X/V≤gw (wd X k) (wd X (k+1)) (wd X (k+2)) (wd V k) (wd V (k+1))∧gw (wd X k) (wd X (k+1)) (wd X (k+2)) (wd V k) (wd V (k+1))≤X/V+1:=by
  have hx:=three_words X k
  have hv':=two_words V k
  rw[top_word (gw_fit hX hV)]at hx
  rw[top_word hV]at hv'
  exact gw_core hx (lo_lt X k) hv' (lo_lt V k) (big_pos hv) (by decide) hX rfl
theorem gw_top {k X V:Nat} (hX:X<V*4294967296) (hV:V<bp (k+2)):wd X (k+2)≤wd V (k+1):=by
  refine top_core hX (P:=bp (k+1)) ?_ (bp_pos _) (by decide) ?_
  · have:=split_at V (k+1)
    have h2:=lo_lt V (k+1)
    rw[top_word hV]at this
    generalize wd V (k+1)=q at *
    rw[Nat.add_mul,Nat.one_mul,Nat.mul_comm]
    generalize bp (k+1)*q=z at *
    generalize bp (k+1)=y at *
    generalize lo V (k+1)=x at *
    clear hX
    omega
  · rw[←bp_succ];exact top_word (gw_fit hX hV)
theorem take_ok {X V g Z P:Nat} (h1:X/V≤g) (h2:g≤X/V+1) (he:Z+g*V=X+P*0) (hV:0<V):g=X/V∧Z=X%V:=by
  have h3:g≤X/V:=(Nat.le_div_iff_mul_le hV).2 (by rw[Nat.mul_zero]at he;omega)
  obtain rfl:g=X/V:=by omega
  have:=Nat.div_add_mod X V
  rw[Nat.mul_comm]at this
  exact ⟨rfl,by omega⟩
theorem take_no {X V g Z P:Nat} (h1:X/V≤g) (h2:g≤X/V+1) (he:Z+g*V=X+P*1) (hZ:Z<P) (hP:V≤P) (hV:0<V):g=X/V+1∧(Z+V)%P=X%V:=by
  rw[Nat.mul_one]at he
  have h3:¬ g≤X/V:=fun h=>by have:=(Nat.le_div_iff_mul_le hV).1 h;omega
  obtain rfl:g=X/V+1:=by omega
  have:=Nat.div_add_mod X V
  rw[Nat.mul_comm]at this
  rw[Nat.add_mul,Nat.one_mul]at he
  have e:Z+V=X%V+P:=by omega
  have h4:=Nat.mod_lt X hV
  rw[e,Nat.add_mod_right,Nat.mod_eq_of_lt (by omega)]
  exact ⟨rfl,rfl⟩
theorem norm_top {y j:Nat} (h:y<bp (j+1)) (h0:wd y j≠0) :
    ∃ up,Lib.bitLen (wd y j)+up=32∧up<32∧y*2^up<bp (j+1)∧2147483648≤wd (y*2^up) j:=by
  have hw:=wd_lt y j
  obtain ⟨h1,h2,h3⟩:=Lib.bitLenAux_bounds 64 (wd y j) (by omega) h0
  have h4:=Lib.bitLenAux_le 64 (wd y j) 32 hw
  have hx:=split_at y j
  have hq:y/bp j=wd y j:=by
    have:=hi_split y j
    rw[Nat.div_eq_of_lt h]at this;omega
  rw[hq]at hx
  have hl:=lo_lt y j
  unfold Lib.bitLen
  generalize Lib.bitLenAux 64 (wd y j)=b at *
  generalize wd y j=q at *
  obtain ⟨c,rfl⟩ : ∃ c,b=c+1:=⟨b-1,by omega⟩
  rw[Nat.add_sub_cancel]at h2
  refine ⟨31-c,by omega,by omega,?_⟩
  have hp:(2:Nat)^(c+1)*2^(31-c)=4294967296:=by rw[←Nat.pow_add,show c+1+(31-c)=32 from by omega]
  have hp2:(2:Nat)^c*2^(31-c)=2147483648:=by rw[←Nat.pow_add,show c+(31-c)=31 from by omega]
  have hup:0<(2:Nat)^(31-c):=Nat.pow_pos (by decide)
  have u1:y<bp j*2^(c+1):=by
    have:bp j*(q+1)≤bp j*2^(c+1):=Nat.mul_le_mul_left _ h3
    rw[Nat.mul_add,Nat.mul_one]at this;omega
  have u2:y*2^(31-c)<bp (j+1):=by
    rw[bp_succ,←hp,←Nat.mul_assoc]
    exact (Nat.mul_lt_mul_right hup).2 u1
  refine ⟨u2,?_⟩
  have l1:bp j*2^c≤y:=by
    have:bp j*2^c≤bp j*q:=Nat.mul_le_mul_left _ h2
    omega
  have l2:2147483648*bp j≤y*2^(31-c):=by
    rw[←hp2,Nat.mul_comm _ (bp j),←Nat.mul_assoc]
    exact Nat.mul_le_mul_right _ l1
  have l3:=(Nat.le_div_iff_mul_le (bp_pos j)).2 l2
  have hq2:=hi_split (y*2^(31-c)) j
  rw[Nat.div_eq_of_lt u2]at hq2
  omega
theorem DI.start {x V n m up:Nat} (hx:x<bp n) (hup:up<32) (hm:m+1≤n) (hv:2147483648≤wd V m) (hV:V<bp (m+1)):DI (x*2^up) V (n-m) (x*2^up) 0:=by
  refine ⟨?_,by rw[Nat.mul_zero,Nat.add_zero],by unfold lo;exact Nat.zero_mod _⟩
  have h2:(2:Nat)^up≤2147483648:=by have:=Nat.pow_le_pow_right (n:=2) (by decide) (show up≤31 by omega);simpa using this
  have e2:V/bp m=wd V m:=by
    have:=hi_split V m;rw[Nat.div_eq_of_lt hV]at this;omega
  have h3:2147483648*bp m≤V:=(Nat.le_div_iff_mul_le (bp_pos m)).1 (by omega)
  have h4:bp n*2147483648≤V*bp (n-m):=by
    have e:bp n=bp m*bp (n-m):=by rw[←bp_add,show m+(n-m)=n from by omega]
    rw[e,Nat.mul_comm _ 2147483648,←Nat.mul_assoc]
    exact Nat.mul_le_mul_right _ h3
  have h5:x*2^up<bp n*2147483648:=by
    have:=Nat.mul_le_mul_left (x) h2
    have:=(Nat.mul_lt_mul_right (show 0<2147483648 by decide)).2 hx
    omega
  omega
theorem shr_step {U i n:Nat} (hn:n<32):wd (U/2^n) i=(wd U (i+1)*4294967296+wd U i)/2^n%4294967296:=by
  have hp:(2:Nat)^n*2^(32-n)=4294967296:=by rw[←Nat.pow_add,show n+(32-n)=32 from by omega]
  have hpos:0<(2:Nat)^n:=Nat.pow_pos (by decide)
  have h1:=hi_split U i
  have h2:=hi_split U (i+1)
  rw[h2]at h1
  show U/2^n/bp i%4294967296=_
  rw[Nat.div_div_eq_div_mul,Nat.mul_comm (2^n),←Nat.div_div_eq_div_mul,h1]
  generalize wd U i=a at *
  generalize wd U (i+1)=b at *
  generalize U/bp (i+1+1)=T at *
  generalize (2:Nat)^n=p at *
  generalize (2:Nat)^(32-n)=r at *
  have e:a+4294967296*(b+4294967296*T)=(b*4294967296+a)+p*(r*(4294967296*T)):=by
    rw[←Nat.mul_assoc p r,hp];omega
  rw[e,Nat.add_mul_div_left _ _ hpos,←Nat.mul_assoc r,Nat.mul_comm r,Nat.mul_assoc,Nat.add_mul_mod_self_left]
theorem st_lo (R i:Nat):st (lo R i) i (wd R i)=lo R (i+1):=by rw[st_zero (lo_lt R i),lo_succ]
theorem quot_pow (x y up:Nat):x*2^up/(y*2^up)=x/y∧x*2^up%(y*2^up)/2^up=x%y:=by
  have hpos:0<(2:Nat)^up:=Nat.pow_pos (by decide)
  exact ⟨Nat.mul_div_mul_right _ _ hpos,by rw[Nat.mul_mod_mul_right,Nat.mul_div_cancel _ hpos]⟩
theorem below_mid {B g:Nat} {w w1 w2:World} (h:Below B w w1) (k:w1.grownBy w2 (some g)) (hB:B≤w.heap.size) (hg:B≤g):Below B w w2:=
  ⟨k.os.trans h.os,k.tape.trans h.tape,k.output.trans h.output,Nat.le_trans h.size k.size,fun j hj=>(k.block j (Nat.lt_of_lt_of_le hj (Nat.le_trans hB h.size)) (fun e=>by have:j=g:=Option.some.inj e;omega)).trans (h.block j hj)⟩
theorem zz:(∀ (a:Act) (v:Value),Act.put a none v=a)∧(∀ (a:Act) (d:Tmp) (v:Value),Act.put a (some d) v={ a with tmps:=a.tmps.setIfInBounds d v })∧(∀ (l:List Value) (i:Nat) (v:Value),l.toArray.setIfInBounds i v=(l.set i v).toArray)∧(∀ (a x:Value) (l:List Value),(a::l).set 0 x=x::l)∧(∀ (a x:Value) (l:List Value) (n:Nat),(a::l).set (n+1) x=a::l.set n x):=⟨fun _ _=>rfl,fun _ _ _=>rfl,fun _ _ _=>List.setIfInBounds_toArray ..,fun _ _ _=>rfl,fun _ _ _ _=>rfl⟩
section
variable {P:Program} {ops:Array Oper} {Q:Exit→Act→World→Prop} {S:World→Prop}
def wpO0 (P:Program) (ops:Array Oper) (S:World→Prop) (Q:Exit→Act→World→Prop):List (Oper×Bool)→Act→World→Prop
  | [],a,w=>Q .normal a w
  | (o,st)::r,a,w =>
    if Region.wanted o (yielded ops a.tmps)=true then
      if st=true then ∃ v,(∀ w',S w'→(execOp a.eval o).run P w'=.ok (.value v) w')∧wpO0 P ops S Q r (a.put o.dst v) w
      else o.wp P a w (fun a' w'=>S w'∧wpO0 P ops S Q r a' w') Q
    else wpO0 P ops S Q r (a.put o.dst undef) w
def ordB (ops:Array Oper):List (Nat×Bool)→Array Bool→Bool
  | [],listed=>(Region.ready .any ops listed).isEmpty
  | (i,st)::r,listed =>
    (if st then Region.free .any ops listed i&&(Region.ready .any ops listed).contains i else decide (Region.ready .any ops listed=[i])) &&
      ordB ops r (listed.setIfInBounds i true)
def pick (l:List Oper) (order:List (Nat×Bool)):List (Oper×Bool):=order.filterMap fun p=>(l[p.1]?).map fun o=>(o,p.2)
theorem wpAnyH_of_order (hs:Region.noSelect ops=true) (hQ : ∀ c a d v w,Q (.panic c) (Act.put a d v) w→Q (.panic c) a w) :
    ∀ (order:List (Nat×Bool)) (listed:Array Bool) (a:Act) (w:World),S w→ordB ops order listed=true →
      (∀ p∈order,(ops[p.1]?).isSome=true)→wpO0 P ops S Q (pick ops.toList order) a w→wpAnyH P .any ops Q S order.length listed a w
  | [],listed,a,w,_,hB,_,h=>⟨by simpa [ordB] using hB,h⟩
  | (i,st)::r,listed,a,w,hS,hB,hin,h=>by
    simp only[ordB,Bool.and_eq_true]at hB
    obtain ⟨hB1,hB2⟩:=hB
    have h0:=hin (i,st) (by simp)
    have hr : ∀ p∈r,(ops[p.1]?).isSome=true:=fun p hp=>hin p (by simp[hp])
    obtain ⟨o,ho⟩:=Option.isSome_iff_exists.1 h0
    have ho':ops.toList[i]?=some o:=by simpa using ho
    have e:pick ops.toList ((i,st)::r)=(o,st)::pick ops.toList r:=by unfold pick;rw[List.filterMap_cons];rw[show ops.toList[(i,st).1]?=some o from ho'];rfl
    rw[e]at h
    simp only[wpO0]at h
    have ih:=fun a' w' hS' h'=>wpAnyH_of_order hs hQ r (listed.setIfInBounds i true) a' w' hS' hB2 hr h'
    cases st with
    | true =>
      simp only[if_true,Bool.and_eq_true]at hB1
      by_cases hw:Region.wanted o (yielded ops a.tmps)=true
      · simp only[hw,if_true]at h
        obtain ⟨v,hv,hk⟩:=h
        exact wpAnyH_take ho hs hB1.1 hB1.2 (fun c a w=>hQ c a o.dst v w) (.inl ⟨hw,hv⟩) hS (ih _ _ hS hk)
      · simp only[hw]at h
        exact wpAnyH_take ho hs hB1.1 hB1.2 (fun c a w=>hQ c a o.dst undef w) (.inr ⟨by simpa using hw,rfl⟩) hS (ih _ _ hS h)
    | false =>
      simp only[Bool.false_eq_true,if_false,decide_eq_true_eq]at hB1 h
      refine wpAnyH_all (rs:=[i]) hB1 (by simp) fun j hj=>?_
      obtain rfl:j=i:=by simpa using hj
      unfold wpOp
      simp only[ho]
      by_cases hw:Region.wanted o (yielded ops a.tmps)=true
      · simp only[hw,if_true]at h ⊢
        exact .inl (Oper.wp_mono (fun a' w' ⟨h1,h2⟩=>⟨h1,ih a' w' h1 h2⟩) h)
      · simp only[hw]at h ⊢
        exact ⟨hS,ih _ _ hS h⟩
structure wpO (P:Program) (ops:Array Oper) (S:World→Prop) (Q:Exit→Act→World→Prop) (l:List (Oper×Bool)) (a:Act) (w:World):Prop where
  mk::(out:wpO0 P ops S Q l a w)
theorem wp_region_order {id:Nat} {a:Act} {w:World} {l:List Oper} (S:World→Prop) (order:List (Nat×Bool)) (hm:P.follows .mixedOrders=true)
    (hB:(Region.noSelect l.toArray&&ordB l.toArray order (Array.replicate l.length false)&&decide (order.length=l.length)&&order.all (fun p=>decide (p.1<l.length)))=true)
    (hQ : ∀ c a d v w,Q (.panic c) (Act.put a d v) w→Q (.panic c) a w) (hS:S w.drew)
    (h:wpO P l.toArray S Q (pick l order) a w.drew):(Code.region id l.toArray true).wp P Q a w:=by
  simp only[Bool.and_eq_true,decide_eq_true_eq]at hB
  obtain ⟨⟨⟨h1,h2⟩,h3⟩,h4⟩:=hB
  have:=wpAnyH_of_order (P:=P) (S:=S) (Q:=Q) h1 hQ order _ a w.drew hS h2 (fun p hp=>by
    have:=List.all_eq_true.1 h4 p hp
    simp only[decide_eq_true_eq]at this
    simp[this]) (by simpa using h.out)
  refine wp_region_held (S:=S) hm ?_
  have e:l.toArray.size=order.length:=by rw[h3];simp
  have e2:l.toArray.size=l.length:=by simp
  rw[←e2,e]at this
  rw[e]
  exact this
theorem wpO_nil {a:Act} {w:World} (h:Q .normal a w):wpO P ops S Q [] a w:=⟨h⟩
theorem wpO_take {o:Oper} {r:List (Oper×Bool)} {a:Act} {w:World} (v:Value) (hw:Region.wanted o (yielded ops a.tmps)=true)
    (hv : ∀ w',S w'→(execOp a.eval o).run P w'=.ok (.value v) w') (h:wpO P ops S Q r (a.put o.dst v) w):wpO P ops S Q ((o,true)::r) a w:=
  ⟨by simp only[wpO0,hw,if_true];exact ⟨v,hv,h.out⟩⟩
theorem wpO_step {o:Oper} {r:List (Oper×Bool)} {a:Act} {w:World} (hw:Region.wanted o (yielded ops a.tmps)=true)
    (h : ∃ v,(∀ w',S w'→(execOp a.eval o).run P w'=.ok (.value v) w')∧wpO P ops S Q r (a.put o.dst v) w):wpO P ops S Q ((o,true)::r) a w:=by
  obtain ⟨v,h1,h2⟩:=h
  exact wpO_take v hw h1 h2
theorem wpO_skip {o:Oper} {st:Bool} {r:List (Oper×Bool)} {a:Act} {w:World} (hw:Region.wanted o (yielded ops a.tmps)=false)
    (h:wpO P ops S Q r (a.put o.dst undef) w):wpO P ops S Q ((o,st)::r) a w:=
  ⟨by simp only[wpO0,hw];exact h.out⟩
theorem wpO_run {o:Oper} {r:List (Oper×Bool)} {a:Act} {w:World} (hw:Region.wanted o (yielded ops a.tmps)=true)
    (h : ∀ K:Act→World→Prop,(∀ a' w',S w'→wpO P ops S Q r a' w'→K a' w')→o.wp P a w K Q):wpO P ops S Q ((o,false)::r) a w:=
  ⟨by simp only[wpO0,hw,if_true,Bool.false_eq_true,if_false];exact h _ (fun a' w' h1 h2=>⟨h1,h2.out⟩)⟩
theorem wp_region_grown {id:Nat} {a:Act} {w:World} {l:List Oper} (row:Option Nat) (order:List (Nat×Bool)) (hm:P.follows .mixedOrders=true)
    (hB:(Region.noSelect l.toArray&&ordB l.toArray order (Array.replicate l.length false)&&decide (order.length=l.length)&&order.all (fun p=>decide (p.1<l.length)))=true)
    (hQ : ∀ c a d v w,Q (.panic c) (Act.put a d v) w→Q (.panic c) a w)
    (h:w.grownBy w.drew row→wpO P l.toArray (fun w'=>w.grownBy w' row) Q (pick l order) a w.drew):(Code.region id l.toArray true).wp P Q a w:=
  have h0:w.grownBy w.drew row:=⟨rfl,rfl,rfl,Nat.le_refl _,fun _ _ _=>rfl⟩
  wp_region_order _ order hm hB hQ h0 (h h0)
def Ret (w:World) (v:Value) (e:Ending) (w':World):Prop:=e=.returned v∧Below w.heap.size w w'
def Ptr (w:World) (x:Nat) (e:Ending) (w':World):Prop:=
  ∃ b,e=.returned (.pointer (some ⟨b,0,none⟩))∧w'.rangeAt b 0 (am 32 x)∧Below w.heap.size w w'∧w.heap.size≤b∧b<w'.heap.size
def PtrOk (w:World) (x:Nat) (ok:Bool) (e:Ending) (w':World):Prop:=
  ∃ b,e=.returned (.tuple #[.pointer (some ⟨b,0,none⟩),.bool ok])∧w'.rangeAt b 0 (am 32 x)∧Below w.heap.size w w'∧w.heap.size≤b∧b<w'.heap.size
def PtrVal (w:World) (x:Nat) (v:Value) (e:Ending) (w':World):Prop:=
  ∃ b,e=.returned (.tuple #[.pointer (some ⟨b,0,none⟩),v])∧w'.rangeAt b 0 (am 32 x)∧Below w.heap.size w w'∧w.heap.size≤b∧b<w'.heap.size
def SlOf (w:World) (t:TypeId) (n x:Nat) (e:Ending) (w':World):Prop:=
  ∃ g,e=.returned (.slice (some ⟨g,0,none⟩) n n)∧w'.heap[g]?=some (.cells (am n x).toArray t (0,0))∧Below w.heap.size w w'∧w.heap.size≤g
def MidB (w:World) (g:Nat) (t:TypeId) (p s:List Value) (n x:Nat) (v:Value) (e:Ending) (w':World):Prop:=
  e=.returned v∧w'.heap[g]?=some (.cells (p++(am n x++s)).toArray t (0,0))∧w.grownBy w' (some g)
theorem range_in {w w':World} {b o:Nat} {l:List Value} (h:w.rangeAt b o l) (hb:Below w.heap.size w w'):w'.rangeAt b o l:=fun j u hj=>by
  have:=h j u hj
  exact (hb.cell (block_lt_of_cell this)).trans this
theorem cell_in {w w':World} {p:Addr} {v:Value} (h:w.cell? p=some v) (hb:Below w.heap.size w w'):w'.cell? p=some v:=
  (hb.cell (block_lt_of_cell h)).trans h
theorem cell_by {w w':World} {p:Addr} {v:Value} {row:Option Nat} (h:w.cell? p=some v) (hb:w.grownBy w' row) (hne:row≠some p.block):w'.cell? p=some v:=
  hb.cell h (fun e=>hne e.symm)
theorem range_by {w w':World} {b o:Nat} {l:List Value} {row:Option Nat} (h:w.rangeAt b o l) (hb:w.grownBy w' row) (hne:row≠some b):w'.rangeAt b o l:=fun j u hj=>cell_by (h j u hj) hb hne
theorem grown_then {w0 w w':World} {row:Option Nat} (h:w0.grownBy w row) (hb:Below w.heap.size w w'):w0.grownBy w' row:=
  ⟨hb.os.trans h.os,hb.tape.trans h.tape,hb.output.trans h.output,Nat.le_trans h.size hb.size,fun k hk hne=>(hb.block k (Nat.lt_of_lt_of_le hk h.size)).trans (h.block k hk hne)⟩
theorem grown_below {w w':World} (h:w.grownBy w' none):Below w.heap.size w w':=⟨h.os,h.tape,h.output,h.size,fun k hk=>h.block k hk (by simp)⟩
theorem below_then {B:Nat} {w w1 w2:World} (h:Below B w w1) (hB:B≤w1.heap.size) (k:Below w1.heap.size w1 w2):Below B w w2:=
  h.trans (k.mono hB)
theorem grown_setRow {w0 w:World} {g:Nat} {cs:Array Value} (h:w0.grownBy w (some g)):w0.grownBy (w.setRow g cs) (some g):=
  ⟨h.os,h.tape,h.output,by simpa using h.size,fun k hk hne=>(setRow_other w g k cs (fun e=>hne (by rw[e]))).trans (h.block k hk hne)⟩
theorem block_by {w w':World} {b:Nat} {o:Obj} {row:Option Nat} (h:w.heap[b]?=some o) (hb:w.grownBy w' row) (hne:row≠some b):w'.heap[b]?=some o:=
  (hb.block b (Array.getElem?_eq_some_iff.1 h).1 (fun e=>hne e.symm)).trans h
theorem wpO_load {w0:World} {row:Option Nat} {o:Oper} {r:List (Oper×Bool)} {a:Act} {w:World} (b off:Nat) (l:List Value) (hc:w0.rangeAt b off l) (hne:row≠some b) (hw:Region.wanted o (yielded ops a.tmps)=true) (ty:TypeId) (x:Operand) (ho:o.op=.load ty x)
    (hx:a.eval x=.pointer (some ⟨b,off,none⟩)) (d:TypeDesc) (hu:P.underlying ty=some d) (hd:d.isRow=true) (hi:(P.info? ty).map (·.size)=some l.length)
    (h:wpO P ops (fun w'=>w0.grownBy w' row) Q r (a.put o.dst (.agg l.toArray)) w):wpO P ops (fun w'=>w0.grownBy w' row) Q ((o,true)::r) a w:=
  wpO_take _ hw (fun w' hb=>by
    unfold execOp
    simp only[ho,hx,Instr.loadAt,Instr.sureAddr,Sem.run_bind,Sem.run_pure,Result.andThen_ok,run_loadVar_mid w' b off ty l d (range_by hc hb hne) hu hd hi]) h
theorem wpO_cell {w0:World} {row:Option Nat} {o:Oper} {r:List (Oper×Bool)} {a:Act} {w:World} (p:Addr) (v:Value) (hc:w0.cell? p=some v) (hne:row≠some p.block) (hw:Region.wanted o (yielded ops a.tmps)=true) (ty:TypeId) (x:Operand) (ho:o.op=.load ty x)
    (hx:a.eval x=.pointer (some p)) (d:TypeDesc) (hu:P.underlying ty=some d) (hd:d.isRow=false)
    (h:wpO P ops (fun w'=>w0.grownBy w' row) Q r (a.put o.dst v) w):wpO P ops (fun w'=>w0.grownBy w' row) Q ((o,true)::r) a w:=
  wpO_take _ hw (fun w' hb=>by
    have hc':=cell_by hc hb hne
    have hagg:(isAgg ty).run P w'=.ok false w':=by
      unfold isAgg
      rw[Sem.run_bind,run_underlying hu w']
      cases d <;> simp_all
    unfold execOp
    simp[ho,hx,Instr.loadAt,Instr.sureAddr,Sem.run_bind,loadVar,hagg,run_load,hc']) h
theorem wpO_call {S:World→Prop} {o:Oper} {r:List (Oper×Bool)} {a:Act} {w:World} {f:FuncId} {args:List Operand} {ts:Array TypeId} {R:Ending→World→Prop} {vs:List Value} (hw:Region.wanted o (yielded ops a.tmps)=true)
    (hf : ∀ xs w,(callFunc f xs).run P w=.ok (.enter f xs) w) (hc:Calls P f vs.toArray w R) (ho:o.op=.call ⟨.value (.func f),args.toArray,ts⟩) (hvs:args.map a.eval=vs)
    (h : ∀ e w',R e w' → ∃ v,e=.returned v∧S w'∧wpO P ops S Q r (a.put o.dst v) w'):wpO P ops S Q ((o,false)::r) a w:=
  wpO_run hw fun K hK=>by
    unfold Oper.wp execOp
    have e:(resolve a.eval ⟨.value (.func f),args.toArray,ts⟩ o.type).run P w=.ok { target:=.fn (.func f) #[],args:=vs.toArray } w:=by
      simp[resolve,Act.eval,Deferred.ofValue]
      rw[←hvs]
    simp only[ho,Sem.run_bind,e,Result.andThen_ok,invoke,Array.append_empty,hf]
    refine hc.mono fun e w' hR=>?_
    obtain ⟨v,rfl,hS,hk⟩:=h e w' hR
    exact hK _ _ hS hk
theorem wpO_ret {w0:World} {row:Option Nat} {o:Oper} {r:List (Oper×Bool)} {a:Act} {w:World} {f:FuncId} {args:List Operand} {ts:Array TypeId} {vs:List Value} {v:Value} (hw:Region.wanted o (yielded ops a.tmps)=true)
    (hf : ∀ xs w,(callFunc f xs).run P w=.ok (.enter f xs) w) (hc:Calls P f vs.toArray w (Ret w v)) (ho:o.op=.call ⟨.value (.func f),args.toArray,ts⟩) (hvs:args.map a.eval=vs) (hS:w0.grownBy w row)
    (h : ∀ w',Below w.heap.size w w'→w0.grownBy w' row→wpO P ops (fun w'=>w0.grownBy w' row) Q r (a.put o.dst v) w'):wpO P ops (fun w'=>w0.grownBy w' row) Q ((o,false)::r) a w:=
  wpO_call hw hf hc ho hvs fun _ w' ⟨he,hb⟩=>⟨v,he,grown_then hS hb,h w' hb (grown_then hS hb)⟩
theorem wpO_store {S:World→Prop} {o:Oper} {r:List (Oper×Bool)} {a:Act} {w:World} (hw:Region.wanted o (yielded ops a.tmps)=true) (ty:TypeId) (x y:Operand) (ho:o.op=.store ty x y)
    (g:Nat) (cells:Array Value) (hx:a.eval x=.pointer (some ⟨g,0,none⟩)) (hy:a.eval y=.agg cells)
    (t:TypeId) (old:Array Value) (hg:w.heap[g]?=some (.cells old t (0,0))) (hi:(P.info? ty).map (·.size)=some cells.size)
    (hold:old.size=cells.size) (h1:cells.all (·.oneCell')=true) (hS:S (w.setRow g cells))
    (h:wpO P ops S Q r (a.put o.dst undef) (w.setRow g cells)):wpO P ops S Q ((o,false)::r) a w:=
  wpO_run hw fun _ hK=>wp_store_row ty x y ho g cells hx hy t old hg hi hold h1 (hK _ _ hS h)
theorem wpL_run {rest:List Oper} {o:Oper} {a:Act} {w:World} (hw:Region.wanted o (yielded ops a.tmps)=true)
    (h : ∀ K:Act→World→Prop,(∀ a w,wpList P ops Q rest a w→K a w)→o.wp P a w K Q):wpList P ops Q (o::rest) a w:=
  wpList_step fun K hK=>by rw[if_pos hw];exact h K hK
theorem wpL_skip {rest:List Oper} {o:Oper} {a:Act} {w:World} (hw:Region.wanted o (yielded ops a.tmps)=false)
    (h:wpList P ops Q rest (a.put o.dst undef) w):wpList P ops Q (o::rest) a w:=
  wpList_step fun K hK=>by rw[if_neg (by rw[hw];simp)];exact hK _ _ h
theorem wpL_val {rest:List Oper} {o:Oper} {a:Act} {w:World} (v:Value) (w':World) (hw:Region.wanted o (yielded ops a.tmps)=true) (hv:(execOp a.eval o).run P w=.ok (.value v) w')
    (h:wpList P ops Q rest (a.put o.dst v) w'):wpList P ops Q (o::rest) a w:=
  wpL_run hw fun _ hK=>by unfold Oper.wp;rw[hv];exact hK _ _ h
theorem wpL_step {rest:List Oper} {o:Oper} {a:Act} {w:World} (hw:Region.wanted o (yielded ops a.tmps)=true)
    (h : ∃ v w',(execOp a.eval o).run P w=.ok (.value v) w'∧wpList P ops Q rest (a.put o.dst v) w'):wpList P ops Q (o::rest) a w:=by
  obtain ⟨v,w',h1,h2⟩:=h
  exact wpL_val v w' hw h1 h2
theorem wpL_load {rest:List Oper} {o:Oper} {a:Act} {w:World} (b off:Nat) (l:List Value) (hc:w.rangeAt b off l) (hw:Region.wanted o (yielded ops a.tmps)=true) (ty:TypeId) (x:Operand) (ho:o.op=.load ty x)
    (hx:a.eval x=.pointer (some ⟨b,off,none⟩)) (d:TypeDesc) (hu:P.underlying ty=some d) (hd:d.isRow=true) (hi:(P.info? ty).map (·.size)=some l.length)
    (h:wpList P ops Q rest (a.put o.dst (.agg l.toArray)) w):wpList P ops Q (o::rest) a w:=
  wpL_run hw fun _ hK=>wp_load_mid ty x ho b off hx l d hc hu hd hi (hK _ _ h)
theorem wpL_cell {rest:List Oper} {o:Oper} {a:Act} {w:World} (p:Addr) (v:Value) (hc:w.cell? p=some v) (hw:Region.wanted o (yielded ops a.tmps)=true) (ty:TypeId) (x:Operand) (ho:o.op=.load ty x)
    (hx:a.eval x=.pointer (some p)) (d:TypeDesc) (hu:P.underlying ty=some d) (hd:d.isRow=false)
    (h:wpList P ops Q rest (a.put o.dst v) w):wpList P ops Q (o::rest) a w:=
  wpL_val v w hw (by
    have hagg:(isAgg ty).run P w=.ok false w:=by
      unfold isAgg
      rw[Sem.run_bind,run_underlying hu w]
      cases d <;> simp_all
    unfold execOp
    simp[ho,hx,Instr.loadAt,Instr.sureAddr,Sem.run_bind,loadVar,hagg,run_load,hc]) h
theorem wpL_call {rest:List Oper} {o:Oper} {a:Act} {w:World} {f:FuncId} {args:List Operand} {ts:Array TypeId} {R:Ending→World→Prop} {vs:List Value} (hw:Region.wanted o (yielded ops a.tmps)=true)
    (hf : ∀ xs w,(callFunc f xs).run P w=.ok (.enter f xs) w) (hc:Calls P f vs.toArray w R) (ho:o.op=.call ⟨.value (.func f),args.toArray,ts⟩) (hvs:args.map a.eval=vs)
    (h : ∀ e w',R e w' → ∃ v,e=.returned v∧wpList P ops Q rest (a.put o.dst v) w'):wpList P ops Q (o::rest) a w:=
  wpL_run hw fun K hK=>by
    unfold Oper.wp execOp
    have e:(resolve a.eval ⟨.value (.func f),args.toArray,ts⟩ o.type).run P w=.ok { target:=.fn (.func f) #[],args:=vs.toArray } w:=by
      simp[resolve,Act.eval,Deferred.ofValue]
      rw[←hvs]
    simp only[ho,Sem.run_bind,e,Result.andThen_ok,invoke,Array.append_empty,hf]
    refine hc.mono fun e w' hR=>?_
    obtain ⟨v,rfl,hk⟩:=h e w' hR
    exact hK _ _ hk
theorem wpL_ret {rest:List Oper} {o:Oper} {a:Act} {w:World} {f:FuncId} {args:List Operand} {ts:Array TypeId} {vs:List Value} {v:Value} (hw:Region.wanted o (yielded ops a.tmps)=true)
    (hf : ∀ xs w,(callFunc f xs).run P w=.ok (.enter f xs) w) (hc:Calls P f vs.toArray w (Ret w v)) (ho:o.op=.call ⟨.value (.func f),args.toArray,ts⟩) (hvs:args.map a.eval=vs)
    (h : ∀ w',Below w.heap.size w w'→wpList P ops Q rest (a.put o.dst v) w'):wpList P ops Q (o::rest) a w:=
  wpL_call hw hf hc ho hvs fun _ w' ⟨he,hb⟩=>⟨v,he,h w' hb⟩
theorem wpL_store {rest:List Oper} {o:Oper} {a:Act} {w:World} (hw:Region.wanted o (yielded ops a.tmps)=true) (ty:TypeId) (x y:Operand) (ho:o.op=.store ty x y)
    (g:Nat) (cells:Array Value) (hx:a.eval x=.pointer (some ⟨g,0,none⟩)) (hy:a.eval y=.agg cells)
    (t:TypeId) (old:Array Value) (hg:w.heap[g]?=some (.cells old t (0,0))) (hi:(P.info? ty).map (·.size)=some cells.size)
    (hold:old.size=cells.size) (h1:cells.all (·.oneCell')=true)
    (h:wpList P ops Q rest (a.put o.dst undef) (w.setRow g cells)):wpList P ops Q (o::rest) a w:=
  wpL_run hw fun _ hK=>wp_store_row ty x y ho g cells hx hy t old hg hi hold h1 (hK _ _ h)
theorem wpL_alloc {rest:List Oper} {o:Oper} {a:Act} {w:World} (g:Nat) (hg:w.heap.size=g) (hw:Region.wanted o (yielded ops a.tmps)=true) (t:TypeId) (ho:o.op=.alloc t) (cs:Array Value)
    (hal : ∀ w,(Instr.alloc t true (.tuple #[])).run P w=.ok (.pointer (some ⟨w.heap.size,0,none⟩)) (w.alloc (.cells cs t)))
    (h:wpList P ops Q rest (a.put o.dst (.pointer (some ⟨g,0,none⟩))) (w.alloc (.cells cs t))):wpList P ops Q (o::rest) a w:=
  wpL_val _ _ hw (by
    unfold execOp
    simp only[ho,Sem.run_bind,hal,Result.andThen_ok,hg]
    rfl) h
theorem wpL_box {rest:List Oper} {o:Oper} {a:Act} {w:World} (g:Nat) (hg:w.heap.size=g) (cs:Array Value) (hw:Region.wanted o (yielded ops a.tmps)=true) (t:TypeId) (x:Operand) (ho:o.op=.box t x) (hx:a.eval x=.agg cs)
    (hbx : ∀ w,(Instr.box t (.agg cs)).run P w=.ok (.pointer (some ⟨w.heap.size,0,none⟩)) (w.alloc (.cells cs t)))
    (h:wpList P ops Q rest (a.put o.dst (.pointer (some ⟨g,0,none⟩))) (w.alloc (.cells cs t))):wpList P ops Q (o::rest) a w:=
  wpL_val _ _ hw (by
    unfold execOp
    simp only[ho,hx,Sem.run_bind,hbx,Result.andThen_ok,hg]
    rfl) h
theorem wpL_build {rest:List Oper} {o:Oper} {a:Act} {w:World} (hw:Region.wanted o (yielded ops a.tmps)=true) (t:TypeId) (parts:List (Nat×Operand)) (ho:o.op=.build t parts.toArray) (vs:List (Nat×Value)) (hvs:(parts.map fun p=>(p.1,a.eval p.2))=vs)
    (cs:Array Value) (hb:P.built t vs=some cs) (h:wpList P ops Q rest (a.put o.dst (.agg cs)) w):wpList P ops Q (o::rest) a w:=
  wpL_val _ _ hw (by
    have hb':P.built t ((parts.toArray.map fun (i,x)=>(i,a.eval x)).toList)=some cs:=by simp only[Array.toList_map];rw[←hb,←hvs]
    unfold execOp
    simp only[ho,Sem.run_bind,run_build w t _ cs hb',Result.andThen_ok,Sem.run_pure]) h
theorem wpL_nil {a:Act} {w:World} (h:Q .normal a w):wpList P ops Q [] a w:=h
theorem wpList_alloc {rest:List Oper} {o:Oper} {a:Act} {w:World} (hgd:o.guard=none) (t:TypeId) (ho:o.op=.alloc t) (cs:Array Value)
    (hal : ∀ w,(Instr.alloc t true (.tuple #[])).run P w=.ok (.pointer (some ⟨w.heap.size,0,none⟩)) (w.alloc (.cells cs t)))
    (h:wpList P ops Q rest (a.put o.dst (.pointer (some ⟨w.heap.size,0,none⟩))) (w.alloc (.cells cs t))):wpList P ops Q (o::rest) a w:=
  wpList_plain hgd fun _ hK=>by
    unfold Oper.wp execOp
    simp only[ho,Sem.run_bind,hal,Result.andThen_ok]
    exact hK _ _ h
theorem size_alloc (w:World) (o:Obj):(w.alloc o).heap.size=w.heap.size+1:=by simp
theorem wpO_build {o:Oper} {r:List (Oper×Bool)} {a:Act} {w:World} (hw:Region.wanted o (yielded ops a.tmps)=true) (t:TypeId) (parts:List (Nat×Operand)) (ho:o.op=.build t parts.toArray) (vs:List (Nat×Value)) (hvs:(parts.map fun p=>(p.1,a.eval p.2))=vs)
    (cs:Array Value) (hb:P.built t vs=some cs) (h:wpO P ops S Q r (a.put o.dst (.agg cs)) w):wpO P ops S Q ((o,true)::r) a w:=
  wpO_take _ hw (fun w' _=>by
    have hb':P.built t ((parts.toArray.map fun (i,x)=>(i,a.eval x)).toList)=some cs:=by simp only[Array.toList_map];rw[←hb,←hvs]
    unfold execOp
    simp only[ho,Sem.run_bind,run_build w' t _ cs hb',Result.andThen_ok,Sem.run_pure]) h
theorem load_block (w:World) (g:Nat) (t ty:TypeId) (cs:Array Value) (fr:Nat×Nat) (d:TypeDesc) (hg:w.heap[g]?=some (.cells cs t fr))
    (hu:P.underlying ty=some d) (hd:d.isRow=true) (hi:(P.info? ty).map (·.size)=some cs.size):(loadVar ty ⟨g,0,none⟩).run P w=.ok (.agg cs) w:=
  run_loadVar_row w g t ty cs fr d hg hu (by cases d <;> simp_all) hi
theorem ret_cell {fn:Func} {R:Ending→World→Prop} {a:Act} {w:World} {p:Tmp} {ty:TypeId} (hr:fn.results = #[.cell p ty]) (g:Nat) (t:TypeId) (cs:Array Value) (fr:Nat×Nat) (d:TypeDesc)
    (hp:a.tmps.getD p undef=.pointer (some ⟨g,0,none⟩)) (hg:w.heap[g]?=some (.cells cs t fr)) (hu:P.underlying ty=some d) (hd:d.isRow=true) (hi:(P.info? ty).map (·.size)=some cs.size)
    (hdf:a.defers=[]) (hR:R (.returned (.agg cs)) w):bodyPost P fn R .ret a w:=
  bodyPost_ret (v:=.agg cs) (by
    have hp':a.tmps[p]?.getD undef=.pointer (some ⟨g,0,none⟩):=by simpa using hp
    simp[results,hr,hp',asAddr,load_block w g t ty cs fr d hg hu hd hi]) hdf hR
theorem ret_cell_tmp {fn:Func} {R:Ending→World→Prop} {a:Act} {w:World} {p q:Tmp} {ty:TypeId} (hr:fn.results = #[.cell p ty,.tmp q]) (g:Nat) (t:TypeId) (cs:Array Value) (fr:Nat×Nat) (d:TypeDesc) (v:Value)
    (hp:a.tmps.getD p undef=.pointer (some ⟨g,0,none⟩)) (hq:a.tmps.getD q undef=v) (hg:w.heap[g]?=some (.cells cs t fr)) (hu:P.underlying ty=some d) (hd:d.isRow=true) (hi:(P.info? ty).map (·.size)=some cs.size)
    (hdf:a.defers=[]) (hR:R (.returned (.tuple #[.agg cs,v])) w):bodyPost P fn R .ret a w:=
  bodyPost_ret (v:=.tuple #[.agg cs,v]) (by
    have hp':a.tmps[p]?.getD undef=.pointer (some ⟨g,0,none⟩):=by simpa using hp
    have hq':a.tmps[q]?.getD undef=v:=by simpa using hq
    simp[results,hr,hp',hq',asAddr,load_block w g t ty cs fr d hg hu hd hi]) hdf hR
theorem ret_cell2_tmp {fn:Func} {R:Ending→World→Prop} {a:Act} {w:World} {p p2 q:Tmp} {ty ty2:TypeId} (hr:fn.results = #[.cell p ty,.cell p2 ty2,.tmp q]) (g g2:Nat) (t t2:TypeId) (cs cs2:Array Value) (fr fr2:Nat×Nat) (d d2:TypeDesc) (v:Value)
    (hp:a.tmps.getD p undef=.pointer (some ⟨g,0,none⟩)) (hp2:a.tmps.getD p2 undef=.pointer (some ⟨g2,0,none⟩)) (hq:a.tmps.getD q undef=v) (hg:w.heap[g]?=some (.cells cs t fr)) (hu:P.underlying ty=some d) (hd:d.isRow=true) (hi:(P.info? ty).map (·.size)=some cs.size)
    (hg2:w.heap[g2]?=some (.cells cs2 t2 fr2)) (hu2:P.underlying ty2=some d2) (hd2:d2.isRow=true) (hi2:(P.info? ty2).map (·.size)=some cs2.size)
    (hdf:a.defers=[]) (hR:R (.returned (.tuple #[.agg cs,.agg cs2,v])) w):bodyPost P fn R .ret a w:=
  bodyPost_ret (v:=.tuple #[.agg cs,.agg cs2,v]) (by
    have hp':a.tmps[p]?.getD undef=.pointer (some ⟨g,0,none⟩):=by simpa using hp
    have hp2':a.tmps[p2]?.getD undef=.pointer (some ⟨g2,0,none⟩):=by simpa using hp2
    have hq':a.tmps[q]?.getD undef=v:=by simpa using hq
    simp[results,hr,hp',hp2',hq',asAddr,load_block w g t ty cs fr d hg hu hd hi,load_block w g2 t2 ty2 cs2 fr2 d2 hg2 hu2 hd2 hi2]) hdf hR
theorem below_setRow {B g:Nat} {w w':World} {cs:Array Value} (h:Below B w w') (hg:B≤g):Below B w (w'.setRow g cs):=
  ⟨h.os,h.tape,h.output,by simpa using h.size,fun k hk=>(setRow_other w' g k cs (by omega)).trans (h.block k hk)⟩
theorem below_drew {B:Nat} {w w':World} (h:Below B w w'):Below B w w'.drew:=⟨h.os,h.tape,h.output,h.size,h.block⟩
theorem below_alloc {B:Nat} {w w':World} (h:Below B w w') (hB:B≤w.heap.size) (o:Obj):Below B w (w'.alloc o):=h.alloc (Nat.le_trans hB h.size) o
theorem below_next {B:Nat} {w w1 w2:World} (h:Below B w w1) (hB:B≤w.heap.size) (k:Below w1.heap.size w1 w2):Below B w w2:=h.trans (k.mono (Nat.le_trans hB h.size))
theorem setRow_at {w:World} {g:Nat} {old cs:Array Value} {t:TypeId} {fr:Nat×Nat} (hg:w.heap[g]?=some (.cells old t fr)):(w.setRow g cs).heap[g]?=some (.cells cs t fr):=setRow_heap w g old cs t fr hg
theorem al_range {w:World} {b o:Nat} {l:List Value} (h:w.rangeAt b o l) (ob:Obj):(w.alloc ob).rangeAt b o l:=range_in h (below_alloc (Below.refl _ _) (Nat.le_refl _) ob)
theorem al_new (w:World) (l:List Value) (t:TypeId):(w.alloc (.cells l.toArray t)).rangeAt w.heap.size 0 l:=fun j u hj=>by
  rw[Nat.zero_add,cell_of_row _ _ j _ t _ (heap_alloc_new w (.cells l.toArray t))];simpa using hj
theorem al_new_at (w:World) (l:List Value) (t:TypeId) (g:Nat) (hg:g=w.heap.size):(w.alloc (.cells l.toArray t)).rangeAt g 0 l:=by subst hg;exact al_new w l t
theorem al_block (w:World) (o:Obj) (g:Nat) (hg:g=w.heap.size):(w.alloc o).heap[g]?=some o:=by subst hg;exact heap_alloc_new w o
theorem al_keep {w:World} {g:Nat} {o:Obj} (h:w.heap[g]?=some o) (o':Obj):(w.alloc o').heap[g]?=some o:=by
  exact (Below.heap_alloc w o' g (Array.getElem?_eq_some_iff.1 h).1).trans h
theorem keep_block {w w':World} {g:Nat} {o:Obj} (h:w.heap[g]?=some o) (hb:Below w.heap.size w w'):w'.heap[g]?=some o:=
  (hb.block g (Array.getElem?_eq_some_iff.1 h).1).trans h
theorem dr_block {w:World} {g:Nat} {o:Obj} (h:w.heap[g]?=some o):w.drew.heap[g]?=some o:=h
theorem dr_range {w:World} {b o:Nat} {l:List Value} (h:w.rangeAt b o l):w.drew.rangeAt b o l:=h
theorem setCell_row {w:World} {g k:Nat} {l:List Value} {t:TypeId} (hg:w.heap[g]?=some (.cells l.toArray t (0,0))) (v:Value):w.setCell ⟨g,k,none⟩ v=w.setRow g (l.set k v).toArray:=by
  rw[setCell_eq_setRow w g k l.toArray t (0,0) v hg];simp
theorem run_store_cell {w:World} {g k:Nat} {l:List Value} {t ty:TypeId} (hg:w.heap[g]?=some (.cells l.toArray t (0,0))) (hk:k<l.length) (v:Value) (hv:v.cells = #[v]) (h1:v.oneCell'=true) (hi:(P.info? ty).map (·.size)=some 1) :
    (Instr.storeAt ty (.pointer (some ⟨g,k,none⟩)) v).run P w=.ok () (w.setRow g (l.set k v).toArray):=by
  have hc:w.cell? ⟨g,k,none⟩=some l[k]:=by rw[cell_of_row w g k _ t _ hg];simp[hk]
  have hf:w.frozen? ⟨g,k,none⟩=false:=frozen_of_row w g k _ t hg
  rw[←setCell_row hg v]
  cases hq:P.info? ty with
  | none=>simp[hq]at hi
  | some i =>
    have hs:i.size=1:=by simpa [hq] using hi
    have := run_storeCells_cells (P := P) g k [v] 0 w (fun j hj => by obtain rfl : j = 0 := by simpa using hj
                                                                      simp [hc]) (fun j hj => by obtain rfl : j = 0 := by simpa using hj
                                                                                                 simp [hf]) (fun u hu => by obtain rfl : u = v := by simpa using hu
                                                                                                                            exact h1)
    simp only[Nat.add_zero]at this
    simp[Instr.storeAt,Instr.sureAddr,Sem.run_bind,storeVar,Go.sizeOf,typeInfo,hq,hs,hv,this,World.setCells]
theorem wpO_put {S:World→Prop} {o:Oper} {r:List (Oper×Bool)} {a:Act} {w:World} {g k:Nat} {l:List Value} {t:TypeId} (v:Value) (hg:w.heap[g]?=some (.cells l.toArray t (0,0))) (hk:k<l.length) (hw:Region.wanted o (yielded ops a.tmps)=true) (ty:TypeId) (x y:Operand) (ho:o.op=.store ty x y)
    (hx:a.eval x=.pointer (some ⟨g,k,none⟩)) (hy:a.eval y=v) (hv:v.cells = #[v]) (h1:v.oneCell'=true) (hi:(P.info? ty).map (·.size)=some 1) (hS:S (w.setRow g (l.set k v).toArray))
    (h:wpO P ops S Q r (a.put o.dst undef) (w.setRow g (l.set k v).toArray)):wpO P ops S Q ((o,false)::r) a w:=
  wpO_run hw fun K hK=>by
    unfold Oper.wp execOp
    simp only[ho,hx,hy,Sem.run_bind,run_store_cell hg hk v hv h1 hi,Result.andThen_ok]
    exact hK _ _ hS h
theorem wpL_put {rest:List Oper} {o:Oper} {a:Act} {w:World} {g k:Nat} {l:List Value} {t:TypeId} (v:Value) (hg:w.heap[g]?=some (.cells l.toArray t (0,0))) (hk:k<l.length) (hw:Region.wanted o (yielded ops a.tmps)=true) (ty:TypeId) (x y:Operand) (ho:o.op=.store ty x y)
    (hx:a.eval x=.pointer (some ⟨g,k,none⟩)) (hy:a.eval y=v) (hv:v.cells = #[v]) (h1:v.oneCell'=true) (hi:(P.info? ty).map (·.size)=some 1)
    (h:wpList P ops Q rest (a.put o.dst undef) (w.setRow g (l.set k v).toArray)):wpList P ops Q (o::rest) a w:=
  wpL_run hw fun K hK=>by
    unfold Oper.wp execOp
    simp only[ho,hx,hy,Sem.run_bind,run_store_cell hg hk v hv h1 hi,Result.andThen_ok]
    exact hK _ _ h
theorem al_wnew (w:World) (n:Bool) (x:Nat) (t:TypeId) (g:Nat) (hg:g=w.heap.size):(w.alloc (.cells (wc n x) t)).rangeAt g 0 (wl n x):=al_new_at w (wl n x) t g hg
theorem al_anew (w:World) (x:Nat) (t:TypeId) (g:Nat) (hg:g=w.heap.size):(w.alloc (.cells (am 32 x).toArray t)).rangeAt g 0 (am 32 x):=al_new_at w (am 32 x) t g hg
theorem wpL_make {rest:List Oper} {o:Oper} {a:Act} {w:World} (g:Nat) (hg:w.heap.size=g) (hw:Region.wanted o (yielded ops a.tmps)=true) (t:TypeId) (l c:Operand) (ho:o.op=.makeSlice t l c) (n:Nat) (hl:a.eval l=.int .i64 n) (hc:a.eval c=.int .i64 n) (cs:Array Value) (E:TypeId)
    (hmk : ∀ w,(Instr.makeSlice t (.int .i64 n) (.int .i64 n)).run P w=.ok (.slice (some ⟨w.heap.size,0,none⟩) n n) (w.alloc (.cells cs E)))
    (h:wpList P ops Q rest (a.put o.dst (.slice (some ⟨g,0,none⟩) n n)) (w.alloc (.cells cs E))):wpList P ops Q (o::rest) a w:=
  wpL_val _ _ hw (by
    unfold execOp
    simp only[ho,hl,hc,Sem.run_bind,hmk,Result.andThen_ok,hg]
    rfl) h
end
section
variable {P:Program} {ops:Array Oper} {Q:Exit→Act→World→Prop} {S:World→Prop}
theorem cell_below {B:Nat} {w w':World} {p:Addr} {v:Value} (h:w.cell? p=some v) (hb:Below B w w') (hp:p.block<B):w'.cell? p=some v:=(hb.cell hp).trans h
theorem range_under {B:Nat} {w w':World} {b o:Nat} {l:List Value} (h:w.rangeAt b o l) (hb:Below B w w') (hp:b<B):w'.rangeAt b o l:=fun j u hj=>cell_below (h j u hj) hb hp
theorem wp_region_below {id:Nat} {a:Act} {w:World} {l:List Oper} (B:Nat) (order:List (Nat×Bool)) (hm:P.follows .mixedOrders=true)
    (hB:(Region.noSelect l.toArray&&ordB l.toArray order (Array.replicate l.length false)&&decide (order.length=l.length)&&order.all (fun p=>decide (p.1<l.length)))=true)
    (hQ : ∀ c a d v w,Q (.panic c) (Act.put a d v) w→Q (.panic c) a w)
    (h:Below B w w.drew→wpO P l.toArray (fun w'=>Below B w w') Q (pick l order) a w.drew):(Code.region id l.toArray true).wp P Q a w:=
  have h0:Below B w w.drew:=⟨rfl,rfl,rfl,Nat.le_refl _,fun _ _=>rfl⟩
  wp_region_order _ order hm hB hQ h0 (h h0)
theorem wpO_loadB {w0:World} {B:Nat} {o:Oper} {r:List (Oper×Bool)} {a:Act} {w:World} (b off:Nat) (l:List Value) (hc:w0.rangeAt b off l) (hlt:b<B) (hw:Region.wanted o (yielded ops a.tmps)=true) (ty:TypeId) (x:Operand) (ho:o.op=.load ty x)
    (hx:a.eval x=.pointer (some ⟨b,off,none⟩)) (d:TypeDesc) (hu:P.underlying ty=some d) (hd:d.isRow=true) (hi:(P.info? ty).map (·.size)=some l.length)
    (h:wpO P ops (fun w'=>Below B w0 w') Q r (a.put o.dst (.agg l.toArray)) w):wpO P ops (fun w'=>Below B w0 w') Q ((o,true)::r) a w:=
  wpO_take _ hw (fun w' hb=>by
    unfold execOp
    simp only[ho,hx,Instr.loadAt,Instr.sureAddr,Sem.run_bind,Sem.run_pure,Result.andThen_ok,run_loadVar_mid w' b off ty l d (range_under hc hb hlt) hu hd hi]) h
theorem wpO_retB {w0:World} {B:Nat} {o:Oper} {r:List (Oper×Bool)} {a:Act} {w:World} {f:FuncId} {args:List Operand} {ts:Array TypeId} {vs:List Value} {v:Value} (hw:Region.wanted o (yielded ops a.tmps)=true)
    (hf : ∀ xs w,(callFunc f xs).run P w=.ok (.enter f xs) w) (hc:Calls P f vs.toArray w (Ret w v)) (ho:o.op=.call ⟨.value (.func f),args.toArray,ts⟩) (hvs:args.map a.eval=vs) (hB:B≤w0.heap.size) (hS:Below B w0 w)
    (h : ∀ w',Below w.heap.size w w'→Below B w0 w'→wpO P ops (fun w'=>Below B w0 w') Q r (a.put o.dst v) w'):wpO P ops (fun w'=>Below B w0 w') Q ((o,false)::r) a w:=
  wpO_call hw hf hc ho hvs fun _ w' ⟨he,hb⟩=>⟨v,he,below_then hS (Nat.le_trans hB hS.size) hb,h w' hb (below_then hS (Nat.le_trans hB hS.size) hb)⟩
theorem wpO_loadS {o:Oper} {r:List (Oper×Bool)} {a:Act} {w:World} (b off:Nat) (l:List Value) (hc : ∀ w',S w'→w'.rangeAt b off l) (hw:Region.wanted o (yielded ops a.tmps)=true) (ty:TypeId) (x:Operand) (ho:o.op=.load ty x)
    (hx:a.eval x=.pointer (some ⟨b,off,none⟩)) (d:TypeDesc) (hu:P.underlying ty=some d) (hd:d.isRow=true) (hi:(P.info? ty).map (·.size)=some l.length)
    (h:wpO P ops S Q r (a.put o.dst (.agg l.toArray)) w):wpO P ops S Q ((o,true)::r) a w:=
  wpO_take _ hw (fun w' hb=>by
    unfold execOp
    simp only[ho,hx,Instr.loadAt,Instr.sureAddr,Sem.run_bind,Sem.run_pure,Result.andThen_ok,run_loadVar_mid w' b off ty l d (hc w' hb) hu hd hi]) h
theorem wpO_loadU {o:Oper} {r:List (Oper×Bool)} {a:Act} {w:World} (b off:Nat) (l:List Value) (hc:w.rangeAt b off l) (hS:S w) (hw:Region.wanted o (yielded ops a.tmps)=true) (ty:TypeId) (x:Operand) (ho:o.op=.load ty x)
    (hx:a.eval x=.pointer (some ⟨b,off,none⟩)) (d:TypeDesc) (hu:P.underlying ty=some d) (hd:d.isRow=true) (hi:(P.info? ty).map (·.size)=some l.length)
    (h:wpO P ops S Q r (a.put o.dst (.agg l.toArray)) w):wpO P ops S Q ((o,false)::r) a w:=
  wpO_run hw fun _ hK=>wp_load_mid ty x ho b off hx l d hc hu hd hi (hK _ _ hS h)
structure WL (P:Program) (ops:Array Oper) (Q:Exit→Act→World→Prop) (l:List Oper) (a:Act) (w:World):Prop where
  mk::(out:wpList P ops Q l a w)
theorem WL_skip {rest:List Oper} {o:Oper} {a:Act} {w:World} (hw:Region.wanted o (yielded ops a.tmps)=false) (h:WL P ops Q rest (a.put o.dst undef) w):WL P ops Q (o::rest) a w:=⟨wpL_skip hw h.out⟩
theorem WL_step {rest:List Oper} {o:Oper} {a:Act} {w:World} (hw:Region.wanted o (yielded ops a.tmps)=true)
    (h : ∃ v w',(execOp a.eval o).run P w=.ok (.value v) w'∧WL P ops Q rest (a.put o.dst v) w'):WL P ops Q (o::rest) a w:=by
  obtain ⟨v,w',h1,h2⟩:=h
  exact ⟨wpL_val v w' hw h1 h2.out⟩
theorem WL_load {rest:List Oper} {o:Oper} {a:Act} {w:World} (b off:Nat) (l:List Value) (hc:w.rangeAt b off l) (hw:Region.wanted o (yielded ops a.tmps)=true) (ty:TypeId) (x:Operand) (ho:o.op=.load ty x)
    (hx:a.eval x=.pointer (some ⟨b,off,none⟩)) (d:TypeDesc) (hu:P.underlying ty=some d) (hd:d.isRow=true) (hi:(P.info? ty).map (·.size)=some l.length)
    (h:WL P ops Q rest (a.put o.dst (.agg l.toArray)) w):WL P ops Q (o::rest) a w:=⟨wpL_load b off l hc hw ty x ho hx d hu hd hi h.out⟩
theorem WL_call {rest:List Oper} {o:Oper} {a:Act} {w:World} {f:FuncId} {args:List Operand} {ts:Array TypeId} {R:Ending→World→Prop} {vs:List Value} (hw:Region.wanted o (yielded ops a.tmps)=true)
    (hf : ∀ xs w,(callFunc f xs).run P w=.ok (.enter f xs) w) (hc:Calls P f vs.toArray w R) (ho:o.op=.call ⟨.value (.func f),args.toArray,ts⟩) (hvs:args.map a.eval=vs)
    (h : ∀ e w',R e w' → ∃ v,e=.returned v∧WL P ops Q rest (a.put o.dst v) w'):WL P ops Q (o::rest) a w:=
  ⟨wpL_call hw hf hc ho hvs fun e w' hR=>by obtain ⟨v,h1,h2⟩:=h e w' hR;exact ⟨v,h1,h2.out⟩⟩
theorem WL_ret {rest:List Oper} {o:Oper} {a:Act} {w:World} {f:FuncId} {args:List Operand} {ts:Array TypeId} {vs:List Value} {v:Value} (hw:Region.wanted o (yielded ops a.tmps)=true)
    (hf : ∀ xs w,(callFunc f xs).run P w=.ok (.enter f xs) w) (hc:Calls P f vs.toArray w (Ret w v)) (ho:o.op=.call ⟨.value (.func f),args.toArray,ts⟩) (hvs:args.map a.eval=vs)
    (h : ∀ w',Below w.heap.size w w'→WL P ops Q rest (a.put o.dst v) w'):WL P ops Q (o::rest) a w:=⟨wpL_ret hw hf hc ho hvs fun w' hb=>(h w' hb).out⟩
theorem WL_nil {a:Act} {w:World} (h:Q .normal a w):WL P ops Q [] a w:=⟨h⟩
theorem wp_region_guard {id:Nat} {a:Act} {w:World} {l:List Oper} (h:WL P l.toArray Q l a w):(Code.region id l.toArray false).wp P Q a w:=wp_region_lit h.out
end
theorem keep_range {w:World} {g g2 o:Nat} {cs:Array Value} {l:List Value} (h:w.rangeAt g o l) (hne:g≠g2):(w.setRow g2 cs).rangeAt g o l:=fun j u hj=>by
  have:=h j u hj
  rw[←this]
  unfold World.cell?
  simp[World.setRow,Array.getElem?_modify,Ne.symm hne]
theorem range_wide {w:World} {g x:Nat} {n:Bool} {t:TypeId} (h:w.heap[g]?=some (.cells (wc n x) t (0,0))):w.rangeAt g 0 (wl n x):=range_block (l:=wl n x) h
theorem wl_false (n:Bool) (x:Nat):((wl n x).set 0 (.bool false)).toArray=wc false x:=rfl
theorem szn_two {u:Nat} (hu:u<bp 32) (h:szn 32 u≤2):u=wd u 0+4294967296*wd u 1∧u<18446744073709551616:=by
  have h1:=szn_lt' hu
  have h2:u<bp 2:=Nat.lt_of_lt_of_le h1 (bp_mono h)
  have h3:=hi_split u 0
  have h4:u/bp 1=wd u 1:=top_word h2
  rw[bp_zero,Nat.div_one,h4]at h3
  exact ⟨h3,by simpa [bp] using h2⟩
theorem gcd_step (u v:Nat):Nat.gcd v (u%v)=Nat.gcd u v:=by rw[Nat.gcd_comm u v,Nat.gcd_rec v u,Nat.gcd_comm]
theorem range_lt {w:World} {b o x:Nat} (h:w.rangeAt b o (am 32 x)):b<w.heap.size:=block_lt_of_cell (h 0 _ (am_get (by omega)))
def dmv (a b:Int):Value:=.tuple #[.agg (wz (if b=0 then 0 else a.tdiv b)),.agg (wz (if b=0 then 0 else a.tmod b)),.bool (decide (b≠0))]
theorem dmv_zero (a:Int):dmv a 0=.tuple #[.agg (wc false 0),.agg (wc false 0),.bool false]:=by unfold dmv;simp;rfl
theorem dmv_ok (a:Int) {b:Int} (h:b≠0):dmv a b=.tuple #[.agg (wz (a.tdiv b)),.agg (wz (a.tmod b)),.bool true]:=by unfold dmv;simp[h]
theorem dm_q (n:Bool) (x:Nat) (m:Bool) (y:Nat):wc (ng (ng n x != ng m y) (x/y)) (x/y)=wz ((zv n x).tdiv (zv m y)):=by
  rw[wc_ng]
  congr 1
  rcases ng_cases n x with ⟨h1,h2,_⟩|⟨h1,h2⟩ <;> rcases ng_cases m y with ⟨h3,h4,_⟩|⟨h3,h4⟩ <;> rw[h1,h2,h3,h4] <;> simp[zv,Int.neg_tdiv,Int.tdiv_neg]
theorem dm_r (n:Bool) (x:Nat) (m:Bool) (y:Nat):wc (ng (ng n x) (x%y)) (x%y)=wz ((zv n x).tmod (zv m y)):=by
  rw[wc_ng]
  congr 1
  rcases ng_cases n x with ⟨h1,h2,_⟩|⟨h1,h2⟩ <;> rcases ng_cases m y with ⟨h3,h4,_⟩|⟨h3,h4⟩ <;> rw[h1,h2,h4] <;> simp[zv,Int.neg_tmod,Int.tmod_neg] <;> exact (Int.tmod_eq_emod_of_nonneg (by omega)).symm
theorem zv_ne (m:Bool) {y:Nat} (h:y≠0):zv m y≠0:=by unfold zv;split <;> omega
theorem szn_one {y:Nat} (hy:y<bp 32) (h:szn 32 y=1):wd y 0=y∧y<4294967296:=by
  have:=szn_lt' hy
  rw[h,bp_one]at this
  exact ⟨wd_small this,this⟩
theorem four_blocks {T T2:TypeId} (w:World) (g:Nat) (hg:g=w.heap.size) (l1 l2 l3 l4:List Value) :
    let w0:=(((w.alloc (.cells l1.toArray T)).alloc (.cells l2.toArray T)).alloc (.cells l3.toArray T2)).alloc (.cells l4.toArray T2)
    w0.rangeAt g 0 l1∧w0.rangeAt (g+1) 0 l2∧w0.heap[g+2]?=some (.cells l3.toArray T2)∧w0.heap[g+3]?=some (.cells l4.toArray T2)∧Below w.heap.size w w0:=by
  refine ⟨al_range (al_range (al_range (al_new_at _ _ _ _ hg) _) _) _,al_range (al_range (al_new_at _ _ _ _ (by simp[hg])) _) _,al_keep (al_block _ _ _ (by simp[hg])) _,al_block _ _ _ (by simp[hg]),?_⟩
  exact below_alloc (below_alloc (below_alloc (below_alloc (Below.refl _ w) (Nat.le_refl _) _) (Nat.le_refl _) _) (Nat.le_refl _) _) (Nat.le_refl _) _
structure MI (Z i a y j c Zj:Nat):Prop where
  cl:c<4294967296
  eq:Zj+bp (i+j)*c=Z+bp i*(a*lo y j)
  hi:Zj/bp (i+j)=Z/bp (i+j)
theorem MI.start (Z i a y:Nat):MI Z i a y 0 0 Z:=⟨by decide,by rw[lo_zero,Nat.mul_zero,Nat.mul_zero,Nat.mul_zero],rfl⟩
theorem mi_alg {B K I J a y w c z t q s Z l:Nat} (ht:a*w+z+c=q+B*t) (hs:s+K*z=J+K*q) (he:J+K*c=Z+I*(a*l)) (hK:K=I*y):s+K*B*t=Z+I*(a*(l+y*w)):=by
  have h1:K*(a*w)+K*z+K*c=K*q+K*B*t:=by
    rw[←Nat.mul_add,←Nat.mul_add,ht,Nat.mul_add,Nat.mul_assoc]
  have h2:I*(a*(l+y*w))=I*(a*l)+K*(a*w):=by
    rw[hK,Nat.mul_add,Nat.mul_add,Nat.mul_assoc I y,Nat.mul_left_comm a y w]
  rw[h2];omega
theorem mi_top {B a w z c:Nat} (hB:0<B) (ha:a<B) (hw:w<B) (hz:z<B) (hc:c<B):a*w+z+c<B*B:=by
  obtain ⟨b,rfl⟩ : ∃ b,B=b+1:=⟨B-1,by omega⟩
  have:a*w≤b*b:=Nat.mul_le_mul (by omega) (by omega)
  rw[Nat.add_mul,Nat.mul_add];omega
theorem MI.top {Z i a y j c Zj:Nat} (h:MI Z i a y j c Zj) (ha:a<4294967296):a*wd y j+wd Zj (i+j)+c<4294967296*4294967296:=
  mi_top (by decide) ha (wd_lt _ _) (wd_lt _ _) h.cl
theorem MI.next {Z i a y j c Zj t:Nat} (h:MI Z i a y j c Zj) (ha:a<4294967296) (ht:t=a*wd y j+wd Zj (i+j)+c):MI Z i a y (j+1) (t/4294967296) (st Zj (i+j) (t%4294967296)):=by
  refine ⟨?_,?_,?_⟩
  · rw[ht];exact (Nat.div_lt_iff_lt_mul (by decide)).2 (h.top ha)
  · rw[←Nat.add_assoc i j 1,bp_succ (i+j),lo_succ]
    refine mi_alg (c:=c) (z:=wd Zj (i+j)) (q:=t%4294967296) (J:=Zj) ?_ (st_eq _ _ _) h.eq (bp_add i j)
    rw[←ht];exact (Nat.mod_add_div t 4294967296).symm
  · rw[←Nat.add_assoc i j 1,st_hi (Nat.mod_lt _ (by decide)),bp_succ,←Nat.div_div_eq_div_mul,←Nat.div_div_eq_div_mul,h.hi]
theorem MI.word {Z i a y j c Zj:Nat} (h:MI Z i a y j c Zj):wd Zj (i+j)=wd Z (i+j):=wd_of_hi h.hi
theorem MI.last {Z i a y m c Zj:Nat} (h:MI Z i a y m c Zj) (hZ:Z<bp (i+m)) (hy:y<bp m):st Zj (i+m) c=Z+bp i*(a*y):=by
  have h0:wd Zj (i+m)=0:=by rw[h.word];exact wd_top hZ (Nat.le_refl _)
  have h1:=st_eq Zj (i+m) c
  rw[h0,Nat.mul_zero,Nat.add_zero,h.eq,lo_self hy]at h1
  exact h1
theorem mul_row (x y i:Nat):lo x i*y+bp i*(wd x i*y)=lo x (i+1)*y:=by rw[lo_succ,Nat.add_mul,Nat.mul_assoc]
theorem mul_fit {x y i m:Nat} (hy:y<bp m):lo x i*y<bp (i+m):=by
  rw[bp_add]
  exact Nat.mul_lt_mul'' (lo_lt x i) hy
theorem small_of_words {p:Nat} (hp:p<bp 64) (h : ∀ i,i<32→wd p (32+i)=0):p<bp 32:=by
  have:p=lo p 32:=eq_of_wd (n:=64) hp (Nat.lt_of_lt_of_le (lo_lt p 32) (bp_mono (by decide))) fun i hi=>by
    rcases Nat.lt_or_ge i 32 with h1|h1
    · rw[wd_lo h1]
    · rw[wd_top (lo_lt p 32) h1,show i=32+(i-32) from by omega];exact h _ (by omega)
  rw[this];exact lo_lt p 32
theorem big_of_word {p i:Nat} (h:wd p (32+i)≠0):¬ p<bp 32:=fun h1=>h (wd_top h1 (by omega))
theorem mul_sign (n:Bool) (x:Nat) (m:Bool) (y:Nat):wc (ng (ng n x != ng m y) (x*y)) (x*y)=wz (zv n x*zv m y):=by
  rw[wc_ng]
  congr 1
  rcases ng_cases n x with ⟨h1,h2,_⟩|⟨h1,h2⟩ <;> rcases ng_cases m y with ⟨h3,h4,_⟩|⟨h3,h4⟩ <;> rw[h1,h2,h3,h4] <;> simp[zv,Int.neg_mul,Int.mul_neg]
theorem mul_abs (n:Bool) (x:Nat) (m:Bool) (y:Nat):(zv n x*zv m y).natAbs=x*y:=by rw[Int.natAbs_mul,zv_abs,zv_abs]
theorem below_of {B d:Nat} {w w5 wr:World} (h:Below B w w5) (k:Below d w5 wr) (hd:B≤d):Below B w wr:=
  ⟨k.os.trans h.os,k.tape.trans h.tape,k.output.trans h.output,Nat.le_trans h.size k.size,fun j hj=>(k.block j (Nat.lt_of_lt_of_le hj hd)).trans (h.block j hj)⟩
end Pq
namespace Ax
open Go Go.RowKit
abbrev Amt:={ x:Nat // x<Pq.bp 32 }
inductive Cd where
  | int (k:IntKind)
  | bool
  | str
  | words
  | unit
  | pair (a b:Cd)
  | sl (c:Cd)
  | ptr (c:Cd)
  | nls
  deriving DecidableEq
abbrev El:Cd→Type
  | .int _=>Int
  | .bool=>Bool
  | .str=>ByteArray
  | .words=>Amt
  | .unit=>Unit
  | .pair a b=>El a×El b
  | .sl c=>List (El c)
  | .ptr c=>El c
  | .nls=>Unit
def csz:Cd→Nat
  | .int _|.bool|.str|.sl _|.ptr _|.nls=>1
  | .words=>32
  | .unit=>0
  | .pair a b=>csz a+csz b
inductive Ck:Type
  | v (x:Value)
  | kb (b:Bool)
  | w (x:Amt)
  | p (i off:Nat)
  | ds (c:Cd) (xs:List (El c))
  | pr (cs:List Ck)
  | pe (i off sz:Nat) (k:Int)
  | os (i n cap:Nat)
  | row (c:Cd) (xs:List (El c)) (cap:Nat)
  | ni
  | any
def ck:(c:Cd)→El c→List Ck
  | .int k,z=>[.v (.int k z)]
  | .bool,b=>[.v (.bool b)]
  | .str,s=>[.v (.string s)]
  | .words,x=>[.w x]
  | .unit,_=>[]
  | .pair a b,x=>ck a x.1++ck b x.2
  | .sl c,xs=>[.ds c xs]
  | .ptr c,x=>[.pr (ck c x)]
  | .nls,_=>[.v (.slice none 0 0)]
def Ck.size:Ck→Nat
  | .w _=>32
  | .row c _ cap=>cap*csz c
  | _=>1
inductive Is (w:World) (R:Nat→Prop):List Nat→List Ck→List Value→Prop
  | nil {σ}:Is w R σ [] []
  | v {σ x r us}:x.oneCell'=true→Is w R σ r us→Is w R σ (.v x::r) (x::us)
  | kb {σ b r us}:Is w R σ r us→Is w R σ (.kb b::r) (.bool b::us)
  | w {σ x r us}:Is w R σ r us→Is w R σ (.w x::r) (Pq.am 32 x.1++us)
  | p {σ i off b r us}:σ[i]?=some b→Is w R σ r us→Is w R σ (.p i off::r) (.pointer (some ⟨b,off,none⟩)::us)
  | dn {σ} {c:Cd} {r us}:Is w R σ r us→Is w R σ (.ds c []::r) (.slice none 0 0::us)
  | de {σ} {c:Cd} {r us} (a:Addr) (cap:Nat):Is w R σ r us→Is w R σ (.ds c []::r) (.slice (some a) 0 cap::us)
  | ni {σ r us} (t:TypeId) (v:Value):Is w R σ r us→Is w R σ (.ni::r) (.iface t v::us)
  | ds {σ} {c:Cd} {xs:List (El c)} {b o cap r us} (g:Nat→List Value):xs.length≤cap→R b →
      (∀ i x,xs[i]?=some x→(g i).length=csz c)→(∀ i x,xs[i]?=some x→Is w R [] (ck c x) (g i))→(∀ i x,xs[i]?=some x→w.rangeAt b (o+i*csz c) (g i)) →
      Is w R σ r us→Is w R σ (.ds c xs::r) (.slice (some ⟨b,o,none⟩) xs.length cap::us)
  | pr {σ cs b o vs r us}:R b→w.rangeAt b o vs→Is w R [] cs vs→Is w R σ r us→Is w R σ (.pr cs::r) (.pointer (some ⟨b,o,none⟩)::us)
  | pe {σ i off sz k b r us}:σ[i]?=some b→0≤k→Is w R σ r us→Is w R σ (.pe i off sz k::r) (.pointer (some ⟨b,off+k.toNat*sz,none⟩)::us)
  | os {σ i n cap b r us}:σ[i]?=some b→n≤cap→Is w R σ r us→Is w R σ (.os i n cap::r) (.slice (some ⟨b,0,none⟩) n cap::us)
  | row {σ} {c:Cd} {xs:List (El c)} {cap r ua us vs} (g:Nat→List Value):ua.length=cap*csz c→xs.length≤cap→cap≤maxLen→(∀ u∈ua,u.oneCell'=true) →
      (∀ i x,xs[i]?=some x→(g i).length=csz c)→(∀ i x,xs[i]?=some x→Is w R [] (ck c x) (g i))→(∀ i x,xs[i]?=some x → ∀ j u,(g i)[j]?=some u→ua[i*csz c+j]?=some u) →
      Is w R σ r us→vs=ua++us→Is w R σ (.row c xs cap::r) vs
  | any {σ u r us}:u.oneCell'=true→Is w R σ r us→Is w R σ (.any::r) (u::us)
theorem rangeAt_block {w w':World} {b o:Nat} {l:List Value} (h:w'.heap[b]?=w.heap[b]?) (hr:w.rangeAt b o l):w'.rangeAt b o l:=fun j u hj =>
  (World.cell?_of_block (w:=w) h).trans (hr j u hj)
theorem Is.mono' {w w':World} {R R':Nat→Prop} {σ:List Nat} (hR : ∀ b,R b→R' b∧w'.heap[b]?=w.heap[b]?)
    {l:List Ck} {us:List Value} (h:Is w R σ l us) : ∀ {σ':List Nat},(∀ i b:Nat,σ[i]?=some b→σ'[i]?=some b)→Is w' R' σ' l us:=by
  induction h with
  | nil=>intro σ' _;exact .nil
  | v h _ ih=>intro σ' hσ;exact .v h (ih hσ)
  | kb _ ih=>intro σ' hσ;exact .kb (ih hσ)
  | w _ ih=>intro σ' hσ;exact .w (ih hσ)
  | p h _ ih=>intro σ' hσ;exact .p (hσ _ _ h) (ih hσ)
  | dn _ ih=>intro σ' hσ;exact .dn (ih hσ)
  | de a cap _ ih=>intro σ' hσ;exact .de a cap (ih hσ)
  | ni t v _ ih=>intro σ' hσ;exact .ni t v (ih hσ)
  | ds g h1 h2 h3 _ h5 _ ih4 ih=>intro σ' hσ;exact .ds g h1 (hR _ h2).1 h3 (fun i x hx=>ih4 i x hx (fun _ _ h=>h)) (fun i x hx=>rangeAt_block (hR _ h2).2 (h5 i x hx)) (ih hσ)
  | pr h1 h2 _ _ ih3 ih=>intro σ' hσ;exact .pr (hR _ h1).1 (rangeAt_block (hR _ h1).2 h2) (ih3 (fun _ _ h=>h)) (ih hσ)
  | pe h h2 _ ih=>intro σ' hσ;exact .pe (hσ _ _ h) h2 (ih hσ)
  | os h h2 _ ih=>intro σ' hσ;exact .os (hσ _ _ h) h2 (ih hσ)
  | row g h1 h2 h3 h4 h5 _ h7 _ h9 ih6 ih=>intro σ' hσ;exact .row g h1 h2 h3 h4 h5 (fun i x hx=>ih6 i x hx (fun _ _ h=>h)) h7 (ih hσ) h9
  | any h _ ih=>intro σ' hσ;exact .any h (ih hσ)
theorem Is.mono {w w':World} {R R':Nat→Prop} {σ σ':List Nat} (hR : ∀ b,R b→R' b∧w'.heap[b]?=w.heap[b]?) (hσ : ∀ i b:Nat,σ[i]?=some b→σ'[i]?=some b)
    {l:List Ck} {us:List Value} (h:Is w R σ l us):Is w' R' σ' l us:=h.mono' hR hσ
theorem Is.none {w:World} {R:Nat→Prop} {l:List Ck} {us:List Value} (h:Is w R [] l us) (σ:List Nat):Is w R σ l us:=h.mono (fun _ h=>⟨h,rfl⟩) (fun i b h=>by simp at h)
theorem Is.one {w:World} {R:Nat→Prop} {σ:List Nat} {l:List Ck} {us:List Value} (h:Is w R σ l us) : ∀ u∈us,u.oneCell'=true:=by
  induction h with
  | nil=>intro u hu;cases hu
  | v h _ ih=>intro u hu;rcases List.mem_cons.1 hu with rfl|hu;exact h;exact ih u hu
  | kb _ ih=>intro u hu;rcases List.mem_cons.1 hu with rfl|hu;rfl;exact ih u hu
  | w _ ih =>
    intro u hu
    rcases List.mem_append.1 hu with hu|hu
    · simp only[Pq.am,List.mem_map]at hu;obtain ⟨i,_,rfl⟩:=hu;rfl
    · exact ih u hu
  | p _ _ ih=>intro u hu;rcases List.mem_cons.1 hu with rfl|hu;rfl;exact ih u hu
  | dn _ ih=>intro u hu;rcases List.mem_cons.1 hu with rfl|hu;rfl;exact ih u hu
  | de a cap _ ih=>intro u hu;rcases List.mem_cons.1 hu with rfl|hu;rfl;exact ih u hu
  | ni t v _ ih=>intro u hu;rcases List.mem_cons.1 hu with rfl|hu;rfl;exact ih u hu
  | ds g _ _ _ _ _ _ _ ih=>intro u hu;rcases List.mem_cons.1 hu with rfl|hu;rfl;exact ih u hu
  | pr _ _ _ _ _ ih=>intro u hu;rcases List.mem_cons.1 hu with rfl|hu;rfl;exact ih u hu
  | pe _ _ _ ih=>intro u hu;rcases List.mem_cons.1 hu with rfl|hu;rfl;exact ih u hu
  | os _ _ _ ih=>intro u hu;rcases List.mem_cons.1 hu with rfl|hu;rfl;exact ih u hu
  | row g _ _ _ h4 _ _ _ _ h9 _ ih=>intro u hu;subst h9;rcases List.mem_append.1 hu with hu|hu;exact h4 u hu;exact ih u hu
  | any h _ ih=>intro u hu;rcases List.mem_cons.1 hu with rfl|hu;exact h;exact ih u hu
theorem Is.head {w:World} {R:Nat→Prop} {σ:List Nat} {c:Ck} {r:List Ck} {us:List Value} (h:Is w R σ (c::r) us) : ∃ ua ub,us=ua++ub∧ua.length=c.size∧Is w R σ [c] ua∧Is w R σ r ub:=by
  cases h with
  | v h1 h2=>exact ⟨[_],_,rfl,rfl,.v h1 .nil,h2⟩
  | kb h2=>exact ⟨[_],_,rfl,rfl,.kb .nil,h2⟩
  | w h2=>exact ⟨_,_,rfl,Pq.am_length _ _,by have:=Is.w (w:=w) (R:=R) (σ:=σ) (x := ‹Amt›) .nil;rwa [List.append_nil]at this,h2⟩
  | p h1 h2=>exact ⟨[_],_,rfl,rfl,.p h1 .nil,h2⟩
  | dn h2=>exact ⟨[_],_,rfl,rfl,.dn .nil,h2⟩
  | de a cap h2=>exact ⟨[_],_,rfl,rfl,.de a cap .nil,h2⟩
  | ni t v h2=>exact ⟨[_],_,rfl,rfl,.ni t v .nil,h2⟩
  | ds g h1 h2 h3 h4 h5 h6=>exact ⟨[_],_,rfl,rfl,.ds g h1 h2 h3 h4 h5 .nil,h6⟩
  | pr h1 h2 h3 h4=>exact ⟨[_],_,rfl,rfl,.pr h1 h2 h3 .nil,h4⟩
  | pe h1 h2 h3=>exact ⟨[_],_,rfl,rfl,.pe h1 h2 .nil,h3⟩
  | os h1 h2 h3=>exact ⟨[_],_,rfl,rfl,.os h1 h2 .nil,h3⟩
  | row g h1 h2 h3 h4 h5 h6 h7 h8 h9=>exact ⟨_,_,h9,h1,.row g h1 h2 h3 h4 h5 h6 h7 .nil (List.append_nil _).symm,h8⟩
  | any h1 h2=>exact ⟨[_],_,rfl,rfl,.any h1 .nil,h2⟩
theorem Is.app {w:World} {R:Nat→Prop} {σ:List Nat} {l k:List Ck} {us vs:List Value} (h:Is w R σ l us) (h':Is w R σ k vs):Is w R σ (l++k) (us++vs):=by
  induction h with
  | nil=>exact h'
  | v h _ ih=>exact .v h (ih h')
  | kb _ ih=>exact .kb (ih h')
  | w _ ih=>rw[List.append_assoc];exact .w (ih h')
  | p h _ ih=>exact .p h (ih h')
  | dn _ ih=>exact .dn (ih h')
  | de a cap _ ih=>exact .de a cap (ih h')
  | ni t v _ ih=>exact .ni t v (ih h')
  | ds g h1 h2 h3 h4 h5 _ _ ih=>exact .ds g h1 h2 h3 h4 h5 (ih h')
  | pr h1 h2 h3 _ _ ih=>exact .pr h1 h2 h3 (ih h')
  | pe h h2 _ ih=>exact .pe h h2 (ih h')
  | os h h2 _ ih=>exact .os h h2 (ih h')
  | row g h1 h2 h3 h4 h5 h6 h7 _ h9 _ ih=>exact .row g h1 h2 h3 h4 h5 h6 h7 (ih h') (by rw[h9,List.append_assoc])
  | any h _ ih=>exact .any h (ih h')
def cut:Nat→List Ck→Option (List Ck×List Ck)
  | n,[]=>if n=0 then some ([],[]) else none
  | n,c::l=>if n=0 then some ([],c::l) else if c.size≤n then (match cut (n-c.size) l with|some (a,b)=>some (c::a,b)|none=>none) else none
theorem is_cut {w:World} {R:Nat→Prop} {σ:List Nat} : ∀ (l:List Ck) (n:Nat) (us:List Value) (a b:List Ck),Is w R σ l us→cut n l=some (a,b) →
    ∃ ua ub,us=ua++ub∧ua.length=n∧Is w R σ a ua∧Is w R σ b ub∧l=a++b
  | [],n,us,a,b,h,hc=>by
    unfold cut at hc
    split at hc
    · rename_i h0;cases h;cases hc;exact ⟨[],[],rfl,h0.symm,.nil,.nil,rfl⟩
    · cases hc
  | c::l,n,us,a,b,h,hc=>by
    unfold cut at hc
    split at hc
    · rename_i h0;cases hc;exact ⟨[],us,rfl,h0.symm,.nil,h,rfl⟩
    · split at hc
      · rename_i h1
        split at hc
        · rename_i a' b' hcut
          cases hc
          obtain ⟨u1,u2,rfl,e1,i1,i2⟩:=h.head
          obtain ⟨u3,u4,rfl,e2,i3,i4,rfl⟩:=is_cut l _ u2 a' b i2 hcut
          exact ⟨u1++u3,u4,by rw[List.append_assoc],by rw[List.length_append];omega,i1.app i3,i4,rfl⟩
        · cases hc
      · cases hc
inductive Av:Type
  | one (c:Ck)
  | agg (l:List Ck)
  | tup (l:List Av)
  | nope
  | any
inductive AvIs (w:World) (R:Nat→Prop) (σ:List Nat):Av→Value→Prop
  | one {c u}:c.size=1→Is w R σ [c] [u]→AvIs w R σ (.one c) u
  | agg {l us}:Is w R σ l us→AvIs w R σ (.agg l) (.agg us.toArray)
  | tup {l:List Av} (us:List Value):us.length=l.length→(∀ (i:Nat) (a:Av) (u:Value),l[i]?=some a→us[i]?=some u→AvIs w R σ a u)→AvIs w R σ (.tup l) (.tuple us.toArray)
  | nope:AvIs w R σ .nope undef
  | any {u}:AvIs w R σ .any u
theorem AvIs.mono {w w':World} {R R':Nat→Prop} {σ σ':List Nat} (hR : ∀ b,R b→R' b∧w'.heap[b]?=w.heap[b]?) (hσ : ∀ i b:Nat,σ[i]?=some b→σ'[i]?=some b)
    {l:Av} {us:Value} (h:AvIs w R σ l us):AvIs w' R' σ' l us:=by
  induction h with
  | one h1 h=>exact .one h1 (h.mono hR hσ)
  | agg h=>exact .agg (h.mono hR hσ)
  | tup us h _ ih=>exact .tup us h ih
  | nope=>exact .nope
  | any=>exact .any
inductive T (α:Type):Type 1
  | ret (a:α)
  | ite (c:Bool) (t e:T α)
  | need (p:Prop) (t:T α)
  | and (t e:T α)
  | lt {τ:Type} (x:τ) (k:τ→T α)
  | get {τ:Type} (xs:List τ) (i:Int) (k:τ→T α)
  | up (lo:Nat) (k:Nat→T α)
  | fail
def T.bind {α β:Type}:T α→(α→T β)→T β
  | .ret a,f=>f a
  | .ite c t e,f=>.ite c (t.bind f) (e.bind f)
  | .need p t,f=>.need p (t.bind f)
  | .and t e,f=>.and (t.bind f) (e.bind f)
  | .lt x k,f=>.lt x fun y=>(k y).bind f
  | .get xs i k,f=>.get xs i fun x=>(k x).bind f
  | .up lo k,f=>.up lo fun x=>(k x).bind f
  | .fail,_=>.fail
def T.wp {α:Type}:T α→(α→Prop)→Prop
  | .ret a,Q=>Q a
  | .ite c t e,Q=>(c=true→t.wp Q)∧(c=false→e.wp Q)
  | .need p t,Q=>p∧t.wp Q
  | .and t e,Q=>t.wp Q∧e.wp Q
  | .lt x k,Q=>(k x).wp Q
  | .get xs i k,Q => ∃ x,0≤i∧xs[i.toNat]?=some x∧(k x).wp Q
  | .up lo k,Q => ∀ x,lo≤x→(k x).wp Q
  | .fail,_=>False
theorem T.wp_bind {α β:Type} (t:T α) (f:α→T β) (Q:β→Prop):(t.bind f).wp Q↔t.wp fun a=>(f a).wp Q:=by
  induction t with
  | ret a=>rfl
  | ite c t e ih1 ih2=>simp only[T.bind,T.wp,ih1,ih2]
  | need p t ih=>simp only[T.bind,T.wp,ih]
  | and t e ih1 ih2=>simp only[T.bind,T.wp,ih1,ih2]
  | lt x k ih=>simp only[T.bind,T.wp,ih]
  | get xs i k ih=>simp only[T.bind,T.wp,ih]
  | up lo k ih=>simp only[T.bind,T.wp,ih]
  | fail=>rfl
theorem T.wp_mono {α:Type} {t:T α} {Q Q':α→Prop} (h : ∀ a,Q a→Q' a) (ht:t.wp Q):t.wp Q':=by
  induction t with
  | ret a=>exact h _ ht
  | ite c t e ih1 ih2=>exact ⟨fun hc=>ih1 (ht.1 hc),fun hc=>ih2 (ht.2 hc)⟩
  | need p t ih=>exact ⟨ht.1,ih ht.2⟩
  | and t e ih1 ih2=>exact ⟨ih1 ht.1,ih2 ht.2⟩
  | lt x k ih=>exact ih x ht
  | get xs i k ih=>obtain ⟨x,h1,h2,h3⟩:=ht;exact ⟨x,h1,h2,ih x h3⟩
  | up lo k ih=>exact fun x hx=>ih x (ht x hx)
  | fail=>exact ht
def dup {α:Type} (t:T α):T α:=.and t t
theorem dup_wp {α:Type} (t:T α) (Q:α→Prop):(dup t).wp Q↔t.wp Q:=⟨fun h=>h.1,fun h=>⟨h,h⟩⟩
abbrev Mem:=List (TypeId×List Ck)
def Ro (w:World) (φ σ:List Nat) (b:Nat):Prop:=b<w.heap.size∧b ∉ φ∧b ∉ σ
def gfacts:List (String×(Array Value→Prop)):=
  [("strconv.ErrSyntax",fun cs => ∃ te pe,cs = #[.iface te pe]),("strconv.ErrRange",fun cs => ∃ te pe,cs = #[.iface te pe]),("internal/bytealg.MaxLen",fun cs => ∃ m,cs = #[.int .i64 m]),
   ("internal/strconv.uint64pow10",fun cs=>cs=(((List.range 20).map fun i=>Value.int .u64 (10^i))).toArray)]
def GlobAt (w:World) (R:Nat→Prop):Prop := ∀ f∈gfacts,∀ g,Go.Proofs.Tryz.prog.globalNamed f.1=some g→R g ∧ ∃ cs t z,w.heap[g]?=some (.cells cs t z)∧f.2 cs
theorem GlobAt.mono {w w':World} {R R':Nat→Prop} (h:GlobAt w R) (hR : ∀ b,R b→R' b∧w'.heap[b]?=w.heap[b]?):GlobAt w' R':=fun f hf g hg=>by
  obtain ⟨h1,cs,t,z,h2,h3⟩:=h f hf g hg
  exact ⟨(hR g h1).1,cs,t,z,(hR g h1).2.trans h2,h3⟩
structure MemOk (w:World) (φ σ:List Nat) (m:Mem):Prop where
  len:m.length=σ.length
  nodup:σ.Nodup
  fo : ∀ b∈φ,b<w.heap.size
  gl:GlobAt w (Ro w φ σ)
  blk : ∀ (i:Nat) (t:TypeId) (cs:List Ck) (b:Nat),m[i]?=some (t,cs)→σ[i]?=some b → ∃ us:List Value,w.heap[b]?=some (.cells us.toArray t (0,0))∧Is w (Ro w φ σ) σ cs us
structure Keep (w:World) (σ:List Nat) (w':World):Prop where
  os:w'.os=w.os
  tape:w'.tape=w.tape
  output:w'.output=w.output
  size:w.heap.size≤w'.heap.size
  block : ∀ k,k<w.heap.size→k ∉ σ→w'.heap[k]?=w.heap[k]?
theorem Keep.refl (w:World) (σ:List Nat):Keep w σ w:=⟨rfl,rfl,rfl,Nat.le_refl _,fun _ _ _=>rfl⟩
theorem Keep.drew (w:World) (σ:List Nat):Keep w σ w.drew:=⟨rfl,rfl,rfl,Nat.le_refl _,fun _ _ _=>rfl⟩
theorem Keep.below {w w':World} (h:Keep w [] w'):Below w.heap.size w w':=⟨h.os,h.tape,h.output,h.size,fun k hk=>h.block k hk (by simp)⟩
theorem Keep.of_below {w w':World} (h:Below w.heap.size w w') (σ:List Nat):Keep w σ w':=⟨h.os,h.tape,h.output,h.size,fun k hk _=>h.block k hk⟩
structure Ext (w:World) (σ σ':List Nat):Prop where
  pre : ∃ τ,σ'=σ++τ ∧ ∀ b∈τ,w.heap.size≤b
theorem Ext.refl (w:World) (σ:List Nat):Ext w σ σ:=⟨⟨[],by simp,by simp⟩⟩
theorem Ext.get {w:World} {σ σ':List Nat} (h:Ext w σ σ') {i b:Nat} (hi:σ[i]?=some b):σ'[i]?=some b:=by
  obtain ⟨τ,rfl,_⟩:=h.pre
  rw[List.getElem?_append_left (List.getElem?_eq_some_iff.1 hi).1];exact hi
theorem Ext.not_mem {w:World} {σ σ':List Nat} (h:Ext w σ σ') {b:Nat} (hb:b<w.heap.size) (hn:b ∉ σ):b ∉ σ':=by
  obtain ⟨τ,rfl,ht⟩:=h.pre
  intro hm
  rcases List.mem_append.1 hm with h1|h1
  · exact hn h1
  · have:=ht b h1;omega
theorem Ext.trans {w w':World} {σ σ' σ'':List Nat} (h:Ext w σ σ') (hw:w.heap.size≤w'.heap.size) (h':Ext w' σ' σ''):Ext w σ σ'':=by
  obtain ⟨τ,rfl,ht⟩:=h.pre
  obtain ⟨τ',rfl,ht'⟩:=h'.pre
  refine ⟨τ++τ',by rw[List.append_assoc],fun b hb=>?_⟩
  rcases List.mem_append.1 hb with h1|h1
  · exact ht b h1
  · have:=ht' b h1;omega
theorem Keep.ro {w w':World} {φ σ σ':List Nat} (h:Keep w σ w') (e:Ext w σ σ') : ∀ b,Ro w φ σ b→Ro w' φ σ' b∧w'.heap[b]?=w.heap[b]?:=fun b hb =>
  ⟨⟨Nat.lt_of_lt_of_le hb.1 h.size,hb.2.1,e.not_mem hb.1 hb.2.2⟩,h.block b hb.1 hb.2.2⟩
theorem Keep.trans {w w1 w2:World} {σ σ1:List Nat} (h:Keep w σ w1) (e:Ext w σ σ1) (h':Keep w1 σ1 w2):Keep w σ w2:=
  ⟨h'.os.trans h.os,h'.tape.trans h.tape,h'.output.trans h.output,Nat.le_trans h.size h'.size,fun k hk hn=>(h'.block k (Nat.lt_of_lt_of_le hk h.size) (e.not_mem hk hn)).trans (h.block k hk hn)⟩
theorem words_items {P:Program} {e:TypeId} {k0:IntKind} (hu:P.underlying e=some (.int k0)) (x y:Nat) (d:Nat) (w:World) : ∀ (is:List Nat),(∀ i∈is,i<32) →
    (Op.eqItems (d+1) e 1 (Pq.am 32 x).toArray (Pq.am 32 y).toArray is).run P w=.ok (is.all fun i=>Pq.wd x i==Pq.wd y i) w
  | [],_=>rfl
  | i::is,h=>by
    have hi:=h i (by simp)
    have ih:=words_items hu x y d w is (fun j hj=>h j (by simp[hj]))
    have p : ∀ z:Nat,(part e (Pq.am 32 z).toArray (i*1)).run P w=.ok (.int .u32 (Pq.wd z i:Nat)) w:=fun z=>by
      have hg:(Pq.am 32 z)[i]?=some (.int .u32 (Pq.wd z i:Nat)):=Pq.am_get hi
      simp[part,isAgg,run_underlying hu]
      rw[hg];rfl
    have e1:((Pq.wd x i:Int)==(Pq.wd y i:Int))=(Pq.wd x i==Pq.wd y i):=by
      rw[Bool.eq_iff_iff];simp;omega
    simp only[Op.eqItems,Sem.run_bind,p,Result.andThen_ok,run_equalIn_int w d e _ k0 _ _ hu,e1,List.all_cons]
    cases Pq.wd x i==Pq.wd y i
    · simp
    · simpa using ih
theorem words_eq (x y:Amt):((List.range 32).all fun i=>Pq.wd x.1 i==Pq.wd y.1 i)=(x.1==y.1):=by
  rw[Bool.eq_iff_iff]
  simp only[List.all_eq_true,List.mem_range,beq_iff_eq]
  exact ⟨fun h=>Pq.eq_of_wd x.2 y.2 h,fun h i _=>by rw[h]⟩
def operand (fr:List Av):Operand→Av
  | .tmp t=>fr.getD t .any
  | .const (.bool b)=>.one (.kb b)
  | .const v=>if v.oneCell' then .one (.v v) else .any
  | .global _=>.any
  | .func f=>.one (.v (.func (.func f) #[] #[]))
structure FrOk (w:World) (R:Nat→Prop) (σ:List Nat) (fr:List Av) (a:Act):Prop where
  len:fr.length=a.tmps.size
  at_ : ∀ (t:Nat) (av:Av),fr[t]?=some av→AvIs w R σ av (a.tmps.getD t undef)
theorem AvIs.val {w:World} {R:Nat→Prop} {σ:List Nat} {x:Value} (h:x.oneCell'=true):AvIs w R σ (.one (.v x)) x:=.one rfl (.v h .nil)
theorem operand_is {w:World} {R:Nat→Prop} {σ:List Nat} {fr:List Av} {a:Act} (h:FrOk w R σ fr a) (x:Operand):AvIs w R σ (operand fr x) (a.eval x):=by
  cases x with
  | tmp t =>
    show AvIs w R σ (fr.getD t .any) _
    rw[List.getD_eq_getElem?_getD]
    cases ht:fr[t]? with
    | none=>exact .any
    | some av=>exact h.at_ t av ht
  | const v =>
    have gen:AvIs w R σ (if v.oneCell' then .one (.v v) else .any) v:=by
      split
      · rename_i h1;exact .val h1
      · exact .any
    cases v with
    | bool b=>exact .one rfl (.kb .nil)
    | _=>exact gen
  | global g=>exact .any
  | func f=>exact .val rfl
def Av.val?:Av→Option Value
  | .one (.v x)=>some x
  | .one (.kb b)=>some (.bool b)
  | _=>none
theorem val_of {w:World} {R:Nat→Prop} {σ:List Nat} {av:Av} {u x:Value} (h:AvIs w R σ av u) (hx:av.val?=some x):u=x:=by
  cases h with
  | one h1 h2 =>
    cases h2 with
    | v=>simpa [Av.val?] using hx
    | kb=>simpa [Av.val?] using hx
    | p=>simp[Av.val?]at hx
    | dn=>simp[Av.val?]at hx
    | de=>simp[Av.val?]at hx
    | ni=>simp[Av.val?]at hx
    | ds=>simp[Av.val?]at hx
    | pr=>simp[Av.val?]at hx
    | pe=>simp[Av.val?]at hx
    | os=>simp[Av.val?]at hx
    | row=>simp[Av.val?]at hx
    | any=>simp[Av.val?]at hx
  | agg=>simp[Av.val?]at hx
  | tup=>simp[Av.val?]at hx
  | nope=>simp[Av.val?]at hx
  | any=>simp[Av.val?]at hx
def pureRun {α:Type} (P:Program):Sem α→Option α
  | .pure a=>some a
  | .program k=>pureRun P (k P)
  | .mark _ k=>pureRun P k
  | _=>none
theorem pureRun_ok {α:Type} {P:Program} {s:Sem α} {a:α} (h:pureRun P s=some a) (w:World):s.run P w=.ok a w:=by
  induction s with
  | pure b=>simp only[pureRun,Option.some.injEq]at h;subst h;rfl
  | program k ih=>exact ih P h
  | mark m k ih=>exact ih h
  | _=>simp[pureRun]at h
def isSelect:Op→Bool
  | .select .. => true
  | _=>false
theorem isSelect_no {op:Op} (h:isSelect op=false) : ∀ cs b,op≠.select cs b:=by
  intro cs b e;subst e;simp[isSelect]at h
def plain (P:Program) (fr:List Av) (o:Oper):Option Value:=
  if (o.op.operands.toList.all fun x=>(operand fr x).val?.isSome) && !isSelect o.op then
    match pureRun P (execOp (fun x=>((operand fr x).val?).getD undef) o) with
    | some (.value v)=>if v.oneCell' then some v else none
    | _=>none
  else none
theorem plain_ok {P:Program} {w:World} {R:Nat→Prop} {σ:List Nat} {fr:List Av} {a:Act} (hf:FrOk w R σ fr a) {o:Oper} {v:Value} (h:plain P fr o=some v) :
    v.oneCell'=true ∧ ∀ w',(execOp a.eval o).run P w'=.ok (.value v) w':=by
  unfold plain at h
  split at h
  · rename_i hc
    simp only[Bool.and_eq_true,Bool.not_eq_true',List.all_eq_true]at hc
    split at h
    · rename_i v' hr
      split at h
      · rename_i h1
        cases h
        refine ⟨h1,fun w'=>?_⟩
        rw[execOp_congr (ρ:=a.eval) (ρ':=fun x=>((operand fr x).val?).getD undef) o (isSelect_no hc.2) (fun x hx=>?_)]
        · exact pureRun_ok hr w'
        · obtain ⟨y,hy⟩:=Option.isSome_iff_exists.1 (hc.1 x (by simpa using hx))
          rw[hy,val_of (operand_is hf x) hy];rfl
      · cases h
    · cases h
  · cases h
def sub (off n:Nat) (cs:List Ck):Option (List Ck):=
  match cut off cs with
  | some (_,r)=>match cut n r with
    | some (m,_)=>some m
    | none=>none
  | none=>none
theorem is_sub {w:World} {R:Nat→Prop} {σ:List Nat} {off n:Nat} {cs m:List Ck} {us:List Value} (h:Is w R σ cs us) (hs:sub off n cs=some m) :
    ∃ ua um ub,us=ua++(um++ub)∧ua.length=off∧um.length=n∧Is w R σ m um:=by
  unfold sub at hs
  split at hs
  · rename_i a r h1
    split at hs
    · rename_i m' b h2
      cases hs
      obtain ⟨ua,ur,rfl,e1,_,i2,_⟩:=is_cut _ _ _ _ _ h h1
      obtain ⟨um,ub,rfl,e2,i3,_,_⟩:=is_cut _ _ _ _ _ i2 h2
      exact ⟨ua,um,ub,rfl,e1,e2,i3⟩
    · cases hs
  · cases hs
def mkOf (row:Bool) (cs:List Ck):Option Av:=
  if row then some (.agg cs) else
  match cs with
  | [c]=>if c.size=1 then some (.one c) else none
  | _=>none
def sizeP (P:Program) (t:TypeId):Option Nat:=match P.info? t with|some i=>some i.size|none=>none
def rowP (P:Program) (t:TypeId):Option Bool:=match P.underlying t with|some d=>some d.isRow|none=>none
theorem sizeP_ok {P:Program} {t:TypeId} {n:Nat} (h:sizeP P t=some n):(P.info? t).map (·.size)=some n:=by
  unfold sizeP at h
  cases hq:P.info? t <;> simp_all
theorem rowP_ok {P:Program} {t:TypeId} {b:Bool} (h:rowP P t=some b) : ∃ d,P.underlying t=some d∧d.isRow=b:=by
  unfold rowP at h
  cases hq:P.underlying t <;> simp_all
theorem run_isAgg {P:Program} {t:TypeId} {d:TypeDesc} (h:P.underlying t=some d) (w:World):(isAgg t).run P w=.ok d.isRow w:=by
  unfold isAgg
  rw[Sem.run_bind,run_underlying h w]
  cases d <;> simp_all
theorem run_size {P:Program} {t:TypeId} {n:Nat} (h:(P.info? t).map (·.size)=some n) (w:World):(Go.sizeOf t).run P w=.ok n w:=by
  cases hq:P.info? t with
  | none=>simp[hq]at h
  | some i =>
    have:i.size=n:=by simpa [hq] using h
    simp[Go.sizeOf,typeInfo,hq,this]
theorem run_read {P:Program} {w' w:World} {R:Nat→Prop} {σ:List Nat} {b o:Nat} {t:TypeId} {n:Nat} {row:Bool} {m:List Ck} {um:List Value} {av:Av}
    (hn:sizeP P t=some n) (hr:rowP P t=some row) (hl:um.length=n) (hi:Is w R σ m um) (hm:mkOf row m=some av) :
    ∃ v,AvIs w R σ av v ∧ ∀ w',w'.rangeAt b o um→(loadVar t ⟨b,o,none⟩).run P w'=.ok v w':=by
  obtain ⟨d,hu,hd⟩:=rowP_ok hr
  cases row with
  | true =>
    simp only[mkOf,if_true,Option.some.injEq]at hm
    subst hm
    exact ⟨.agg um.toArray,.agg hi,fun w' hr'=>run_loadVar_mid w' b o t um d hr' hu hd (by rw[sizeP_ok hn,hl])⟩
  | false =>
    simp only[mkOf,Bool.false_eq_true,if_false]at hm
    split at hm
    · rename_i c
      split at hm
      · rename_i h1
        cases hm
        obtain ⟨ua,ub,rfl,e1,i1,i2⟩:=hi.head
        cases i2
        rw[h1]at e1
        obtain ⟨u,rfl⟩ : ∃ u,ua=[u]:=by
          match ua,e1 with
          | [u],_=>exact ⟨u,rfl⟩
        refine ⟨u,.one h1 i1,fun w' hr'=>?_⟩
        have hc:=hr' 0 u rfl
        rw[Nat.add_zero]at hc
        simp[loadVar,Sem.run_bind,run_isAgg hu w',hd,run_load,hc]
      · cases hm
    · cases hm
theorem range_part {w:World} {b o:Nat} {ua um ub:List Value} (h:w.rangeAt b o (ua++(um++ub))):w.rangeAt b (o+ua.length) um:=by
  have h1:=(Pq.range_app h).2
  exact (Pq.range_app h1).1
def fieldP (P:Program) (t:TypeId) (f:Nat):Option (Nat×TypeId):=
  match P.underlying t with
  | some (.struct fs)=>match fs[f]? with
    | some fd=>some (fd.offset,fd.type)
    | none=>none
  | _=>none
theorem fieldP_ok {P:Program} {t:TypeId} {f off:Nat} {ft:TypeId} (h:fieldP P t f=some (off,ft)) : ∃ fs fd,P.underlying t=some (.struct fs)∧fs[f]?=some fd∧fd.offset=off∧fd.type=ft:=by
  unfold fieldP at h
  split at h
  · rename_i fs hu
    split at h
    · rename_i fd hfd;cases h;exact ⟨fs,fd,hu,hfd,rfl,rfl⟩
    · cases h
  · cases h
structure Zero (P:Program):Type 1 where
  ty:TypeId
  cs:List Ck
  us:List Value
  hz:(match P.info? ty with|some i=>i.zero.map (·.cells)|none=>none)=some us.toArray
  is : ∀ w R σ,Is w R σ cs us
theorem zero_at {P:Program} (Z:Zero P) : ∃ it z,P.info? Z.ty=some it∧it.zero=some z∧z.cells=Z.us.toArray:=by
  have h:=Z.hz
  cases hi:P.info? Z.ty with
  | none=>rw[hi]at h;cases h
  | some it =>
    rw[hi]at h
    cases hz:it.zero with
    | none=>simp[hz]at h
    | some z=>exact ⟨it,z,rfl,hz,by simpa [hz] using h⟩
theorem run_alloc {P:Program} (Z:Zero P) (w:World):(Instr.alloc Z.ty true (.tuple #[])).run P w=.ok (.pointer (some ⟨w.heap.size,0,none⟩)) (w.alloc (.cells Z.us.toArray Z.ty)):=by
  obtain ⟨it,z,h1,h2,h3⟩:=zero_at Z
  simp[Instr.alloc,zeroValue,typeInfo,h1,h2,newVar,newRow,h3]
def flat:Av→Option (List Ck)
  | .agg cs=>some cs
  | .one c=>some [c]
  | _=>none
theorem flat_is {w:World} {R:Nat→Prop} {σ:List Nat} {av:Av} {v:Value} {cs:List Ck} (h:AvIs w R σ av v) (hf:flat av=some cs) : ∃ us,v.cells=us.toArray∧Is w R σ cs us:=by
  cases h with
  | one h1 h2 =>
    cases hf
    have h3:=h2.one v (by simp)
    exact ⟨[v],by cases v <;> first|rfl|simp[Value.oneCell']at h3,h2⟩
  | agg h=>cases hf;exact ⟨_,rfl,h⟩
  | tup=>simp[flat]at hf
  | nope=>simp[flat]at hf
  | any=>simp[flat]at hf
def ckLen:List Ck→Nat
  | []=>0
  | c::r=>c.size+ckLen r
theorem is_len {w:World} {R:Nat→Prop} {σ:List Nat} : ∀ (cs:List Ck) {us:List Value},Is w R σ cs us→us.length=ckLen cs
  | [],us,h=>by cases h;rfl
  | c::r,us,h=>by
    obtain ⟨ua,ub,rfl,e1,_,i2⟩:=h.head
    rw[List.length_append,e1,is_len r i2];rfl
theorem overlay : ∀ (us ua old ub:List Value) (off k:Nat),old.length=us.length→off+k=ua.length →
    (us.zipIdx k).foldl (fun (cs:Array Value) (x:Value×Nat)=>cs.setIfInBounds (off+x.2) x.1) (ua++(old++ub)).toArray=(ua++(us++ub)).toArray
  | [],ua,old,ub,off,k,hl,hk=>by
    obtain rfl:old=[]:=List.length_eq_zero_iff.1 (by simpa using hl)
    rfl
  | u::us,ua,old,ub,off,k,hl,hk=>by
    obtain ⟨o,old,rfl⟩ : ∃ o r,old=o::r:=by
      match old,hl with
      | o::r,_=>exact ⟨o,r,rfl⟩
    rw[List.zipIdx_cons,List.foldl_cons]
    have e:((ua++(o::old++ub)).toArray).setIfInBounds (off+k) u=((ua++[u])++(old++ub)).toArray:=by
      rw[hk];simp
    rw[e,overlay us (ua++[u]) old ub off (k+1) (by simpa using hl) (by simp;omega)]
    simp
def placesP (P:Program) (t:TypeId):Option (Nat→Option (Nat×Nat)):=
  match P.underlying t with
  | some (.array _ e)=>match P.info? e with
    | some ie=>some fun i=>some (i*ie.size,ie.size)
    | none=>none
  | some (.struct fields)=>match fields.toList.mapM (fun f=>(P.info? f.type).map fun i=>(f.offset,i.size)) with
    | some places=>some (places.toArray[·]?)
    | none=>none
  | _=>none
theorem built_of {P:Program} {t:TypeId} {it:TypeInfo} {z:Value} {pl:Nat→Option (Nat×Nat)} {parts:List (Nat×Value)} {cells:Array Value} (h1:P.info? t=some it) (h2:it.zero=some z) (h3:placesP P t=some pl)
    (h4:Instr.fill pl z.cells parts=some cells):P.built t parts=some cells:=by
  unfold placesP at h3
  unfold Program.built
  rw[h1]
  cases hu:P.underlying t with
  | none=>rw[hu]at h3;simp at h3
  | some d =>
    rw[hu]at h3
    cases d <;> simp only[reduceCtorEq]at h3
    case array n e =>
      cases he:P.info? e with
      | none=>simp[he]at h3
      | some ie =>
        simp only[he,Option.some.injEq]at h3
        subst h3
        simp only[h2,he];exact h4
    case struct fs =>
      cases hp:fs.toList.mapM (fun f=>(P.info? f.type).map fun i=>(f.offset,i.size)) with
      | none=>simp[hp]at h3
      | some pls =>
        simp only[hp,Option.some.injEq]at h3
        subst h3
        simp only[h2,hp];exact h4
def aFill (pl:Nat→Option (Nat×Nat)):List (Nat×Av)→List Ck→Option (List Ck)
  | [],cs=>some cs
  | (i,av)::r,cs=>match pl i with
    | some (off,n)=>match flat av with
      | some c=>if ckLen c=n then (match cut off cs with
        | some (l,r0)=>match cut n r0 with
          | some (_,k)=>aFill pl r (l++(c++k))
          | none=>none
        | none=>none) else none
      | none=>none
    | none=>none
theorem aFill_ok {w:World} {R:Nat→Prop} {σ:List Nat} {pl:Nat→Option (Nat×Nat)} : ∀ (ps:List (Nat×Av)) (vs:List (Nat×Value)) (cs cs':List Ck) (us:List Value),aFill pl ps cs=some cs'→Is w R σ cs us→vs.length=ps.length →
    (∀ (i:Nat) p q,ps[i]?=some p→vs[i]?=some q→q.1=p.1∧AvIs w R σ p.2 q.2) → ∃ us':List Value,Instr.fill pl us.toArray vs=some us'.toArray∧Is w R σ cs' us'
  | [],vs,cs,cs',us,h,hi,hl,_=>by
    obtain rfl:vs=[]:=List.length_eq_zero_iff.1 (by simpa using hl)
    cases h
    exact ⟨us,rfl,hi⟩
  | (i,av)::r,vs,cs,cs',us,h,hi,hl,ha=>by
    obtain ⟨⟨i',v⟩,vs,rfl⟩ : ∃ o r,vs=o::r:=by
      match vs,hl with
      | o::r,_=>exact ⟨o,r,rfl⟩
    obtain ⟨e0,hv⟩:=ha 0 (i,av) (i',v) rfl rfl
    simp only at e0
    subst e0
    unfold aFill at h
    split at h
    · rename_i off n hp
      split at h
      · rename_i c hfl
        by_cases hlc:ckLen c=n
        · rw[if_pos hlc]at h
          split at h
          · rename_i l r0 h1
            split at h
            · rename_i d k h2
              obtain ⟨ua,ur,rfl,e1,i1,i2,_⟩:=is_cut _ _ _ _ _ hi h1
              obtain ⟨um,ub,rfl,e2,_,i3,_⟩:=is_cut _ _ _ _ _ i2 h2
              obtain ⟨vs',hvc,iv⟩:=flat_is hv hfl
              have hvl:=is_len _ iv
              obtain ⟨us',g1,g2⟩:=aFill_ok r vs _ cs' _ h (i1.app (iv.app i3)) (by simpa using hl) (fun j p q hp hq=>ha (j+1) p q (by simpa using hp) (by simpa using hq))
              refine ⟨us',?_,g2⟩
              unfold Instr.fill
              rw[hp]
              have hsz:v.cells.size=n:=by rw[hvc];simp;omega
              simp only[hsz,ne_eq,not_true_eq_false,decide_false,Bool.false_or]
              rw[if_neg (by simp;omega)]
              have e:(v.cells.zipIdx.foldl (fun (cs:Array Value) (x:Value×Nat)=>cs.setIfInBounds (off+x.2) x.1) (ua++(um++ub)).toArray)=(ua++(vs'++ub)).toArray:=by
                rw[hvc,←Array.foldl_toList,Array.toList_zipIdx]
                exact overlay vs' ua um ub off 0 (by omega) (by omega)
              have e3:(v.cells.zipIdx.foldl (fun (cs:Array Value) (x:Value×Nat)=>match x with|(c,j)=>cs.setIfInBounds (off+j) c) (ua++(um++ub)).toArray)=(ua++(vs'++ub)).toArray:=e
              rw[e3,g1]
            · cases h
          · cases h
        · rw[if_neg hlc]at h;cases h
      · cases h
    · cases h
universe u
def optT {α:Type u} {β:Type} (o:Option α) (f:α→T β):T β:=match o with|some a=>f a|none=>.fail
def optN {α:Type} {β:Type} (o:Option α) (f:α→T β):T β:=match o with|some a=>f a|none=>.fail
theorem optT_wp {α:Type u} {β:Type} {o:Option α} {f:α→T β} {Q:β→Prop} (h:(optT o f).wp Q) : ∃ a,o=some a∧(f a).wp Q:=by
  cases o with
  | none=>exact h.elim
  | some a=>exact ⟨a,rfl,h⟩
theorem optN_wp {α:Type} {β:Type} {o:Option α} {f:α→T β} {Q:β→Prop} (h:(optN o f).wp Q) : ∃ a,o=some a∧(f a).wp Q:=by
  cases o with
  | none=>exact h.elim
  | some a=>exact ⟨a,rfl,h⟩
def aField (P:Program) (t:TypeId) (f:Nat) (x:Av):T Av:=
  match x with
  | .agg cs=>optN (fieldP P t f) fun (off,ft)=>optN (sizeP P ft) fun n=>optN (rowP P ft) fun row=>optT (sub off n cs) fun m=>optT (mkOf row m) .ret
  | _=>.fail
def wordsAt (off:Nat) (cs:List Ck):Option (List Ck×Amt×List Ck):=match cut off cs with
  | some (l,.w a::r)=>some (l,a,r)
  | _=>none
def aLoadE (t:TypeId) (P:Program) (cs:List Ck) (off sz:Nat) (k:Int):T Av:=
  optN (sizeP P t) fun n=>optN (rowP P t) fun row=>match decide (n=sz) with
    | true=>match wordsAt off cs with
      | some (_,a,_)=>match decide (sz=1),row with
        | true,false=>.need (k<32) (.ret (.one (.v (.int .u32 (Pq.wd a.1 k.toNat:Nat)))))
        | _,_=>.fail
      | none=>match off,cs with
        | 0,[.row c xs _]=>match decide (sz=csz c) with
          | true=>.get xs k fun x=>optT (mkOf row (ck c x)) .ret
          | false=>.fail
        | _,_=>.fail
    | false=>.fail
def aLoad (P:Program) (ok:Nat→Bool) (m:Mem) (t:TypeId) (x:Av):T Av:=
  match x with
  | .one (.pe i off sz k)=>if ok i then optT m[i]? fun (_,cs)=>aLoadE t P cs off sz k else .fail
  | .one (.p i off)=>if ok i then optT m[i]? fun (_,cs)=>optN (sizeP P t) fun n=>optN (rowP P t) fun row=>optT (sub off n cs) fun c=>optT (mkOf row c) .ret else .fail
  | .one (.pr cs)=>optN (sizeP P t) fun n=>optN (rowP P t) fun row=>optT (sub 0 n cs) fun c=>optT (mkOf row c) .ret
  | _=>.fail
def aFieldAddr (P:Program) (t:TypeId) (x:Av) (f:Nat):T Av:=
  match x with
  | .one (.p i off)=>optN (fieldP P t f) fun (fo,ft)=>optN (sizeP P ft) fun n=>if n=0 then .fail else .ret (.one (.p i (off+fo)))
  | .one (.pr cs)=>optN (fieldP P t f) fun (fo,ft)=>optN (sizeP P ft) fun n=>if n=0 then .fail else optT (cut fo cs) fun (_,r)=>.ret (.one (.pr r))
  | _=>.fail
def aNil (x:Av):T Av:=
  match x with
  | .one (.p i off)=>.ret (.one (.p i off))
  | .one (.pr cs)=>.ret (.one (.pr cs))
  | _=>.fail
def aIndexAddr (P:Program) (m:Mem) (t:TypeId) (x ix:Av):T Av:=
  match x,ix with
  | .one (.os i n cap),.one (.v (.int _ z))=>match P.underlying t with
    | some (.slice e)=>optN (sizeP P e) fun sz=>.need (0≤z∧z<n) (.ret (.one (.pe i 0 sz z)))
    | _=>.fail
  | .one (.ds c xs),.one (.v (.int _ z))=>match P.underlying t with
    | some (.slice e)=>optN (sizeP P e) fun n=>if n=csz c then .get xs z fun x=>.ret (.one (.pr (ck c x))) else .fail
    | _=>.fail
  | .one (.p i off),.one (.v (.int _ z))=>match P.underlying t with
    | some (.array len e)=>optN (sizeP P e) fun n=>.need (0≤z∧z<len) (match (m[i]?).bind fun p=>wordsAt off p.2 with
      | some _=>.ret (.one (.pe i off n z))
      | none=>.ret (.one (.p i (off+z.toNat*n))))
    | _=>.fail
  | .one (.pr cs),.one (.v (.int _ z))=>match P.underlying t with
    | some (.array len e)=>optN (sizeP P e) fun n=>.need (0≤z∧z<len) (optT (cut (z.toNat*n) cs) fun (_,r)=>.ret (.one (.pr r)))
    | _=>.fail
  | _,_=>.fail
def swI (z:Int) (f:Nat→T Av):Nat→Nat→T Av
  | 0,i=>f i
  | k+1,i=>.ite (z==(i:Int)) (f i) (swI z f k (i+1))
theorem swI_wp {z:Int} {f:Nat→T Av} {K:Av→Prop} : ∀ (k i:Nat),(swI z f k i).wp K→(i:Int)≤z→z≤(i+k:Nat)→(f z.toNat).wp K
  | 0,i,h,h1,h2=>by
    have:z.toNat=i:=by omega
    rw[this];exact h
  | k+1,i,h,h1,h2=>by
    by_cases e:z=i
    · have:z.toNat=i:=by omega
      rw[this];exact h.1 (by simp[e])
    · exact swI_wp k (i+1) (h.2 (by simp[e])) (by omega) (by omega)
def aIndexAddrT (P:Program) (m:Mem) (t:TypeId) (x ix:Av):T Av:=
  match x,ix with
  | .one (.p i off),.one (.v (.int k z))=>match P.underlying t with
    | some (.array len e)=>match decide (len≤8) with
      | true=>optN (sizeP P e) fun n=>.need (0≤z∧z<len) (match (m[i]?).bind fun p=>wordsAt off p.2 with
        | some _=>.ret (.one (.pe i off n z))
        | none=>swI z (fun j=>.ret (.one (.p i (off+j*n)))) (len-1) 0)
      | false=>aIndexAddr P m t (.one (.p i off)) (.one (.v (.int k z)))
    | _=>.fail
  | .one (.pr cs),.one (.v (.int k z))=>match P.underlying t with
    | some (.array len e)=>match decide (len≤8) with
      | true=>optN (sizeP P e) fun n=>.need (0≤z∧z<len) (swI z (fun j=>optT (cut (j*n) cs) fun (_,r)=>.ret (.one (.pr r))) (len-1) 0)
      | false=>aIndexAddr P m t (.one (.pr cs)) (.one (.v (.int k z)))
    | _=>.fail
  | x,ix=>aIndexAddr P m t x ix
theorem indexAddrT_wp {P:Program} {m:Mem} {t:TypeId} {x ix:Av} {K:Av→Prop} (h:(aIndexAddrT P m t x ix).wp K):(aIndexAddr P m t x ix).wp K:=by
  unfold aIndexAddrT at h
  split at h
  · rename_i i off k z
    split at h
    · rename_i len e hu
      split at h
      · unfold aIndexAddr
        simp only[hu]
        obtain ⟨n,hn,h1⟩:=optN_wp h
        obtain ⟨hb,h3⟩:=h1
        rw[hn]
        refine ⟨hb,?_⟩
        cases hq:(m[i]?).bind fun p=>wordsAt off p.2 with
        | some q =>
          rw[hq]at h3
          exact h3
        | none =>
          rw[hq]at h3
          exact swI_wp _ _ h3 (by omega) (by omega)
      · exact h
    · exact h.elim
  · rename_i cs k z
    split at h
    · rename_i len e hu
      split at h
      · unfold aIndexAddr
        simp only[hu]
        obtain ⟨n,hn,h1⟩:=optN_wp h
        obtain ⟨hb,h3⟩:=h1
        rw[hn]
        exact ⟨hb,swI_wp _ _ h3 (by omega) (by omega)⟩
      · exact h
    · exact h.elim
  · exact h
def aExtract (x:Av) (ix:Nat):T Av:=
  match x with
  | .tup l=>optT l[ix]? .ret
  | _=>.fail
def aLen (P:Program) (argTypes:Array TypeId) (x:Av):T Av:=
  match x with
  | .one (.os _ n _)=>match argTypes[0]? with
    | some t=>match P.underlying t with
      | some (.slice _)=>.ret (.one (.v (.int .i64 n)))
      | _=>.fail
    | _=>.fail
  | .one (.ds _ xs)=>match argTypes[0]? with
    | some t=>match P.underlying t with
      | some (.slice _)=>.ret (.one (.v (.int .i64 xs.length)))
      | _=>.fail
    | _=>.fail
  | _=>.fail
def aRest (P:Program) (fr:List Av) (o:Oper):T Av:=optN (plain P fr o) fun v=>.ret (.one (.v v))
def aRestI (P:Program) (fr:List Av) (o:Oper):T Av:=optN (plain P fr o) fun v=>match v with
  | .int k z=>.lt z fun z=>.ret (.one (.v (.int k z)))
  | v=>.ret (.one (.v v))
theorem restI {P:Program} {fr:List Av} {o:Oper} {K:Av→Prop} (h:(aRestI P fr o).wp K):(aRest P fr o).wp K:=by
  obtain ⟨v,hv,h⟩:=optN_wp h
  unfold aRest
  rw[hv]
  cases v <;> exact h
def castRow (c c':Cd) (xs:List (El c)):Option (List (El c')):=if h:c=c' then some (h ▸ xs) else none
def bytesOf (xs:List Int):ByteArray:=⟨(xs.map fun z=>UInt8.ofNat z.toNat).toArray⟩
def toStr (P:Program) (s d:TypeId):Bool:=match P.underlying s,P.underlying d with
  | some (.slice e),some .string=>match P.underlying e with
    | some (.int .u8)=>true
    | _=>false
  | _,_=>false
def aConv (P:Program) (ok:Nat→Bool) (m:Mem) (fr:List Av) (o:Oper) (s d:TypeId) (x:Av):T Av:=
  match x with
  | .one (.os i n _)=>if ok i then optT m[i]? fun (_,cs)=>match cs with
      | [.row c xs _]=>match toStr P s d with
        | true=>optT (castRow c (.int .u8) xs) fun (xs:List Int)=>.need (n≤xs.length) (.ret (.one (.v (.string (bytesOf (xs.take n))))))
        | false=>.fail
      | _=>.fail else .fail
  | .one (.ds c xs)=>match toStr P s d with
    | true=>optT (castRow c (.int .u8) xs) fun (xs:List Int)=>.ret (.one (.v (.string (bytesOf xs))))
    | false=>.fail
  | _=>aRest P fr o
def isDs:Av→Bool
  | .one (.ds ..)=>true
  | .one (.os ..)=>true
  | _=>false
def aBuild (P:Program) (Z:List (Zero P)) (t:TypeId) (parts:List (Nat×Av)):T Av:=
  optT (Z.find? fun z=>z.ty==t) fun z=>optN (placesP P t) fun pl=>optT (aFill pl parts z.cs) fun cs=>.ret (.agg cs)
def aIndex (P:Program) (t:TypeId) (x ix:Av):T Av:=
  match x,ix with
  | .agg cs,.one (.v (.int _ z))=>match P.underlying t with
    | some (.array len e)=>optN (sizeP P e) fun n=>optN (rowP P e) fun row=>.need (0≤z∧z<len) (optT (sub (z.toNat*n) n cs) fun m=>optT (mkOf row m) .ret)
    | _=>.fail
  | .one (.v (.string s)),.one (.v (.int _ z))=>match P.underlying t with
    | some .string=>.get s.data.toList z fun b=>.ret (.one (.v (.int .u8 b.toNat)))
    | _=>.fail
  | _,_=>.fail
def aIndexT (P:Program) (t:TypeId) (x ix:Av):T Av:=
  match x,ix with
  | .agg cs,.one (.v (.int _ z))=>match P.underlying t with
    | some (.array len e)=>optN (sizeP P e) fun n=>optN (rowP P e) fun row=>.need (0≤z∧z<len) (swI z (fun i=>optT (sub (i*n) n cs) fun m=>optT (mkOf row m) .ret) (len-1) 0)
    | _=>.fail
  | x,ix=>aIndex P t x ix
theorem indexT_wp {P:Program} {t:TypeId} {x ix:Av} {K:Av→Prop} (h:(aIndexT P t x ix).wp K):(aIndex P t x ix).wp K:=by
  unfold aIndexT at h
  split at h
  · rename_i cs k z
    unfold aIndex
    split at h
    · rename_i len e hu
      simp only[hu]
      obtain ⟨n,hn,h1⟩:=optN_wp h
      obtain ⟨row,hrow,h2⟩:=optN_wp h1
      obtain ⟨hb,h3⟩:=h2
      rw[hn,hrow]
      exact ⟨hb,swI_wp _ _ h3 (by omega) (by omega)⟩
    · exact h.elim
  · exact h
def aBound (fr:List Av) (x:Option Operand) (d:Int) (f:Int→T Av):T Av:=
  match x with
  | none=>f d
  | some x=>match operand fr x with
    | .one (.v (.int _ z))=>f z
    | _=>.fail
def aSlice (P:Program) (fr:List Av) (t:TypeId) (x:Av) (lo hi mx:Option Operand):T Av:=
  match mx with
  | some _=>.fail
  | none=>match x with
    | .one (.ds c xs)=>match P.underlying t with
      | some (.slice e)=>optN (sizeP P e) fun n=>if n=csz c then aBound fr lo 0 fun l=>aBound fr hi xs.length fun h=>.need (0≤l∧l≤h∧h≤xs.length) (.ret (.one (.ds c ((xs.take h.toNat).drop l.toNat)))) else .fail
      | _=>.fail
    | .one (.v (.string s))=>match P.underlying t with
      | some .string=>aBound fr lo 0 fun l=>aBound fr hi s.size fun h=>.need (0≤l∧l≤h∧h≤s.size) (.lt (s.extract l.toNat h.toNat) fun u=>.ret (.one (.v (.string u))))
      | _=>.fail
    | .one (.p i off)=>match off,lo,hi,P.underlying t with
      | 0,none,none,some (.array len e)=>optN (sizeP P e) fun _=>.ret (.one (.os i len len))
      | _,_,_,_=>.fail
    | _=>.fail
def asBoolA:Av→Option Bool
  | .one (.v (.bool b))=>some b
  | .one (.kb b)=>some b
  | _=>none
def eqFs (P:Program) (rec:TypeId→Av→Av→Option Bool) (xs ys:List Ck):List Field→Option Bool
  | []=>some true
  | f::r=>match f.name == "_" with
    | true=>none
    | false=>match sizeP P f.type,rowP P f.type with
      | some n,some row=>match sub f.offset n xs,sub f.offset n ys with
        | some a,some b=>match mkOf row a,mkOf row b with
          | some x,some y=>match rec f.type x y,eqFs P rec xs ys r with
            | some p,some q=>some (p&&q)
            | _,_=>none
          | _,_=>none
        | _,_=>none
      | _,_=>none
def eqIs (P:Program) (rec:TypeId→Av→Av→Option Bool) (e:TypeId) (n:Nat) (row:Bool) (xs ys:List Ck):List Nat→Option Bool
  | []=>some true
  | i::r=>match sub (i*n) n xs,sub (i*n) n ys with
    | some a,some b=>match mkOf row a,mkOf row b with
      | some x,some y=>match rec e x y,eqIs P rec e n row xs ys r with
        | some p,some q=>some (p&&q)
        | _,_=>none
      | _,_=>none
    | _,_=>none
def aEqv (P:Program):Nat→TypeId→Av→Av→Option Bool
  | 0,_,_,_=>none
  | m+1,t,x,y=>match P.underlying t with
    | some .bool=>match asBoolA x,asBoolA y with
      | some a,some b=>some (a==b)
      | _,_=>none
    | some (.int _)=>match x,y with
      | .one (.v (.int k a)),.one (.v (.int k' b))=>if k=k' then some (a==b) else none
      | _,_=>none
    | some .string=>match x,y with
      | .one (.v (.string a)),.one (.v (.string b))=>some (a.toList==b.toList)
      | _,_=>none
    | some (.struct fs)=>match x,y with
      | .agg xs,.agg ys=>match P.stoodInHeld t with
        | true=>none
        | false=>eqFs P (aEqv P m) xs ys fs.toList
      | _,_=>none
    | some (.array n e)=>match P.underlying e,sizeP P e with
      | some (.int _),some 1=>match x,y with
        | .agg [.w a],.agg [.w b]=>if n=32 then some (a.1==b.1) else none
        | .agg xs,.agg ys=>eqIs P (aEqv P m) e 1 false xs ys (List.range n)
        | _,_=>none
      | some d,some c=>match x,y with
        | .agg xs,.agg ys=>eqIs P (aEqv P m) e c d.isRow xs ys (List.range n)
        | _,_=>none
      | _,_=>none
    | _=>none
def isStr:Av→Option ByteArray
  | .one (.v (.string s))=>some s
  | _=>none
def isInt:Av→Option (IntKind×Int)
  | .one (.v (.int k z))=>some (k,z)
  | _=>none
def aBin (P:Program) (fr:List Av) (o:Oper) (b:BinOp) (t:TypeId) (x y:Av):T Av:=
  match b with
  | .add=>match isStr x,isStr y with
    | some s,some t=>.need (((s.size+t.size:Nat):Int)≤IntKind.i64.max) (.lt (s++t) fun u=>.ret (.one (.v (.string u))))
    | _,_=>aRest P fr o
  | .eql=>match x,y with
    | .agg _,.agg _=>match P.eqGuardType P.depth t with
      | true=>.fail
      | false=>optN (aEqv P 12 t x y) fun b=>.ret (.one (.v (.bool b)))
    | _,_=>aRest P fr o
  | .neq=>match x,y with
    | .agg _,.agg _=>match P.eqGuardType P.depth t with
      | true=>.fail
      | false=>optN (aEqv P 12 t x y) fun b=>.ret (.one (.v (.bool (!b))))
    | .one .ni,.one (.v .nilIface)=>match P.isIface t with
      | true=>.ret (.one (.kb true))
      | false=>.fail
    | _,_=>aRest P fr o
  | .quo=>match isInt x,isInt y with
    | some (k,a),some (k',c)=>if k=k' then .need (c≠0) (.ret (.one (.v (.int k (k.wrap (a.tdiv c)))))) else .fail
    | _,_=>aRest P fr o
  | .rem=>match isInt x,isInt y with
    | some (k,a),some (k',c)=>if k=k' then .need (c≠0) (.ret (.one (.v (.int k (a.tmod c))))) else .fail
    | _,_=>aRest P fr o
  | .shl=>match o.op with
    | .binOp _ _ _ (.tmp _) _=>match isInt x,isInt y with
      | some (k,a),some (_,c)=>.need (0≤c) (.ret (.one (.v (.int k (k.wrap (a*2^min c.toNat k.bits))))))
      | _,_=>aRest P fr o
    | _=>aRest P fr o
  | .shr=>match o.op with
    | .binOp _ _ _ (.tmp _) _=>match isInt x,isInt y with
      | some (k,a),some (_,c)=>.need (0≤c) (.ret (.one (.v (.int k (a.fdiv (2^min c.toNat k.bits))))))
      | _,_=>aRest P fr o
    | _=>aRest P fr o
  | _=>aRest P fr o
def aS (P:Program) (Z:List (Zero P)) (ok:Nat→Bool) (m:Mem) (fr:List Av) (o:Oper):T Av:=
  match o.op with
  | .move x|.assign x=>.ret (operand fr x)
  | .pick c x y=>match operand fr c with
    | .one (.kb true)=>.ret (operand fr x)
    | .one (.kb false)=>.ret (operand fr y)
    | _=>aRest P fr o
  | .extract t ix=>aExtract (operand fr t) ix
  | .field t x f=>aField P t f (operand fr x)
  | .load t x=>aLoad P ok m t (operand fr x)
  | .fieldAddr t x f=>aFieldAddr P t (operand fr x) f
  | .nilCheck x=>aNil (operand fr x)
  | .indexAddr t x ix=>match ix with
    | .tmp _=>aIndexAddrT P m t (operand fr x) (operand fr ix)
    | _=>aIndexAddr P m t (operand fr x) (operand fr ix)
  | .build t parts=>aBuild P Z t (parts.toList.map fun p=>(p.1,operand fr p.2))
  | .index t x ix=>match ix with
    | .tmp _=>aIndexT P t (operand fr x) (operand fr ix)
    | _=>aIndex P t (operand fr x) (operand fr ix)
  | .slice t x lo hi mx=>aSlice P fr t (operand fr x) lo hi mx
  | .binOp b t x y _=>aBin P fr o b t (operand fr x) (operand fr y)
  | .convert s d x=>aConv P ok m fr o s d (operand fr x)
  | .call { callee:=.builtin .len,args:=ars,argTypes:=ts }=>match ars[0]? with
    | some x=>if isDs (operand fr x) then aLen P ts (operand fr x) else aRest P fr o
    | none=>.fail
  | .call { callee:=.builtin .max,.. }=>aRestI P fr o
  | .call { callee:=.builtin .min,.. }=>aRestI P fr o
  | .unOp .not _ x=>match operand fr x with
    | .one (.kb true)=>.ret (.one (.kb false))
    | .one (.kb false)=>.ret (.one (.kb true))
    | _=>aRest P fr o
  | _=>aRest P fr o
section
variable {P:Program} {w:World} {R:Nat→Prop} {σ:List Nat} {ok:Nat→Bool} {m:Mem} {fr:List Av} {a:Act} {o:Oper} {K:Av→Prop}
structure Look (w:World) (R:Nat→Prop) (σ:List Nat) (ok:Nat→Bool) (w':World):Prop where
  ro : ∀ b,R b→w'.heap[b]?=w.heap[b]?
  own : ∀ i b:Nat,ok i=true→σ[i]?=some b→w'.heap[b]?=w.heap[b]?
structure MemS (w:World) (R:Nat→Prop) (σ:List Nat) (ok:Nat→Bool) (m:Mem):Prop where
  some_ : ∀ i:Nat,i<m.length→i<σ.length
  blk : ∀ (i:Nat) (t:TypeId) (cs:List Ck) (b:Nat),ok i=true→m[i]?=some (t,cs)→σ[i]?=some b → ∃ us:List Value,w.heap[b]?=some (.cells us.toArray t (0,0))∧Is w R σ cs us
def Tells (P:Program) (w:World) (R:Nat→Prop) (σ:List Nat) (ok:Nat→Bool) (a:Act) (o:Oper) (K:Av→Prop):Prop:=
  ∃ av v,K av∧AvIs w R σ av v ∧ ∀ w',Look w R σ ok w'→(execOp a.eval o).run P w'=.ok (.value v) w'
theorem is_one_p {i off:Nat} {u:Value} (h:AvIs w R σ (.one (.p i off)) u) : ∃ b,σ[i]?=some b∧u=.pointer (some ⟨b,off,none⟩):=by
  cases h with|one _ h=>cases h with|p h _=>exact ⟨_,h,rfl⟩
theorem is_one_pr {cs:List Ck} {u:Value} (h:AvIs w R σ (.one (.pr cs)) u) : ∃ b o vs,R b∧w.rangeAt b o vs∧Is w R [] cs vs∧u=.pointer (some ⟨b,o,none⟩):=by
  cases h with|one _ h=>cases h with|pr h1 h2 h3 _=>exact ⟨_,_,_,h1,h2,h3,rfl⟩
theorem tells_rest (hf:FrOk w R σ fr a) (h:(aRest P fr o).wp K):Tells P w R σ ok a o K:=by
  obtain ⟨v,hv,hK⟩:=optN_wp h
  have:=plain_ok hf hv
  exact ⟨_,v,hK,.val this.1,fun w' _=>this.2 w'⟩
theorem range_of_block {b:Nat} {us:List Value} {t:TypeId} (h:w.heap[b]?=some (.cells us.toArray t (0,0))):w.rangeAt b 0 us:=Pq.range_block h
theorem range_get {b o:Nat} {us um:List Value} (h:w.rangeAt b 0 us) (hg : ∀ (j:Nat) u,um[j]?=some u→us[o+j]?=some u):w.rangeAt b o um:=fun j u hj=>by
  have:=h (o+j) u (hg j u hj)
  simpa [Addr.add] using this
theorem is_one_pe {i off sz:Nat} {k:Int} {u:Value} (h:AvIs w R σ (.one (.pe i off sz k)) u) : ∃ b,σ[i]?=some b∧0≤k∧u=.pointer (some ⟨b,off+k.toNat*sz,none⟩):=by
  cases h with|one _ h=>cases h with|pe h h2 _=>exact ⟨_,h,h2,rfl⟩
theorem is_one_os {i n cap:Nat} {u:Value} (h:AvIs w R σ (.one (.os i n cap)) u) : ∃ b,σ[i]?=some b∧n≤cap∧u=.slice (some ⟨b,0,none⟩) n cap:=by
  cases h with|one _ h=>cases h with|os h h2 _=>exact ⟨_,h,h2,rfl⟩
theorem words_at {off:Nat} {cs l r:List Ck} {a:Amt} {us:List Value} (his:Is w R σ cs us) (h:wordsAt off cs=some (l,a,r)) :
    ∃ ua ub,us=ua++(Pq.am 32 a.1++ub)∧ua.length=off∧Is w R σ l ua∧Is w R σ r ub:=by
  unfold wordsAt at h
  split at h
  · rename_i l' a' r' hc
    cases h
    obtain ⟨ua,ub,rfl,e1,i1,i2,_⟩:=is_cut _ _ _ _ _ his hc
    cases i2 with
    | w i3=>exact ⟨ua,_,rfl,e1,i1,i3⟩
  · cases h
theorem is_row {c:Cd} {xs:List (El c)} {cap:Nat} {us:List Value} (h:Is w R σ [.row c xs cap] us) : ∃ g:Nat→List Value,us.length=cap*csz c∧xs.length≤cap∧cap≤maxLen∧(∀ u∈us,u.oneCell'=true) ∧
    (∀ i x,xs[i]?=some x→(g i).length=csz c)∧(∀ i x,xs[i]?=some x→Is w R [] (ck c x) (g i))∧(∀ i x,xs[i]?=some x → ∀ j u,(g i)[j]?=some u→us[i*csz c+j]?=some u):=by
  cases h with
  | row g h1 h2 h3 h4 h5 h6 h7 h8 h9 =>
    cases h8
    rw[List.append_nil]at h9
    subst h9
    exact ⟨g,h1,h2,h3,h4,h5,h6,h7⟩
theorem tells_load (hm:MemS w R σ ok m) (hf:FrOk w R σ fr a) {t:TypeId} {x:Operand} (ho:o.op=.load t x) (h:(aLoad P ok m t (operand fr x)).wp K):Tells P w R σ ok a o K:=by
  have hx:=operand_is hf x
  unfold aLoad at h
  split at h
  · rename_i i off sz k hop
    rw[hop]at hx
    obtain ⟨b,hb,h0,hxe⟩:=is_one_pe hx
    split at h
    · rename_i hok
      obtain ⟨⟨ty,cs⟩,hmi,h_⟩:=optT_wp h;clear h;have h:=h_;clear h_
      obtain ⟨us,hbl,his⟩:=hm.blk i ty cs b hok hmi hb
      unfold aLoadE at h
      obtain ⟨n,hn,h_⟩:=optN_wp h;clear h;have h:=h_;clear h_
      obtain ⟨row,hrow,h_⟩:=optN_wp h;clear h;have h:=h_;clear h_
      split at h
      · rename_i hnz
        have hnz:=of_decide_eq_true hnz
        subst hnz
        split at h
        · rename_i l a' r hw
          obtain ⟨ua,ub,rfl,e1,_,_⟩:=words_at his hw
          split at h
          · rename_i h1
            have h1:=of_decide_eq_true h1
            subst h1
            obtain ⟨hk,h⟩:=h
            obtain ⟨v,g1,g2⟩:=run_read (w:=w) (R:=R) (σ:=σ) (b:=b) (o:=off+k.toNat*1) (w':=w) (m:=[.v (.int .u32 (Pq.wd a'.1 k.toNat:Nat))]) (um:=[.int .u32 (Pq.wd a'.1 k.toNat:Nat)]) hn hrow rfl (.v rfl .nil) rfl
            refine ⟨_,v,h,g1,fun w' hl=>?_⟩
            have hr:w.rangeAt b (off+k.toNat*1) [.int .u32 (Pq.wd a'.1 k.toNat:Nat)]:=range_get (range_of_block hbl) (fun j u hj=>by
              match j,hj with
              | 0,hj =>
                cases hj
                rw[Nat.mul_one,Nat.add_zero,List.getElem?_append_right (by omega),show off+k.toNat-ua.length=k.toNat from by omega,List.getElem?_append_left (by rw[Pq.am_length];omega)]
                exact Pq.am_get (by omega))
            have:=g2 w' (rangeAt_block (hl.own i b hok hb) hr)
            unfold execOp
            simp only[ho,hxe,Instr.loadAt,Instr.sureAddr,Sem.run_bind,Sem.run_pure,Result.andThen_ok,this,Sem.run_map]
          · exact h.elim
        · split at h
          · rename_i c xs cap _
            split at h
            · rename_i h1
              have h1:=of_decide_eq_true h1
              subst h1
              obtain ⟨y,_,hy,h⟩:=h
              obtain ⟨av,hav,h_⟩:=optT_wp h;clear h;have h:=h_;clear h_
              obtain ⟨g,r1,r2,r3,r4,r5,r6,r7⟩:=is_row his
              obtain ⟨v,g1,g2⟩:=run_read (b:=b) (o:=0+k.toNat*csz c) (w':=w) hn hrow (r5 _ _ hy) ((r6 _ _ hy).none σ) hav
              refine ⟨_,v,h,g1,fun w' hl=>?_⟩
              have hr:w.rangeAt b (0+k.toNat*csz c) (g k.toNat):=range_get (range_of_block hbl) (fun j u hj=>by
                rw[Nat.zero_add];exact r7 _ _ hy j u hj)
              have:=g2 w' (rangeAt_block (hl.own i b hok hb) hr)
              unfold execOp
              simp only[ho,hxe,Instr.loadAt,Instr.sureAddr,Sem.run_bind,Sem.run_pure,Result.andThen_ok,this,Sem.run_map]
            · exact h.elim
          · exact h.elim
      · exact h.elim
    · exact h.elim
  · rename_i i off hop
    rw[hop]at hx
    obtain ⟨b,hb,hxe⟩:=is_one_p hx
    split at h
    · rename_i hok
      obtain ⟨⟨ty,cs⟩,hmi,h_⟩:=optT_wp h;clear h;have h:=h_;clear h_
      obtain ⟨n,hn,h_⟩:=optN_wp h;clear h;have h:=h_;clear h_
      obtain ⟨row,hrow,h_⟩:=optN_wp h;clear h;have h:=h_;clear h_
      obtain ⟨c,hc,h_⟩:=optT_wp h;clear h;have h:=h_;clear h_
      obtain ⟨av,hav,h_⟩:=optT_wp h;clear h;have h:=h_;clear h_
      obtain ⟨us,hbl,his⟩:=hm.blk i ty cs b hok hmi hb
      obtain ⟨ua,um,ub,rfl,e1,e2,i2⟩:=is_sub his hc
      obtain ⟨v,h1,h2⟩:=run_read (b:=b) (o:=off) (w':=w) hn hrow e2 i2 hav
      refine ⟨av,v,h,h1,fun w' hl=>?_⟩
      have hr:=range_part (range_of_block hbl)
      rw[Nat.zero_add,e1]at hr
      have:=h2 w' (rangeAt_block (hl.own i b hok hb) hr)
      unfold execOp
      simp[ho,hxe,Instr.loadAt,Instr.sureAddr,Sem.run_bind,this]
    · exact h.elim
  · rename_i cs hop
    rw[hop]at hx
    obtain ⟨b,of,vs,hR,hrg,hcs,hxe⟩:=is_one_pr hx
    obtain ⟨n,hn,h_⟩:=optN_wp h;clear h;have h:=h_;clear h_
    obtain ⟨row,hrow,h_⟩:=optN_wp h;clear h;have h:=h_;clear h_
    obtain ⟨c,hc,h_⟩:=optT_wp h;clear h;have h:=h_;clear h_
    obtain ⟨av,hav,h_⟩:=optT_wp h;clear h;have h:=h_;clear h_
    obtain ⟨ua,um,ub,rfl,e1,e2,i2⟩:=is_sub hcs hc
    obtain ⟨v,h1,h2⟩:=run_read (b:=b) (o:=of) (w':=w) hn hrow e2 (i2.none σ) hav
    refine ⟨av,v,h,h1,fun w' hl=>?_⟩
    have hr:=range_part hrg
    rw[e1,Nat.add_zero]at hr
    have:=h2 w' (rangeAt_block (hl.ro b hR) hr)
    unfold execOp
    simp[ho,hxe,Instr.loadAt,Instr.sureAddr,Sem.run_bind,this]
  · exact h.elim
theorem tells_field (hf:FrOk w R σ fr a) {t:TypeId} {x:Operand} {f:Nat} (ho:o.op=.field t x f) (h:(aField P t f (operand fr x)).wp K):Tells P w R σ ok a o K:=by
  have hx:=operand_is hf x
  unfold aField at h
  split at h
  · rename_i cs hop
    rw[hop]at hx
    obtain ⟨⟨off,ft⟩,hfp,h_⟩:=optN_wp h;clear h;have h:=h_;clear h_
    obtain ⟨n,hn,h_⟩:=optN_wp h;clear h;have h:=h_;clear h_
    obtain ⟨row,hrow,h_⟩:=optN_wp h;clear h;have h:=h_;clear h_
    obtain ⟨c,hc,h_⟩:=optT_wp h;clear h;have h:=h_;clear h_
    obtain ⟨av,hav,h_⟩:=optT_wp h;clear h;have h:=h_;clear h_
    obtain ⟨fs,fd,hu,hfd,rfl,rfl⟩:=fieldP_ok hfp
    generalize hxe:a.eval x=xv at hx
    cases hx with
    | agg his =>
    rename_i us
    obtain ⟨ua,um,ub,rfl,e1,e2,i2⟩:=is_sub his hc
    obtain ⟨d,hd,hdr⟩:=rowP_ok hrow
    cases row with
    | true =>
      simp only[mkOf,if_true,Option.some.injEq]at hav
      subst hav
      refine ⟨_,.agg um.toArray,h,.agg i2,fun w' _=>?_⟩
      unfold execOp
      have e:(ua++(um++ub)).toArray.extract fd.offset (fd.offset+n)=um.toArray:=by
        rw[List.extract_toArray]
        congr 1
        rw[List.extract_eq_take_drop,←e1,List.drop_left,Nat.add_sub_cancel_left,←e2,List.take_left]
      simp[ho,hxe,Instr.field,Sem.run_bind,run_underlying hu,hfd,asAgg,part,run_isAgg hd,hdr,run_size (sizeP_ok hn),e]
      rw[←e1,List.drop_left,←e2,List.take_left]
    | false =>
      simp only[mkOf,Bool.false_eq_true,if_false]at hav
      split at hav
      · rename_i c
        split at hav
        · rename_i h1
          cases hav
          obtain ⟨va,vb,rfl,g1,i1,i3⟩:=i2.head
          cases i3
          rw[h1]at g1
          obtain ⟨u,rfl⟩ : ∃ u,va=[u]:=by
            match va,g1 with
            | [u],_=>exact ⟨u,rfl⟩
          refine ⟨_,u,h,.one h1 i1,fun w' _=>?_⟩
          unfold execOp
          have e:(ua++([u]++[]++ub)).toArray[fd.offset]?=some u:=by
            rw[List.getElem?_toArray,←e1,List.getElem?_append_right (Nat.le_refl _),Nat.sub_self];rfl
          have e':(ua++u::ub)[fd.offset]?=some u:=by simpa using e
          simp[ho,hxe,Instr.field,Sem.run_bind,run_underlying hu,hfd,asAgg,part,run_isAgg hd,hdr,e']
        · cases hav
      · cases hav
  · exact h.elim
theorem tells_fieldAddr (hf:FrOk w R σ fr a) {t:TypeId} {x:Operand} {f:Nat} (ho:o.op=.fieldAddr t x f) (h:(aFieldAddr P t (operand fr x) f).wp K):Tells P w R σ ok a o K:=by
  have hx:=operand_is hf x
  unfold aFieldAddr at h
  split at h
  · rename_i i off hop
    rw[hop]at hx
    obtain ⟨b,hb,hxe⟩:=is_one_p hx
    obtain ⟨⟨fo,ft⟩,hfp,h_⟩:=optN_wp h;clear h;have h:=h_;clear h_
    obtain ⟨n,hn,h_⟩:=optN_wp h;clear h;have h:=h_;clear h_
    by_cases hn0:n=0
    · rw[if_pos hn0]at h;exact h.elim
    · rw[if_neg hn0]at h
      obtain ⟨fs,fd,hu,hfd,rfl,rfl⟩:=fieldP_ok hfp
      refine ⟨_,.pointer (some ⟨b,off+fd.offset,none⟩),h,.one rfl (.p hb .nil),fun w' _=>?_⟩
      unfold execOp
      simp[ho,hxe,Instr.fieldAt,Sem.run_bind,run_underlying hu,hfd,Instr.sureAddr,fieldPlace,run_size (sizeP_ok hn),hn0,Addr.add_mid]
  · rename_i cs hop
    rw[hop]at hx
    obtain ⟨b,of,vs,hR,hrg,hcs,hxe⟩:=is_one_pr hx
    obtain ⟨⟨fo,ft⟩,hfp,h_⟩:=optN_wp h;clear h;have h:=h_;clear h_
    obtain ⟨n,hn,h_⟩:=optN_wp h;clear h;have h:=h_;clear h_
    by_cases hn0:n=0
    · rw[if_pos hn0]at h;exact h.elim
    · rw[if_neg hn0]at h
      obtain ⟨⟨ca,cb⟩,hcut,h_⟩:=optT_wp h;clear h;have h:=h_;clear h_
      obtain ⟨fs,fd,hu,hfd,rfl,rfl⟩:=fieldP_ok hfp
      obtain ⟨ua,ub,rfl,e1,i1,i2,_⟩:=is_cut _ _ _ _ _ hcs hcut
      have hr2:=(Pq.range_app hrg).2
      rw[e1]at hr2
      refine ⟨_,.pointer (some ⟨b,of+fd.offset,none⟩),h,.one rfl (.pr hR hr2 i2 .nil),fun w' _=>?_⟩
      unfold execOp
      simp[ho,hxe,Instr.fieldAt,Sem.run_bind,run_underlying hu,hfd,Instr.sureAddr,fieldPlace,run_size (sizeP_ok hn),hn0,Addr.add_mid]
  · exact h.elim
theorem tells_nil (hf:FrOk w R σ fr a) {x:Operand} (ho:o.op=.nilCheck x) (h:(aNil (operand fr x)).wp K):Tells P w R σ ok a o K:=by
  have hx:=operand_is hf x
  unfold aNil at h
  split at h
  · rename_i i off hop
    rw[hop]at hx
    obtain ⟨b,hb,hxe⟩:=is_one_p hx
    refine ⟨_,_,h,hx,fun w' _=>?_⟩
    unfold execOp
    simp[ho,hxe]
  · rename_i cs hop
    rw[hop]at hx
    obtain ⟨b,of,vs,hR,hrg,hcs,hxe⟩:=is_one_pr hx
    refine ⟨_,_,h,hx,fun w' _=>?_⟩
    unfold execOp
    simp[ho,hxe]
  · exact h.elim
theorem tells_extract (hf:FrOk w R σ fr a) {x:Operand} {ix:Nat} (ho:o.op=.extract x ix) (h:(aExtract (operand fr x) ix).wp K):Tells P w R σ ok a o K:=by
  have hx:=operand_is hf x
  unfold aExtract at h
  split at h
  · rename_i l hop
    rw[hop]at hx
    obtain ⟨av,hav,h_⟩:=optT_wp h;clear h;have h:=h_;clear h_
    generalize hxe:a.eval x=xv at hx
    cases hx with
    | tup us hl hi =>
    have hlt:ix<us.length:=by rw[hl];exact (List.getElem?_eq_some_iff.1 hav).1
    have hus:us[ix]?=some us[ix]:=List.getElem?_eq_getElem hlt
    refine ⟨av,us[ix],h,hi ix av _ hav hus,fun w' _=>?_⟩
    unfold execOp
    simp[ho,hxe,Instr.extract,hlt]
  · exact h.elim
theorem is_ds {c:Cd} {xs:List (El c)} {u:Value} (h:AvIs w R σ (.one (.ds c xs)) u) :
    (xs=[]∧u=.slice none 0 0)∨(xs=[] ∧ ∃ (a:Addr) (cap:Nat),u=.slice (some a) 0 cap) ∨ ∃ (b o cap:Nat) (g:Nat→List Value),u=.slice (some ⟨b,o,none⟩) xs.length cap∧xs.length≤cap∧R b∧(∀ (i:Nat) x,xs[i]?=some x→(g i).length=csz c) ∧
      (∀ (i:Nat) x,xs[i]?=some x→Is w R [] (ck c x) (g i))∧(∀ (i:Nat) x,xs[i]?=some x→w.rangeAt b (o+i*csz c) (g i)):=by
  cases h with|one _ h =>
  cases h with
  | dn _=>exact .inl ⟨rfl,rfl⟩
  | de a cap _=>exact .inr (.inl ⟨rfl,a,cap,rfl⟩)
  | ds g h1 h2 h3 h4 h5 _=>exact .inr (.inr ⟨_,_,_,g,rfl,h1,h2,h3,h4,h5⟩)
theorem is_int {k:IntKind} {z:Int} {u:Value} (h:AvIs w R σ (.one (.v (.int k z))) u):u=.int k z:=val_of h rfl
theorem tells_indexAddr (hf:FrOk w R σ fr a) {t:TypeId} {x ix:Operand} (ho:o.op=.indexAddr t x ix) (h:(aIndexAddr P m t (operand fr x) (operand fr ix)).wp K):Tells P w R σ ok a o K:=by
  have hx:=operand_is hf x
  have hi:=operand_is hf ix
  unfold aIndexAddr at h
  split at h
  · rename_i i n cap k z hop hop2
    rw[hop]at hx
    rw[hop2]at hi
    have hie:=is_int hi
    obtain ⟨b,hb,hcap,hxe⟩:=is_one_os hx
    split at h
    · rename_i e hu
      obtain ⟨sz,hn,h_⟩:=optN_wp h;clear h;have h:=h_;clear h_
      obtain ⟨⟨h0,h1⟩,h⟩:=h
      refine ⟨_,.pointer (some ⟨b,0+z.toNat*sz,none⟩),h,.one rfl (.pe hb h0 .nil),fun w' _=>?_⟩
      unfold execOp
      simp[ho,hxe,hie,Instr.indexAt,asIntOf,Sem.run_bind,run_underlying hu,h0,h1,run_size (sizeP_ok hn),Addr.add_mid]
    · exact h.elim
  · rename_i c xs k z hop hop2
    rw[hop]at hx
    rw[hop2]at hi
    have hie:=is_int hi
    split at h
    · rename_i e hu
      obtain ⟨n,hn,h_⟩:=optN_wp h;clear h;have h:=h_;clear h_
      by_cases hnz:n=csz c
      · rw[if_pos hnz]at h
        subst hnz
        obtain ⟨y,h0,hy,h⟩:=h
        have hlt:z.toNat<xs.length:=(List.getElem?_eq_some_iff.1 hy).1
        rcases is_ds hx with ⟨rfl,_⟩|⟨rfl,_⟩|⟨b,of,cap,g,hxe,hc,hR,g1,g2,g3⟩
        · simp at hy
        · simp at hy
        · refine ⟨_,.pointer (some ⟨b,of+z.toNat*csz c,none⟩),h,.one rfl (.pr hR (g3 _ _ hy) (g2 _ _ hy) .nil),fun w' _=>?_⟩
          have hz:z<(xs.length:Int):=by omega
          unfold execOp
          simp[ho,hxe,hie,Instr.indexAt,asIntOf,Sem.run_bind,run_underlying hu,h0,hz,run_size (sizeP_ok hn),Addr.add_mid]
      · rw[if_neg hnz]at h;exact h.elim
    · exact h.elim
  · rename_i i off k z hop hop2
    rw[hop]at hx
    rw[hop2]at hi
    have hie:=is_int hi
    obtain ⟨b,hb,hxe⟩:=is_one_p hx
    split at h
    · rename_i len e hu
      obtain ⟨n,hn,h_⟩:=optN_wp h;clear h;have h:=h_;clear h_
      obtain ⟨⟨h0,h1⟩,h⟩:=h
      split at h
      · refine ⟨_,.pointer (some ⟨b,off+z.toNat*n,none⟩),h,.one rfl (.pe hb h0 .nil),fun w' _=>?_⟩
        unfold execOp
        simp[ho,hxe,hie,Instr.indexAt,asIntOf,Instr.sureAddr,Sem.run_bind,run_underlying hu,h0,h1,run_size (sizeP_ok hn),Addr.add_mid]
      · refine ⟨_,.pointer (some ⟨b,off+z.toNat*n,none⟩),h,.one rfl (.p hb .nil),fun w' _=>?_⟩
        unfold execOp
        simp[ho,hxe,hie,Instr.indexAt,asIntOf,Instr.sureAddr,Sem.run_bind,run_underlying hu,h0,h1,run_size (sizeP_ok hn),Addr.add_mid]
    · exact h.elim
  · rename_i cs k z hop hop2
    rw[hop]at hx
    rw[hop2]at hi
    have hie:=is_int hi
    obtain ⟨b,of,vs,hR,hrg,hcs,hxe⟩:=is_one_pr hx
    split at h
    · rename_i len e hu
      obtain ⟨n,hn,h_⟩:=optN_wp h;clear h;have h:=h_;clear h_
      obtain ⟨⟨h0,h1⟩,h⟩:=h
      obtain ⟨⟨ca,cb⟩,hcut,h_⟩:=optT_wp h;clear h;have h:=h_;clear h_
      obtain ⟨ua,ub,rfl,e1,i1,i2,_⟩:=is_cut _ _ _ _ _ hcs hcut
      have hr2:=(Pq.range_app hrg).2
      rw[e1]at hr2
      refine ⟨_,.pointer (some ⟨b,of+z.toNat*n,none⟩),h,.one rfl (.pr hR hr2 i2 .nil),fun w' _=>?_⟩
      unfold execOp
      simp[ho,hxe,hie,Instr.indexAt,asIntOf,Instr.sureAddr,Sem.run_bind,run_underlying hu,h0,h1,run_size (sizeP_ok hn),Addr.add_mid]
    · exact h.elim
  · exact h.elim
theorem tells_len (hf:FrOk w R σ fr a) {ars:Array Operand} {ts:Array TypeId} {x:Operand} (ho:o.op=.call { callee:=.builtin .len,args:=ars,argTypes:=ts }) (hx0:ars[0]?=some x)
    (h:(aLen P ts (operand fr x)).wp K):Tells P w R σ ok a o K:=by
  have hx:=operand_is hf x
  unfold aLen at h
  split at h
  · rename_i i n cap hop
    rw[hop]at hx
    obtain ⟨b,hb,hcap,hxe⟩:=is_one_os hx
    split at h
    · rename_i t ht
      split at h
      · rename_i e hu
        refine ⟨_,.int .i64 n,h,.val rfl,fun w' _=>?_⟩
        have hm:(ars.map a.eval)[0]?=some (.slice (some ⟨b,0,none⟩) n cap):=by simp[hx0,hxe]
        unfold execOp
        simp only[ho,resolve,Sem.run_bind,Sem.run_pure,Result.andThen_ok,invoke,builtin,Builtin.len_,hm,ht,run_underlying hu,goInt]
      · exact h.elim
    · exact h.elim
  · rename_i c xs hop
    rw[hop]at hx
    split at h
    · rename_i t ht
      split at h
      · rename_i e hu
        have he : ∃ p cap,a.eval x=.slice p xs.length cap:=by
          rcases is_ds hx with ⟨rfl,h1⟩|⟨rfl,a',cap,h1⟩|⟨b,of,cap,g,hxe,_⟩
          · exact ⟨none,0,h1⟩
          · exact ⟨_,_,h1⟩
          · exact ⟨_,_,hxe⟩
        obtain ⟨p,cap,hxe⟩:=he
        refine ⟨_,.int .i64 xs.length,h,.val rfl,fun w' _=>?_⟩
        have hm:(ars.map a.eval)[0]?=some (.slice p xs.length cap):=by simp[hx0,hxe]
        unfold execOp
        simp only[ho,resolve,Sem.run_bind,Sem.run_pure,Result.andThen_ok,invoke,builtin,Builtin.len_,hm,ht,run_underlying hu,goInt]
      · exact h.elim
    · exact h.elim
  · exact h.elim
theorem tells_build {Z:List (Zero P)} (hf:FrOk w R σ fr a) {t:TypeId} {parts:Array (Nat×Operand)} (ho:o.op=.build t parts) (h:(aBuild P Z t (parts.toList.map fun p=>(p.1,operand fr p.2))).wp K):Tells P w R σ ok a o K:=by
  obtain ⟨z,hz,h1⟩:=optT_wp h
  obtain ⟨pl,hpl,h2⟩:=optN_wp h1
  obtain ⟨cs,hcs,h3⟩:=optT_wp h2
  have hty:z.ty=t:=by simpa using List.find?_some hz
  subst hty
  obtain ⟨it,zv,g1,g2,g3⟩:=zero_at z
  obtain ⟨us,hus,his⟩:=aFill_ok (w:=w) (R:=R) (σ:=σ) _ (parts.toList.map fun p=>(p.1,a.eval p.2)) _ cs _ hcs (z.is w R σ) (by simp) (fun i p q hp hq=>by
    rw[List.getElem?_map]at hp hq
    cases hx:parts.toList[i]? with
    | none=>rw[hx]at hp;simp at hp
    | some y =>
      rw[hx]at hp hq
      simp only[Option.map_some,Option.some.injEq]at hp hq
      subst hp;subst hq
      exact ⟨rfl,operand_is hf y.2⟩)
  rw[←g3]at hus
  have hb:=built_of g1 g2 hpl hus
  refine ⟨_,_,h3,.agg his,fun w' _=>?_⟩
  unfold execOp
  have hb':P.built z.ty (parts.map fun (i,x)=>(i,a.eval x)).toList=some us.toArray:=by rw[←hb];congr 1;simp[Array.toList_map]
  simp only[ho,Sem.run_bind,run_build w' z.ty _ _ hb',Result.andThen_ok,Sem.run_pure]
theorem mk_part {ua um ub:List Value} {m:List Ck} {n:Nat} {row:Bool} {e:TypeId} {av:Av} {d:TypeDesc} (hd:P.underlying e=some d) (hdr:d.isRow=row) (hn:sizeP P e=some n) (e2:um.length=n) (i2:Is w R σ m um) (hav:mkOf row m=some av) :
    ∃ v,AvIs w R σ av v ∧ ∀ w',(part e (ua++(um++ub)).toArray ua.length).run P w'=.ok v w':=by
  cases row with
  | true =>
    simp only[mkOf,if_true,Option.some.injEq]at hav
    subst hav
    refine ⟨_,.agg i2,fun w'=>?_⟩
    have e:(ua++(um++ub)).toArray.extract ua.length (ua.length+n)=um.toArray:=by
      rw[List.extract_toArray]
      congr 1
      rw[List.extract_eq_take_drop,List.drop_left,Nat.add_sub_cancel_left,←e2,List.take_left]
    simp only[part,Sem.run_bind,run_isAgg hd,hdr,run_size (sizeP_ok hn),Result.andThen_ok,if_true,e,Sem.run_pure]
  | false =>
    simp only[mkOf,Bool.false_eq_true,if_false]at hav
    split at hav
    · rename_i c
      split at hav
      · rename_i h1
        cases hav
        obtain ⟨va,vb,rfl,g1,i1,i3⟩:=i2.head
        cases i3
        rw[h1]at g1
        obtain ⟨u,rfl⟩ : ∃ u,va=[u]:=by
          match va,g1 with
          | [u],_=>exact ⟨u,rfl⟩
        refine ⟨u,.one h1 i1,fun w'=>?_⟩
        simp[part,run_isAgg hd,hdr]
      · cases hav
    · cases hav
theorem is_str {s:ByteArray} {u:Value} (h:AvIs w R σ (.one (.v (.string s))) u):u=.string s:=val_of h rfl
theorem tells_index (hf:FrOk w R σ fr a) {t:TypeId} {x ix:Operand} (ho:o.op=.index t x ix) (h:(aIndex P t (operand fr x) (operand fr ix)).wp K):Tells P w R σ ok a o K:=by
  have hx:=operand_is hf x
  have hi:=operand_is hf ix
  unfold aIndex at h
  split at h
  · rename_i cs k z hop hop2
    rw[hop]at hx
    rw[hop2]at hi
    have hie:=is_int hi
    split at h
    · rename_i len e hu
      obtain ⟨n,hn,h1⟩:=optN_wp h
      obtain ⟨row,hrow,h2⟩:=optN_wp h1
      obtain ⟨hb,h3⟩:=h2
      obtain ⟨c,hc,h4⟩:=optT_wp h3
      obtain ⟨av,hav,h5⟩:=optT_wp h4
      generalize hxe:a.eval x=xv at hx
      cases hx with
      | agg his =>
      obtain ⟨ua,um,ub,rfl,e1,e2,i2⟩:=is_sub his hc
      obtain ⟨d,hd,hdr⟩:=rowP_ok hrow
      obtain ⟨v,hv,hrun⟩:=mk_part (ua:=ua) (ub:=ub) hd hdr hn e2 i2 hav
      refine ⟨av,v,h5,hv,fun w' _=>?_⟩
      have:=hrun w'
      rw[e1]at this
      unfold execOp
      simp only[ho,hxe,hie,Instr.index,asIntOf,Sem.run_bind,Sem.run_pure,Result.andThen_ok,run_underlying hu,if_pos hb,run_size (sizeP_ok hn),this]
    · exact h.elim
  · rename_i s k z hop hop2
    rw[hop]at hx
    rw[hop2]at hi
    have hie:=is_int hi
    have hxe:=is_str hx
    split at h
    · rename_i hu
      obtain ⟨b,h0,hb,h1⟩:=h
      refine ⟨_,.int .u8 b.toNat,h1,.val rfl,fun w' _=>?_⟩
      have hsb:s[z.toNat]?=some b:=by
        obtain ⟨hlt,e⟩:=List.getElem?_eq_some_iff.1 hb
        have hlt':z.toNat<s.size:=by simpa using hlt
        rw[getElem?_pos s z.toNat hlt']
        congr 1
      unfold execOp
      simp only[ho,hxe,hie,Instr.index,asIntOf,Sem.run_bind,Sem.run_pure,Result.andThen_ok,run_underlying hu,if_pos h0,hsb]
    · exact h.elim
  · exact h.elim
theorem bound_ok {x:Option Operand} {d:Int} {f:Int→T Av} (hf:FrOk w R σ fr a) (h:(aBound fr x d f).wp K) : ∃ z,(f z).wp K∧((x=none∧z=d) ∨ ∃ k,x.map a.eval=some (.int k z)):=by
  unfold aBound at h
  split at h
  · exact ⟨d,h,.inl ⟨rfl,rfl⟩⟩
  · rename_i y
    have hy:=operand_is hf y
    split at h
    · rename_i k z hop
      rw[hop]at hy
      exact ⟨z,h,.inr ⟨k,by simp[is_int hy]⟩⟩
    · exact h.elim
theorem run_bounds {b:Bool} {n c:Nat} {lo hi:Option Value} {l h:Int} (hl:(lo=none∧l=0) ∨ ∃ k,lo=some (.int k l)) (hh:(hi=none∧h=n) ∨ ∃ k,hi=some (.int k h)) (h0:0≤l) (h1:l≤h) (h2:h≤n) (h3:n≤c) (w':World) :
    (Instr.sliceBounds b n c lo hi none).run P w'=.ok (l.toNat,h.toNat,c) w':=by
  have hc:h≤(c:Int):=by omega
  have hlh:l≤(h.toNat:Int):=by omega
  have h00:0≤h:=by omega
  rcases hh with ⟨rfl,rfl⟩|⟨k,rfl⟩
  · rcases hl with ⟨rfl,rfl⟩|⟨k',rfl⟩
    · simp[Instr.sliceBounds]
    · have:l≤(n:Int):=by omega
      simp[Instr.sliceBounds,Instr.sliceBound,asIntOf,h0,this]
  · rcases hl with ⟨rfl,rfl⟩|⟨k',rfl⟩
    · simp[Instr.sliceBounds,Instr.sliceBound,asIntOf,h00,hc]
    · simp only[Instr.sliceBounds,Instr.sliceBound,asIntOf,Sem.run_bind,Sem.run_pure,Result.andThen_ok,if_pos (And.intro h00 hc),if_pos (And.intro h0 hlh)]
theorem tells_slice (hf:FrOk w R σ fr a) {t:TypeId} {x:Operand} {lo hi mx:Option Operand} (ho:o.op=.slice t x lo hi mx) (h:(aSlice P fr t (operand fr x) lo hi mx).wp K):Tells P w R σ ok a o K:=by
  have hx:=operand_is hf x
  unfold aSlice at h
  split at h
  · exact h.elim
  · split at h
    · rename_i c xs hop
      rw[hop]at hx
      split at h
      · rename_i e hu
        obtain ⟨n,hn,h1⟩:=optN_wp h
        by_cases hnc:n=csz c
        · rw[if_pos hnc]at h1
          subst hnc
          obtain ⟨l,h2,hl⟩:=bound_ok hf h1
          obtain ⟨u,h3,hu'⟩:=bound_ok hf h2
          obtain ⟨⟨b0,b1,b2⟩,h4⟩:=h3
          have hl':(lo.map a.eval=none∧l=0) ∨ ∃ k,lo.map a.eval=some (.int k l):=by
            rcases hl with ⟨rfl,rfl⟩|hl
            · exact .inl ⟨rfl,rfl⟩
            · exact .inr hl
          have hlen:((xs.take u.toNat).drop l.toNat).length=u.toNat-l.toNat:=by simp;omega
          rcases is_ds hx with ⟨rfl,hxe⟩|⟨rfl,a',cap,hxe⟩|⟨b,of,cap,g,hxe,hc,hR,g1,g2,g3⟩
          · obtain rfl:l=0:=by simp at b2;omega
            obtain rfl:u=0:=by simp at b2;omega
            have hu2:(hi.map a.eval=none∧(0:Int)=((0:Nat):Int)) ∨ ∃ k,hi.map a.eval=some (.int k 0):=by
              rcases hu' with ⟨rfl,_⟩|hu'
              · exact .inl ⟨rfl,rfl⟩
              · exact .inr hu'
            refine ⟨_,.slice none 0 0,h4,.one rfl ?_,fun w' _=>?_⟩
            · have e:((([]:List (El c)).take (0:Int).toNat).drop (0:Int).toNat)=[]:=rfl
              rw[e];exact .dn .nil
            · unfold execOp
              simp only[ho,hxe,Instr.sliceAt,Sem.run_bind,run_underlying hu,Result.andThen_ok,Instr.slice,Option.map_none,run_bounds hl' hu2 (by omega) (by omega) (by simp) (Nat.le_refl _),run_size (sizeP_ok hn),Sem.run_pure]
              simp
          · obtain rfl:l=0:=by simp at b2;omega
            obtain rfl:u=0:=by simp at b2;omega
            have hu2:(hi.map a.eval=none∧(0:Int)=((0:Nat):Int)) ∨ ∃ k,hi.map a.eval=some (.int k 0):=by
              rcases hu' with ⟨rfl,_⟩|hu'
              · exact .inl ⟨rfl,rfl⟩
              · exact .inr hu'
            have e:((([]:List (El c)).take (0:Int).toNat).drop (0:Int).toNat)=[]:=rfl
            by_cases hc0:cap=0
            · refine ⟨_,.slice (some a') 0 cap,h4,.one rfl ?_,fun w' _=>?_⟩
              · rw[e];exact .de _ _ .nil
              · unfold execOp
                simp only[ho,hxe,Instr.sliceAt,Sem.run_bind,run_underlying hu,Result.andThen_ok,Instr.slice,Option.map_none,run_bounds hl' hu2 (by omega) (by omega) (by simp) (Nat.zero_le _),run_size (sizeP_ok hn),Sem.run_pure]
                simp[hc0]
            · refine ⟨_,.slice (some (a'.add (0*csz c))) 0 cap,h4,.one rfl ?_,fun w' _=>?_⟩
              · rw[e];exact .de _ _ .nil
              · unfold execOp
                simp only[ho,hxe,Instr.sliceAt,Sem.run_bind,run_underlying hu,Result.andThen_ok,Instr.slice,Option.map_none,run_bounds hl' hu2 (by omega) (by omega) (by simp) (Nat.zero_le _),run_size (sizeP_ok hn),Sem.run_pure]
                simp[hc0]
          · have hu2:(hi.map a.eval=none∧u=(xs.length:Nat)) ∨ ∃ k,hi.map a.eval=some (.int k u):=by
              rcases hu' with ⟨rfl,rfl⟩|hu'
              · exact .inl ⟨rfl,rfl⟩
              · exact .inr hu'
            by_cases hcl:cap=l.toNat
            · have h0:(xs.take u.toNat).drop l.toNat=[]:=List.eq_nil_of_length_eq_zero (by rw[hlen];omega)
              refine ⟨_,.slice (some ⟨b,of,none⟩) 0 (cap-l.toNat),h4,.one rfl ?_,fun w' _=>?_⟩
              · rw[h0]
                exact .ds (xs:=([]:List (El c))) (fun _=>[]) (Nat.zero_le _) hR (by simp) (by simp) (by simp) .nil
              · unfold execOp
                simp only[ho,hxe,Instr.sliceAt,Sem.run_bind,run_underlying hu,Result.andThen_ok,Instr.slice,Option.map_none,run_bounds hl' hu2 b0 b1 b2 hc,run_size (sizeP_ok hn),Sem.run_pure,if_pos hcl]
                have:u.toNat-l.toNat=0:=by omega
                rw[this]
            · refine ⟨_,.slice (some ⟨b,of+l.toNat*csz c,none⟩) ((xs.take u.toNat).drop l.toNat).length (cap-l.toNat),h4,.one rfl ?_,fun w' _=>?_⟩
              · have hget : ∀ (i:Nat) x,((xs.take u.toNat).drop l.toNat)[i]?=some x→xs[l.toNat+i]?=some x:=fun i x hi=>by
                  rw[List.getElem?_drop,List.getElem?_take]at hi
                  split at hi
                  · exact hi
                  · cases hi
                refine .ds (fun i=>g (l.toNat+i)) (by rw[hlen];omega) hR (fun i x hi=>g1 _ x (hget i x hi)) (fun i x hi=>g2 _ x (hget i x hi)) (fun i x hi=>?_) .nil
                have:=g3 _ x (hget i x hi)
                rw[Nat.add_mul]at this
                rwa [show of+l.toNat*csz c+i*csz c=of+(l.toNat*csz c+i*csz c) from by omega]
              · unfold execOp
                simp only[ho,hxe,Instr.sliceAt,Sem.run_bind,run_underlying hu,Result.andThen_ok,Instr.slice,Option.map_none,run_bounds hl' hu2 b0 b1 b2 hc,run_size (sizeP_ok hn),Sem.run_pure,if_neg hcl,hlen,Option.map_some,Addr.add_mid]
        · rw[if_neg hnc]at h1;exact h1.elim
      · exact h.elim
    · rename_i s hop
      rw[hop]at hx
      have hxe:=is_str hx
      split at h
      · rename_i hu
        obtain ⟨l,h2,hl⟩:=bound_ok hf h
        obtain ⟨u,h3,hu'⟩:=bound_ok hf h2
        obtain ⟨⟨b0,b1,b2⟩,h4⟩:=h3
        have hl':(lo.map a.eval=none∧l=0) ∨ ∃ k,lo.map a.eval=some (.int k l):=by
          rcases hl with ⟨rfl,rfl⟩|hl
          · exact .inl ⟨rfl,rfl⟩
          · exact .inr hl
        have hu2:(hi.map a.eval=none∧u=(s.size:Nat)) ∨ ∃ k,hi.map a.eval=some (.int k u):=by
          rcases hu' with ⟨rfl,rfl⟩|hu'
          · exact .inl ⟨rfl,rfl⟩
          · exact .inr hu'
        refine ⟨_,.string (s.extract l.toNat u.toNat),h4,.val rfl,fun w' _=>?_⟩
        unfold execOp
        simp only[ho,hxe,Instr.sliceAt,Sem.run_bind,run_underlying hu,Result.andThen_ok,Instr.slice,Option.map_none,run_bounds hl' hu2 b0 b1 b2 (Nat.le_refl _),Sem.run_pure,Option.isSome_none,Bool.false_eq_true,if_false]
      · exact h.elim
    · rename_i i off hop
      rw[hop]at hx
      split at h
      · rename_i len e hu
        obtain ⟨n,hn,h1⟩:=optN_wp h
        obtain ⟨b,hb,hxe⟩:=is_one_p hx
        refine ⟨_,.slice (some ⟨b,0,none⟩) len len,h1,.one rfl (.os hb (Nat.le_refl _) .nil),fun w' _=>?_⟩
        have hal:P.arrayLen t=len:=by unfold Program.arrayLen;rw[hu]
        have hel:P.elem t=e:=by unfold Program.elem;rw[hu]
        have hr:=run_sliceAt_array_all w' t ⟨b,0,none⟩ (P:=P) (by rw[hal,hel,hu])
        rw[hal,hel,run_size (sizeP_ok hn)]at hr
        simp only[Result.andThen_ok,slicedAt,Nat.mul_zero,Nat.zero_mul,Nat.sub_zero]at hr
        unfold execOp
        simp only[ho,hxe,Option.map_none,Sem.run_bind,hr,Result.andThen_ok,Sem.run_pure]
        congr 2
        split
        · rfl
        · simp[Addr.add]
      · exact h.elim
    · exact h.elim
theorem isStr_ok {av:Av} {s:ByteArray} {u:Value} (h:AvIs w R σ av u) (hs:isStr av=some s):u=.string s:=by
  unfold isStr at hs
  split at hs
  · cases hs;exact is_str h
  · cases hs
theorem isInt_ok {av:Av} {k:IntKind} {z:Int} {u:Value} (h:AvIs w R σ av u) (hs:isInt av=some (k,z)):u=.int k z:=by
  unfold isInt at hs
  split at hs
  · cases hs;exact is_int h
  · cases hs
theorem asBool_ok {av:Av} {b:Bool} {u:Value} (h:AvIs w R σ av u) (hb:asBoolA av=some b):u=.bool b:=by
  unfold asBoolA at hb
  split at hb
  · cases hb;exact val_of h rfl
  · cases hb;exact val_of h rfl
  · cases hb
def RecOk (P:Program) (d:Nat) (rec:TypeId→Av→Av→Option Bool):Prop:=
  ∀ (w:World) (R:Nat→Prop) (σ:List Nat) t x y r u v,rec t x y=some r→AvIs w R σ x u→AvIs w R σ y v → ∀ w',(Op.equalIn d t u v).run P w'=.ok r w'
theorem sub_part {cs m:List Ck} {us:List Value} {off n:Nat} {row:Bool} {e:TypeId} {av:Av} (his:Is w R σ cs us) (hn:sizeP P e=some n) (hrow:rowP P e=some row) (hs:sub off n cs=some m) (hm:mkOf row m=some av) :
    ∃ v,AvIs w R σ av v ∧ ∀ w',(part e us.toArray off).run P w'=.ok v w':=by
  obtain ⟨ua,um,ub,rfl,e1,e2,i2⟩:=is_sub his hs
  obtain ⟨d,hd,hdr⟩:=rowP_ok hrow
  obtain ⟨v,hv,hr⟩:=mk_part (ua:=ua) (ub:=ub) hd hdr hn e2 i2 hm
  rw[e1]at hr
  exact ⟨v,hv,hr⟩
theorem eqFs_ok {d:Nat} {rec:TypeId→Av→Av→Option Bool} (hrec:RecOk P d rec) {xs ys:List Ck} {us vs:List Value} (h1:Is w R σ xs us) (h2:Is w R σ ys vs) : ∀ (fs:List Field) (r:Bool),eqFs P rec xs ys fs=some r →
    ∀ w',(Op.eqFields d us.toArray vs.toArray fs).run P w'=.ok r w'
  | [],r,h,w'=>by cases h;rfl
  | f::fs,r,h,w'=>by
    unfold eqFs at h
    split at h
    · cases h
    · rename_i hname
      split at h
      · rename_i n row hn hrow
        split at h
        · rename_i a b ha hb
          split at h
          · rename_i x y hx hy
            split at h
            · rename_i p q hp hq
              cases h
              obtain ⟨u,hu,ru⟩:=sub_part h1 hn hrow ha hx
              obtain ⟨v,hv,rv⟩:=sub_part h2 hn hrow hb hy
              have e:=hrec w R σ _ _ _ _ _ _ hp hu hv w'
              have ih:=eqFs_ok hrec h1 h2 fs q hq w'
              have hne:f.name ≠ "_" := by simpa using hname
              simp only[Op.eqFields,if_pos hne,Sem.run_bind,ru,rv,Result.andThen_ok,e]
              cases p
              · simp
              · simpa using ih
            · cases h
          · cases h
        · cases h
      · cases h
theorem eqIs_ok {d:Nat} {rec:TypeId→Av→Av→Option Bool} (hrec:RecOk P d rec) {xs ys:List Ck} {us vs:List Value} (h1:Is w R σ xs us) (h2:Is w R σ ys vs) {e:TypeId} {n:Nat} {row:Bool} (hn:sizeP P e=some n) (hrow:rowP P e=some row) :
    ∀ (is:List Nat) (r:Bool),eqIs P rec e n row xs ys is=some r → ∀ w',(Op.eqItems d e n us.toArray vs.toArray is).run P w'=.ok r w'
  | [],r,h,w'=>by cases h;rfl
  | i::is,r,h,w'=>by
    unfold eqIs at h
    split at h
    · rename_i a b ha hb
      split at h
      · rename_i x y hx hy
        split at h
        · rename_i p q hp hq
          cases h
          obtain ⟨u,hu,ru⟩:=sub_part h1 hn hrow ha hx
          obtain ⟨v,hv,rv⟩:=sub_part h2 hn hrow hb hy
          have e:=hrec w R σ _ _ _ _ _ _ hp hu hv w'
          have ih:=eqIs_ok hrec h1 h2 hn hrow is q hq w'
          simp only[Op.eqItems,Sem.run_bind,ru,rv,Result.andThen_ok,e]
          cases p
          · simp
          · simpa using ih
        · cases h
      · cases h
    · cases h
theorem size_info {t:TypeId} {n:Nat} (h:sizeP P t=some n) : ∃ i,P.info? t=some i∧P.cellsOf t=n:=by
  unfold sizeP at h
  cases hi:P.info? t with
  | none=>rw[hi]at h;cases h
  | some i=>rw[hi]at h;cases h;exact ⟨i,rfl,by simp[Program.cellsOf,hi]⟩
theorem aEqv_ok : ∀ (m d:Nat),m<d→RecOk P d (aEqv P m)
  | 0,d,_=>by intro w R σ t x y r u v h;cases h
  | m+1,0,hd=>by omega
  | m+1,d+1,hd=>by
    intro w R σ t x y r u v h hx hy w'
    have ih:=aEqv_ok m d (by omega)
    unfold aEqv at h
    split at h
    · rename_i hu
      split at h
      · rename_i a b h1 h2
        cases h
        rw[asBool_ok hx h1,asBool_ok hy h2]
        exact run_equalIn_bool w' d t a b hu
      · cases h
    · rename_i k0 hu
      split at h
      · rename_i k a k' b
        by_cases hk:k=k'
        · rw[if_pos hk]at h
          cases h;subst hk
          rw[is_int hx,is_int hy]
          exact run_equalIn_int w' d t k k0 a b hu
        · rw[if_neg hk]at h;cases h
      · cases h
    · rename_i hu
      split at h
      · rename_i a b
        cases h
        rw[is_str hx,is_str hy]
        exact run_equalIn_string w' d t a b hu
      · cases h
    · rename_i fs hu
      split at h
      · rename_i xs ys
        split at h
        · cases h
        · rename_i hst
          cases hx with|agg i1 =>
          cases hy with|agg i2 =>
          have hfs:P.fieldsOf t=fs:=by simp[Program.fieldsOf,hu]
          rw[run_equalIn_struct w' d t _ _ (by rw[hfs];exact hu) hst,hfs]
          exact eqFs_ok ih i1 i2 _ r h w'
      · cases h
    · rename_i n e hu
      split at h
      · rename_i k0 he hs
        obtain ⟨i,hi,hc⟩:=size_info hs
        split at h
        · rename_i a b
          by_cases hn:n=32
          · rw[if_pos hn]at h
            cases h;subst hn
            cases hx with|agg i1 =>
            cases hy with|agg i2 =>
            cases i1 with|w i1 =>
            cases i2 with|w i2 =>
            cases i1;cases i2
            rw[List.append_nil,List.append_nil,run_equalIn_array w' d _ _ hu hi,hc]
            obtain ⟨d',rfl⟩ : ∃ d',d=d'+1:=⟨d-1,by omega⟩
            rw[words_items he a.1 b.1 d' w' (List.range 32) (by simp),words_eq]
          · rw[if_neg hn]at h;cases h
        · rename_i xs ys _
          cases hx with|agg i1 =>
          cases hy with|agg i2 =>
          rw[run_equalIn_array w' d _ _ hu hi,hc]
          exact eqIs_ok ih i1 i2 hs (by simp[rowP,he]) _ r h w'
        · cases h
      · rename_i dd c he hs
        obtain ⟨i,hi,hc⟩:=size_info hs
        split at h
        · rename_i xs ys
          cases hx with|agg i1 =>
          cases hy with|agg i2 =>
          rw[run_equalIn_array w' d _ _ hu hi,hc]
          exact eqIs_ok ih i1 i2 hs (by simp[rowP,he]) _ r h w'
        · cases h
      · cases h
    · cases h
theorem tells_eq {b:BinOp} {t t':TypeId} {x y:Operand} {X Y:Av} {r:Bool} (hx:AvIs w R σ X (a.eval x)) (hy:AvIs w R σ Y (a.eval y)) {xs ys:List Ck} (eX:X=.agg xs) (eY:Y=.agg ys) (hg:P.eqGuardType P.depth t=false) (hr:aEqv P 12 t X Y=some r) (w':World) :
    (do eqGuard b t x y (a.eval x) (a.eval y);binOp .eql t (a.eval x) (a.eval y):Sem Value).run P w'=.ok (.bool r) w'∧(do eqGuard b t x y (a.eval x) (a.eval y);binOp .neq t (a.eval x) (a.eval y):Sem Value).run P w'=.ok (.bool (!r)) w':=by
  have he:=aEqv_ok 12 10000 (by omega) w R σ t X Y r _ _ hr hx hy w'
  subst eX;subst eY
  generalize a.eval x=u at *
  generalize a.eval y=v at *
  cases hx with|agg i1 =>
  cases hy with|agg i2 =>
  simp only[Sem.run_bind,run_eqGuard_agg w' b t x y _ _ hg,Result.andThen_ok,run_eql_struct,run_neq_struct,he]
  exact ⟨trivial,trivial⟩
theorem tells_bin (hf:FrOk w R σ fr a) {b:BinOp} {t t':TypeId} {x y:Operand} (ho:o.op=.binOp b t x y t') (h:(aBin P fr o b t (operand fr x) (operand fr y)).wp K):Tells P w R σ ok a o K:=by
  have hx:=operand_is hf x
  have hy:=operand_is hf y
  unfold aBin at h
  split at h
  · split at h
    · rename_i s t h1 h2
      have ex:=isStr_ok hx h1
      have ey:=isStr_ok hy h2
      obtain ⟨hle,h3⟩:=h
      refine ⟨_,.string (s++t),h3,.val rfl,fun w' _=>?_⟩
      have hn:¬ (((s.size+t.size:Nat):Int)>IntKind.i64.max):=by omega
      unfold execOp
      simp only[ho,ex,ey,eqGuard,binOp,Op.stringOp,if_neg hn]
      rfl
    · exact tells_rest hf h
  · split at h
    · rename_i xs ys hop1 hop2
      split at h
      · exact h.elim
      · rename_i hg
        obtain ⟨r,hr,h1⟩:=optN_wp h
        refine ⟨_,.bool r,h1,.val rfl,fun w' _=>?_⟩
        have:=(tells_eq (b:=.eql) (t':=t') hx hy hop1 hop2 hg hr w').1
        unfold execOp
        simp only[ho]
        simp only[Sem.run_bind,this,Result.andThen_ok,Sem.run_pure]at this ⊢
    · exact tells_rest hf h
  · split at h
    · rename_i xs ys hop1 hop2
      split at h
      · exact h.elim
      · rename_i hg
        obtain ⟨r,hr,h1⟩:=optN_wp h
        refine ⟨_,.bool (!r),h1,.val rfl,fun w' _=>?_⟩
        have:=(tells_eq (b:=.neq) (t':=t') hx hy hop1 hop2 hg hr w').2
        unfold execOp
        simp only[ho]
        simp only[Sem.run_bind,this,Result.andThen_ok,Sem.run_pure]at this ⊢
    · rename_i hop1 hop2
      split at h
      · rename_i hi
        obtain ⟨te,pe,ex⟩ : ∃ te pe,a.eval x=.iface te pe:=by
          have hx':=hx
          rw[hop1]at hx'
          generalize a.eval x=u at hx' ⊢
          cases hx' with|one _ h2=>cases h2 with|ni t v _=>exact ⟨t,v,rfl⟩
        have ey:a.eval y=.nilIface:=by
          have hy':=hy
          rw[hop2]at hy'
          exact val_of hy' rfl
        refine ⟨_,.bool true,h,.one rfl (.kb .nil),fun w' _=>?_⟩
        have hn:=run_neq_iface_nil (P:=P) w' t hi te pe
        have hg:(eqGuard .neq t x y (.iface te pe) .nilIface).run P w'=.ok () w':=by
          unfold eqGuard;rfl
        unfold execOp
        simp only[ho,ex,ey,Sem.run_bind,hg,hn,Result.andThen_ok,Sem.run_pure]
      · exact h.elim
    · exact tells_rest hf h
  · split at h
    · rename_i k p k' q h1 h2
      have ex:=isInt_ok hx h1
      have ey:=isInt_ok hy h2
      by_cases hk:k=k'
      · rw[if_pos hk]at h
        subst hk
        obtain ⟨hne,h3⟩:=h
        refine ⟨_,_,h3,.val rfl,fun w' _=>?_⟩
        unfold execOp
        simp only[ho,ex,ey,eqGuard,binOp,ne_eq,not_true_eq_false,if_false,Op.intDiv,if_neg hne]
        rfl
      · rw[if_neg hk]at h;exact h.elim
    · exact tells_rest hf h
  · split at h
    · rename_i k p k' q h1 h2
      have ex:=isInt_ok hx h1
      have ey:=isInt_ok hy h2
      by_cases hk:k=k'
      · rw[if_pos hk]at h
        subst hk
        obtain ⟨hne,h3⟩:=h
        refine ⟨_,_,h3,.val rfl,fun w' _=>?_⟩
        unfold execOp
        simp only[ho,ex,ey,eqGuard,binOp,ne_eq,not_true_eq_false,if_false,Op.intDiv,if_neg hne]
        rfl
      · rw[if_neg hk]at h;exact h.elim
    · exact tells_rest hf h
  · split at h
    · split at h
      · rename_i k p k' q h1 h2
        have ex:=isInt_ok hx h1
        have ey:=isInt_ok hy h2
        obtain ⟨hne,h3⟩:=h
        refine ⟨_,_,h3,.val rfl,fun w' _=>?_⟩
        have hn:¬ q<0:=by omega
        unfold execOp
        simp only[ho,ex,ey,eqGuard,binOp,Op.shift,if_neg hn]
        rfl
      · exact tells_rest hf h
    · exact tells_rest hf h
  · split at h
    · split at h
      · rename_i k p k' q h1 h2
        have ex:=isInt_ok hx h1
        have ey:=isInt_ok hy h2
        obtain ⟨hne,h3⟩:=h
        refine ⟨_,_,h3,.val rfl,fun w' _=>?_⟩
        have hn:¬ q<0:=by omega
        unfold execOp
        simp only[ho,ex,ey,eqGuard,binOp,Op.shift,if_neg hn]
        rfl
      · exact tells_rest hf h
    · exact tells_rest hf h
  · exact tells_rest hf h
theorem is_v {w:World} {R:Nat→Prop} {σ:List Nat} {x:Value} {r:List Ck} {us:List Value} (h:Is w R σ (.v x::r) us) : ∃ t,us=x::t∧Is w R σ r t:=by
  cases h with|v _ h=>exact ⟨_,rfl,h⟩
theorem bytes_fold : ∀ (xs:List Int) (s:ByteArray),xs.foldl (fun r n=>r.push (UInt8.ofNat n.toNat)) s=⟨s.data++(xs.map fun z=>UInt8.ofNat z.toNat).toArray⟩
  | [],s=>by simp
  | x::xs,s=>by
    rw[List.foldl_cons,bytes_fold xs]
    simp[ByteArray.push]
theorem run_toStr {s d:TypeId} (hs:toStr P s d=true) {w:World} {a:Addr} {cap:Nat} {xs:List Int} (hc : ∀ (j:Nat) (z:Int),xs[j]?=some z→w.cell? (a.add j)=some (.int .u8 z)) :
    (convert s d (.slice (some a) xs.length cap)).run P w=.ok (.string (bytesOf xs)) w:=by
  unfold toStr at hs
  split at hs
  · rename_i e h1 h2
    split at hs
    · rename_i h3
      rw[run_convert_bytes_string w s d e (some a) xs.length cap h1 h3 h2]
      have hl:=run_loadCells_list (P:=P) w a (xs.map (Value.int .u8)) (fun j v hj=>by
        rw[List.getElem?_map]at hj
        cases hq:xs[j]? with
        | none=>rw[hq]at hj;simp at hj
        | some z=>rw[hq]at hj;cases hj;exact hc j z hq)
      rw[List.length_map]at hl
      rw[run_bytesToString w a xs.length cap xs hl,bytes_fold]
      simp[bytesOf]
    · cases hs
  · cases hs
theorem run_toStr_nil {s d:TypeId} (hs:toStr P s d=true) (w:World):(convert s d (.slice none 0 0)).run P w=.ok (.string (bytesOf [])) w:=by
  unfold toStr at hs
  split at hs
  · rename_i e h1 h2
    split at hs
    · rename_i h3
      rw[run_convert_bytes_string w s d e none 0 0 h1 h3 h2]
      simp[Conv.bytesToString]
      rfl
    · cases hs
  · cases hs
theorem tells_conv (hm:MemS w R σ ok m) (hf:FrOk w R σ fr a) {s d:TypeId} {x:Operand} (ho:o.op=.convert s d x) (h:(aConv P ok m fr o s d (operand fr x)).wp K):Tells P w R σ ok a o K:=by
  have hx:=operand_is hf x
  unfold aConv at h
  split at h
  · rename_i i n cap hop
    rw[hop]at hx
    obtain ⟨b,hb,hncap,hxe⟩:=is_one_os hx
    split at h
    · rename_i hok
      obtain ⟨⟨ty,cs⟩,hmi,h_⟩:=optT_wp h;clear h;have h:=h_;clear h_
      dsimp only at h
      split at h
      · rename_i c xs cap'
        split at h
        · rename_i hs
          obtain ⟨xs',hcast,h_⟩:=optT_wp h;clear h;have h:=h_;clear h_
          unfold castRow at hcast
          split at hcast
          · rename_i hcc
            subst hcc
            cases hcast
            obtain ⟨hn,h⟩:=h
            obtain ⟨us,hbl,his⟩:=hm.blk i ty _ b hok hmi hb
            obtain ⟨g,r1,r2,r3,r4,r5,r6,r7⟩:=is_row his
            refine ⟨_,_,h,.val rfl,fun w' hl=>?_⟩
            have hlen:(List.take n xs).length=n:=by rw[List.length_take];exact Nat.min_eq_left hn
            have:=run_toStr (P:=P) hs (w:=w') (a:=⟨b,0,none⟩) (cap:=cap) (xs:=List.take n xs) (fun j z hj=>by
              rw[List.getElem?_take]at hj
              split at hj
              · have h6:=r6 j z hj
                obtain ⟨t,e,hn'⟩:=is_v h6
                cases hn'
                have h7:=r7 j z hj 0 (.int .u8 z) (by rw[e];rfl)
                have:=rangeAt_block (hl.own i b hok hb) (range_of_block hbl) (j*csz (.int .u8)+0) _ h7
                rw[Addr.add_mid]
                rw[show j*csz (.int .u8)+0=j from Nat.mul_one j]at this
                exact this
              · cases hj)
            rw[hlen]at this
            unfold execOp
            simp only[ho,hxe,this,Sem.run_bind,Sem.run_map,Sem.run_pure,Result.andThen_ok]
          · cases hcast
        · exact h.elim
      · exact h.elim
    · exact h.elim
  · rename_i c xs hop
    rw[hop]at hx
    split at h
    · rename_i hs
      obtain ⟨xs',hcast,h_⟩:=optT_wp h;clear h;have h:=h_;clear h_
      unfold castRow at hcast
      split at hcast
      · rename_i hcc
        subst hcc
        cases hcast
        refine ⟨_,_,h,.val rfl,fun w' hl=>?_⟩
        rcases is_ds hx with ⟨rfl,hxe⟩|⟨rfl,a',cap,hxe⟩|⟨b,of,cap,g,hxe,hc,hR,g1,g2,g3⟩
        · have:=run_toStr_nil (P:=P) hs w'
          unfold execOp
          simp only[ho,hxe,this,Sem.run_bind,Sem.run_map,Sem.run_pure,Result.andThen_ok]
        · have:=run_toStr (P:=P) hs (w:=w') (a:=a') (cap:=cap) (xs:=[]) (fun j z hj=>by simp at hj)
          unfold execOp
          simp only[ho,hxe,List.length_nil]at this ⊢
          simp only[this,Sem.run_bind,Sem.run_map,Sem.run_pure,Result.andThen_ok]
        · have:=run_toStr (P:=P) hs (w:=w') (a:=⟨b,of,none⟩) (cap:=cap) (xs:=xs) (fun j z hj=>by
            have h6:=g2 j z hj
            obtain ⟨t,e,hn'⟩:=is_v h6
            cases hn'
            have:=rangeAt_block (hl.ro b hR) (g3 j z hj) 0 (.int .u8 z) (by rw[e];rfl)
            rw[Addr.add_mid]
            rw[show of+j*csz (.int .u8)+0=of+j from by rw[Nat.add_zero];exact congrArg _ (Nat.mul_one j)]at this
            exact this)
          unfold execOp
          simp only[ho,hxe,this,Sem.run_bind,Sem.run_map,Sem.run_pure,Result.andThen_ok]
      · cases hcast
    · exact h.elim
  · exact tells_rest hf h
theorem aS_ok {Z:List (Zero P)} (hm:MemS w R σ ok m) (hf:FrOk w R σ fr a) (h:(aS P Z ok m fr o).wp K):Tells P w R σ ok a o K:=by
  unfold aS at h
  split at h
  · rename_i x ho
    exact ⟨_,_,h,operand_is hf x,fun w' _=>by unfold execOp;simp[ho]⟩
  · rename_i x ho
    exact ⟨_,_,h,operand_is hf x,fun w' _=>by unfold execOp;simp[ho]⟩
  · rename_i c x y ho
    have hc:=operand_is hf c
    split at h
    · rename_i hop
      rw[hop]at hc
      have hce:=val_of hc rfl
      exact ⟨_,_,h,operand_is hf x,fun w' _=>by unfold execOp;simp[ho,hce,asBool]⟩
    · rename_i hop
      rw[hop]at hc
      have hce:=val_of hc rfl
      exact ⟨_,_,h,operand_is hf y,fun w' _=>by unfold execOp;simp[ho,hce,asBool]⟩
    · exact tells_rest hf h
  · rename_i x ix ho;exact tells_extract hf ho h
  · rename_i t x f ho;exact tells_field hf ho h
  · rename_i t x ho;exact tells_load hm hf ho h
  · rename_i t x f ho;exact tells_fieldAddr hf ho h
  · rename_i x ho;exact tells_nil hf ho h
  · rename_i t x ix ho
    split at h
    · exact tells_indexAddr hf ho (indexAddrT_wp h)
    · exact tells_indexAddr hf ho h
  · rename_i t parts ho;exact tells_build hf ho h
  · rename_i t x ix ho
    split at h
    · exact tells_index hf ho (indexT_wp h)
    · exact tells_index hf ho h
  · rename_i t x lo hi mx ho;exact tells_slice hf ho h
  · rename_i b t x y t' ho;exact tells_bin hf ho h
  · rename_i s d x ho;exact tells_conv hm hf ho h
  · rename_i ars ts ho
    split at h
    · rename_i x hx
      split at h
      · exact tells_len hf ho hx h
      · exact tells_rest hf h
    · exact h.elim
  · exact tells_rest hf (restI h)
  · exact tells_rest hf (restI h)
  · rename_i t x ho
    have hc:=operand_is hf x
    split at h
    · rename_i hop
      rw[hop]at hc
      have hce:=val_of hc rfl
      exact ⟨_,.bool false,h,.one rfl (.kb .nil),fun w' _=>by unfold execOp;simp only[ho,hce];rfl⟩
    · rename_i hop
      rw[hop]at hc
      have hce:=val_of hc rfl
      exact ⟨_,.bool true,h,.one rfl (.kb .nil),fun w' _=>by unfold execOp;simp only[ho,hce];rfl⟩
    · exact tells_rest hf h
  · exact tells_rest hf h
end
end Ax
