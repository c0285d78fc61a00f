import Derived.ProofKit
import Derived.OpenShut
import Derived.Deep.Slices
import Derived.Handed
import Derived.LaidLaws
import Derived.Lib.LaidU8
import Derived.Shelf.Vars
import Derived.Lay
import Derived.MakeChecks
import Derived.PinnedBridge
import Derived.SevenTiedAt
import Derived.Test.YtmcbljjgkmkhcaaGreatDoorRows
import Derived.Test.YtmcbljjgkmkhcaaGreatDoorK6
set_option linter.unusedSimpArgs false
set_option linter.unusedVariables false
namespace Go.Proofs.YtmcbljjgkmkhcaaGreatDoor
open Go.RowKit Ax
abbrev Mesh:=El cMesh
def mshA (m:Mesh) (k:Int):Av:=.tup [.agg (ck cMesh m),.one (.v (.int .i64 k))]
def rdBad (k:Int):T Av:=.ret (mshA (zE cMesh) k)
def nLen (a:ByteArray):Int:=(List.length (nodesR a).1:Int)
def rdTree (a b c:ByteArray):T Av:=.need (ByteArray.size a≤900000) (.ite (!wendB (nodesR a).2) (rdBad 1)
  (.need (ByteArray.size b≤900000∧0≤nLen a∧nLen a≤100000) (.ite (!wendB (elesR b (nLen a)).2) (rdBad 2)
    (.need (ByteArray.size c≤900000∧0≤nLen a∧nLen a≤100000) (.ite (!wendB (edgesR c (nLen a)).2) (rdBad 3)
      (.ret (mshA ((nodesR a).1,(elesR b (nLen a)).1,(edgesR c (nLen a)).1) 0)))))))
theorem tr_wread_eq (a b c:ByteArray):fnP EW4 (fun _=>none) Tryz.f21 (encs [(false,.str),(false,.str),(false,.str)] (a,b,c,()))=rdTree a b c:=by kernel_rfl
def rdM (a b c:ByteArray):Mesh×Int:=if wendB (nodesR a).2=false then (zE cMesh,1) else if wendB (elesR b (nLen a)).2=false then (zE cMesh,2) else if wendB (edgesR c (nLen a)).2=false then (zE cMesh,3) else (((nodesR a).1,(elesR b (nLen a)).1,(edgesR c (nLen a)).1),0)
theorem tbGo_len {α:Type} (f:Int→WT→α×WT) : ∀ (k:Nat) (i:Int) (t:WT),(tbGo f k i t).1.length≤k
  | 0,_,_=>Nat.le_refl _
  | k+1,i,t=>by
    rw[tbGo]
    split
    · exact Nat.zero_le _
    · have:=tbGo_len f k (i+1) (f i t).2
      simp only[List.length_cons]
      omega
theorem nLen_in (a:ByteArray):0≤nLen a∧nLen a≤100000:=by
  have h1:=tbGo_len ndF (tabN a [2,0,0]).toNat 0 (tabT a [2,0,0])
  have h2:=tabN_in a [2,0,0]
  unfold nLen nodesR
  omega
noncomputable def con_wread:Con Tryz.prog:=⟨21,[],_,cf_wread,val_con (E:=EW4) (L:=fun _=>none) mixed Tryz.func21 no_loops [(false,.str),(false,.str),(false,.str)] (fun x=>ByteArray.size x.1≤900000∧ByteArray.size x.2.1≤900000∧ByteArray.size x.2.2.1≤900000) (fun x=>mshA (rdM x.1 x.2.1 x.2.2.1).1 (rdM x.1 x.2.1 x.2.2.1).2) fun x hx=>by
  obtain ⟨a,b,c,u⟩:=x
  have ha:a.size≤900000:=hx.1
  have hb:b.size≤900000:=hx.2.1
  have hc:c.size≤900000:=hx.2.2
  rw[show fnP EW4 (fun _=>none) Tryz.f21 (encs [(false,.str),(false,.str),(false,.str)] (a,b,c,u))=rdTree a b c from tr_wread_eq a b c]
  have hn:=nLen_in a
  show (rdTree a b c).wp (· = mshA (rdM a b c).1 (rdM a b c).2)
  unfold rdTree rdM
  have no : ∀ {x:Bool},(!x)=true→x=false:=fun h=>by simpa using h
  have yes : ∀ {x:Bool},(!x)=false→¬ x=false:=fun h=>by simpa using h
  refine wned ha ⟨fun h1=>?_,fun h1=>wned ⟨hb,hn⟩ ⟨fun h2=>?_,fun h2=>wned ⟨hc,hn⟩ ⟨fun h3=>?_,fun h3=>?_⟩⟩⟩
  · rw[if_pos (no h1)];rfl
  · rw[if_neg (yes h1),if_pos (no h2)];rfl
  · rw[if_neg (yes h1),if_neg (yes h2),if_pos (no h3)];rfl
  · rw[if_neg (yes h1),if_neg (yes h2),if_neg (yes h3)];rfl⟩
abbrev spIn:RSpec:=⟨20,[(6,false,.sl (.int .i64)),(7,false,.int .i64),(8,false,.int .i64)],[],[],fun _=>[],3,9,.str,false,fun _=>3⟩
abbrev GSt:=Gr ByteArray
def inR (l:List Int) (n i:Int) (g:GSt):T (RRd spIn):=.ite (decide (i<n)) (.get l i fun v=>.need (-9223372036854775808≤v∧v≤9223372036854775807) (appG 15 g (itoaS v) fun m g'=>.need (gnd m g') (.ret (.again (l,n,wi1 i,()) () g')))) (.need (gnd (gl g) g) (.ret (.out (Exit.exit 0) [] () g)))
theorem tr_inL_eq (l:List Int) (n i:Int) (xs:List ByteArray) (cap:Nat):RSpec.round spIn EW2 (fun _=>none) (bodyOf Tryz.f35 0) (l,n,i,()) () (some (xs,cap))=inR l n i (some (xs,cap)):=by kernel_rfl
theorem tr_inL0_eq (l:List Int) (n i:Int):RSpec.round spIn EW2 (fun _=>none) (bodyOf Tryz.f35 0) (l,n,i,()) () none=inR l n i none:=by kernel_rfl
def in64W (v:Int):Prop := -9223372036854775808≤v∧v≤9223372036854775807
def outIn (x:RSpec.X spIn) (y:RSpec.Y spIn) (g:RSpec.G spIn):T (Exit×List Av×RSpec.Y spIn×RSpec.G spIn):=
  .need (x.2.1=(List.length x.1:Int)∧0≤x.2.2.1∧List.length x.1≤1000∧(∀ v∈(x.1:List Int),in64W v)∧((gl (α:=ByteArray) g:Nat):Int)≤x.2.2.1) (finG (Exit.exit 0) [] () g ((List.drop x.2.2.1.toNat (x.1:List Int)).map itoaS))
theorem in_core (l : List Int) (n i : Int) (g : GSt) (Q : Exit × List Av × RSpec.Y spIn × RSpec.G spIn → Prop) (hq : (outIn (l, n, i, ()) () g).wp Q) : (inR l n i g).wp fun r => match r with
      | .again x' y' g'=>(x'.2.1-x'.2.2.1).toNat<(n-i).toNat∧(outIn x' y' g').wp Q
      | .out e avs y' g'=>Q (e,avs,y',g'):=by
  obtain ⟨⟨hn,i0,hl,hv,hg⟩,hq⟩:=hq
  have hn:n=(l.length:Int):=hn
  have i0:0≤i:=i0
  have hl:l.length≤1000:=hl
  have hv : ∀ v∈l,in64W v:=hv
  have hg:((gl g:Nat):Int)≤i:=hg
  have hq:(finG (Exit.exit 0) [] () g ((List.drop i.toNat l).map itoaS)).wp Q:=hq
  refine ⟨fun hlt=>?_,fun hge=>?_⟩
  · have hlt:=of_decide_eq_true hlt
    obtain ⟨v,hvi⟩:=elem_at (l:=l) i0 (by omega)
    rw[drop_at i0 hvi,List.map_cons]at hq
    have hM:maxLen=9223372036854775807:=rfl
    refine wget i0 hvi (wned (hv v (List.mem_of_getElem? hvi)) (appG_wp (by omega) (by omega) fun k=>wned (gnd_app g _ k) ?_))
    rw[wi1_eq (i:=i) (by omega)]
    refine ⟨show (n-(i+1)).toNat<(n-i).toNat by omega,wned ⟨hn,show 0≤i+1 by omega,hl,hv,?_⟩ (finG_cons hq k)⟩
    show (((gx g++[_]).length:Nat):Int)≤i+1
    rw[List.length_append,←gl_eq]
    simp only[List.length_cons,List.length_nil]
    omega
  · have hge:=of_decide_eq_false hge
    rw[drop_end (by omega)]at hq
    exact wned (gnd_gl g) (finG_nil hq)
theorem inL_ok:LoopOk Tryz.prog 0 (bodyOf Tryz.f35 0) (spIn.run outIn):=
  loopR_ok (E:=EW2) (L:=fun _=>none) mixed 0 (loops_none _ _ _) spIn (Nat.zero_le _) outIn (fun x _ _=>(x.2.1-x.2.2.1).toNat) (by
    rintro ⟨l,n,i,⟨⟩⟩ ⟨⟩ g Q hq
    match g,hq with
    | some (xs,cap),hq =>
      rw[tr_inL_eq l n i xs cap]
      exact in_core l n i (some (xs,cap)) Q hq
    | none,hq =>
      rw[tr_inL0_eq l n i]
      exact in_core l n i none Q hq)
noncomputable def lpIn:Loops:=oneL 3 (spIn.run outIn)
noncomputable def EW2f:Env Tryz.prog:=EW2.fz [(7,[3])]
def rwC (xs:List ByteArray):T Av:=.need (List.length xs≤1000000∧(joinB xs spB).size≤1000000000) (.ret (.one (.v (.string (rowS xs)))))
def inTree (l:List Int):T Av:=.need True (.need ((List.length l:Int)=(List.length l:Int)∧(0:Int)≤0∧List.length l≤1000∧(∀ v∈l,in64W v)∧((gl (none:GSt):Nat):Int)≤0) (.ite ((List.drop (Int.toNat 0) l).map itoaS).isEmpty (rwC []) (.up 0 fun _=>.need (List.length ((List.drop (Int.toNat 0) l).map itoaS)≤List.length ((List.drop (Int.toNat 0) l).map itoaS)) (rwC (List.take (List.length ((List.drop (Int.toNat 0) l).map itoaS)) ((List.drop (Int.toNat 0) l).map itoaS))))))
theorem tr_wints_eq (l:List Int):fnP EW2f lpIn Tryz.f35 (encs [(false,.sl (.int .i64))] (l,()))=inTree l:=by kernel_rfl
theorem inter_len (b:Nat) : ∀ ws:List (List UInt8),(∀ w∈ws,w.length≤b)→(inter ws).length≤ws.length*(b+1)
  | [],_=>Nat.zero_le _
  | [w],h=>by have:=h w (by simp);simp[inter];omega
  | w::x::r,h=>by
    have h1:=h w (by simp)
    have h2:=inter_len b (x::r) (fun y hy=>h y (by simp at hy ⊢;exact .inr hy))
    rw[inter,List.length_append,List.length_cons,List.length_cons (a:=w),Nat.add_mul]
    omega
theorem joinB_list (xs:List ByteArray):(joinB xs spB).data.toList=inter (xs.map (·.data.toList)):=inter_join _
theorem rowS_list (xs:List ByteArray):(rowS xs).data.toList=rowU (xs.map (·.data.toList)):=by
  unfold rowS rowU
  rw[←joinB_list]
  simp
theorem joinB_size (b:Nat) (xs:List ByteArray) (h : ∀ w∈xs,w.size≤b):(joinB xs spB).size≤xs.length*(b+1):=by
  have:=inter_len b (xs.map (·.data.toList)) (fun w hw=>by
    obtain ⟨x,hx,rfl⟩:=List.mem_map.1 hw
    rw[←Lib.size_eq]
    exact h x hx)
  rw[←joinB_list,←Lib.size_eq,List.length_map]at this
  exact this
theorem rowS_size (b:Nat) (xs:List ByteArray) (h : ∀ w∈xs,w.size≤b):(rowS xs).size≤xs.length*(b+1)+1:=by
  have:=joinB_size b xs h
  unfold rowS
  rw[ByteArray.size_append]
  have:ByteArray.size ⟨#[10]⟩=1:=rfl
  omega
theorem itoaS_size {v:Int} (h:in64W v):(itoaS v).size≤20:=by
  unfold in64W at h
  have h9:(Lib.decDigits v.natAbs).length≤19:=by
    rw[Lib.decDigits_length]
    exact nd_le 18 _ (by omega)
  show (Lib.itoa v).toArray.size≤20
  rw[List.size_toArray]
  unfold Lib.itoa
  split
  · rw[List.length_cons];omega
  · rw[show v.toNat=v.natAbs by omega];omega
def intsS (l:List Int):ByteArray:=rowS (l.map itoaS)
theorem rwC_wp {xs:List ByteArray} (hl:xs.length≤1000) (h : ∀ w∈xs,w.size≤3000):(rwC xs).wp (· = .one (.v (.string (rowS xs)))):=by
  have h1:=joinB_size 3000 xs h
  have h2:xs.length*(3000+1)≤1000*3001:=Nat.mul_le_mul_right _ hl
  exact wned ⟨by omega,by omega⟩ rfl
theorem ints_w {l:List Int} (hv : ∀ v∈l,in64W v) : ∀ w∈l.map itoaS,w.size≤20:=fun w hw=>by
  obtain ⟨v,h,rfl⟩:=List.mem_map.1 hw
  exact itoaS_size (hv v h)
theorem intsS_size {l:List Int} (hv : ∀ v∈l,in64W v):(intsS l).size≤l.length*21+1:=by
  have:=rowS_size 20 _ (ints_w hv)
  rwa [List.length_map]at this
noncomputable def con_wints:Con Tryz.prog:=⟨35,[],_,cf_wints,val_con (E:=EW2f) (L:=lpIn) mixed Tryz.func35 (one_loop inL_ok (by kernel_rfl)) [(false,.sl (.int .i64))] (fun x=>List.length x.1≤1000 ∧ ∀ v∈(x.1:List Int),in64W v) (fun x=>.one (.v (.string (intsS x.1)))) fun x hx=>by
  obtain ⟨l,u⟩:=x
  have hl:l.length≤1000:=hx.1
  have hv : ∀ v∈l,in64W v:=hx.2
  rw[show fnP EW2f lpIn Tryz.f35 (encs [(false,.sl (.int .i64))] (l,u))=inTree l from tr_wints_eq l]
  show (inTree l).wp (· = .one (.v (.string (rowS (l.map itoaS)))))
  have hw : ∀ w∈l.map itoaS,w.size≤3000:=fun w hw=>Nat.le_trans (ints_w hv w hw) (by decide)
  refine wned trivial (wned ⟨rfl,Int.le_refl 0,hl,hv,Int.le_refl 0⟩ ⟨fun h=>?_,fun _ k _=>wned (Nat.le_refl _) ?_⟩)
  · have e:l.map itoaS=[]:=List.isEmpty_iff.1 h
    rw[e]
    exact rwC_wp (by decide) (fun w hw=>by cases hw)
  · rw[List.take_length]
    exact rwC_wp (by rw[List.length_map];exact hl) hw⟩
noncomputable def EW5:Env Tryz.prog:=EW4.add [con_wints]
abbrev spNs:LSpec:=⟨34,[(3,false,.str),(12,false,.sl cP),(13,false,.int .i64),(14,false,.int .i64)],[],[],fun e=>match e with|.exit _=>[3]|_=>[]⟩
abbrev spEs:LSpec:=⟨36,[(3,false,.str),(12,false,.sl cI3),(13,false,.int .i64),(14,false,.int .i64)],[],[],fun e=>match e with|.exit _=>[3]|_=>[]⟩
abbrev spGs:LSpec:=⟨35,[(3,false,.str),(12,false,.sl cI3),(13,false,.int .i64),(14,false,.int .i64)],[],[],fun e=>match e with|.exit _=>[3]|_=>[]⟩
abbrev spRo:LSpec:=⟨57,[(1,false,.int .i64),(6,false,.str),(19,false,.sl cP),(20,false,.int .i64),(21,false,.int .i64)],[],[],fun e=>match e with|.exit _=>[6]|.ret=>[4,5]|_=>[]⟩
def rowN {β:Type} (s:ByteArray) (xs:List ByteArray) (K:ByteArray→T β):T β:=.need (List.length xs≤1000000∧(joinB xs spB).size≤1000000000) (.need (((ByteArray.size s+ByteArray.size (rowS xs):Nat):Int)≤IntKind.max .i64) (.lt (s++rowS xs) K))
def intsN {β:Type} (s:ByteArray) (xs:List Int) (K:ByteArray→T β):T β:=.need (List.length xs≤1000 ∧ ∀ v∈xs,in64W v) (.need (((ByteArray.size s+ByteArray.size (intsS xs):Nat):Int)≤IntKind.max .i64) (.lt (s++intsS xs) K))
def ix3 {β:Type} (K:T β):T β:=.need ((0:Int)≤0∧(0:Int)<3) (.need ((0:Int)≤1∧(1:Int)<3) (.need ((0:Int)≤2∧(2:Int)<3) K))
def nsR (s:ByteArray) (l:List Pt) (n i:Int):T (Rd spNs):=.ite (decide (i<n)) (.get l i fun p=>.need (-9223372036854775808≤wi1 i∧wi1 i≤9223372036854775807) (rowN s [itoaS (wi1 i),ftxt p.1,ftxt p.2] fun v=>.ret (.again (v,l,n,wi1 i,()) ()))) (.ret (.out (Exit.exit 0) [.one (.v (.string s))] ()))
def esR (s:ByteArray) (l:List I3) (n i:Int):T (Rd spEs):=.ite (decide (i<n)) (.get l i fun p=>ix3 (intsN s [wi1 i,wi1 p.1,wi1 p.2.1,wi1 p.2.2] fun v=>.ret (.again (v,l,n,wi1 i,()) ()))) (.ret (.out (Exit.exit 0) [.one (.v (.string s))] ()))
def gsR (s:ByteArray) (l:List I3) (n i:Int):T (Rd spGs):=.ite (decide (i<n)) (.get l i fun p=>intsN s [wi1 i,wi1 p.1,wi1 p.2.1,p.2.2] fun v=>.ret (.again (v,l,n,wi1 i,()) ())) (.ret (.out (Exit.exit 0) [.one (.v (.string s))] ()))
def decV (x:F) (k:Int):ByteArray:=if safeF 500 x=true then decS (qdec x (clampD k)) (clampD k) (zW x.1) else ⟨#[]⟩
def roBad:T (Rd spRo):=.ret (.out Exit.ret [.one (.v (.string ⟨#[]⟩)),.one (.v (.bool false))] ())
def roR (k:Int) (s:ByteArray) (l:List Pt) (n i:Int):T (Rd spRo):=.ite (decide (i<n)) (.get l i fun p=>.ite (!safeF 500 p.1) roBad (.ite (!safeF 500 p.2) roBad (.need (-9223372036854775808≤wi1 i∧wi1 i≤9223372036854775807) (rowN s [itoaS (wi1 i),decV p.1 k,decV p.2 k] fun v=>.ret (.again (k,v,l,n,wi1 i,()) ()))))) (.ret (.out (Exit.exit 0) [.one (.v (.string s))] ()))
theorem tr_nsL_eq (s:ByteArray) (l:List Pt) (n i:Int):LSpec.round spNs EW5 (fun _=>none) (bodyOf Tryz.f18 0) (s,l,n,i,()) ()=nsR s l n i:=by kernel_rfl
theorem tr_esL_eq (s:ByteArray) (l:List I3) (n i:Int):LSpec.round spEs EW5 (fun _=>none) (bodyOf Tryz.f19 0) (s,l,n,i,()) ()=esR s l n i:=by kernel_rfl
theorem tr_gsL_eq (s:ByteArray) (l:List I3) (n i:Int):LSpec.round spGs EW5 (fun _=>none) (bodyOf Tryz.f20 0) (s,l,n,i,()) ()=gsR s l n i:=by kernel_rfl
theorem tr_roL_eq (k:Int) (s:ByteArray) (l:List Pt) (n i:Int):LSpec.round spRo EW5 (fun _=>none) (bodyOf Tryz.f10 0) (k,s,l,n,i,()) ()=roR k s l n i:=by kernel_rfl
def strL {α:Type} (f:Int→α→ByteArray):List α→Int→ByteArray
  | [],_=>⟨#[]⟩
  | p::r,i=>f (i+1) p++strL f r (i+1)
theorem app_nil (s:ByteArray):s++(⟨#[]⟩:ByteArray)=s:=by
  have e:(s++(⟨#[]⟩:ByteArray)).data.toList=s.data.toList:=by simp
  rw[←mkB_data (s++⟨#[]⟩),e,mkB_data]
def nsF (i:Int) (p:Pt):ByteArray:=rowS [itoaS i,ftxt p.1,ftxt p.2]
def esF (i:Int) (p:I3):ByteArray:=intsS [i,p.1+1,p.2.1+1,p.2.2+1]
def gsF (i:Int) (p:I3):ByteArray:=intsS [i,p.1+1,p.2.1+1,p.2.2]
def roF (k i:Int) (p:Pt):ByteArray:=rowS [itoaS i,decV p.1 k,decV p.2 k]
abbrev StInv {α:Type} (s:ByteArray) (l:List α) (n i:Int):Prop:=n=(l.length:Int)∧0≤i∧i≤(l.length:Int)∧l.length≤1000∧(s.size:Int)+10000*((l.length:Int)-i)≤100000000
def smI (v:Int):Prop := -1000000000000≤v∧v≤1000000000000
def smP (p:I3):Prop:=smI p.1∧smI p.2.1∧smI p.2.2
def outNs (x:LSpec.X spNs) (y:LSpec.Y spNs):T (Exit×List Av×LSpec.Y spNs):=.need (StInv (α:=Pt) x.1 x.2.1 x.2.2.1 x.2.2.2.1) (.ret (.exit 0,[.one (.v (.string (x.1++strL nsF (List.drop (Int.toNat x.2.2.2.1) (x.2.1:List Pt)) x.2.2.2.1)))],()))
def outEs (x:LSpec.X spEs) (y:LSpec.Y spEs):T (Exit×List Av×LSpec.Y spEs):=.need (StInv (α:=I3) x.1 x.2.1 x.2.2.1 x.2.2.2.1 ∧ ∀ p∈(x.2.1:List I3),smP p) (.ret (.exit 0,[.one (.v (.string (x.1++strL esF (List.drop (Int.toNat x.2.2.2.1) (x.2.1:List I3)) x.2.2.2.1)))],()))
def outGs (x:LSpec.X spGs) (y:LSpec.Y spGs):T (Exit×List Av×LSpec.Y spGs):=.need (StInv (α:=I3) x.1 x.2.1 x.2.2.1 x.2.2.2.1 ∧ ∀ p∈(x.2.1:List I3),smP p) (.ret (.exit 0,[.one (.v (.string (x.1++strL gsF (List.drop (Int.toNat x.2.2.2.1) (x.2.1:List I3)) x.2.2.2.1)))],()))
theorem ftxt_size (x:F):(ftxt x).size≤2051:=by
  unfold ftxt
  have h1:=txt_size x.1
  have h2:=txt_size x.2
  have h3:ByteArray.size (⟨#[47]⟩:ByteArray)=1:=rfl
  split
  · split
    · omega
    · rw[ByteArray.size_append,ByteArray.size_append];omega
  · exact Nat.zero_le _
theorem rowN_wp {β:Type} {s:ByteArray} {xs:List ByteArray} {K:ByteArray→T β} {Q:β→Prop} (hx:xs.length≤4) (hw : ∀ w∈xs,w.size≤2051) (hs:s.size≤100000000) (h:(K (s++rowS xs)).wp Q):(rowN s xs K).wp Q:=by
  have h1:=joinB_size 2051 xs hw
  have h2:=rowS_size 2051 xs hw
  have h3:xs.length*(2051+1)≤4*2052:=Nat.mul_le_mul_right _ hx
  refine wned ⟨by omega,by omega⟩ (wned ?_ h)
  show ((s.size+(rowS xs).size:Nat):Int)≤9223372036854775807
  omega
theorem intsN_wp {β:Type} {s:ByteArray} {xs:List Int} {K:ByteArray→T β} {Q:β→Prop} (hx:xs.length≤4) (hv : ∀ v∈xs,in64W v) (hs:s.size≤100000000) (h:(K (s++intsS xs)).wp Q):(intsN s xs K).wp Q:=by
  have h2:=intsS_size hv
  refine wned ⟨by omega,hv⟩ (wned ?_ h)
  show ((s.size+(intsS xs).size:Nat):Int)≤9223372036854775807
  omega
theorem strL_end {α:Type} (f:Int→α→ByteArray) {l:List α} {i:Int} (s:ByteArray) (h:(l.length:Int)≤i):s++strL f (List.drop i.toNat l) i=s:=by
  rw[drop_end h,strL,app_nil]
theorem strL_next {α:Type} (f:Int→α→ByteArray) {l:List α} {i:Int} {p:α} (s:ByteArray) (i0:0≤i) (h:l[i.toNat]?=some p):s++strL f (List.drop i.toNat l) i=(s++f (i+1) p)++strL f (List.drop (i+1).toNat l) (i+1):=by
  rw[drop_at i0 h,strL,ByteArray.append_assoc]
theorem ns_core (s : ByteArray) (l : List Pt) (n i : Int) (Q : Exit × List Av × LSpec.Y spNs → Prop) (hq : (outNs (s, l, n, i, ()) ()).wp Q) : (nsR s l n i).wp fun r => match r with
      | .again x' y'=>(x'.2.2.1-x'.2.2.2.1).toNat<(n-i).toNat∧(outNs x' y').wp Q
      | .out e avs y'=>Q (e,avs,y'):=by
  obtain ⟨⟨hn,i0,hi,hl,hs⟩,hq⟩:=hq
  have hn:n=(l.length:Int):=hn
  have i0:0≤i:=i0
  have hi:i≤(l.length:Int):=hi
  have hl:l.length≤1000:=hl
  have hs:(s.size:Int)+10000*((l.length:Int)-i)≤100000000:=hs
  have hq:Q (.exit 0,[.one (.v (.string (s++strL nsF (List.drop i.toNat l) i)))],()):=hq
  refine ⟨fun hlt=>?_,fun hge=>?_⟩
  · have hlt:=of_decide_eq_true hlt
    obtain ⟨p,hp⟩:=elem_at (l:=l) i0 (by omega)
    rw[strL_next nsF s i0 hp]at hq
    rw[wi1_eq (i:=i) (by omega)]
    have hw : ∀ w∈[itoaS (i+1),ftxt p.1,ftxt p.2],w.size≤2051:=fun w hw=>by
      rcases List.mem_cons.1 hw with rfl|hw
      · have:=itoaS_size (v:=i+1) (by unfold in64W;omega);omega
      · rcases List.mem_cons.1 hw with rfl|hw
        · exact ftxt_size _
        · rcases List.mem_cons.1 hw with rfl|hw
          · exact ftxt_size _
          · cases hw
    refine wget i0 hp (wned (by omega) (rowN_wp (by simp) hw (by omega) ⟨show (n-(i+1)).toNat<(n-i).toNat by omega,wned ⟨hn,show 0≤i+1 by omega,show i+1≤(l.length:Int) by omega,hl,?_⟩ hq⟩))
    have:=rowS_size 2051 _ hw
    show ((s++rowS [itoaS (i+1),ftxt p.1,ftxt p.2]).size:Int)+10000*((l.length:Int)-(i+1))≤100000000
    rw[ByteArray.size_append]
    simp only[List.length_cons,List.length_nil]at this
    omega
  · have hge:=of_decide_eq_false hge
    rw[strL_end nsF s (by omega)]at hq
    exact hq
theorem es_core (s : ByteArray) (l : List I3) (n i : Int) (Q : Exit × List Av × LSpec.Y spEs → Prop) (hq : (outEs (s, l, n, i, ()) ()).wp Q) : (esR s l n i).wp fun r => match r with
      | .again x' y'=>(x'.2.2.1-x'.2.2.2.1).toNat<(n-i).toNat∧(outEs x' y').wp Q
      | .out e avs y'=>Q (e,avs,y'):=by
  obtain ⟨⟨⟨hn,i0,hi,hl,hs⟩,hv⟩,hq⟩:=hq
  have hn:n=(l.length:Int):=hn
  have i0:0≤i:=i0
  have hi:i≤(l.length:Int):=hi
  have hl:l.length≤1000:=hl
  have hv : ∀ p∈l,smP p:=hv
  have hs:(s.size:Int)+10000*((l.length:Int)-i)≤100000000:=hs
  have hq:Q (.exit 0,[.one (.v (.string (s++strL esF (List.drop i.toNat l) i)))],()):=hq
  refine ⟨fun hlt=>?_,fun hge=>?_⟩
  · have hlt:=of_decide_eq_true hlt
    obtain ⟨p,hp⟩:=elem_at (l:=l) i0 (by omega)
    rw[strL_next esF s i0 hp]at hq
    obtain ⟨a,b,c⟩:=p
    obtain ⟨⟨a1,a2⟩,⟨b1,b2⟩,⟨c1,c2⟩⟩:=hv _ (List.mem_of_getElem? hp)
    refine wget i0 hp (wned (by decide) (wned (by decide) (wned (by decide) ?_)))
    rw[wi1_eq (i:=i) (by omega),wi1_eq (i:=a) ⟨a1,a2⟩,wi1_eq (i:=b) ⟨b1,b2⟩,wi1_eq (i:=c) ⟨c1,c2⟩]
    have a1 : -1000000000000≤a:=a1
    have a2:a≤1000000000000:=a2
    have b1 : -1000000000000≤b:=b1
    have b2:b≤1000000000000:=b2
    have c1 : -1000000000000≤c:=c1
    have c2:c≤1000000000000:=c2
    have hw : ∀ v∈[i+1,a+1,b+1,c+1],in64W v:=by
      intro v hv
      unfold in64W
      simp only[List.mem_cons,List.not_mem_nil,or_false]at hv
      omega
    refine intsN_wp (by simp) hw (by omega) ⟨show (n-(i+1)).toNat<(n-i).toNat by omega,wned ⟨⟨hn,show 0≤i+1 by omega,show i+1≤(l.length:Int) by omega,hl,?_⟩,hv⟩ hq⟩
    have:=intsS_size hw
    show ((s++intsS [i+1,a+1,b+1,c+1]).size:Int)+10000*((l.length:Int)-(i+1))≤100000000
    rw[ByteArray.size_append]
    simp only[List.length_cons,List.length_nil]at this
    omega
  · have hge:=of_decide_eq_false hge
    rw[strL_end esF s (by omega)]at hq
    exact hq
theorem gs_core (s : ByteArray) (l : List I3) (n i : Int) (Q : Exit × List Av × LSpec.Y spGs → Prop) (hq : (outGs (s, l, n, i, ()) ()).wp Q) : (gsR s l n i).wp fun r => match r with
      | .again x' y'=>(x'.2.2.1-x'.2.2.2.1).toNat<(n-i).toNat∧(outGs x' y').wp Q
      | .out e avs y'=>Q (e,avs,y'):=by
  obtain ⟨⟨⟨hn,i0,hi,hl,hs⟩,hv⟩,hq⟩:=hq
  have hn:n=(l.length:Int):=hn
  have i0:0≤i:=i0
  have hi:i≤(l.length:Int):=hi
  have hl:l.length≤1000:=hl
  have hv : ∀ p∈l,smP p:=hv
  have hs:(s.size:Int)+10000*((l.length:Int)-i)≤100000000:=hs
  have hq:Q (.exit 0,[.one (.v (.string (s++strL gsF (List.drop i.toNat l) i)))],()):=hq
  refine ⟨fun hlt=>?_,fun hge=>?_⟩
  · have hlt:=of_decide_eq_true hlt
    obtain ⟨p,hp⟩:=elem_at (l:=l) i0 (by omega)
    rw[strL_next gsF s i0 hp]at hq
    obtain ⟨a,b,c⟩:=p
    obtain ⟨⟨a1,a2⟩,⟨b1,b2⟩,⟨c1,c2⟩⟩:=hv _ (List.mem_of_getElem? hp)
    refine wget i0 hp ?_
    rw[wi1_eq (i:=i) (by omega),wi1_eq (i:=a) ⟨a1,a2⟩,wi1_eq (i:=b) ⟨b1,b2⟩]
    have a1 : -1000000000000≤a:=a1
    have a2:a≤1000000000000:=a2
    have b1 : -1000000000000≤b:=b1
    have b2:b≤1000000000000:=b2
    have c1 : -1000000000000≤c:=c1
    have c2:c≤1000000000000:=c2
    have hw : ∀ v∈[i+1,a+1,b+1,c],in64W v:=by
      intro v hv
      unfold in64W
      simp only[List.mem_cons,List.not_mem_nil,or_false]at hv
      omega
    refine intsN_wp (by simp) hw (by omega) ⟨show (n-(i+1)).toNat<(n-i).toNat by omega,wned ⟨⟨hn,show 0≤i+1 by omega,show i+1≤(l.length:Int) by omega,hl,?_⟩,hv⟩ hq⟩
    have:=intsS_size hw
    show ((s++intsS [i+1,a+1,b+1,c]).size:Int)+10000*((l.length:Int)-(i+1))≤100000000
    rw[ByteArray.size_append]
    simp only[List.length_cons,List.length_nil]at this
    omega
  · have hge:=of_decide_eq_false hge
    rw[strL_end gsF s (by omega)]at hq
    exact hq
theorem nsL_ok:LoopOk Tryz.prog 0 (bodyOf Tryz.f18 0) (spNs.run outNs):=
  loop_ok (E:=EW5) (L:=fun _=>none) mixed 0 (loops_none _ _ _) spNs (Nat.zero_le _) outNs (fun x _=>(x.2.2.1-x.2.2.2.1).toNat) (by
    rintro ⟨s,l,n,i,⟨⟩⟩ ⟨⟩ Q hq
    rw[tr_nsL_eq s l n i]
    exact ns_core s l n i Q hq)
theorem esL_ok:LoopOk Tryz.prog 0 (bodyOf Tryz.f19 0) (spEs.run outEs):=
  loop_ok (E:=EW5) (L:=fun _=>none) mixed 0 (loops_none _ _ _) spEs (Nat.zero_le _) outEs (fun x _=>(x.2.2.1-x.2.2.2.1).toNat) (by
    rintro ⟨s,l,n,i,⟨⟩⟩ ⟨⟩ Q hq
    rw[tr_esL_eq s l n i]
    exact es_core s l n i Q hq)
theorem gsL_ok:LoopOk Tryz.prog 0 (bodyOf Tryz.f20 0) (spGs.run outGs):=
  loop_ok (E:=EW5) (L:=fun _=>none) mixed 0 (loops_none _ _ _) spGs (Nat.zero_le _) outGs (fun x _=>(x.2.2.1-x.2.2.2.1).toNat) (by
    rintro ⟨s,l,n,i,⟨⟩⟩ ⟨⟩ Q hq
    rw[tr_gsL_eq s l n i]
    exact gs_core s l n i Q hq)
noncomputable def lpNs:Loops:=oneL 3 (spNs.run outNs)
noncomputable def lpEs:Loops:=oneL 3 (spEs.run outEs)
noncomputable def lpGs:Loops:=oneL 3 (spGs.run outGs)
def RoOk (k:Int) (p:Pt):Prop:=safeF 500 p.1=true∧safeF 500 p.2=true∧(decV p.1 k).size≤2000∧(decV p.2 k).size≤2000
def outRo (x:LSpec.X spRo) (y:LSpec.Y spRo):T (Exit×List Av×LSpec.Y spRo):=.need (StInv (α:=Pt) x.2.1 x.2.2.1 x.2.2.2.1 x.2.2.2.2.1 ∧ ∀ p∈(x.2.2.1:List Pt),RoOk x.1 p) (.ret (.exit 0,[.one (.v (.string (x.2.1++strL (roF x.1) (List.drop (Int.toNat x.2.2.2.2.1) (x.2.2.1:List Pt)) x.2.2.2.2.1)))],()))
theorem ro_core (k : Int) (s : ByteArray) (l : List Pt) (n i : Int) (Q : Exit × List Av × LSpec.Y spRo → Prop) (hq : (outRo (k, s, l, n, i, ()) ()).wp Q) : (roR k s l n i).wp fun r => match r with
      | .again x' y'=>(x'.2.2.2.1-x'.2.2.2.2.1).toNat<(n-i).toNat∧(outRo x' y').wp Q
      | .out e avs y'=>Q (e,avs,y'):=by
  obtain ⟨⟨⟨hn,i0,hi,hl,hs⟩,hv⟩,hq⟩:=hq
  have hn:n=(l.length:Int):=hn
  have i0:0≤i:=i0
  have hi:i≤(l.length:Int):=hi
  have hl:l.length≤1000:=hl
  have hv : ∀ p∈l,RoOk k p:=hv
  have hs:(s.size:Int)+10000*((l.length:Int)-i)≤100000000:=hs
  have hq:Q (.exit 0,[.one (.v (.string (s++strL (roF k) (List.drop i.toNat l) i)))],()):=hq
  refine ⟨fun hlt=>?_,fun hge=>?_⟩
  · have hlt:=of_decide_eq_true hlt
    obtain ⟨p,hp⟩:=elem_at (l:=l) i0 (by omega)
    rw[strL_next (roF k) s i0 hp]at hq
    obtain ⟨s1,s2,z1,z2⟩:=hv p (List.mem_of_getElem? hp)
    rw[wi1_eq (i:=i) (by omega)]
    have hw : ∀ w∈[itoaS (i+1),decV p.1 k,decV p.2 k],w.size≤2051:=fun w hw=>by
      rcases List.mem_cons.1 hw with rfl|hw
      · have:=itoaS_size (v:=i+1) (by unfold in64W;omega);omega
      · rcases List.mem_cons.1 hw with rfl|hw
        · omega
        · rcases List.mem_cons.1 hw with rfl|hw
          · omega
          · cases hw
    refine wget i0 hp (witf (by rw[s1];rfl) (witf (by rw[s2];rfl) (wned (by omega) (rowN_wp (by simp) hw (by omega) ⟨show (n-(i+1)).toNat<(n-i).toNat by omega,wned ⟨⟨hn,show 0≤i+1 by omega,show i+1≤(l.length:Int) by omega,hl,?_⟩,hv⟩ hq⟩))))
    have:=rowS_size 2051 _ hw
    show ((s++rowS [itoaS (i+1),decV p.1 k,decV p.2 k]).size:Int)+10000*((l.length:Int)-(i+1))≤100000000
    rw[ByteArray.size_append]
    simp only[List.length_cons,List.length_nil]at this
    omega
  · have hge:=of_decide_eq_false hge
    rw[strL_end (roF k) s (by omega)]at hq
    exact hq
theorem roL_ok:LoopOk Tryz.prog 0 (bodyOf Tryz.f10 0) (spRo.run outRo):=
  loop_ok (E:=EW5) (L:=fun _=>none) mixed 0 (loops_none _ _ _) spRo (Nat.zero_le _) outRo (fun x _=>(x.2.2.2.1-x.2.2.2.2.1).toNat) (by
    rintro ⟨k,s,l,n,i,⟨⟩⟩ ⟨⟩ Q hq
    rw[tr_roL_eq k s l n i]
    exact ro_core k s l n i Q hq)
noncomputable def lpRo:Loops:=oneL 3 (spRo.run outRo)
def hdN (hd:List Int) (K:ByteArray→T Av):T Av:=.need (List.length hd≤1000 ∧ ∀ v∈hd,in64W v) (K (intsS hd))
def sA (s:ByteArray):Av:=.one (.v (.string s))
def nsTree (l:List Pt):T Av:=hdN [(List.length l:Int),2,0,0] fun s=>.need (StInv s l (List.length l:Int) 0) (.ret (sA (s++strL nsF (List.drop (Int.toNat 0) l) 0)))
def esTree (l:List I3):T Av:=hdN [(List.length l:Int),3,0] fun s=>.need (StInv s l (List.length l:Int) 0 ∧ ∀ p∈l,smP p) (.ret (sA (s++strL esF (List.drop (Int.toNat 0) l) 0)))
def gsTree (l:List I3):T Av:=hdN [(List.length l:Int),1] fun s=>.need (StInv s l (List.length l:Int) 0 ∧ ∀ p∈l,smP p) (.ret (sA (s++strL gsF (List.drop (Int.toNat 0) l) 0)))
def roTree (l:List Pt) (k:Int):T Av:=hdN [(List.length l:Int),2,0,0] fun s=>.need (StInv s l (List.length l:Int) 0 ∧ ∀ p∈l,RoOk k p) (.ret (.tup [sA (s++strL (roF k) (List.drop (Int.toNat 0) l) 0),.one (.v (.bool true))]))
theorem tr_wNodes_eq (p:List Pt) (t e:List I3):fnP EW5 lpNs Tryz.f18 (encs [(true,cMesh)] ((p,t,e),()))=nsTree p:=by kernel_rfl
theorem tr_wEles_eq (p:List Pt) (t e:List I3):fnP EW5 lpEs Tryz.f19 (encs [(true,cMesh)] ((p,t,e),()))=esTree t:=by kernel_rfl
theorem tr_wEdges_eq (p:List Pt) (t e:List I3):fnP EW5 lpGs Tryz.f20 (encs [(true,cMesh)] ((p,t,e),()))=gsTree e:=by kernel_rfl
theorem tr_wRounded_eq (p:List Pt) (t e:List I3) (k:Int):fnP EW5 lpRo Tryz.f10 (encs [(true,cMesh),(false,.int .i64)] ((p,t,e),k,()))=roTree p k:=by kernel_rfl
def nodesS (l:List Pt):ByteArray:=intsS [(l.length:Int),2,0,0]++strL nsF l 0
def elesS (l:List I3):ByteArray:=intsS [(l.length:Int),3,0]++strL esF l 0
def edgesS (l:List I3):ByteArray:=intsS [(l.length:Int),1]++strL gsF l 0
def roundS (k:Int) (l:List Pt):ByteArray:=intsS [(l.length:Int),2,0,0]++strL (roF k) l 0
theorem hd_in {n:Nat} {r:List Int} (hn:n≤1000) (hr : ∀ v∈r,0≤v∧v≤3) (hl:r.length≤3):(((n:Int)::r).length≤1000 ∧ ∀ v∈((n:Int)::r),in64W v)∧(intsS ((n:Int)::r)).size≤1000:=by
  have h : ∀ v∈((n:Int)::r),in64W v:=fun v hv=>by
    unfold in64W
    rcases List.mem_cons.1 hv with rfl|hv
    · omega
    · have:=hr v hv;omega
  have:=intsS_size h
  simp only[List.length_cons]at this ⊢
  exact ⟨⟨by omega,h⟩,by omega⟩
theorem st_in {α:Type} {s:ByteArray} {l:List α} (hl:l.length≤1000) (hs:s.size≤1000):StInv s l (List.length l:Int) 0:=⟨rfl,Int.le_refl 0,by omega,hl,by omega⟩
theorem r2 : ∀ v∈[(2:Int),0,0],0≤v∧v≤3:=by decide
theorem r3 : ∀ v∈[(3:Int),0],0≤v∧v≤3:=by decide
theorem r1 : ∀ v∈[(1:Int)],0≤v∧v≤3:=by decide
noncomputable def con_wNodes:Con Tryz.prog:=⟨18,[],_,cf_wNodes,val_con (E:=EW5) (L:=lpNs) mixed Tryz.func18 (one_loop nsL_ok (by kernel_rfl)) [(true,cMesh)] (fun x=>List.length x.1.1≤1000) (fun x=>sA (nodesS x.1.1)) fun x hx=>by
  obtain ⟨⟨p,t,e⟩,u⟩:=x
  have hx:p.length≤1000:=hx
  rw[show fnP EW5 lpNs Tryz.f18 (encs [(true,cMesh)] ((p,t,e),u))=nsTree p from tr_wNodes_eq p t e]
  obtain ⟨h1,h2⟩:=hd_in hx r2 (by decide)
  exact wned h1 (wned (st_in hx h2) rfl)⟩
noncomputable def con_wEles:Con Tryz.prog:=⟨19,[],_,cf_wEles,val_con (E:=EW5) (L:=lpEs) mixed Tryz.func19 (one_loop esL_ok (by kernel_rfl)) [(true,cMesh)] (fun x=>List.length x.1.2.1≤1000 ∧ ∀ p∈(x.1.2.1:List I3),smP p) (fun x=>sA (elesS x.1.2.1)) fun x hx=>by
  obtain ⟨⟨p,t,e⟩,u⟩:=x
  have h0:t.length≤1000:=hx.1
  have hv : ∀ p∈t,smP p:=hx.2
  rw[show fnP EW5 lpEs Tryz.f19 (encs [(true,cMesh)] ((p,t,e),u))=esTree t from tr_wEles_eq p t e]
  obtain ⟨h1,h2⟩:=hd_in h0 r3 (by decide)
  exact wned h1 (wned ⟨st_in h0 h2,hv⟩ rfl)⟩
noncomputable def con_wEdges:Con Tryz.prog:=⟨20,[],_,cf_wEdges,val_con (E:=EW5) (L:=lpGs) mixed Tryz.func20 (one_loop gsL_ok (by kernel_rfl)) [(true,cMesh)] (fun x=>List.length x.1.2.2≤1000 ∧ ∀ p∈(x.1.2.2:List I3),smP p) (fun x=>sA (edgesS x.1.2.2)) fun x hx=>by
  obtain ⟨⟨p,t,e⟩,u⟩:=x
  have h0:e.length≤1000:=hx.1
  have hv : ∀ p∈e,smP p:=hx.2
  rw[show fnP EW5 lpGs Tryz.f20 (encs [(true,cMesh)] ((p,t,e),u))=gsTree e from tr_wEdges_eq p t e]
  obtain ⟨h1,h2⟩:=hd_in h0 r1 (by decide)
  exact wned h1 (wned ⟨st_in h0 h2,hv⟩ rfl)⟩
noncomputable def con_wRounded:Con Tryz.prog:=⟨10,[],_,cf_wRounded,val_con (E:=EW5) (L:=lpRo) mixed Tryz.func10 (one_loop roL_ok (by kernel_rfl)) [(true,cMesh),(false,.int .i64)] (fun x=>List.length x.1.1≤1000 ∧ ∀ p∈(x.1.1:List Pt),RoOk x.2.1 p) (fun x=>.tup [sA (roundS x.2.1 x.1.1),.one (.v (.bool true))]) fun x hx=>by
  obtain ⟨⟨p,t,e⟩,k,u⟩:=x
  have h0:p.length≤1000:=hx.1
  have hv : ∀ q∈p,RoOk k q:=hx.2
  rw[show fnP EW5 lpRo Tryz.f10 (encs [(true,cMesh),(false,.int .i64)] ((p,t,e),k,u))=roTree p k from tr_wRounded_eq p t e k]
  obtain ⟨h1,h2⟩:=hd_in h0 r2 (by decide)
  exact wned h1 (wned ⟨st_in h0 h2,hv⟩ rfl)⟩
noncomputable def EW6:Env Tryz.prog:=EW5.add [con_wread,con_wNodes,con_wEles,con_wEdges,con_wRounded]
def eqFw (v x:F):Bool:=v.1.1==x.1.1&&(v.1.2.1==x.1.2.1&&true)&&(v.2.1==x.2.1&&(v.2.2.1==x.2.2.1&&true)&&true)
def eqPw (u v:Pt):Bool:=eqFw u.1 v.1&&(eqFw u.2 v.2&&true)
def eqIw (u v:I3):Bool:=u.1==v.1&&(u.2.1==v.2.1&&(u.2.2==v.2.2&&true))
abbrev spS (k:Nat):LSpec:=⟨87,[(k,false,.int .i64)],[(2,0,0),(3,1,0)],[(41,cMesh),(41,cMesh)],fun e=>match e with|.ret=>[4]|_=>[]⟩
def smR (k x:Nat) {α:Type} (p q:List α) (eqv:α→α→Bool) (a b:Mesh) (i:Int):T (Rd (spS k)):=.ite (decide (i<(List.length p:Int))) (.get p i fun u=>.get q i fun v=>.ite (!eqv u v) (.ret (.out Exit.ret [.one (.v (.bool false))] (a,b,()))) (.ret (.again (wi1 i,()) (a,b,())))) (.ret (.out (Exit.exit x) [] (a,b,())))
theorem tr_sm0_eq (a b:Mesh) (i:Int):LSpec.round (spS 5) EW6 (fun _=>none) (bodyOf Tryz.f22 0) (i,()) (a,b,())=smR 5 0 a.1 b.1 eqPw a b i:=by kernel_rfl
theorem tr_sm1_eq (a b:Mesh) (i:Int):LSpec.round (spS 6) EW6 (fun _=>none) (bodyOf Tryz.f22 1) (i,()) (a,b,())=smR 6 2 a.2.1 b.2.1 eqIw a b i:=by kernel_rfl
theorem tr_sm2_eq (a b:Mesh) (i:Int):LSpec.round (spS 7) EW6 (fun _=>none) (bodyOf Tryz.f22 2) (i,()) (a,b,())=smR 7 4 a.2.2 b.2.2 eqIw a b i:=by kernel_rfl
theorem eqW_iff (v x:W):(v.1==x.1&&(v.2.1==x.2.1&&true))=true↔v=x:=by
  obtain ⟨a,b⟩:=v
  obtain ⟨c,d⟩:=x
  rw[Bool.and_true,Bool.and_eq_true,beq_iff_eq,beq_iff_eq,Prod.mk.injEq]
  exact ⟨fun h=>⟨h.1,Subtype.ext h.2⟩,fun h=>⟨h.1,congrArg Subtype.val h.2⟩⟩
theorem eqFw_iff (v x:F):eqFw v x=true↔v=x:=by
  obtain ⟨a,b⟩:=v
  obtain ⟨c,d⟩:=x
  unfold eqFw
  rw[Bool.and_eq_true,Bool.and_true (_&&_),Prod.mk.injEq]
  exact and_congr (eqW_iff a c) (eqW_iff b d)
theorem eqPw_iff (u v:Pt):eqPw u v=true↔u=v:=by
  obtain ⟨a,b⟩:=u
  obtain ⟨c,d⟩:=v
  unfold eqPw
  rw[Bool.and_eq_true,Bool.and_true,Prod.mk.injEq]
  exact and_congr (eqFw_iff a c) (eqFw_iff b d)
theorem eqIw_iff (u v:I3):eqIw u v=true↔u=v:=by
  obtain ⟨a,b,c⟩:=u
  obtain ⟨d,e,f⟩:=v
  unfold eqIw
  simp[Prod.mk.injEq]
instance:DecidableEq Pt:=inferInstanceAs (DecidableEq ((((Bool×Amt)×(Bool×Amt))×((Bool×Amt)×(Bool×Amt)))))
def outS (k x:Nat) {α:Type} [DecidableEq α] (p q:Mesh→List α) (X:LSpec.X (spS k)) (y:LSpec.Y (spS k)):T (Exit×List Av×LSpec.Y (spS k)):=
  .need (0≤(X.1:Int)∧(p y.1).length=(q y.2.1).length∧(p y.1).length≤1000000) (.ite (decide ((p y.1).drop (Int.toNat X.1)=(q y.2.1).drop (Int.toNat X.1))) (.ret (.exit x,[],y)) (.ret (.ret,[.one (.v (.bool false))],y)))
theorem sm_core (k x : Nat) {α : Type} [DecidableEq α] (p q : Mesh → List α) (eqv : α → α → Bool) (he : ∀ u v, eqv u v = true ↔ u = v) (a b : Mesh) (i : Int) (Q : Exit × List Av × LSpec.Y (spS k) → Prop) (hq : (outS k x p q (i, ()) (a, b, ())).wp Q) : (smR k x (p a) (q b) eqv a b i).wp fun r => match r with
      | .again x' y'=>((p y'.1).length-Int.toNat x'.1)<(p a).length-i.toNat∧(outS k x p q x' y').wp Q
      | .out e avs y'=>Q (e,avs,y'):=by
  obtain ⟨⟨i0,hl,hm⟩,hy,hz⟩:=hq
  have i0:0≤i:=i0
  have hl:(p a).length=(q b).length:=hl
  have hm:(p a).length≤1000000:=hm
  have hy:decide ((p a).drop i.toNat=(q b).drop i.toNat)=true→Q (.exit x,[],(a,b,())):=hy
  have hz:decide ((p a).drop i.toNat=(q b).drop i.toNat)=false→Q (.ret,[.one (.v (.bool false))],(a,b,())):=hz
  refine ⟨fun hlt=>?_,fun hge=>?_⟩
  · have hlt:=of_decide_eq_true hlt
    obtain ⟨u,hu⟩:=elem_at (l:=p a) i0 hlt
    obtain ⟨v,hv⟩:=elem_at (l:=q b) i0 (by omega)
    rw[drop_at i0 hu,drop_at i0 hv]at hy hz
    refine wget i0 hu (wget i0 hv ⟨fun h=>hz ?_,fun h=>?_⟩)
    · have h:eqv u v=false:=by simpa using h
      rw[decide_eq_false_iff_not]
      intro e
      have:=(he u v).2 (List.cons.inj e).1
      rw[this]at h;cases h
    · have h:eqv u v=true:=by simpa using h
      have h:=(he u v).1 h
      subst h
      have e:decide (u::(p a).drop (i+1).toNat=u::(q b).drop (i+1).toNat)=decide ((p a).drop (i+1).toNat=(q b).drop (i+1).toNat):=by
        rw[decide_eq_decide];simp
      rw[e]at hy hz
      rw[wi1_eq (i:=i) (by omega)]
      exact ⟨show (p a).length-(i+1).toNat<(p a).length-i.toNat by omega,wned ⟨show 0≤i+1 by omega,hl,hm⟩ ⟨hy,hz⟩⟩
  · have hge:=of_decide_eq_false hge
    rw[drop_end (by omega),drop_end (by omega)]at hy
    exact hy (decide_eq_true rfl)
theorem sm0_ok:LoopOk Tryz.prog 0 (bodyOf Tryz.f22 0) ((spS 5).run (outS 5 0 (fun m=>m.1) (fun m=>m.1))):=
  loop_ok (E:=EW6) (L:=fun _=>none) mixed 0 (loops_none _ _ _) (spS 5) (Nat.zero_le _) (outS 5 0 (fun m=>m.1) (fun m=>m.1)) (fun x y=>(y.1.1.length-Int.toNat x.1)) (by
    rintro ⟨i,⟨⟩⟩ ⟨a,b,⟨⟩⟩ Q hq
    rw[tr_sm0_eq a b i]
    exact sm_core 5 0 (fun m=>m.1) (fun m=>m.1) eqPw eqPw_iff a b i Q hq)
theorem sm1_ok:LoopOk Tryz.prog 0 (bodyOf Tryz.f22 1) ((spS 6).run (outS 6 2 (α:=I3) (fun m=>m.2.1) (fun m=>m.2.1))):=
  loop_ok (E:=EW6) (L:=fun _=>none) mixed 0 (loops_none _ _ _) (spS 6) (Nat.zero_le _) (outS 6 2 (α:=I3) (fun m=>m.2.1) (fun m=>m.2.1)) (fun x y=>(y.1.2.1.length-Int.toNat x.1)) (by
    rintro ⟨i,⟨⟩⟩ ⟨a,b,⟨⟩⟩ Q hq
    rw[tr_sm1_eq a b i]
    exact sm_core 6 2 (α:=I3) (fun m=>m.2.1) (fun m=>m.2.1) eqIw eqIw_iff a b i Q hq)
theorem sm2_ok:LoopOk Tryz.prog 0 (bodyOf Tryz.f22 2) ((spS 7).run (outS 7 4 (α:=I3) (fun m=>m.2.2) (fun m=>m.2.2))):=
  loop_ok (E:=EW6) (L:=fun _=>none) mixed 0 (loops_none _ _ _) (spS 7) (Nat.zero_le _) (outS 7 4 (α:=I3) (fun m=>m.2.2) (fun m=>m.2.2)) (fun x y=>(y.1.2.2.length-Int.toNat x.1)) (by
    rintro ⟨i,⟨⟩⟩ ⟨a,b,⟨⟩⟩ Q hq
    rw[tr_sm2_eq a b i]
    exact sm_core 7 4 (α:=I3) (fun m=>m.2.2) (fun m=>m.2.2) eqIw eqIw_iff a b i Q hq)
noncomputable def lpSm:Loops:=manyL [(4,(spS 5).run (outS 5 0 (fun m=>m.1) (fun m=>m.1))),(9,(spS 6).run (outS 6 2 (α:=I3) (fun m=>m.2.1) (fun m=>m.2.1))),(14,(spS 7).run (outS 7 4 (α:=I3) (fun m=>m.2.2) (fun m=>m.2.2)))]
def smF:T Av:=.ret (.one (.v (.bool false)))
def smL {α:Type} [DecidableEq α] (p q:List α) (K:T Av):T Av:=.need ((0:Int)≤0∧p.length=q.length∧p.length≤1000000) (.ite (decide (p.drop (Int.toNat 0)=q.drop (Int.toNat 0))) K smF)
def smTree (a b:Mesh):T Av:=.ite ((List.length a.1:Int) != (List.length b.1:Int)) smF (.ite ((List.length a.2.1:Int) != (List.length b.2.1:Int)) smF (.ite ((List.length a.2.2:Int) != (List.length b.2.2:Int)) smF
  (smL (α:=Pt) a.1 b.1 (smL (α:=I3) a.2.1 b.2.1 (smL (α:=I3) a.2.2 b.2.2 (.ret (.one (.v (.bool true)))))))))
theorem tr_same_eq' (a b:Mesh):fnP EW6 lpSm Tryz.f22 (encs [(true,cMesh),(true,cMesh)] (a,b,()))=smTree a b:=by kernel_rfl
def meshFit (a:Mesh):Prop:=a.1.length≤1000000∧a.2.1.length≤1000000∧a.2.2.length≤1000000
instance:DecidableEq Mesh:=inferInstanceAs (DecidableEq (List Pt×List I3×List I3))
theorem smL_wp {α:Type} [DecidableEq α] {p q:List α} {K:T Av} {Q:Av→Prop} (hl:((p.length:Int) != (q.length:Int))=false) (hm:p.length≤1000000) (h1:p=q→K.wp Q) (h2:p≠q→Q (.one (.v (.bool false)))):(smL p q K).wp Q:=by
  have hl : p.length = q.length := by have : (p.length : Int) = q.length := by simpa using hl
                                      omega
  exact wned ⟨Int.le_refl 0,hl,hm⟩ ⟨fun h=>h1 (of_decide_eq_true h),fun h=>h2 (of_decide_eq_false h)⟩
noncomputable def con_wsame:Con Tryz.prog:=⟨22,[],_,cf_wsame,val_con (E:=EW6) (L:=lpSm) mixed Tryz.func22 (many_loops (by kernel_rfl) (by simp) (fun i p hp=>by
    match i,hp with
    | 0,hp=>cases hp;exact sm0_ok
    | 1,hp=>cases hp;exact sm1_ok
    | 2,hp=>cases hp;exact sm2_ok
    | i+3,hp=>simp at hp)) [(true,cMesh),(true,cMesh)] (fun x=>meshFit x.1) (fun x=>.one (.v (.bool (decide ((x.1:Mesh)=x.2.1))))) fun x hx=>by
  obtain ⟨a,b,u⟩:=x
  have hx:meshFit a:=hx
  rw[show fnP EW6 lpSm Tryz.f22 (encs [(true,cMesh),(true,cMesh)] (a,b,u))=smTree a b from tr_same_eq' a b]
  show (smTree a b).wp (· = .one (.v (.bool (decide ((a:Mesh)=b)))))
  have no:¬ a=b→smF.wp (· = .one (.v (.bool (decide ((a:Mesh)=b))))):=fun h=>by
    rw[decide_eq_false h];rfl
  obtain ⟨p,t,e⟩:=a
  obtain ⟨p',t',e'⟩:=b
  obtain ⟨h1,h2,h3⟩:=hx
  refine ⟨fun h=>no fun e=>?_,fun l1=>⟨fun h=>no fun e=>?_,fun l2=>⟨fun h=>no fun e=>?_,fun l3=>smL_wp l1 h1 (fun e1=>smL_wp l2 h2 (fun e2=>smL_wp l3 h3 (fun e3=>?_) fun e3=>no fun e=>e3 ?_) fun e2=>no fun e=>e2 ?_) fun e1=>no fun e=>e1 ?_⟩⟩⟩
  · rw[e]at h;simp at h
  · rw[e]at h;simp at h
  · rw[e]at h;simp at h
  · have e1:p=p':=e1
    have e2:t=t':=e2
    have e3:e=e':=e3
    subst e1;subst e2;subst e3
    rw[decide_eq_true rfl];rfl
  · exact congrArg (·.2.2) e
  · exact congrArg (·.2.1) e
  · exact congrArg (·.1) e⟩
theorem cf_ptNew (xs:Array Value) (w:World):(callFunc 33 xs).run Tryz.prog w=.ok (.enter 33 xs) w:=by kernel_rfl
theorem cf_ptOf (xs:Array Value) (w:World):(callFunc 9 xs).run Tryz.prog w=.ok (.enter 9 xs) w:=by kernel_rfl
theorem cf_ptAt (xs:Array Value) (w:World):(callFunc 32 xs).run Tryz.prog w=.ok (.enter 32 xs) w:=by kernel_rfl
noncomputable def pcNeg:PCon EW6.con:=⟨67,[(true,cW)],fun x=>.ret (aB (x.1.1&&decide (x.1.2.1≠0))),⟨con_pneg,rfl,rfl,rfl⟩⟩
noncomputable def pcOf:PCon EW6.con:=⟨41,[(true,cW)],fun x=>.ret (.one (.ds (.int .u32) (mg x.1.2.1))),⟨con_pof,rfl,rfl,rfl⟩⟩
noncomputable def pcRat:PCon EW6.con:=⟨66,[(false,.bool),(false,.sl (.int .u32)),(false,.sl (.int .u32))],fun x=>.need ((x.2.1:List Int)=mg (valL x.2.1)∧(x.2.2.1:List Int)=mg (valL x.2.2.1)∧valL x.2.1<Pq.bp 32∧valL x.2.2.1<Pq.bp 32∧valL x.2.2.1≠0) (.ret (.tup [.agg (ck cF (rOf (Rat.divInt (Pq.zv x.1 (valL x.2.1)) (valL x.2.2.1:Nat)))),aB true])),⟨con_prat,rfl,rfl,rfl⟩⟩
noncomputable def ONwW:Opt EW6.con:=⟨[pcNeg,pcOf,pcRat],[],fun _=>none⟩
def noR:T Av:=.ret (.tup [.agg (ck cF (zE cF)),aB false])
def ratT (b:Bool) (l r:List Int):T Av:=.need (l=mg (valL l)∧r=mg (valL r)∧valL l<Pq.bp 32∧valL r<Pq.bp 32∧valL r≠0) (.ret (.tup [.agg (ck cF (rOf (Rat.divInt (Pq.zv b (valL l)) (valL r:Nat)))),aB true]))
def nwTree (x y:W):T Av:=.ite (!isW x) noR (.ite (!isW y) noR (.ite (decide ((Pq.bitn x.2.1:Int)>1023)) noR (.ite (decide ((Pq.bitn y.2.1:Int)>1023)) noR (.ite (decide ((Pq.bitn y.2.1:Int)=0)) noR
  (ratT ((x.1&&decide (x.2.1≠0)) != (y.1&&decide (y.2.1≠0))) (mg x.2.1) (mg y.2.1))))))
theorem tr_nw_eq (x y:W):fnPC ONwW EW6 (fun _=>none) Tryz.f33 (encs [(true,cW),(true,cW)] (x,y,()))=nwTree x y:=by kernel_rfl
def sg (n:Int):Prop:=n.natAbs<4611686018427387904
theorem sg_big {n:Int} (h:sg n):n.natAbs<2^62:=by
  have:(2:Nat)^62=4611686018427387904:=by decide
  unfold sg at h
  omega
theorem sg_bp {n:Int} (h:sg n):n.natAbs<Pq.bp 32:=(big_b (pow_to (j:=62) (k:=1001) (sg_big h) (by decide))).1
theorem sg_w {n:Int} (h:sg n):wOf n=(decide (n<0),⟨n.natAbs,sg_bp h⟩):=by
  unfold wOf
  rw[dif_pos (sg_bp h)]
theorem sg_is {n:Int} (h:sg n):isW (wOf n)=true:=by
  rw[isW_iff,sg_w h]
  rintro ⟨h1,h2⟩
  have h1:n<0:=of_decide_eq_true h1
  have h2:n.natAbs=0:=h2
  omega
theorem sg_zv {n:Int}:Pq.zv (decide (n<0)&&decide (n.natAbs≠0)) n.natAbs=n:=by
  unfold Pq.zv
  by_cases h:n<0
  · have:n.natAbs≠0:=by omega
    simp[h,this]
    omega
  · simp[h]
    omega
theorem nwZ_ok {n d:Int} (hn:sg n) (hd:sg d) (h1:1≤d):(nwTree (wOf n) (wOf d)).wp (· = .tup [.agg (ck cF (rOf (Rat.divInt n d))),aB true]):=by
  have z1:=sg_is hn
  have z2:=sg_is hd
  have b1:=Pq.bitn_le.2 (sg_big hn)
  have b2:=Pq.bitn_le.2 (sg_big hd)
  have b3:Pq.bitn d.natAbs≠0:=fun e=>by
    have:=Pq.bitn_eq0.1 e
    omega
  have l1:=sg_bp hn
  have l2:=sg_bp hd
  have e2:((d.natAbs:Nat):Int)=d:=by omega
  have e3:decide (d<0)=false:=decide_eq_false (by omega)
  unfold nwTree
  refine witf (by rw[z1];rfl) (witf (by rw[z2];rfl) ?_)
  rw[sg_w hn,sg_w hd]
  refine witf (decide_eq_false ?_) (witf (decide_eq_false ?_) (witf (decide_eq_false ?_) ?_))
  · show ¬ ((Pq.bitn n.natAbs:Int)>1023);omega
  · show ¬ ((Pq.bitn d.natAbs:Int)>1023);omega
  · show ¬ ((Pq.bitn d.natAbs:Int)=0);omega
  · show (ratT ((decide (n<0)&&decide (n.natAbs≠0)) != (decide (d<0)&&decide (d.natAbs≠0))) (mg n.natAbs) (mg d.natAbs)).wp _
    rw[e3,Bool.false_and,Bool.bne_false]
    unfold ratT
    rw[val_mg,val_mg,sg_zv,e2]
    exact wned ⟨rfl,rfl,l1,l2,by omega⟩ rfl
noncomputable def con_ptNewZ:Con Tryz.prog:=⟨33,[],_,cf_ptNew,con_okC (O:=ONwW) (E:=EW6) (L:=fun _=>none) rfl mixed Tryz.func33 no_loops [(true,cW),(true,cW)]
  (fun x=>.need (∃ n d,sg n∧sg d∧1≤d∧x.1=wOf n∧x.2.1=wOf d) (.ret (.tup [.agg (ck cF (rOf (Rat.divInt (zW x.1) (zW x.2.1)))),aB true]))) fun x Q hq=>by
  obtain ⟨a,b,u⟩:=x
  obtain ⟨⟨n,d,hn,hd,h0,h1,h2⟩,hq⟩:=hq
  have h1:a=wOf n:=h1
  have h2:b=wOf d:=h2
  subst h1
  subst h2
  have hq:Q (.tup [.agg (ck cF (rOf (Rat.divInt (zW (wOf n)) (zW (wOf d))))),aB true]):=hq
  rw[zW_wOf (sg_bp hn),zW_wOf (sg_bp hd)]at hq
  exact ⟨_,tr_nw_eq _ _,T.wp_mono (fun v hv=>by rw[hv];exact hq) (nwZ_ok hn hd h0)⟩⟩
noncomputable def EWQ:Env Tryz.prog:=EW6.add [con_ptNewZ]
def nwPreZ (x y:W):Prop := ∃ n d,sg n∧sg d∧1≤d∧x=wOf n∧y=wOf d
def ofZ (n d:Int):T Av:=.need (in64 n) (.need (in64 d) (.need (nwPreZ (wOf n) (wOf d)) (.ret (.tup [.agg (ck cF (rOf (Rat.divInt (zW (wOf n)) (zW (wOf d))))),aB true]))))
noncomputable def OQZ:Opt EWQ.con:=⟨[],[],fun _=>none⟩
theorem tr_ptOfZ_eq (n d:Int):fnPC OQZ EWQ (fun _=>none) Tryz.f9 (encs [(false,.int .i64),(false,.int .i64)] (n,d,()))=ofZ n d:=by kernel_rfl
theorem in64_sg {n:Int} (h:sg n):in64 n:=by
  unfold sg at h
  unfold in64
  omega
noncomputable def con_ptOfZ:Con Tryz.prog:=⟨9,[],_,cf_ptOf,val_conC (O:=OQZ) (E:=EWQ) (L:=fun _=>none) rfl mixed Tryz.func9 no_loops [(false,.int .i64),(false,.int .i64)]
  (fun x=>sg x.1∧sg x.2.1∧1≤x.2.1) (fun x=>.tup [.agg (ck cF (rOf (Rat.divInt x.1 x.2.1))),aB true]) (fun x=>ofZ x.1 x.2.1) (fun x=>tr_ptOfZ_eq x.1 x.2.1) fun x h=>by
    obtain ⟨hn,hd,h1⟩:=h
    unfold ofZ
    rw[zW_wOf (sg_bp hn),zW_wOf (sg_bp hd)]
    exact wned (in64_sg hn) (wned (in64_sg hd) (wned ⟨_,_,hn,hd,h1,rfl,rfl⟩ rfl))⟩
def rIw (z:Int):F:=(wOf z,wOf 1)
noncomputable def OGw:Opt EW6.con:=⟨[],[],fun _=>none⟩
theorem tr_ptAt_eq (x y:Int):fnPC OGw EW6 (fun _=>none) Tryz.f32 (encs [(false,.int .i64),(false,.int .i64)] (x,y,()))=.need (in64 x) (.need (in64 y) (.ret (.agg (ck cP (rIw x,rIw y))))):=by kernel_rfl
noncomputable def con_ptAt:Con Tryz.prog:=⟨32,[],_,cf_ptAt,val_conC (O:=OGw) (E:=EW6) (L:=fun _=>none) rfl mixed Tryz.func32 no_loops [(false,.int .i64),(false,.int .i64)]
  (fun x=>in64 x.1∧in64 x.2.1) (fun x=>.agg (ck cP (rIw x.1,rIw x.2.1))) (fun x=>.need (in64 x.1) (.need (in64 x.2.1) (.ret (.agg (ck cP (rIw x.1,rIw x.2.1)))))) (fun x=>tr_ptAt_eq x.1 x.2.1) fun x h=>wned h.1 (wned h.2 rfl)⟩
noncomputable def EW7:Env Tryz.prog:=EW6.add [con_ptOfZ,con_ptAt,con_wsame]
theorem cf_wknown (xs:Array Value) (w:World):(callFunc 8 xs).run Tryz.prog w=.ok (.enter 8 xs) w:=by kernel_rfl
noncomputable def EWK:Env Tryz.prog:=⟨EW7.con,EW7.zero,EW7.cod,fun id=>id==7,EW7.base,EW7.frz⟩
noncomputable def pcAtW:PCon EWK.con:=⟨32,[(false,.int .i64),(false,.int .i64)],fun x=>.need (in64 x.1∧in64 x.2.1) (.ret (.agg (ck cP (rIw x.1,rIw x.2.1)))),⟨con_ptAt,rfl,rfl,rfl⟩⟩
noncomputable def pcNoW:PCon EWK.con:=⟨18,[(true,cMesh)],fun x=>.need (List.length x.1.1≤1000) (.ret (sA (nodesS x.1.1))),⟨con_wNodes,rfl,rfl,rfl⟩⟩
noncomputable def pcElW:PCon EWK.con:=⟨19,[(true,cMesh)],fun x=>.need (List.length x.1.2.1≤1000 ∧ ∀ p∈(x.1.2.1:List I3),smP p) (.ret (sA (elesS x.1.2.1))),⟨con_wEles,rfl,rfl,rfl⟩⟩
noncomputable def pcEgW:PCon EWK.con:=⟨20,[(true,cMesh)],fun x=>.need (List.length x.1.2.2≤1000 ∧ ∀ p∈(x.1.2.2:List I3),smP p) (.ret (sA (edgesS x.1.2.2))),⟨con_wEdges,rfl,rfl,rfl⟩⟩
noncomputable def OWK:Opt EWK.con:=⟨[pcAtW,pcNoW,pcElW,pcEgW],[],fun _=>none⟩
def kq (b:Bool) (K:T Av):T Av:=.need (b=true) K
noncomputable def hfK:F:=rOf (Rat.divInt 1 2)
noncomputable def meK:Mesh:=([(rIw 0,rIw 0),(hfK,hfK)],[((0:Int),(1:Int),(0:Int))],[((0:Int),(1:Int),(7:Int))])
def sz3 (a b c:ByteArray):Prop:=a.size≤900000∧b.size≤900000∧c.size≤900000
noncomputable def knC (a b c r:ByteArray):T Av:=.need (sz3 a b c) (.need (sz3 a b ⟨#[]⟩)
  (kq (a.toList==(ByteArray.mk #[50,32,50,32,48,32,48,10,49,32,48,32,48,10,50,32,49,47,50,32,49,47,50,10]).toList)
  (kq (b.toList==(ByteArray.mk #[49,32,51,32,48,10,49,32,49,32,50,32,49,10]).toList)
  (kq (c.toList==(ByteArray.mk #[49,32,49,10,49,32,49,32,50,32,55,10]).toList)
  (kq true (kq (r.toList==(ByteArray.mk #[50,32,50,32,48,32,48,10,49,32,48,46,48,32,48,46,48,10,50,32,48,46,53,32,48,46,53,10]).toList)
  (kq ((rdM a b c).2==0) (.need (meshFit (rdM a b c).1) (kq (decide ((rdM a b c).1=meK)) (.ret (.one (.v (.bool ((rdM a b ⟨#[]⟩).2==3))))))))))))))
def k2b (I:Prop) (K:T Av):T Av:=.and (.need I (.need (True∧True∧True) K)) (.need I K)
def k2a (I:Prop) (K:T Av):T Av:=.and (.need I (.need (True∧True∧True∧True) K)) (.and (k2b I K) (k2b I K))
noncomputable def knW:T Av:=.need (sg 1∧sg 2∧(1:Int)≤2) (k2a (in64 0∧in64 0) (.need (List.length meK.1≤1000) (.need (List.length meK.2.1≤1000 ∧ ∀ p∈meK.2.1,smP p) (.need (List.length meK.2.2≤1000 ∧ ∀ p∈meK.2.2,smP p) (.need (List.length meK.1≤1000 ∧ ∀ p∈meK.1,RoOk 1 p)
  (knC (nodesS meK.1) (elesS meK.2.1) (edgesS meK.2.2) (roundS 1 meK.1)))))))
theorem tr_wknown_eq:fnPC OWK EWK (fun _=>none) Tryz.f8 (encs [] ())=knW:=by kernel_rfl
def txA:ByteArray:=⟨#[50,32,50,32,48,32,48,10,49,32,48,32,48,10,50,32,49,47,50,32,49,47,50,10]⟩
def txB:ByteArray:=⟨#[49,32,51,32,48,10,49,32,49,32,50,32,49,10]⟩
def txC:ByteArray:=⟨#[49,32,49,10,49,32,49,32,50,32,55,10]⟩
def txR:ByteArray:=⟨#[50,32,50,32,48,32,48,10,49,32,48,46,48,32,48,46,48,10,50,32,48,46,53,32,48,46,53,10]⟩
theorem txA_eq:nodesS meK.1=txA:=by kernel_rfl
theorem txB_eq:elesS meK.2.1=txB:=by kernel_rfl
theorem txC_eq:edgesS meK.2.2=txC:=by kernel_rfl
theorem txR_eq:roundS 1 meK.1=txR:=by kernel_rfl
theorem txA_l:linesOf txA=[(1,[⟨#[50]⟩,⟨#[50]⟩,⟨#[48]⟩,⟨#[48]⟩]),(2,[⟨#[49]⟩,⟨#[48]⟩,⟨#[48]⟩]),(3,[⟨#[50]⟩,⟨#[49,47,50]⟩,⟨#[49,47,50]⟩])]:=by
  rw[linesOf_lf]
  kernel_rfl
theorem txB_l:linesOf txB=[(1,[⟨#[49]⟩,⟨#[51]⟩,⟨#[48]⟩]),(2,[⟨#[49]⟩,⟨#[49]⟩,⟨#[50]⟩,⟨#[49]⟩])]:=by
  rw[linesOf_lf]
  kernel_rfl
theorem txC_l:linesOf txC=[(1,[⟨#[49]⟩,⟨#[49]⟩]),(2,[⟨#[49]⟩,⟨#[49]⟩,⟨#[50]⟩,⟨#[55]⟩])]:=by
  rw[linesOf_lf]
  kernel_rfl
theorem txE_l:linesOf ⟨#[]⟩=[]:=by
  rw[linesOf_lf]
  kernel_rfl
theorem kn_n:nodesR txA=(meK.1,([],false)):=by
  unfold nodesR tabN tabT tabW
  rw[txA_l]
  kernel_rfl
theorem kn_e:elesR txB 2=(meK.2.1,([],false)):=by
  unfold elesR tabN tabT tabW
  rw[txB_l]
  kernel_rfl
theorem kn_g:edgesR txC 2=(meK.2.2,([],false)):=by
  unfold edgesR tabN tabT tabW
  rw[txC_l]
  kernel_rfl
theorem kn_b:wendB (edgesR ⟨#[]⟩ 2).2=false:=by
  unfold edgesR tabN tabT tabW
  rw[txE_l]
  kernel_rfl
theorem kn_l:nLen txA=2:=by unfold nLen;rw[kn_n];rfl
theorem kn_r:rdM txA txB txC=(meK,0):=by
  unfold rdM
  rw[kn_l,kn_n,kn_e,kn_g]
  rfl
theorem kn_z:(rdM txA txB ⟨#[]⟩).2=3:=by
  unfold rdM
  rw[kn_l,kn_n,kn_e,kn_b]
  rfl
theorem ro_0:RoOk 1 (rIw 0,rIw 0):=⟨by kernel_rfl,by kernel_rfl,by rw[show decV (rIw 0,rIw 0).1 1=⟨#[48,46,48]⟩ by kernel_rfl];decide,by rw[show decV (rIw 0,rIw 0).2 1=⟨#[48,46,48]⟩ by kernel_rfl];decide⟩
theorem ro_h:RoOk 1 (hfK,hfK):=⟨by kernel_rfl,by kernel_rfl,by rw[show decV (hfK,hfK).1 1=⟨#[48,46,53]⟩ by kernel_rfl];decide,by rw[show decV (hfK,hfK).2 1=⟨#[48,46,53]⟩ by kernel_rfl];decide⟩
theorem kq_wp {b:Bool} {K:T Av} {Q:Av→Prop} (hb:b=true) (h:K.wp Q):(kq b K).wp Q:=⟨hb,h⟩
theorem knC_wp:(knC txA txB txC txR).wp (· = aB true):=by
  have z:sz3 txA txB txC:=⟨by decide,by decide,by decide⟩
  have z2:sz3 txA txB ⟨#[]⟩:=⟨by decide,by decide,by decide⟩
  refine wned z (wned z2 (kq_wp (by rw[bytes_beq];decide) (kq_wp (by rw[bytes_beq];decide) (kq_wp (by rw[bytes_beq];decide) (kq_wp rfl (kq_wp (by rw[bytes_beq];decide) (kq_wp ?_ (wned ?_ (kq_wp ?_ ?_)))))))))
  · rw[kn_r];rfl
  · rw[kn_r];exact ⟨show (2:Nat)≤1000000 by decide,show (1:Nat)≤1000000 by decide,show (1:Nat)≤1000000 by decide⟩
  · rw[kn_r];exact decide_eq_true rfl
  · rw[kn_z];rfl
theorem kn_wp:knW.wp (· = aB true):=by
  have K:(T.need (List.length meK.1≤1000) (.need (List.length meK.2.1≤1000 ∧ ∀ p∈meK.2.1,smP p) (.need (List.length meK.2.2≤1000 ∧ ∀ p∈meK.2.2,smP p) (.need (List.length meK.1≤1000 ∧ ∀ p∈meK.1,RoOk 1 p)
      (knC (nodesS meK.1) (elesS meK.2.1) (edgesS meK.2.2) (roundS 1 meK.1)))))).wp (· = aB true):=by
    refine wned (show (2:Nat)≤1000 by decide) (wned ⟨show (1:Nat)≤1000 by decide,fun p hp=>?_⟩ (wned ⟨show (1:Nat)≤1000 by decide,fun p hp=>?_⟩ (wned ⟨show (2:Nat)≤1000 by decide,fun p hp=>?_⟩ ?_)))
    · rw[List.mem_singleton.1 hp];exact ⟨⟨by decide,by decide⟩,⟨by decide,by decide⟩,⟨by decide,by decide⟩⟩
    · rw[List.mem_singleton.1 hp];exact ⟨⟨by decide,by decide⟩,⟨by decide,by decide⟩,⟨by decide,by decide⟩⟩
    · rcases List.mem_cons.1 hp with rfl|hp
      · exact ro_0
      · rw[List.mem_singleton.1 hp];exact ro_h
    · rw[txA_eq,txB_eq,txC_eq,txR_eq]
      exact knC_wp
  have b : ∀ I:Prop,I → ∀ {K:T Av},K.wp (· = aB true)→(k2b I K).wp (· = aB true):=fun I hI K h=>⟨wned hI (wned ⟨trivial,trivial,trivial⟩ h),wned hI h⟩
  have i0:in64 0∧in64 0:=⟨⟨by decide,by decide⟩,⟨by decide,by decide⟩⟩
  exact wned ⟨by unfold sg;decide,by unfold sg;decide,by decide⟩ ⟨wned i0 (wned ⟨trivial,trivial,trivial,trivial⟩ K),b _ i0 K,b _ i0 K⟩
noncomputable def con_wknown:Con Tryz.prog:=⟨8,[],_,cf_wknown,val_conC (O:=OWK) (E:=EWK) (L:=fun _=>none) rfl mixed Tryz.func8 no_loops [] (fun _=>True) (fun _=>aB true) (fun _=>knW) (fun _=>tr_wknown_eq) fun _ _=>kn_wp⟩
theorem cf_wfew (xs:Array Value) (w:World):(callFunc 16 xs).run Tryz.prog w=.ok (.enter 16 xs) w:=by kernel_rfl
theorem cf_wplain (xs:Array Value) (w:World):(callFunc 17 xs).run Tryz.prog w=.ok (.enter 17 xs) w:=by kernel_rfl
noncomputable def EWB:Env Tryz.prog:=EW7.add [con_wknown]
def fewB (m:Mesh):Bool:=decide ((List.length m.1:Int)≤30)&&(decide ((List.length m.2.1:Int)≤40)&&decide ((List.length m.2.2:Int)≤60))
def bF:T Av:=.ret (.one (.v (.bool false)))
def fwTree (m:Mesh):T Av:=.ite (decide ((List.length m.1:Int)≤30)) (.ite (decide ((List.length m.2.1:Int)≤40)) (.ret (.one (.v (.bool (decide ((List.length m.2.2:Int)≤60)))))) bF) bF
theorem tr_wfew_eq (m:Mesh):fnP EWB (fun _=>none) Tryz.f16 (encs [(true,cMesh)] (m,()))=fwTree m:=by kernel_rfl
theorem fw_ok (m:Mesh):(fwTree m).wp (· = .one (.v (.bool (fewB m)))):=by
  unfold fwTree fewB bF
  generalize decide ((List.length m.1:Int)≤30)=a
  generalize decide ((List.length m.2.1:Int)≤40)=b
  generalize decide ((List.length m.2.2:Int)≤60)=c
  cases a <;> cases b <;> simp[T.wp]
noncomputable def con_wfew:Con Tryz.prog:=⟨16,[],_,cf_wfew,tot_con (E:=EWB) (L:=fun _=>none) mixed Tryz.func16 no_loops [(true,cMesh)] (fun x=>.one (.v (.bool (fewB x.1)))) fun x=>by
  rw[show fnP EWB (fun _=>none) Tryz.f16 (encs [(true,cMesh)] x)=fwTree x.1 from tr_wfew_eq x.1]
  exact fw_ok x.1⟩
abbrev spP0:LSpec:=⟨111,[(3,false,.int .i64)],[(1,0,0)],[(41,cMesh)],fun e=>match e with|.ret=>[2]|_=>[]⟩
abbrev spPk:LSpec:=⟨111,[(4,false,.int .i64),(5,false,.int .i64)],[(1,0,0)],[(41,cMesh)],fun e=>match e with|.ret=>[2]|.exit _=>[4]|_=>[]⟩
abbrev spP1:LSpec:=⟨111,[(4,false,.int .i64)],[(1,0,0)],[(41,cMesh)],fun e=>match e with|.ret=>[2]|_=>[]⟩
abbrev spP6:LSpec:=⟨111,[(6,false,.int .i64)],[(1,0,0)],[(41,cMesh)],fun e=>match e with|.ret=>[2]|_=>[]⟩
def pF {sp:LSpec} (y:LSpec.Y sp):T (Rd sp):=.ret (.out Exit.ret [.one (.v (.bool false))] y)
def p0R (i:Int) (m:Mesh):T (Rd spP0):=.ite (decide (i<(List.length m.1:Int))) (.get m.1 i fun u=>.ite (!safeF 300 u.1) (pF (m,())) (.get m.1 i fun u=>.ite (!safeF 300 u.2) (pF (m,())) (.ret (.again (wi1 i,()) (m,()))))) (.ret (.out (Exit.exit 0) [] (m,())))
def ixk {β α:Type} (k:Int) (t:α×α×α) (K:α→T β):T β:=.need (0≤k∧k<3) (.ite (k==((0:Nat):Int)) (K t.1) (.ite (k==((1:Nat):Int)) (K t.2.1) (K t.2.2)))
def pkR (i k:Int) (m:Mesh):T (Rd spPk):=.ite (decide (k<3)) (.get m.2.1 i fun t=>ixk k t fun v=>.ite (decide (v<0)) (pF (m,())) (.get m.2.1 i fun t=>ixk k t fun v=>.ite (decide (v≥(List.length m.1:Int))) (pF (m,())) (.ret (.again (i,wi1 k,()) (m,()))))) (.ret (.out (Exit.exit 4) [aI .i64 i] (m,())))
def p6R (i:Int) (m:Mesh):T (Rd spP6):=.ite (decide (i<(List.length m.2.2:Int))) (.get m.2.2 i fun e=>.ite (decide (e.1<0)) (pF (m,())) (.ite (decide (e.2.1<0)) (pF (m,())) (.ite (decide (e.1≥(List.length m.1:Int))) (pF (m,())) (.ite (decide (e.2.1≥(List.length m.1:Int))) (pF (m,())) (.ite (decide (e.2.2>999999999)) (pF (m,())) (.ite (decide (e.2.2 < -999999999)) (pF (m,())) (.ret (.again (wi1 i,()) (m,()))))))))) (.ret (.out (Exit.exit 6) [] (m,())))
theorem tr_p0_eq (i:Int) (m:Mesh):LSpec.round spP0 EWB (fun _=>none) (bodyOf Tryz.f17 0) (i,()) (m,())=p0R i m:=by kernel_rfl
theorem tr_pk_eq (i k:Int) (m:Mesh):LSpec.round spPk EWB (fun _=>none) (innerOf (bodyOf Tryz.f17 1) 0) (i,k,()) (m,())=pkR i k m:=by kernel_rfl
theorem tr_p6_eq (i:Int) (m:Mesh):LSpec.round spP6 EWB (fun _=>none) (bodyOf Tryz.f17 2) (i,()) (m,())=p6R i m:=by kernel_rfl
def okPb (u:Pt):Bool:=safeF 300 u.1&&safeF 300 u.2
def ok1 (n v:Int):Bool:=decide (0≤v∧v<n)
def okTb (n:Int) (t:I3):Bool:=ok1 n t.1&&(ok1 n t.2.1&&ok1 n t.2.2)
def okEb (n:Int) (e:I3):Bool:=ok1 n e.1&&(ok1 n e.2.1&&decide (-999999999≤e.2.2∧e.2.2≤999999999))
def plainB (m:Mesh):Bool:=List.all m.1 okPb&&(List.all m.2.1 (okTb (List.length m.1:Int))&&List.all m.2.2 (okEb (List.length m.1:Int)))
def outAll {sp:LSpec} (x:Nat) {α:Type} (l:List α) (ok:α→Bool) (i:Int) (y:LSpec.Y sp):T (Exit×List Av×LSpec.Y sp):=
  .need (0≤i∧l.length≤1000000) (.ite ((l.drop i.toNat).all ok) (.ret (.exit x,[],y)) (.ret (.ret,[.one (.v (.bool false))],y)))
def outP0 (x:LSpec.X spP0) (y:LSpec.Y spP0):T (Exit×List Av×LSpec.Y spP0):=outAll (sp:=spP0) 0 y.1.1 okPb x.1 y
def outP1 (x:LSpec.X spP1) (y:LSpec.Y spP1):T (Exit×List Av×LSpec.Y spP1):=outAll (sp:=spP1) (α:=I3) 2 y.1.2.1 (okTb (List.length y.1.1:Int)) x.1 y
def outP6 (x:LSpec.X spP6) (y:LSpec.Y spP6):T (Exit×List Av×LSpec.Y spP6):=outAll (sp:=spP6) (α:=I3) 6 y.1.2.2 (okEb (List.length y.1.1:Int)) x.1 y
def tAt (m:Mesh) (i:Int):I3:=(m.2.1[i.toNat]?).getD (0,0,0)
def restK (n k:Int) (t:I3):Bool:=(List.drop k.toNat [t.1,t.2.1,t.2.2]).all (ok1 n)
def outPk (x:LSpec.X spPk) (y:LSpec.Y spPk):T (Exit×List Av×LSpec.Y spPk):=
  .need ((0≤(x.1:Int)∧(x.1:Int)<(List.length y.1.2.1:Int))∧(0≤(x.2.1:Int)∧(x.2.1:Int)≤3)) (.ite (restK (List.length y.1.1:Int) x.2.1 (tAt y.1 x.1)) (.ret (.exit 4,[aI .i64 x.1],y)) (.ret (.ret,[.one (.v (.bool false))],y)))
theorem all_next {α:Type} {l:List α} {ok:α→Bool} {i:Int} {u:α} (i0:0≤i) (h:l[i.toNat]?=some u):(l.drop i.toNat).all ok=(ok u&&(l.drop (i+1).toNat).all ok):=by
  rw[drop_at i0 h,List.all_cons]
theorem p0_core (i : Int) (m : Mesh) (Q : Exit × List Av × LSpec.Y spP0 → Prop) (hq : (outP0 (i, ()) (m, ())).wp Q) : (p0R i m).wp fun r => match r with
      | .again x' y'=>(y'.1.1.length-Int.toNat x'.1)<m.1.length-i.toNat∧(outP0 x' y').wp Q
      | .out e avs y'=>Q (e,avs,y'):=by
  obtain ⟨⟨i0,hl⟩,hy,hz⟩:=hq
  have i0:0≤i:=i0
  have hl:m.1.length≤1000000:=hl
  have hy:(m.1.drop i.toNat).all okPb=true→Q (.exit 0,[],(m,())):=hy
  have hz:(m.1.drop i.toNat).all okPb=false→Q (.ret,[.one (.v (.bool false))],(m,())):=hz
  refine ⟨fun hlt=>?_,fun hge=>?_⟩
  · have hlt:=of_decide_eq_true hlt
    obtain ⟨u,hu⟩:=elem_at (l:=m.1) i0 hlt
    rw[all_next i0 hu]at hy hz
    refine wget i0 hu ⟨fun h=>hz ?_,fun h=>wget i0 hu ⟨fun h2=>hz ?_,fun h2=>?_⟩⟩
    · have h:safeF 300 u.1=false:=by simpa using h
      unfold okPb;rw[h];rfl
    · have h2:safeF 300 u.2=false:=by simpa using h2
      unfold okPb;rw[h2,Bool.and_false];rfl
    · have h:safeF 300 u.1=true:=by simpa using h
      have h2:safeF 300 u.2=true:=by simpa using h2
      have e:okPb u=true:=by unfold okPb;rw[h,h2];rfl
      rw[e,Bool.true_and]at hy hz
      rw[wi1_eq (i:=i) (by omega)]
      exact ⟨show m.1.length-(i+1).toNat<m.1.length-i.toNat by omega,wned ⟨show 0≤i+1 by omega,hl⟩ ⟨hy,hz⟩⟩
  · have hge:=of_decide_eq_false hge
    rw[drop_end (by omega)]at hy
    exact hy rfl
theorem ixk_wp {β α:Type} {k:Int} {t:α×α×α} {K:α→T β} {Q:β→Prop} {v:α} (hk:0≤k∧k<3) (hv:v=if k=0 then t.1 else if k=1 then t.2.1 else t.2.2) (h:(K v).wp Q):(ixk k t K).wp Q:=by
  subst hv
  refine wned hk ⟨fun h0=>?_,fun h0=>⟨fun h1=>?_,fun h1=>?_⟩⟩
  · have h0:k=0:=by simpa using h0
    rw[if_pos h0]at h;exact h
  · have h0:¬ k=0:=by simpa using h0
    have h1:k=1:=by simpa using h1
    rw[if_neg h0,if_pos h1]at h;exact h
  · have h0:¬ k=0:=by simpa using h0
    have h1:¬ k=1:=by simpa using h1
    rw[if_neg h0,if_neg h1]at h;exact h
theorem restK_next {n k:Int} {t:I3} (hk:0≤k∧k<3):restK n k t=(ok1 n (if k=0 then t.1 else if k=1 then t.2.1 else t.2.2)&&restK n (k+1) t):=by
  unfold restK
  have:k=0∨k=1∨k=2:=by omega
  rcases this with rfl|rfl|rfl
  · rfl
  · rfl
  · rfl
theorem pk_core (i k : Int) (m : Mesh) (Q : Exit × List Av × LSpec.Y spPk → Prop) (hq : (outPk (i, k, ()) (m, ())).wp Q) : (pkR i k m).wp fun r => match r with
      | .again x' y'=>(3-x'.2.1).toNat<(3-k).toNat∧(outPk x' y').wp Q
      | .out e avs y'=>Q (e,avs,y'):=by
  obtain ⟨⟨⟨i0,i1⟩,k0,k3⟩,hy,hz⟩:=hq
  have i0:0≤i:=i0
  have i1:i<(m.2.1.length:Int):=i1
  have k0:0≤k:=k0
  have k3:k≤3:=k3
  have hy:restK (List.length m.1:Int) k (tAt m i)=true→Q (.exit 4,[aI .i64 i],(m,())):=hy
  have hz:restK (List.length m.1:Int) k (tAt m i)=false→Q (.ret,[.one (.v (.bool false))],(m,())):=hz
  refine ⟨fun hlt=>?_,fun hge=>?_⟩
  · have hlt:=of_decide_eq_true hlt
    obtain ⟨t,ht⟩:=elem_at (α:=Int×Int×Int) (l:=m.2.1) i0 i1
    have et:tAt m i=t:=by unfold tAt;rw[ht];rfl
    rw[et,restK_next ⟨k0,hlt⟩]at hy hz
    obtain ⟨v,hv⟩ : ∃ v:Int,(if k=0 then t.1 else if k=1 then t.2.1 else t.2.2)=v:=⟨_,rfl⟩
    rw[hv]at hy hz
    refine wget i0 ht (ixk_wp (v:=v) ⟨k0,hlt⟩ hv.symm ⟨fun h=>hz ?_,fun h=>wget i0 ht (ixk_wp (v:=v) ⟨k0,hlt⟩ hv.symm ⟨fun h2=>hz ?_,fun h2=>?_⟩)⟩)
    · have h:v<0:=of_decide_eq_true h
      rw[show ok1 (List.length m.1:Int) v=false from decide_eq_false (fun hh=>by omega)];rfl
    · have h2:v≥(List.length m.1:Int):=of_decide_eq_true h2
      rw[show ok1 (List.length m.1:Int) v=false from decide_eq_false (fun hh=>by omega)];rfl
    · have h:¬ v<0:=of_decide_eq_false h
      have h2:¬ v≥(List.length m.1:Int):=of_decide_eq_false h2
      rw[show ok1 (List.length m.1:Int) v=true from decide_eq_true (by omega),Bool.true_and]at hy hz
      rw[wi1_eq (i:=k) (by omega)]
      rw[←et]at hy hz
      exact ⟨show (3-(k+1)).toNat<(3-k).toNat by omega,wned ⟨⟨i0,i1⟩,show 0≤k+1 by omega,show k+1≤3 by omega⟩ ⟨hy,hz⟩⟩
  · have hge:=of_decide_eq_false hge
    have e:k=3:=by omega
    subst e
    exact hy rfl
theorem pk_ok:LoopOk Tryz.prog 0 (innerOf (bodyOf Tryz.f17 1) 0) (spPk.run outPk):=
  loop_ok (E:=EWB) (L:=fun _=>none) mixed 0 (loops_none _ _ _) spPk (Nat.zero_le _) outPk (fun x _=>(3-x.2.1).toNat) (by
    rintro ⟨i,k,⟨⟩⟩ ⟨m,⟨⟩⟩ Q hq
    rw[tr_pk_eq i k m]
    exact pk_core i k m Q hq)
noncomputable def lpPk:Loops:=manyL [(10,spPk.run outPk)]
def p1R (i:Int) (m:Mesh):T (Rd spP1):=.ite (decide (i<(List.length m.2.1:Int))) (.need ((0≤i∧i<(List.length m.2.1:Int))∧(0≤(0:Int)∧(0:Int)≤3)) (.ite (restK (List.length m.1:Int) 0 (tAt m i)) (.ret (.again (wi1 i,()) (m,()))) (pF (m,())))) (.ret (.out (Exit.exit 2) [] (m,())))
theorem tr_p1_eq (i:Int) (m:Mesh):LSpec.round spP1 EWB lpPk (bodyOf Tryz.f17 1) (i,()) (m,())=p1R i m:=by kernel_rfl
theorem p1_core (i : Int) (m : Mesh) (Q : Exit × List Av × LSpec.Y spP1 → Prop) (hq : (outP1 (i, ()) (m, ())).wp Q) : (p1R i m).wp fun r => match r with
      | .again x' y'=>(y'.1.2.1.length-Int.toNat x'.1)<m.2.1.length-i.toNat∧(outP1 x' y').wp Q
      | .out e avs y'=>Q (e,avs,y'):=by
  obtain ⟨⟨i0,hl⟩,hy,hz⟩:=hq
  have i0:0≤i:=i0
  have hl:m.2.1.length≤1000000:=hl
  have hy:(m.2.1.drop i.toNat).all (okTb (List.length m.1:Int))=true→Q (.exit 2,[],(m,())):=hy
  have hz:(m.2.1.drop i.toNat).all (okTb (List.length m.1:Int))=false→Q (.ret,[.one (.v (.bool false))],(m,())):=hz
  refine ⟨fun hlt=>?_,fun hge=>?_⟩
  · have hlt:=of_decide_eq_true hlt
    obtain ⟨t,ht⟩:=elem_at (α:=Int×Int×Int) (l:=m.2.1) i0 hlt
    have et:tAt m i=t:=by unfold tAt;rw[ht];rfl
    have er:restK (List.length m.1:Int) 0 (tAt m i)=okTb (List.length m.1:Int) t:=by
      rw[et]
      unfold restK okTb
      simp
    rw[all_next i0 ht]at hy hz
    refine wned ⟨⟨i0,hlt⟩,by decide⟩ ⟨fun h=>?_,fun h=>hz ?_⟩
    · rw[er]at h
      rw[h,Bool.true_and]at hy hz
      rw[wi1_eq (i:=i) (by omega)]
      exact ⟨show m.2.1.length-(i+1).toNat<m.2.1.length-i.toNat by omega,wned ⟨show 0≤i+1 by omega,hl⟩ ⟨hy,hz⟩⟩
    · rw[er]at h
      rw[h];rfl
  · have hge:=of_decide_eq_false hge
    rw[drop_end (by omega)]at hy
    exact hy rfl
theorem p6_core (i : Int) (m : Mesh) (Q : Exit × List Av × LSpec.Y spP6 → Prop) (hq : (outP6 (i, ()) (m, ())).wp Q) : (p6R i m).wp fun r => match r with
      | .again x' y'=>(y'.1.2.2.length-Int.toNat x'.1)<m.2.2.length-i.toNat∧(outP6 x' y').wp Q
      | .out e avs y'=>Q (e,avs,y'):=by
  obtain ⟨⟨i0,hl⟩,hy,hz⟩:=hq
  have i0:0≤i:=i0
  have hl:m.2.2.length≤1000000:=hl
  have hy:(m.2.2.drop i.toNat).all (okEb (List.length m.1:Int))=true→Q (.exit 6,[],(m,())):=hy
  have hz:(m.2.2.drop i.toNat).all (okEb (List.length m.1:Int))=false→Q (.ret,[.one (.v (.bool false))],(m,())):=hz
  refine ⟨fun hlt=>?_,fun hge=>?_⟩
  · have hlt:=of_decide_eq_true hlt
    obtain ⟨e,he⟩:=elem_at (α:=Int×Int×Int) (l:=m.2.2) i0 hlt
    rw[all_next i0 he]at hy hz
    obtain ⟨a,b,c⟩:=e
    revert a b c
    intro (a:Int) (b:Int) (c:Int) hz hy he
    have no:¬ ((0≤a∧a<(m.1.length:Int))∧(0≤b∧b<(m.1.length:Int))∧(-999999999≤c∧c≤999999999))→Q (.ret,[.one (.v (.bool false))],(m,())):=fun h=>hz (by
      have:okEb (List.length m.1:Int) (a,b,c)=false:=by
        unfold okEb ok1
        simp only[]
        by_cases h1:0≤a∧a<(m.1.length:Int)
        · by_cases h2:0≤b∧b<(m.1.length:Int)
          · rw[decide_eq_false (fun h3=>h ⟨h1,h2,h3⟩),Bool.and_false,Bool.and_false]
          · rw[decide_eq_false h2,Bool.false_and,Bool.and_false]
        · rw[decide_eq_false h1,Bool.false_and]
      rw[this];rfl)
    refine wget i0 he ⟨fun h=>no ?_,fun h1=>⟨fun h=>no ?_,fun h2=>⟨fun h=>no ?_,fun h3=>⟨fun h=>no ?_,fun h4=>⟨fun h=>no ?_,fun h5=>⟨fun h=>no ?_,fun h6=>?_⟩⟩⟩⟩⟩⟩
    · have h:a<0:=of_decide_eq_true h
      omega
    · have h:b<0:=of_decide_eq_true h
      omega
    · have h:a≥(m.1.length:Int):=of_decide_eq_true h
      omega
    · have h:b≥(m.1.length:Int):=of_decide_eq_true h
      omega
    · have h:c>999999999:=of_decide_eq_true h
      omega
    · have h:c < -999999999:=of_decide_eq_true h
      omega
    · have h1:¬ a<0:=of_decide_eq_false h1
      have h2:¬ b<0:=of_decide_eq_false h2
      have h3:¬ a≥(m.1.length:Int):=of_decide_eq_false h3
      have h4:¬ b≥(m.1.length:Int):=of_decide_eq_false h4
      have h5:¬ c>999999999:=of_decide_eq_false h5
      have h6:¬ c < -999999999:=of_decide_eq_false h6
      have e:okEb (List.length m.1:Int) (a,b,c)=true:=by
        unfold okEb ok1
        rw[decide_eq_true (show 0≤(a,b,c).1∧(a,b,c).1<(m.1.length:Int) from ⟨by show 0≤a;omega,by show a<_;omega⟩),decide_eq_true (show 0≤(a,b,c).2.1∧(a,b,c).2.1<(m.1.length:Int) from ⟨by show 0≤b;omega,by show b<_;omega⟩),decide_eq_true (show -999999999≤(a,b,c).2.2∧(a,b,c).2.2≤999999999 from ⟨by show _≤c;omega,by show c≤_;omega⟩)]
        rfl
      rw[e,Bool.true_and]at hy hz
      rw[wi1_eq (i:=i) (by omega)]
      exact ⟨show m.2.2.length-(i+1).toNat<m.2.2.length-i.toNat by omega,wned ⟨show 0≤i+1 by omega,hl⟩ ⟨hy,hz⟩⟩
  · have hge:=of_decide_eq_false hge
    rw[drop_end (by omega)]at hy
    exact hy rfl
theorem p0_ok:LoopOk Tryz.prog 0 (bodyOf Tryz.f17 0) (spP0.run outP0):=
  loop_ok (E:=EWB) (L:=fun _=>none) mixed 0 (loops_none _ _ _) spP0 (Nat.zero_le _) outP0 (fun x y=>(y.1.1.length-Int.toNat x.1)) (by
    rintro ⟨i,⟨⟩⟩ ⟨m,⟨⟩⟩ Q hq
    rw[tr_p0_eq i m]
    exact p0_core i m Q hq)
theorem p1_ok:LoopOk Tryz.prog 0 (bodyOf Tryz.f17 1) (spP1.run outP1):=
  loop_ok (E:=EWB) (L:=lpPk) mixed 0 (inner_one (by kernel_rfl) pk_ok) spP1 (Nat.zero_le _) outP1 (fun x y=>(y.1.2.1.length-Int.toNat x.1)) (by
    rintro ⟨i,⟨⟩⟩ ⟨m,⟨⟩⟩ Q hq
    rw[tr_p1_eq i m]
    exact p1_core i m Q hq)
theorem p6_ok:LoopOk Tryz.prog 0 (bodyOf Tryz.f17 2) (spP6.run outP6):=
  loop_ok (E:=EWB) (L:=fun _=>none) mixed 0 (loops_none _ _ _) spP6 (Nat.zero_le _) outP6 (fun x y=>(y.1.2.2.length-Int.toNat x.1)) (by
    rintro ⟨i,⟨⟩⟩ ⟨m,⟨⟩⟩ Q hq
    rw[tr_p6_eq i m]
    exact p6_core i m Q hq)
noncomputable def lpPl:Loops:=manyL [(2,spP0.run outP0),(7,spP1.run outP1),(15,spP6.run outP6)]
def allT {α:Type} (l:List α) (ok:α→Bool) (K:T Av):T Av:=.need (0≤(0:Int)∧l.length≤1000000) (.ite ((l.drop (Int.toNat 0)).all ok) K bF)
def plTree (m:Mesh):T Av:=allT m.1 okPb (allT (α:=I3) m.2.1 (okTb (List.length m.1:Int)) (allT (α:=I3) m.2.2 (okEb (List.length m.1:Int)) (.ret (.one (.v (.bool true))))))
theorem tr_wplain_eq (m:Mesh):fnP EWB lpPl Tryz.f17 (encs [(true,cMesh)] (m,()))=plTree m:=by kernel_rfl
noncomputable def con_wplain:Con Tryz.prog:=⟨17,[],_,cf_wplain,val_con (E:=EWB) (L:=lpPl) mixed Tryz.func17 (many_loops (by kernel_rfl) (by simp) (fun i p hp=>by
    match i,hp with
    | 0,hp=>cases hp;exact p0_ok
    | 1,hp=>cases hp;exact p1_ok
    | 2,hp=>cases hp;exact p6_ok
    | i+3,hp=>simp at hp)) [(true,cMesh)] (fun x=>meshFit x.1) (fun x=>.one (.v (.bool (plainB x.1)))) fun x hx=>by
  obtain ⟨m,u⟩:=x
  obtain ⟨h1,h2,h3⟩:=hx
  rw[show fnP EWB lpPl Tryz.f17 (encs [(true,cMesh)] (m,u))=plTree m from tr_wplain_eq m]
  show (plTree m).wp (· = .one (.v (.bool (plainB m))))
  unfold plTree allT plainB
  refine wned ⟨Int.le_refl 0,h1⟩ ⟨fun a1=>wned ⟨Int.le_refl 0,h2⟩ ⟨fun a2=>wned ⟨Int.le_refl 0,h3⟩ ⟨fun a3=>?_,fun a3=>?_⟩,fun a2=>?_⟩,fun a1=>?_⟩
  · rw[Int.toNat_zero,List.drop_zero]at a1 a2 a3
    rw[a1,a2,a3];rfl
  · rw[Int.toNat_zero,List.drop_zero]at a1 a2 a3
    rw[a1,a2,a3];rfl
  · rw[Int.toNat_zero,List.drop_zero]at a1 a2
    rw[a1,a2];rfl
  · rw[Int.toNat_zero,List.drop_zero]at a1
    rw[a1];rfl⟩
noncomputable def EWC:Env Tryz.prog:=EWB.add [con_wfew,con_wplain]
abbrev c3S:Cd:=.pair .str (.pair .str .str)
noncomputable def zeroS3w:Zero Tryz.prog:=zOf 55 c3S rfl (by kernel_rfl)
noncomputable def EWD:Env Tryz.prog:=⟨EWC.con,zeroS3w::EWC.zero,EWC.cod,fun _=>false,EWC.base,EWC.frz⟩
abbrev spWK:LSpec:=⟨91,[(7,false,.int .i64),(8,false,.int .i64),(9,false,.str),(10,false,.int .i64)],[(2,0,0),(5,1,0),(6,2,0)],[(41,cMesh),(55,c3S),(41,cMesh)],fun e=>match e with|.exit _=>[7,8,9,10]|_=>[]⟩
def wd1 (i:Int):Int:=IntKind.wrap .i64 (i-1)
def wkEx (n k:Int) (s:ByteArray) (i:Int) (y:LSpec.Y spWK):T (Rd spWK):=.ret (.out (Exit.exit 0) [aI .i64 n,aI .i64 k,.one (.v (.string s)),aI .i64 i] y)
def wkR (n k:Int) (s:ByteArray) (i:Int) (y:LSpec.Y spWK):T (Rd spWK):=.ite (decide (i>0)) (.get s.data.toList (wd1 i) fun c=>.ite ((c.toNat:Int) != 10) (.ret (.again (n,k,s,wd1 i,()) y)) (wkEx n k s i y)) (wkEx n k s i y)
def scb (l:List UInt8):Nat→Nat
  | 0=>0
  | k+1=>if l[k]?=some 10 then k+1 else scb l k
def outWK (x:LSpec.X spWK) (y:LSpec.Y spWK):T (Exit×List Av×LSpec.Y spWK):=.need (0≤(x.2.2.2.1:Int)∧(x.2.2.2.1:Int)≤(ByteArray.size x.2.2.1:Int)∧ByteArray.size x.2.2.1≤1000000000) (.ret (.exit 0,[aI .i64 x.1,aI .i64 x.2.1,.one (.v (.string x.2.2.1)),aI .i64 (scb (ByteArray.data x.2.2.1).toList (Int.toNat x.2.2.2.1):Int)],y))
noncomputable def lpWK:Loops:=oneL 12 (spWK.run outWK)
noncomputable def OWB:Opt EWD.con:=⟨[],[],fcs [(14,false)]⟩
def bT:T Av:=.ret (.one (.v (.bool true)))
def wbE (m X:Mesh) (n k:Int) (a b c:ByteArray):T Av:=ix3 (.need (sz3 a b c) (.ite (n==0) (.need (meshFit X) (.ite (decide (X=m)) (.ret (.one (.v (.bool ((rdM a b c).2==wi1 k))))) bF)) bF))
def wbS (m X:Mesh) (n k:Int) (a b c s:ByteArray) (at_:Int):T Av:=.need ((0:Int)≤0∧(0:Int)≤at_∧at_≤(ByteArray.size s:Int)) (.lt (ByteArray.extract s (Int.toNat 0) at_.toNat) fun u=>.need (0≤k∧k<3) (.ite (k==((0:Nat):Int)) (wbE m X n k u b c) (.ite (k==((1:Nat):Int)) (wbE m X n k a u c) (wbE m X n k a b u))))
def wbL (m X:Mesh) (n k:Int) (a b c s:ByteArray):T Av:=.ite ((ByteArray.size s:Int)==0) bF (.need (0≤wd1 (ByteArray.size s:Int)∧wd1 (ByteArray.size s:Int)≤(ByteArray.size s:Int)∧ByteArray.size s≤1000000000) (wbS m X n k a b c s (scb s.data.toList (wd1 (ByteArray.size s:Int)).toNat:Int)))
def wbM (m:Mesh) (k:Int) (a b c:ByteArray):T Av:=ix3 (.need (sz3 a b c) (.need ((3:Int)≠0) (ixk k (a,b,c) fun s=>wbL m (rdM a b c).1 (rdM a b c).2 k a b c s)))
def wbT (m:Mesh) (g:Int):T Av:=.need True (.need ((!true)=false) (.ite (!fewB m) bT (.need (meshFit m) (.ite (!plainB m) bT (.need (List.length m.1≤1000) (.need (List.length m.2.1≤1000 ∧ ∀ p∈(m.2.1:List I3),smP p) (.need (List.length m.2.2≤1000 ∧ ∀ p∈(m.2.2:List I3),smP p) (wbM m (IntKind.wrap .i64 (Int.tmod g 3)) (nodesS m.1) (elesS m.2.1) (edgesS m.2.2)))))))))
theorem tr_wk_eq (n k:Int) (s:ByteArray) (i:Int) (m:Mesh) (t:El c3S) (x:Mesh):LSpec.round spWK EWD (fun _=>none) (bodyOf Tryz.f4 0) (n,k,s,i,()) (m,t,x,())=wkR n k s i (m,t,x,()):=by kernel_rfl
theorem tr_wb_eq (m:Mesh) (g:Int):fnPC OWB EWD lpWK Tryz.f4 (encs [(true,cMesh),(false,.int .u8)] (m,g,()))=wbT m g:=by kernel_rfl
theorem wd1_eq {i:Int} (h : -1000000000000≤i∧i≤1000000000000):wd1 i=i-1:=IntWalk.i64_in _ (by omega)
theorem wk_core (n k : Int) (s : ByteArray) (i : Int) (y : LSpec.Y spWK) (Q : Exit × List Av × LSpec.Y spWK → Prop) (hq : (outWK (n, k, s, i, ()) y).wp Q) : (wkR n k s i y).wp fun r => match r with
      | .again x' y'=>(x'.2.2.2.1).toNat<i.toNat∧(outWK x' y').wp Q
      | .out e avs y'=>Q (e,avs,y'):=by
  obtain ⟨⟨i0,hi,hs⟩,hq⟩:=hq
  have i0:0≤i:=i0
  have hi:i≤(s.size:Int):=hi
  have hs:s.size≤1000000000:=hs
  have hq:Q (.exit 0,[aI .i64 n,aI .i64 k,.one (.v (.string s)),aI .i64 (scb s.data.toList i.toNat:Int)],y):=hq
  have hsz:s.size=s.data.toList.length:=Lib.size_eq _
  refine ⟨fun hlt=>?_,fun hge=>?_⟩
  · have hlt:=of_decide_eq_true hlt
    obtain ⟨c,hc⟩:=elem_at (l:=s.data.toList) (i:=i-1) (by omega) (by omega)
    rw[wd1_eq (i:=i) (by omega)]
    obtain ⟨j,hj⟩ : ∃ j:Nat,i=((j+1:Nat):Int):=⟨(i-1).toNat,by omega⟩
    subst hj
    have e1:(((j+1:Nat):Int)-1).toNat=j:=by omega
    have e2:(((j+1:Nat):Int)).toNat=j+1:=by omega
    rw[e1]at hc
    rw[e2]at hq
    refine wget (v:=c) (by omega) (by rw[e1];exact hc) ⟨fun h=>?_,fun h=>?_⟩
    · have h:¬ (c.toNat:Int)=10:=by simpa using h
      have hn:¬ s.data.toList[j]?=some 10:=fun e=>by
        rw[hc]at e
        cases e
        exact h (by decide)
      rw[scb,if_neg hn]at hq
      refine ⟨show (((j+1:Nat):Int)-1).toNat<(((j+1:Nat):Int)).toNat by omega,wned ⟨show 0≤((j+1:Nat):Int)-1 by omega,show ((j+1:Nat):Int)-1≤(s.size:Int) by omega,hs⟩ ?_⟩
      show Q (.exit 0,[aI .i64 n,aI .i64 k,.one (.v (.string s)),aI .i64 (scb s.data.toList (((j+1:Nat):Int)-1).toNat:Int)],y)
      rw[e1]
      exact hq
    · have h:(c.toNat:Int)=10:=by simpa using h
      have e:c=10:=by
        have h1:c.toNat=10:=by omega
        exact UInt8.toNat_inj.1 (by rw[h1];rfl)
      rw[e]at hc
      rw[scb,if_pos hc]at hq
      exact hq
  · have hge:=of_decide_eq_false hge
    have e:i=0:=by omega
    subst e
    exact hq
theorem wk_ok:LoopOk Tryz.prog 0 (bodyOf Tryz.f4 0) (spWK.run outWK):=
  loop_ok (E:=EWD) (L:=fun _=>none) mixed 0 (loops_none _ _ _) spWK (Nat.zero_le _) outWK (fun x _=>(x.2.2.2.1).toNat) (by
    rintro ⟨n,k,s,i,⟨⟩⟩ ⟨m,t,x,⟨⟩⟩ Q hq
    rw[tr_wk_eq n k s i m t x]
    exact wk_core n k s i (m,t,x,()) Q hq)
def isDig (c:UInt8):Prop:=48≤(c.toNat:Int)∧(c.toNat:Int)≤57
def dv (v:Int) (l:List UInt8):Int:=l.foldl (fun v c=>v*10+((c.toNat:Int)-48)) v
theorem dv_app (v:Int) (l k:List UInt8):dv v (l++k)=dv (dv v l) k:=by unfold dv;rw[List.foldl_append]
theorem dg_byte {x:Nat} : ∀ z∈dg x,48≤z∧z≤57:=by
  induction x using Nat.strongRecOn with
  | ind x ih =>
    intro z hz
    by_cases h:x=0
    · rw[h,dg_zero]at hz;cases hz
    · rw[dg_pos h]at hz
      rcases List.mem_cons.1 hz with rfl|hz
      · omega
      · exact ih (x/10) (Nat.div_lt_self (by omega) (by omega)) z hz
def byt (z:Int):UInt8:=UInt8.ofNat z.toNat
theorem byt_nat {z:Int} (h:0≤z∧z<256):((byt z).toNat:Int)=z:=by
  unfold byt
  rw[UInt8.toNat_ofNat_of_lt' (by simp;omega)]
  omega
theorem dv_dg (x:Nat):dv 0 ((dg x).reverse.map byt)=x:=by
  induction x using Nat.strongRecOn with
  | ind x ih =>
    by_cases h:x=0
    · rw[h,dg_zero];rfl
    · rw[dg_pos h,List.reverse_cons,List.map_append,dv_app,ih (x/10) (Nat.div_lt_self (by omega) (by omega))]
      simp only[List.map_cons,List.map_nil,dv,List.foldl_cons,List.foldl_nil]
      rw[byt_nat (by omega)]
      omega
end Go.Proofs.YtmcbljjgkmkhcaaGreatDoor
namespace Ax
open Go Go.RowKit Go.Proofs.YtmcbljjgkmkhcaaGreatDoor
def Bd (k:Nat) (r:Rat):Prop:=r.num.natAbs<2^k∧r.den<2^k
theorem Bd.mono {j k:Nat} {r:Rat} (h:Bd j r) (hk:j≤k):Bd k r:=
  ⟨Nat.lt_of_lt_of_le h.1 (Nat.pow_le_pow_right (by omega) hk),Nat.lt_of_lt_of_le h.2 (Nat.pow_le_pow_right (by omega) hk)⟩
theorem pow_mul {a b j k:Nat} (ha:a<2^j) (hb:b<2^k):a*b<2^(j+k):=by
  rw[Nat.pow_add];exact Nat.mul_lt_mul'' ha hb
theorem pow_bp {a k:Nat} (h:a<2^k) (hk:k≤1024):a<Pq.bp 32:=by
  exact Nat.lt_of_lt_of_le h (bp_ge 1024 rfl hk)
theorem Bd.fits {k:Nat} {r:Rat} (h:Bd k r) (hk:k≤1024):Fits r:=⟨pow_bp h.1 hk,pow_bp h.2 hk⟩
theorem safeF_iff {b:Int} {x:F}:safeF b x=true↔SafeF b x:=by unfold safeF;simp
end Ax
namespace Go.Proofs.YtmcbljjgkmkhcaaGreatDoor
open Go.RowKit Ax
theorem dv_le : ∀ (l:List UInt8) (v:Int),0≤v→(∀ c∈l,isDig c)→v≤dv v l
  | [],v,_,_=>Int.le_refl _
  | c::r,v,h0,h=>by
    have hc:isDig c:=h c (by simp)
    unfold isDig at hc
    have:=dv_le r (v*10+((c.toNat:Int)-48)) (by omega) (fun x hx=>h x (by simp[hx]))
    have e:dv v (c::r)=dv (v*10+((c.toNat:Int)-48)) r:=rfl
    rw[e];omega
theorem fits_le {a b:Int} (h0:0≤a) (hab:a≤b) (h:Pq.fits b=true):Pq.fits a=true:=by
  unfold Pq.fits at h ⊢
  have:=of_decide_eq_true h
  exact decide_eq_true (by omega)
theorem parD_dv : ∀ (l:List UInt8) (v:Int),0≤v→(∀ c∈l,isDig c)→Pq.fits (dv v l)=true→parD v l=(true,dv v l)
  | [],v,_,_,_=>rfl
  | c::r,v,h0,h,hf=>by
    have hc:isDig c:=h c (by simp)
    unfold isDig at hc
    have hr : ∀ x∈r,isDig x:=fun x hx=>h x (by simp[hx])
    have e:dv v (c::r)=dv (v*10+((c.toNat:Int)-48)) r:=rfl
    rw[e]at hf ⊢
    have hle:=dv_le r (v*10+((c.toNat:Int)-48)) (by omega) hr
    rw[parD,if_neg (by omega),if_pos ⟨fits_le (by omega) (show v*10≤_ by omega) hf,fits_le (by omega) hle hf⟩]
    exact parD_dv r _ (by omega) hr hf
theorem dg_head {x:Nat} (h:x≠0) : ∃ c r,(dg x).reverse=c::r∧c≠48:=by
  induction x using Nat.strongRecOn with
  | ind x ih =>
    rw[dg_pos h,List.reverse_cons]
    by_cases h0:x/10=0
    · rw[h0,dg_zero]
      exact ⟨_,[],rfl,by omega⟩
    · obtain ⟨c,r,e,hc⟩:=ih (x/10) (Nat.div_lt_self (by omega) (by omega)) h0
      rw[e]
      exact ⟨c,r++[_],rfl,hc⟩
theorem nat_text {x:Nat} (h:x≠0) : ∃ c r,(dg x).reverse.map byt=c::r∧(c.toNat:Int)≠48∧(∀ b∈c::r,isDig b)∧dv 0 (c::r)=x:=by
  obtain ⟨c,r,e,hc⟩:=dg_head h
  have hd:=dv_dg x
  have hb : ∀ y∈(dg x).reverse,48≤y∧y≤57:=fun y hy=>dg_byte y (List.mem_reverse.1 hy)
  rw[e]at hd hb ⊢
  have hcb:=hb c (by simp)
  refine ⟨byt c,r.map byt,rfl,by rw[byt_nat (by omega)];exact hc,fun b hbm=>?_,hd⟩
  obtain ⟨y,hy,rfl⟩:=List.mem_map.1 (show b∈(c::r).map byt from hbm)
  have:=hb y hy
  unfold isDig
  rw[byt_nat (by omega)];omega
theorem wOf_neg_parts {z:Int} (hz:z.natAbs<Pq.bp 32):wOf z=(decide (z<0),⟨z.natAbs,hz⟩):=by unfold wOf;rw[dif_pos hz]
theorem txt_bytes {z:Int} (hz:z.natAbs<Pq.bp 32):(txt (wOf z)).data.toList=if z=0 then [48] else (if z<0 then [45] else [])++(dg z.natAbs).reverse.map byt:=by
  rw[wOf_neg_parts hz]
  unfold txt
  by_cases h:z=0
  · subst h;rfl
  · rw[if_neg (show ¬ z.natAbs=0 by omega),if_neg h]
    unfold bytesOf
    by_cases hn:z<0
    · rw[if_pos hn,decide_eq_true hn]
      simp only[if_true,List.reverse_append,List.reverse_cons,List.reverse_nil,List.nil_append]
      rfl
    · rw[if_neg hn,decide_eq_false hn]
      simp only[Bool.false_eq_true,if_false,List.append_nil,List.nil_append]
      rfl
theorem txt_noslash {z:Int} (hz:z.natAbs<Pq.bp 32) : ∀ c∈(txt (wOf z)).data.toList,c≠47:=by
  rw[txt_bytes hz]
  intro c hc e
  subst e
  split at hc
  · revert hc;decide
  · rcases List.mem_append.1 hc with h|h
    · split at h
      · revert h;decide
      · cases h
    · obtain ⟨y,hy,e⟩:=List.mem_map.1 h
      have:=dg_byte y (List.mem_reverse.1 hy)
      have hb:=byt_nat (z:=y) (by omega)
      rw[e]at hb
      have:(((47:UInt8).toNat:Nat):Int)=47:=rfl
      omega
theorem txt_short {z:Int} (hz:z.natAbs<2^1000):(txt (wOf z)).data.toList.length≤310:=by
  have hb:z.natAbs<Pq.bp 32:=Nat.lt_of_lt_of_le hz (bp_ge (k:=1000) 1024 rfl (by decide))
  rw[txt_bytes hb]
  have key : ∀ {n x:Nat},x<10^n→(dg x).length≤n:=by
    intro n
    induction n with
    | zero=>intro x h;rw[show x=0 by simpa using h,dg_zero];simp
    | succ n ih =>
      intro x h
      by_cases h0:x=0
      · rw[h0,dg_zero];simp
      · rw[dg_pos h0,List.length_cons]
        have:=ih (x:=x/10) (by rw[Nat.pow_succ]at h;omega)
        omega
  have h10:z.natAbs<10^302:=Nat.lt_of_lt_of_le hz (by decide +kernel)
  have:=key h10
  split
  · simp
  · rw[List.length_append,List.length_map,List.length_reverse]
    split <;> simp <;> omega
theorem pz_txt {z:Int} (hz:z.natAbs<2^1000):pz (txt (wOf z)).data.toList=some z:=by
  have hb:z.natAbs<Pq.bp 32:=Nat.lt_of_lt_of_le hz (bp_ge (k:=1000) 1024 rfl (by decide))
  have hlen:=txt_short hz
  rw[txt_bytes hb]at hlen ⊢
  by_cases h:z=0
  · subst h;rfl
  · rw[if_neg h]at hlen ⊢
    obtain ⟨c,r,e,hc,hd,hv⟩:=nat_text (x:=z.natAbs) (by omega)
    rw[e]at hlen ⊢
    have hf:Pq.fits (dv 0 (c::r))=true:=by rw[hv];unfold Pq.fits;exact decide_eq_true (by omega)
    have hp:=parD_dv (c::r) 0 (by omega) hd hf
    have hcd:isDig c:=hd c (by simp)
    unfold isDig at hcd
    by_cases hn:z<0
    · rw[if_pos hn]at hlen ⊢
      show pz (45::c::r)=some z
      rw[pz,if_pos (by decide),pzB,if_neg (by simp at hlen ⊢;omega)]
      show (if c.toNat=48∧_ then _ else _)=_
      rw[if_neg (by omega),hp,hv]
      simp;omega
    · rw[if_neg hn]at hlen ⊢
      show pz (c::r)=some z
      rw[pz,if_neg (by omega),pzB,if_neg (by simp at hlen ⊢;omega)]
      rw[if_neg (by omega),hp,hv]
      simp;omega
theorem slash_no : ∀ (l:List UInt8),(∀ c∈l,c≠47)→Lib.indexByte l 47 = -1
  | [],_=>rfl
  | c::r,h=>by
    rw[Lib.indexByte,if_neg (by simpa using h c (by simp)),slash_no r (fun x hx=>h x (by simp[hx]))]
    rfl
theorem slash_app : ∀ (l r:List UInt8),(∀ c∈l,c≠47)→Lib.indexByte (l++47::r) 47=l.length
  | [],r,_=>rfl
  | c::l,r,h=>by
    rw[List.cons_append,Lib.indexByte,if_neg (by simpa using h c (by simp)),slash_app l r (fun x hx=>h x (by simp[hx]))]
    have:¬ (((l.length:Nat):Int) == -1)=true:=by rw[beq_iff_eq];omega
    rw[if_neg this,List.length_cons]
    rfl
theorem cut_app {s:ByteArray} {l r:List UInt8} (hs:s.data.toList=l++47::r) (h : ∀ c∈l,c≠47):0≤slashAt s∧(cutA s).data.toList=l∧(cutB s).data.toList=r:=by
  have e:slashAt s=l.length:=by unfold slashAt;rw[hs];exact slash_app l r h
  have hsz:s.size=(l++47::r).length:=by rw[←hs,Array.length_toList];rfl
  refine ⟨by omega,?_,?_⟩
  · unfold cutA
    rw[if_pos (by omega),ext_list,hs,e,List.drop_zero,Int.toNat_natCast,List.take_left']
    rfl
  · unfold cutB
    rw[if_pos (by omega),ext_list,hs,e,hsz,List.take_length,show ((l.length:Int)+1).toNat=l.length+1 by omega]
    rw[show l++47::r=(l++[47])++r by simp,List.drop_left']
    simp
theorem cut_no {s:ByteArray} (h : ∀ c∈s.data.toList,c≠47):¬ 0≤slashAt s∧cutA s=s:=by
  have e:slashAt s = -1:=slash_no _ h
  refine ⟨by omega,?_⟩
  unfold cutA
  rw[if_neg (by omega)]
theorem app_list (a b:ByteArray):(a++b).data.toList=a.data.toList++b.data.toList:=by rw[ByteArray.data_append,Array.toList_append]
theorem two_slash (a b:ByteArray):(a++⟨#[47]⟩++b).data.toList=a.data.toList++47::b.data.toList:=by
  rw[app_list,app_list]
  show a.data.toList++[47]++b.data.toList=_
  rw[List.append_assoc];rfl
theorem pR_text {x:F} (h:OkF x) (h1:(zW x.1).natAbs<2^1000) (h2:(zW x.2).natAbs<2^1000):pR (ftxt x)=some x:=by
  have b1:(zW x.1).natAbs<Pq.bp 32:=zW_lt _
  have b2:(zW x.2).natAbs<Pq.bp 32:=zW_lt _
  have e1:wOf (zW x.1)=x.1:=wOf_zW ((isW_iff _).2 h.1)
  have e2:wOf (zW x.2)=x.2:=wOf_zW (isW_pos h.2.1)
  have n1:=txt_noslash b1
  have n2:=txt_noslash b2
  have p1:=pz_txt h1
  have p2:=pz_txt h2
  rw[e1]at n1 p1
  rw[e2]at n2 p2
  have hok:okF x=true:=decide_eq_true h
  unfold ftxt
  rw[if_pos hok]
  by_cases hd:zW x.2=1
  · rw[if_pos hd]
    obtain ⟨c1,c2⟩:=cut_no n1
    have e3:wOf 1=x.2:=by rw[←hd];exact e2
    unfold pR
    rw[c2,p1]
    show (if 0≤slashAt (txt x.1) then _ else _)=_
    rw[if_neg c1,e1,e3]
    rw[if_pos hok]
  · rw[if_neg hd]
    obtain ⟨c1,c2,c3⟩:=cut_app (two_slash (txt x.1) (txt x.2)) n1
    unfold pR
    rw[c2,p1]
    show (if 0≤slashAt _ then _ else _)=_
    rw[if_pos c1,c3,p2]
    show (if zW (wOf (zW x.2))=1 then _ else _)=_
    rw[e1,e2,if_neg hd]
    show (if okF (x.1,x.2)=true then _ else _)=_
    rw[if_pos hok]
theorem wiv_itoa {v:Int} (h:v.natAbs<1000000000):lintB (itoaS v)=true∧wiv (itoaS v)=v:=by
  obtain ⟨h1,h2⟩:=num9 h
  refine ⟨h1,?_⟩
  unfold wiv
  rw[if_pos (show lintB (itoaS v)=true from h1)]
  exact h2
theorem wnOk_itoa {v lo hi:Int} (h:v.natAbs<1000000000) (h1:lo≤v) (h2:v≤hi):wnOk (itoaS v) lo hi=true:=by
  obtain ⟨e1,e2⟩:=wiv_itoa h
  unfold wnOk
  rw[e1,e2,decide_eq_true ⟨h1,h2⟩];rfl
theorem wnV_itoa {v lo hi:Int} (h:v.natAbs<1000000000) (h1:lo≤v) (h2:v≤hi):wnV (itoaS v) lo hi=v:=by
  unfold wnV
  rw[if_pos (wnOk_itoa h h1 h2)]
  exact (wiv_itoa h).2
theorem wnT_itoa {v lo hi:Int} (h:v.natAbs<1000000000) (h1:lo≤v) (h2:v≤hi) (t:WT):wnT (itoaS v) lo hi t=t:=by
  unfold wnT
  rw[wnOk_itoa h h1 h2]
  simp
def okW (c:UInt8):Prop:=isDig c∨(c.toNat:Int)=45∨(c.toNat:Int)=46∨(c.toNat:Int)=47
theorem okW_ne {c:UInt8} (h:okW c):c≠10∧c≠35∧bl c=false:=by
  unfold okW isDig at h
  refine ⟨fun e=>?_,fun e=>?_,?_⟩
  · subst e;revert h;decide
  · subst e;revert h;decide
  · rw[bl_of];exact decide_eq_false (by omega)
theorem wordW {l:List UInt8} (h:l≠[]) (h2 : ∀ c∈l,okW c):wordU l:=⟨h,fun c hc=>okW_ne (h2 c hc)⟩
theorem dig_of {u:Nat} (h:u<10):isDig (UInt8.ofNat (48+u)):=by
  unfold isDig
  rw[UInt8.toNat_ofNat']
  omega
theorem dec_mem (n:Nat) : ∀ c∈Lib.decDigits n,isDig c:=by
  induction n using Nat.strongRecOn with
  | _ n ih =>
    intro c hc
    rw[Lib.decDigits]at hc
    split at hc
    · rename_i h
      rw[List.mem_singleton]at hc;subst hc
      exact dig_of h
    · rename_i h
      rcases List.mem_append.1 hc with hc|hc
      · exact ih (n/10) (by omega) c hc
      · rw[List.mem_singleton]at hc;subst hc
        exact dig_of (by omega)
theorem itoa_word (v:Int):wordU (Lib.itoa v):=by
  refine wordW (itoa_ne v) fun c hc=>?_
  unfold Lib.itoa at hc
  split at hc
  · rcases List.mem_cons.1 hc with rfl|hc
    · exact .inr (.inl (by decide))
    · exact .inl (dec_mem _ c hc)
  · exact .inl (dec_mem _ c hc)
theorem dgm {x:Nat} : ∀ c∈(dg x).reverse.map byt,isDig c:=by
  intro c hc
  obtain ⟨z,hz,rfl⟩:=List.mem_map.1 hc
  have:=dg_byte z (List.mem_reverse.1 hz)
  unfold isDig
  rw[byt_nat (by omega)]
  omega
theorem txt_okW {w:W} (hw:isW w=true):(txt w).data.toList≠[] ∧ ∀ c∈(txt w).data.toList,okW c:=by
  have hb:(zW w).natAbs<Pq.bp 32:=zW_lt _
  have e:wOf (zW w)=w:=wOf_zW hw
  have h:=txt_bytes hb
  rw[e]at h
  rw[h]
  by_cases h0:zW w=0
  · rw[if_pos h0]
    exact ⟨by simp,fun c hc=>by rw[List.mem_singleton]at hc;subst hc;exact .inl (by unfold isDig;decide)⟩
  · rw[if_neg h0]
    obtain ⟨c0,r,e0,_,hd,_⟩:=nat_text (x:=(zW w).natAbs) (by omega)
    refine ⟨by rw[e0];simp,fun c hc=>?_⟩
    rcases List.mem_append.1 hc with hc|hc
    · split at hc
      · rw[List.mem_singleton]at hc;subst hc;exact .inr (.inl (by decide))
      · cases hc
    · exact .inl (dgm c hc)
theorem ftxt_word {x:F} (h:OkF x):wordU (ftxt x).data.toList:=by
  obtain ⟨n1,d1⟩:=txt_okW (w:=x.1) ((isW_iff _).2 h.1)
  obtain ⟨n2,d2⟩:=txt_okW (w:=x.2) (isW_pos h.2.1)
  unfold ftxt
  rw[if_pos (show okF x=true from decide_eq_true h)]
  split
  · exact wordW n1 d1
  · rw[two_slash]
    refine wordW (by simp) fun c hc=>?_
    rcases List.mem_append.1 hc with hc|hc
    · exact d1 c hc
    · rcases List.mem_cons.1 hc with rfl|hc
      · exact .inr (.inr (.inr (by decide)))
      · exact d2 c hc
def gRows {α:Type} (g:Int→α→List (List UInt8)):List α→Int→List (List (List UInt8))
  | [],_=>[]
  | p::r,i=>g (i+1) p::gRows g r (i+1)
theorem strL_rows {α:Type} (f:Int→α→ByteArray) (g:Int→α→List (List UInt8)) (h : ∀ i p,(f i p).data.toList=rowU (g i p)) : ∀ (l:List α) (i:Int),(strL f l i).data.toList=rowsU (gRows g l i)
  | [],_=>rfl
  | p::r,i=>by
    rw[strL,gRows,rowsU,←strL_rows f g h r (i+1),←h]
    simp
theorem gRows_app {α:Type} (g:Int→α→List (List UInt8)) : ∀ (l:List α) (p:α) (i:Int),∃ x,gRows g (l++[p]) i=gRows g l i++[x] ∧ ∃ k,x=g k p
  | [],p,i=>⟨_,rfl,_,rfl⟩
  | a::r,p,i=>by
    obtain ⟨x,e,k⟩:=gRows_app g r p (i+1)
    exact ⟨x,by rw[List.cons_append,gRows,e];rfl,k⟩
theorem rowsU_app : ∀ (l:List (List (List UInt8))) (r:List (List UInt8)),rowsU (l++[r])=rowsU l++rowU r
  | [],r=>by simp[rowsU]
  | a::l,r=>by rw[List.cons_append,rowsU,rowsU,rowsU_app l r,List.append_assoc]
def nsG (i:Int) (p:Pt):List (List UInt8):=[Lib.itoa i,(ftxt p.1).data.toList,(ftxt p.2).data.toList]
def esG (i:Int) (p:I3):List (List UInt8):=[Lib.itoa i,Lib.itoa (p.1+1),Lib.itoa (p.2.1+1),Lib.itoa (p.2.2+1)]
def gsG (i:Int) (p:I3):List (List UInt8):=[Lib.itoa i,Lib.itoa (p.1+1),Lib.itoa (p.2.1+1),Lib.itoa p.2.2]
theorem intsS_list (l:List Int):(intsS l).data.toList=rowU (l.map Lib.itoa):=by
  unfold intsS
  rw[rowS_list,List.map_map]
  rfl
theorem nsF_rows (i:Int) (p:Pt):(nsF i p).data.toList=rowU (nsG i p):=rowS_list _
theorem esF_rows (i:Int) (p:I3):(esF i p).data.toList=rowU (esG i p):=intsS_list _
theorem gsF_rows (i:Int) (p:I3):(gsF i p).data.toList=rowU (gsG i p):=intsS_list _
def tblR {α:Type} (g:Int→α→List (List UInt8)) (hd:List Int) (l:List α):List (List (List UInt8)):=((l.length:Int)::hd).map Lib.itoa::gRows g l 0
theorem tbl_list {α:Type} (f:Int→α→ByteArray) (g:Int→α→List (List UInt8)) (h : ∀ i p,(f i p).data.toList=rowU (g i p)) (hd:List Int) (l:List α):(intsS ((l.length:Int)::hd)++strL f l 0).data.toList=rowsU (tblR g hd l):=by
  have e:(intsS ((l.length:Int)::hd)++strL f l 0).data.toList=(intsS ((l.length:Int)::hd)).data.toList++(strL f l 0).data.toList:=by simp
  rw[e,intsS_list,strL_rows f g h]
  rfl
def goodR (R:List (List (List UInt8))):Prop := ∀ ws∈R,ws≠[] ∧ ∀ w∈ws,wordU w
theorem good_hd (l:List Int) (h:l≠[]):l.map Lib.itoa≠[] ∧ ∀ w∈l.map Lib.itoa,wordU w:=⟨by simpa using h,fun w hw=>by
  obtain ⟨v,_,rfl⟩:=List.mem_map.1 hw
  exact itoa_word v⟩
theorem good_g {α:Type} (g:Int→α→List (List UInt8)) (ok:α→Prop) (hg : ∀ i p,ok p→g i p≠[] ∧ ∀ w∈g i p,wordU w) : ∀ (l:List α) (i:Int),(∀ p∈l,ok p)→goodR (gRows g l i)
  | [],_,_=>fun ws h=>by cases h
  | p::r,i,h=>fun ws hw=>by
    rw[gRows]at hw
    rcases List.mem_cons.1 hw with rfl|hw
    · exact hg _ _ (h p (by simp))
    · exact good_g g ok hg r (i+1) (fun q hq=>h q (by simp[hq])) ws hw
theorem lines_hd {s:ByteArray} {W:List (List UInt8)} {R:List (List (List UInt8))} (hg:goodR (W::R)) (hs:s.data.toList=rowsU (W::R)):linesOf s=(1,W.map mkB)::rowsL R 1:=linesOf_rows (W::R) hg s hs
theorem wat_cons (a:ByteArray) (l:List ByteArray) (k:Nat):wat (a::l) (k+1)=wat l k:=rfl
theorem hdGo_good (W:List ByteArray) : ∀ (hd:List Int) (k:Nat) (t:WT),(∀ (j:Nat) h,hd[j]?=some h→wat W (k+j)=itoaS h∧h.natAbs<1000000000)→hdGo W hd k t=t
  | [],_,_,_=>rfl
  | h::r,k,t,hh=>by
    obtain ⟨e,hb⟩:=hh 0 h rfl
    rw[hdGo,show wat W k=itoaS h from e,wnT_itoa hb (Int.le_refl _) (Int.le_refl _)]
    exact hdGo_good W r (k+1) t fun j x hx=>by
      have:=hh (j+1) x hx
      rw[show k+1+j=k+(j+1) by omega]
      exact this
theorem tab_read {s:ByteArray} {n:Nat} {hd:List Int} {ls:LLw} {j:Int} (hn:n≤4000) (hh : ∀ h∈hd,h.natAbs<1000000000) (hs:linesOf s=(j,(((n:Int)::hd).map Lib.itoa).map mkB)::ls):tabN s hd=n∧tabT s hd=(ls,false):=by
  have e0:(((n:Int)::hd).map Lib.itoa).map mkB=itoaS n::hd.map itoaS:=by
    rw[List.map_cons,List.map_cons,List.map_map];rfl
  rw[e0]at hs
  have hok:wlOk ((hd.length:Int)+1) (linesOf s,false)=true:=by
    rw[hs]
    unfold wlOk
    simp
  have eW:tabW s hd=itoaS n::hd.map itoaS:=by
    unfold tabW wlW
    rw[if_pos hok,hs]
    rfl
  have eL:wlT ((hd.length:Int)+1) (linesOf s,false)=(ls,false):=by
    unfold wlT
    rw[if_pos hok,hs]
    rfl
  have eT:tabT s hd=(ls,false):=by
    unfold tabT
    rw[eW,eL,show wat (itoaS n::hd.map itoaS) 0=itoaS n from rfl,wnT_itoa (by omega) (by omega) (by omega)]
    refine hdGo_good _ hd 1 _ fun j h hj=>⟨?_,hh h (List.mem_of_getElem? hj)⟩
    rw[show 1+j=j+1 by omega,wat_cons]
    unfold wat
    rw[List.getElem?_map,hj]
    rfl
  refine ⟨?_,eT⟩
  unfold tabN
  rw[eT,eW]
  exact (if_neg Bool.false_ne_true).trans (wnV_itoa (by omega) (by omega) (by omega))
theorem wlOk_none (n:Int) (b:Bool):wlOk n ([],b)=false:=by unfold wlOk;simp
theorem wlT_none (n:Int) (b:Bool):wlT n ([],b)=([],true):=by unfold wlT;rw[wlOk_none];rfl
theorem hdGo_bad (W:List ByteArray) : ∀ (hd:List Int) (k:Nat) (t:WT),t.2=true→(hdGo W hd k t).2=true
  | [],_,_,h=>h
  | x::r,k,t,h=>hdGo_bad W r (k+1) _ (by unfold wnT;rw[h];rfl)
theorem tab_empty {s:ByteArray} {hd:List Int} (hs:linesOf s=[]):(tabT s hd).2=true:=by
  unfold tabT
  rw[hs,wlT_none]
  exact hdGo_bad _ _ _ _ (by unfold wnT;rfl)
theorem tb_read {α:Type} (f:Int→WT→α×WT) (g:Int→α→List (List UInt8)) (ok:α→Prop) (hf : ∀ (i j:Int) p ls,0≤i∧i≤100000→ok p→f i ((j,(g (i+1) p).map mkB)::ls,false)=(p,(ls,false))) : ∀ (l:List α) (i j:Int),0≤i→i+l.length≤100000→(∀ p∈l,ok p)→tbGo f l.length i (rowsL (gRows g l i) j,false)=(l,([],false))
  | [],_,_,_,_,_=>rfl
  | p::r,i,j,h0,h1,h=>by
    simp only[List.length_cons]at h1
    rw[List.length_cons,tbGo,if_neg (show ¬ ((rowsL (gRows g (p::r) i) j,false):WT).2=true from Bool.false_ne_true),gRows,rowsL,hf i (j+1) p _ ⟨h0,by omega⟩ (h p (by simp))]
    show (p::(tbGo f r.length (i+1) (rowsL (gRows g r (i+1)) (j+1),false)).1,(tbGo f r.length (i+1) (rowsL (gRows g r (i+1)) (j+1),false)).2)=_
    rw[tb_read f g ok hf r (i+1) (j+1) (by omega) (by omega) (fun q hq=>h q (by simp[hq]))]
theorem tb_cut {α:Type} (f:Int→WT→α×WT) (g:Int→α→List (List UInt8)) (ok:α→Prop) (hf : ∀ (i j:Int) p ls,0≤i∧i≤100000→ok p→f i ((j,(g (i+1) p).map mkB)::ls,false)=(p,(ls,false))) (hb : ∀ i b,(f i ([],b)).2.2=true) : ∀ (l:List α) (i j:Int),0≤i→i+l.length≤100000→(∀ p∈l,ok p)→(tbGo f (l.length+1) i (rowsL (gRows g l i) j,false)).2.2=true
  | [],i,j,_,_,_=>by
    show (tbGo f 1 i ([],false)).2.2=true
    rw[tbGo,if_neg (show ¬ (([],false):WT).2=true from Bool.false_ne_true)]
    exact hb i false
  | p::r,i,j,h0,h1,h=>by
    simp only[List.length_cons]at h1
    rw[List.length_cons,tbGo,if_neg (show ¬ ((rowsL (gRows g (p::r) i) j,false):WT).2=true from Bool.false_ne_true),gRows,rowsL,hf i (j+1) p _ ⟨h0,by omega⟩ (h p (by simp))]
    exact tb_cut f g ok hf hb r (i+1) (j+1) (by omega) (by omega) (fun q hq=>h q (by simp[hq]))
theorem tr_words {i:Int} {n:Nat} {k:Int} {w:List ByteArray} {ls:LLw} {j:Int} (hi:0≤i∧i≤100000) (hk:k=n) (hw:w.length=n):trW k ((j,itoaS (i+1)::w)::ls,false)=w∧trT i k ((j,itoaS (i+1)::w)::ls,false)=(ls,false):=by
  have hok:wlOk (k+1) ((j,itoaS (i+1)::w)::ls,false)=true:=by
    unfold wlOk
    simp[hw,hk]
  have e1:wlW (k+1) ((j,itoaS (i+1)::w)::ls,false)=itoaS (i+1)::w:=by unfold wlW;rw[if_pos hok];rfl
  have e2:wlT (k+1) ((j,itoaS (i+1)::w)::ls,false)=(ls,false):=by unfold wlT;rw[if_pos hok];rfl
  unfold trW trT
  rw[e1,e2]
  refine ⟨rfl,?_⟩
  show wnT (itoaS (i+1)) (i+1) (i+1) (ls,false)=_
  rw[wnT_itoa (by omega) (Int.le_refl _) (Int.le_refl _)]
def okP (p:Pt):Prop:=SafeF 300 p.1∧SafeF 300 p.2
theorem pRV_text {x:F} (h:SafeF 300 x):(pR (ftxt x)).isSome=true∧pRV (ftxt x)=x:=by
  obtain ⟨b1,b2,b3⟩:=safe_bk (k:=300) h
  have e:=pR_text h.2.2 (pow_to (j:=300) (k:=1000) b1 (by decide)) (pow_to (j:=300) (k:=1000) b2 (by decide))
  unfold pRV
  rw[e]
  exact ⟨rfl,rfl⟩
theorem nd_step (i j:Int) (p:Pt) (ls:LLw) (hi:0≤i∧i≤100000) (hp:okP p):ndF i ((j,(nsG (i+1) p).map mkB)::ls,false)=(p,(ls,false)):=by
  have e:(nsG (i+1) p).map mkB=itoaS (i+1)::[ftxt p.1,ftxt p.2]:=by
    show [mkB (Lib.itoa (i+1)),mkB (ftxt p.1).data.toList,mkB (ftxt p.2).data.toList]=_
    rw[mkB_data,mkB_data];rfl
  rw[e]
  obtain ⟨e1,e2⟩:=tr_words (n:=2) (k:=2) (w:=[ftxt p.1,ftxt p.2]) (ls:=ls) (j:=j) hi rfl rfl
  obtain ⟨a1,a2⟩:=pRV_text hp.1
  obtain ⟨b1,b2⟩:=pRV_text hp.2
  unfold ndF
  rw[e1,e2]
  show ((pRV (ftxt p.1),pRV (ftxt p.2)),(ls,(false||(!(pR (ftxt p.1)).isSome || !(pR (ftxt p.2)).isSome))))=_
  rw[a1,a2,b1,b2]
  rfl
theorem nd_bad (i:Int) (b:Bool):(ndF i ([],b)).2.2=true:=by
  unfold ndF trT
  rw[wlT_none]
  simp[wnT]
def okE (m:Int) (p:I3):Prop:=(0≤p.1∧p.1<m)∧(0≤p.2.1∧p.2.1<m)∧(0≤p.2.2∧p.2.2<m)
def okG (m:Int) (p:I3):Prop:=(0≤p.1∧p.1<m)∧(0≤p.2.1∧p.2.1<m)∧(-999999999≤p.2.2∧p.2.2≤999999999)
theorem wv1_itoa {a m:Int} (h:0≤a∧a<m) (hm:m≤100000):wv1 (itoaS (a+1)) m=a:=by
  unfold wv1
  rw[wnV_itoa (by omega) (by omega) (by omega)]
  omega
theorem wn1_itoa {a m:Int} (h:0≤a∧a<m) (hm:m≤100000) (t:WT):wnT (itoaS (a+1)) 1 m t=t:=wnT_itoa (by omega) (by omega) (by omega) t
theorem el_step {m:Int} (hm:m≤100000) (i j:Int) (p:I3) (ls:LLw) (hi:0≤i∧i≤100000) (hp:okE m p):elF m i ((j,(esG (i+1) p).map mkB)::ls,false)=(p,(ls,false)):=by
  obtain ⟨a,b,c⟩:=p
  obtain ⟨ha,hb,hc⟩:=hp
  obtain ⟨e1,e2⟩:=tr_words (n:=3) (k:=3) (w:=[itoaS (a+1),itoaS (b+1),itoaS (c+1)]) (ls:=ls) (j:=j) hi rfl rfl
  show elF m i ((j,itoaS (i+1)::[itoaS (a+1),itoaS (b+1),itoaS (c+1)])::ls,false)=_
  unfold elF
  rw[e1,e2]
  show ((wv1 (itoaS (a+1)) m,wv1 (itoaS (b+1)) m,wv1 (itoaS (c+1)) m),wnT (itoaS (c+1)) 1 m (wnT (itoaS (b+1)) 1 m (wnT (itoaS (a+1)) 1 m (ls,false))))=_
  rw[wv1_itoa ha hm,wv1_itoa hb hm,wv1_itoa hc hm,wn1_itoa ha hm,wn1_itoa hb hm,wn1_itoa hc hm]
theorem wnT_true (w:ByteArray) (lo hi:Int) (t:WT) (h:t.2=true):(wnT w lo hi t).2=true:=by unfold wnT;rw[h];rfl
theorem el_bad (m i:Int) (b:Bool):(elF m i ([],b)).2.2=true:=by
  unfold elF trT
  rw[wlT_none]
  exact wnT_true _ _ _ _ (wnT_true _ _ _ _ (wnT_true _ _ _ _ (wnT_true _ _ _ _ rfl)))
theorem eg_step {m:Int} (hm:m≤100000) (i j:Int) (p:I3) (ls:LLw) (hi:0≤i∧i≤100000) (hp:okG m p):egF m i ((j,(gsG (i+1) p).map mkB)::ls,false)=(p,(ls,false)):=by
  obtain ⟨a,b,c⟩:=p
  obtain ⟨ha,hb,hc⟩:=hp
  have hc : -999999999≤c∧c≤999999999:=hc
  obtain ⟨e1,e2⟩:=tr_words (n:=3) (k:=3) (w:=[itoaS (a+1),itoaS (b+1),itoaS c]) (ls:=ls) (j:=j) hi rfl rfl
  obtain ⟨c1,c2⟩:=wiv_itoa (v:=c) (by omega)
  show egF m i ((j,itoaS (i+1)::[itoaS (a+1),itoaS (b+1),itoaS c])::ls,false)=_
  unfold egF
  rw[e1,e2]
  show ((wv1 (itoaS (a+1)) m,wv1 (itoaS (b+1)) m,wiv (itoaS c)),wnT (itoaS (b+1)) 1 m (wnT (itoaS (a+1)) 1 m (ls,false || !lintB (itoaS c))))=_
  rw[c1,c2,wv1_itoa ha hm,wv1_itoa hb hm,wn1_itoa ha hm,wn1_itoa hb hm]
  rfl
theorem eg_bad (m i:Int) (b:Bool):(egF m i ([],b)).2.2=true:=by
  unfold egF trT
  rw[wlT_none]
  exact wnT_true _ _ _ _ (wnT_true _ _ _ _ (by simp[wnT]))
theorem scb_run (A B R:List UInt8) (hB : ∀ c∈B,c≠10) (hA:A=[] ∨ ∃ A',A=A'++[10]) : ∀ b,b≤B.length→scb (A++(B++R)) (A.length+b)=A.length
  | 0,_=>by
    rcases hA with rfl|⟨A',rfl⟩
    · rfl
    · rw[List.length_append,List.length_singleton,Nat.add_zero,scb,if_pos]
      rw[List.append_assoc,List.getElem?_append_right (Nat.le_refl _)]
      simp
  | b+1,h=>by
    have hb:b<B.length:=by omega
    have e:(A++(B++R))[A.length+b]?=some (B[b]'hb):=by
      rw[List.getElem?_append_right (by omega),List.getElem?_append_left (by omega),show A.length+b-A.length=b by omega,List.getElem?_eq_getElem hb]
    rw[show A.length+(b+1)=(A.length+b)+1 by omega,scb,e,if_neg (fun h=>hB _ (List.getElem_mem hb) (Option.some.inj h)),scb_run A B R hB hA b (by omega)]
theorem rowsU_end : ∀ l:List (List (List UInt8)),rowsU l=[] ∨ ∃ A',rowsU l=A'++[10]
  | []=>.inl rfl
  | r::l=>by
    rw[rowsU]
    rcases rowsU_end l with e|⟨A',e⟩
    · rw[e,List.append_nil];exact .inr ⟨_,rfl⟩
    · rw[e];exact .inr ⟨rowU r++A',by rw[List.append_assoc]⟩
theorem cut_last {s:ByteArray} {R:List (List (List UInt8))} {last:List (List UInt8)} (hs:s.data.toList=rowsU (R++[last])) (hw : ∀ w∈last,wordU w):1≤s.size∧scb s.data.toList (s.size-1)=(rowsU R).length∧(rowsU R).length≤s.size∧(s.extract 0 (rowsU R).length).data.toList=rowsU R:=by
  have hl:s.data.toList=rowsU R++(inter last++[10]):=by rw[hs,rowsU_app];rfl
  have hz:s.size=(rowsU R).length+((inter last).length+1):=by
    rw[Lib.size_eq,hl];simp
  have h1:=scb_run (rowsU R) (inter last) [10] (fun c hc=>(inter_no last hw c hc).1) (rowsU_end R) _ (Nat.le_refl _)
  refine ⟨by omega,?_,by omega,?_⟩
  · rw[hl,show s.size-1=(rowsU R).length+(inter last).length by omega];exact h1
  · rw[Lib.extract_eq]
    show Lib.pieceU s.data.toList 0 (rowsU R).length=_
    unfold Lib.pieceU
    rw[hl]
    simp
theorem wbL_wp {m X:Mesh} {n k:Int} {a b c s:ByteArray} {R:List (List (List UInt8))} {last:List (List UInt8)} {Q:Av→Prop} (hs:s.data.toList=rowsU (R++[last])) (hw : ∀ w∈last,wordU w) (hz:s.size≤900000) (hk:0≤k∧k<3)
    (h : ∀ u:ByteArray,u.data.toList=rowsU R→u.size≤900000→(k=0→(wbE m X n k u b c).wp Q)∧(k=1→(wbE m X n k a u c).wp Q)∧(k=2→(wbE m X n k a b u).wp Q)):(wbL m X n k a b c s).wp Q:=by
  obtain ⟨h1,h2,h3,h4⟩:=cut_last hs hw
  unfold wbL
  rw[wd1_eq (i:=(s.size:Int)) (by omega),show ((s.size:Int)-1).toNat=s.size-1 by omega,h2]
  refine witf (beq_false_of_ne (by omega)) (wned ⟨by omega,by omega,by omega⟩ (wned ⟨Int.le_refl 0,by omega,by omega⟩ ?_))
  have hu:(s.extract (Int.toNat 0) ((((rowsU R).length:Nat):Int)).toNat)=s.extract 0 (rowsU R).length:=by rw[Int.toNat_natCast];rfl
  show (T.need _ _).wp Q
  rw[hu]
  have hsz:(s.extract 0 (rowsU R).length).size≤900000:=by rw[ByteArray.size_extract];omega
  obtain ⟨q0,q1,q2⟩:=h _ h4 hsz
  refine wned hk ⟨fun e=>q0 (by simpa using e),fun e=>⟨fun e1=>q1 (by simpa using e1),fun e1=>q2 ?_⟩⟩
  have e:¬ k=0:=by simpa using e
  have e1:¬ k=1:=by simpa using e1
  omega
theorem tbl_good {α:Type} (g:Int→α→List (List UInt8)) (ok:α→Prop) (hg : ∀ i p,ok p→g i p≠[] ∧ ∀ w∈g i p,wordU w) (hd:List Int) (l:List α) (h : ∀ p∈l,ok p):goodR (tblR g hd l):=fun ws hw=>by
  unfold tblR at hw
  rcases List.mem_cons.1 hw with rfl|hw
  · exact good_hd _ (by simp)
  · exact good_g g ok hg l 0 h ws hw
section
variable {α:Type} {f:Int→WT→α×WT} {g:Int→α→List (List UInt8)} {ok:α→Prop} (hf : ∀ (i j:Int) p ls,0≤i∧i≤100000→ok p→f i ((j,(g (i+1) p).map mkB)::ls,false)=(p,(ls,false))) (hb : ∀ i b,(f i ([],b)).2.2=true) (hg : ∀ i p,ok p→g i p≠[] ∧ ∀ w∈g i p,wordU w) {hd:List Int} (hh : ∀ h∈hd,h.natAbs<1000000000)
include hf hg hh in
theorem tbl_full {l:List α} {s:ByteArray} (hs:s.data.toList=rowsU (tblR g hd l)) (hl:l.length≤4000) (h : ∀ p∈l,ok p):tbGo f (tabN s hd).toNat 0 (tabT s hd)=(l,([],false)):=by
  have hL:=lines_hd (tbl_good g ok hg hd l h) hs
  obtain ⟨e1,e2⟩:=tab_read (ls:=rowsL (gRows g l 0) 1) hl hh hL
  rw[e1,e2,Int.toNat_natCast]
  exact tb_read f g ok hf l 0 1 (Int.le_refl 0) (by omega) h
include hf hb hg hh in
theorem tbl_cut {l:List α} {u:ByteArray} (hu:u.data.toList=rowsU (tblR g hd l).dropLast) (hl:l.length≤4000) (h : ∀ p∈l,ok p):wendB (tbGo f (tabN u hd).toNat 0 (tabT u hd)).2=false:=by
  have fin : ∀ {t:WT},t.2=true→wendB t=false:=fun h=>by unfold wendB;rw[h];rfl
  rcases List.eq_nil_or_concat l with rfl|⟨r,p,rfl⟩
  · have hu0:u.data.toList=[]:=hu
    have hL:linesOf u=[]:=by rw[linesOf_lf,hu0];rfl
    have ht:=tab_empty (hd:=hd) hL
    have hn:tabN u hd=0:=by unfold tabN;rw[if_pos ht]
    rw[hn]
    exact fin ht
  · simp only[List.concat_eq_append]at hu hl h
    obtain ⟨x,ex,_⟩:=gRows_app g r p 0
    have e:(tblR g hd (r++[p])).dropLast=((((r++[p]).length:Nat):Int)::hd).map Lib.itoa::gRows g r 0:=by
      unfold tblR
      rw[ex,←List.cons_append,List.dropLast_concat]
    have hr : ∀ q∈r,ok q:=fun q hq=>h q (by simp[hq])
    rw[e]at hu
    have hgood:goodR (((((r++[p]).length:Nat):Int)::hd).map Lib.itoa::gRows g r 0):=fun ws hw=>by
      rcases List.mem_cons.1 hw with rfl|hw
      · exact good_hd _ (by simp)
      · exact good_g g ok hg r 0 hr ws hw
    have hL:=lines_hd hgood hu
    obtain ⟨e1,e2⟩:=tab_read (n:=(r++[p]).length) (ls:=rowsL (gRows g r 0) 1) hl hh hL
    rw[e1,e2,Int.toNat_natCast,List.length_append,List.length_singleton]
    rw[List.length_append,List.length_singleton]at hl
    exact fin (tb_cut f g ok hf hb r 0 1 (Int.le_refl 0) (by omega) hr)
end
theorem tblR_split {α:Type} (g:Int→α→List (List UInt8)) (hd:List Int) (l:List α) : ∃ last,tblR g hd l=(tblR g hd l).dropLast++[last]:=⟨(tblR g hd l).getLast (by unfold tblR;simp),(List.dropLast_concat_getLast _).symm⟩
theorem nsG_good (i:Int) (p:Pt) (h:okP p):nsG i p≠[] ∧ ∀ w∈nsG i p,wordU w:=⟨by unfold nsG;simp,fun w hw=>by
  unfold nsG at hw
  simp only[List.mem_cons,List.not_mem_nil,or_false]at hw
  rcases hw with rfl|rfl|rfl
  · exact itoa_word _
  · exact ftxt_word h.1.2.2
  · exact ftxt_word h.2.2.2⟩
theorem i4_good (l:List Int) (h:l≠[]):l.map Lib.itoa≠[] ∧ ∀ w∈l.map Lib.itoa,wordU w:=good_hd l h
theorem esG_good (i:Int) (p:I3):esG i p≠[] ∧ ∀ w∈esG i p,wordU w:=i4_good [i,p.1+1,p.2.1+1,p.2.2+1] (by simp)
theorem gsG_good (i:Int) (p:I3):gsG i p≠[] ∧ ∀ w∈gsG i p,wordU w:=i4_good [i,p.1+1,p.2.1+1,p.2.2] (by simp)
theorem strL_size {α:Type} (f:Int→α→ByteArray) (b:Nat) : ∀ (l:List α) (i:Int),0≤i→i+l.length≤100000→(∀ j p,0≤j→j≤100000→p∈l→(f j p).size≤b)→(strL f l i).size≤l.length*b
  | [],_,_,_,_=>Nat.zero_le _
  | p::r,i,h0,h1,h=>by
    simp only[List.length_cons]at h1
    have h2:=h (i+1) p (by omega) (by omega) (by simp)
    have h3:=strL_size f b r (i+1) (by omega) (by omega) (fun j q a1 a2 hq=>h j q a1 a2 (by simp[hq]))
    rw[strL,ByteArray.size_append,List.length_cons,Nat.add_mul]
    omega
structure MeshOk (m:Mesh):Prop where
  lp:m.1.length≤30
  lt:m.2.1.length≤40
  le:m.2.2.length≤60
  p : ∀ q∈(m.1:List Pt),okP q
  t : ∀ q∈(m.2.1:List I3),okE (m.1.length:Int) q
  e : ∀ q∈(m.2.2:List I3),okG (m.1.length:Int) q
theorem mesh_of {m:Mesh} (h1:fewB m=true) (h2:plainB m=true):MeshOk m:=by
  unfold fewB at h1
  unfold plainB at h2
  simp only[Bool.and_eq_true,decide_eq_true_eq,List.all_eq_true]at h1 h2
  obtain ⟨a1,a2,a3⟩:=h1
  obtain ⟨b1,b2,b3⟩:=h2
  refine ⟨by omega,by omega,by omega,fun q hq=>?_,fun q hq=>?_,fun q hq=>?_⟩
  · have:=b1 q hq
    unfold okPb at this
    rw[Bool.and_eq_true]at this
    exact ⟨safeF_iff.1 this.1,safeF_iff.1 this.2⟩
  · have:=b2 q hq
    unfold okTb ok1 at this
    simp only[Bool.and_eq_true,decide_eq_true_eq]at this
    exact this
  · have:=b3 q hq
    unfold okEb ok1 at this
    simp only[Bool.and_eq_true,decide_eq_true_eq]at this
    exact this
theorem sm_t {m:Mesh} (h:MeshOk m) : ∀ q∈(m.2.1:List I3),smP q:=fun q hq=>by
  obtain ⟨⟨a1,a2⟩,⟨b1,b2⟩,⟨c1,c2⟩⟩:=h.t q hq
  have:=h.lp
  exact ⟨⟨by omega,by omega⟩,⟨by omega,by omega⟩,⟨by omega,by omega⟩⟩
theorem sm_e {m:Mesh} (h:MeshOk m) : ∀ q∈(m.2.2:List I3),smP q:=fun q hq=>by
  obtain ⟨⟨a1,a2⟩,⟨b1,b2⟩,⟨c1,c2⟩⟩:=h.e q hq
  have:=h.lp
  exact ⟨⟨by omega,by omega⟩,⟨by omega,by omega⟩,⟨by omega,by omega⟩⟩
theorem hd_size {n:Nat} {r:List Int} (hn:n≤1000) (hr : ∀ v∈r,0≤v∧v≤3) (hl:r.length≤3):(intsS ((n:Int)::r)).size≤1000:=(hd_in hn hr hl).2
theorem ns_size {m:Mesh} (h:MeshOk m):(nodesS m.1).size≤900000:=by
  have h1:=hd_size (n:=m.1.length) (by have:=h.lp;omega) r2 (by decide)
  have h2:=strL_size nsF 6200 m.1 0 (Int.le_refl 0) (by have:=h.lp;omega) (fun j p j0 j1 _=>by
    have:=rowS_size 2051 [itoaS j,ftxt p.1,ftxt p.2] (fun w hw=>by
      simp only[List.mem_cons,List.not_mem_nil,or_false]at hw
      rcases hw with rfl|rfl|rfl
      · have:=itoaS_size (v:=j) (by unfold in64W;omega);omega
      · exact ftxt_size _
      · exact ftxt_size _)
    simp only[List.length_cons,List.length_nil]at this
    show (rowS _).size≤_
    omega)
  have h3:=h.lp
  have h4:m.1.length*6200≤30*6200:=Nat.mul_le_mul_right _ h3
  unfold nodesS
  rw[ByteArray.size_append]
  omega
theorem i4_size {l:List Int} (hl:l.length≤4) (hv : ∀ v∈l,-1000000000000≤v∧v≤1000000000001):(intsS l).size≤100:=by
  have:=intsS_size (l:=l) (fun v hv'=>by have:=hv v hv';unfold in64W;omega)
  omega
theorem es_size {m:Mesh} (h:MeshOk m):(elesS m.2.1).size≤900000:=by
  have h1:=hd_size (n:=m.2.1.length) (by have:=h.lt;omega) r3 (by decide)
  have h2:=strL_size (α:=I3) esF 100 m.2.1 0 (Int.le_refl 0) (by have:=h.lt;omega) (fun j p j0 j1 hp=>by
    obtain ⟨⟨a1,a2⟩,⟨b1,b2⟩,⟨c1,c2⟩⟩:=sm_t h p hp
    exact i4_size (by simp) fun v hv=>by
      simp only[List.mem_cons,List.not_mem_nil,or_false]at hv
      rcases hv with rfl|rfl|rfl|rfl <;> omega)
  have h3:=h.lt
  have h4:m.2.1.length*100≤40*100:=Nat.mul_le_mul_right _ h3
  unfold elesS
  rw[ByteArray.size_append]
  omega
theorem gs_size {m:Mesh} (h:MeshOk m):(edgesS m.2.2).size≤900000:=by
  have h1:=hd_size (n:=m.2.2.length) (by have:=h.le;omega) r1 (by decide)
  have h2:=strL_size (α:=I3) gsF 100 m.2.2 0 (Int.le_refl 0) (by have:=h.le;omega) (fun j p j0 j1 hp=>by
    obtain ⟨⟨a1,a2⟩,⟨b1,b2⟩,⟨c1,c2⟩⟩:=sm_e h p hp
    exact i4_size (by simp) fun v hv=>by
      simp only[List.mem_cons,List.not_mem_nil,or_false]at hv
      rcases hv with rfl|rfl|rfl|rfl <;> omega)
  have h3:=h.le
  have h4:m.2.2.length*100≤60*100:=Nat.mul_le_mul_right _ h3
  unfold edgesS
  rw[ByteArray.size_append]
  omega
theorem h2_ : ∀ h∈[(2:Int),0,0],h.natAbs<1000000000:=by decide
theorem h3_ : ∀ h∈[(3:Int),0],h.natAbs<1000000000:=by decide
theorem h1_ : ∀ h∈[(1:Int)],h.natAbs<1000000000:=by decide
theorem ns_list (l:List Pt):(nodesS l).data.toList=rowsU (tblR nsG [2,0,0] l):=tbl_list nsF nsG nsF_rows _ l
theorem es_list (l:List I3):(elesS l).data.toList=rowsU (tblR esG [3,0] l):=tbl_list esF esG esF_rows _ l
theorem gs_list (l:List I3):(edgesS l).data.toList=rowsU (tblR gsG [1] l):=tbl_list gsF gsG gsF_rows _ l
theorem wend_ok:wendB ([],false)=true:=rfl
theorem ns_full {m:Mesh} (h:MeshOk m):nodesR (nodesS m.1)=(m.1,([],false)):=tbl_full nd_step nsG_good h2_ (ns_list m.1) (by have:=h.lp;omega) h.p
theorem ns_len {m:Mesh} (h:MeshOk m):nLen (nodesS m.1)=(m.1.length:Int):=by unfold nLen;rw[ns_full h]
theorem es_full {m:Mesh} (h:MeshOk m):elesR (elesS m.2.1) (m.1.length:Int)=(m.2.1,([],false)):=tbl_full (el_step (by have:=h.lp;omega)) (fun i p _=>esG_good i p) h3_ (es_list m.2.1) (by have:=h.lt;omega) h.t
theorem gs_full {m:Mesh} (h:MeshOk m):edgesR (edgesS m.2.2) (m.1.length:Int)=(m.2.2,([],false)):=tbl_full (eg_step (by have:=h.lp;omega)) (fun i p _=>gsG_good i p) h1_ (gs_list m.2.2) (by have:=h.le;omega) h.e
theorem rd_full {m:Mesh} (h:MeshOk m):rdM (nodesS m.1) (elesS m.2.1) (edgesS m.2.2)=(m,0):=by
  unfold rdM
  rw[ns_len h,ns_full h,es_full h,gs_full h]
  rfl
theorem rd_cut1 {m:Mesh} (h:MeshOk m) {u:ByteArray} (hu:u.data.toList=rowsU (tblR nsG [2,0,0] m.1).dropLast) (b c:ByteArray):(rdM u b c).2=1:=by
  have e:wendB (nodesR u).2=false:=tbl_cut nd_step nd_bad nsG_good h2_ hu (by have:=h.lp;omega) h.p
  unfold rdM
  rw[if_pos e]
theorem rd_cut2 {m:Mesh} (h:MeshOk m) {u:ByteArray} (hu:u.data.toList=rowsU (tblR esG [3,0] m.2.1).dropLast) (c:ByteArray):(rdM (nodesS m.1) u c).2=2:=by
  have e:wendB (elesR u (m.1.length:Int)).2=false:=tbl_cut (el_step (by have:=h.lp;omega)) (el_bad _) (fun i p _=>esG_good i p) h3_ hu (by have:=h.lt;omega) h.t
  unfold rdM
  rw[ns_len h,ns_full h,if_neg (by rw[wend_ok];simp),if_pos e]
theorem rd_cut3 {m:Mesh} (h:MeshOk m) {u:ByteArray} (hu:u.data.toList=rowsU (tblR gsG [1] m.2.2).dropLast):(rdM (nodesS m.1) (elesS m.2.1) u).2=3:=by
  have e:wendB (edgesR u (m.1.length:Int)).2=false:=tbl_cut (eg_step (by have:=h.lp;omega)) (eg_bad _) (fun i p _=>gsG_good i p) h1_ hu (by have:=h.le;omega) h.e
  unfold rdM
  rw[ns_len h,ns_full h,es_full h,if_neg (by rw[wend_ok];simp),if_neg (by rw[wend_ok];simp),if_pos e]
theorem ix3_wp {β:Type} {K:T β} {Q:β→Prop} (h:K.wp Q):(ix3 K).wp Q:=wned (by decide) (wned (by decide) (wned (by decide) h))
theorem wbE_wp {m:Mesh} {k:Int} {a b c:ByteArray} (hm:meshFit m) (hz:sz3 a b c) (hk:0≤k∧k<3) (h:(rdM a b c).2=k+1):(wbE m m 0 k a b c).wp (· = aB true):=by
  refine ix3_wp (wned hz (witt rfl (wned hm (witt (decide_eq_true rfl) ?_))))
  show Av.one _=_
  rw[h,wi1_eq (i:=k) (by omega),beq_self_eq_true]
  rfl
theorem wbT_wp (m:Mesh) (g:Int) (hm:meshFit m∨fewB m=false) (hg:0≤g∧g≤255):(wbT m g).wp (· = aB true):=by
  have e3:IntKind.i64.wrap (Int.tmod g 3)=g%3:=by
    rw[Int.tmod_eq_emod_of_nonneg (by omega)]
    exact IntWalk.i64_in _ (by omega)
  have hk:0≤g%3∧g%3<3:=by omega
  unfold wbT
  rw[e3]
  generalize g%3=k at *
  refine wned trivial (wned rfl ⟨fun _=>rfl,fun h1=>?_⟩)
  have h1:fewB m=true:=by simpa using h1
  have hm:meshFit m:=by
    rcases hm with h|h
    · exact h
    · rw[h]at h1;cases h1
  refine wned hm ⟨fun _=>rfl,fun h2=>?_⟩
  have h2:plainB m=true:=by simpa using h2
  have M:=mesh_of h1 h2
  have za:=ns_size M
  have zb:=es_size M
  have zc:=gs_size M
  have z:sz3 (nodesS m.1) (elesS m.2.1) (edgesS m.2.2):=⟨za,zb,zc⟩
  have lp:=M.lp
  have lt:=M.lt
  have le:=M.le
  refine wned (by omega) (wned ⟨by omega,sm_t M⟩ (wned ⟨by omega,sm_e M⟩ (ix3_wp (wned z (wned (by decide) ?_)))))
  rw[rd_full M]
  show (ixk k (nodesS m.1,elesS m.2.1,edgesS m.2.2) fun s=>wbL m m 0 k (nodesS m.1) (elesS m.2.1) (edgesS m.2.2) s).wp _
  have last : ∀ {α:Type} {gg:Int→α→List (List UInt8)} {hd:List Int} {l:List α} {x:List (List UInt8)},goodR (tblR gg hd l)→tblR gg hd l=(tblR gg hd l).dropLast++[x] → ∀ w∈x,wordU w:=fun hgd e=>(hgd _ (by rw[e];simp)).2
  have:k=0∨k=1∨k=2:=by omega
  rcases this with rfl|rfl|rfl
  · obtain ⟨x,ex⟩:=tblR_split nsG [2,0,0] m.1
    refine ixk_wp (v:=nodesS m.1) hk rfl (wbL_wp (R:=(tblR nsG [2,0,0] m.1).dropLast) (last:=x) (by rw[←ex];exact ns_list m.1) (last (tbl_good nsG okP nsG_good _ _ M.p) ex) za hk fun u hu hz=>⟨fun _=>wbE_wp hm ⟨hz,zb,zc⟩ hk (rd_cut1 M hu _ _),fun e=>absurd e (by decide),fun e=>absurd e (by decide)⟩)
  · obtain ⟨x,ex⟩:=tblR_split esG [3,0] m.2.1
    refine ixk_wp (v:=elesS m.2.1) hk rfl (wbL_wp (R:=(tblR esG [3,0] m.2.1).dropLast) (last:=x) (by rw[←ex];exact es_list m.2.1) (last (tbl_good esG (okE (m.1.length:Int)) (fun i p _=>esG_good i p) _ _ M.t) ex) zb hk fun u hu hz=>⟨fun e=>absurd e (by decide),fun _=>wbE_wp hm ⟨za,hz,zc⟩ hk (rd_cut2 M hu _),fun e=>absurd e (by decide)⟩)
  · obtain ⟨x,ex⟩:=tblR_split gsG [1] m.2.2
    refine ixk_wp (v:=edgesS m.2.2) hk rfl (wbL_wp (R:=(tblR gsG [1] m.2.2).dropLast) (last:=x) (by rw[←ex];exact gs_list m.2.2) (last (tbl_good gsG (okG (m.1.length:Int)) (fun i p _=>gsG_good i p) _ _ M.e) ex) zc hk fun u hu hz=>⟨fun e=>absurd e (by decide),fun e=>absurd e (by decide),fun _=>wbE_wp hm ⟨za,zb,hz⟩ hk (rd_cut3 M hu)⟩)
end Go.Proofs.YtmcbljjgkmkhcaaGreatDoor
namespace Ax
open Go Go.RowKit Go.ChangeShapes Go.WideShapes
def Fit:(c:Cd)→El c→Prop
  | .int k,z=>(Lit.int k z).wf=true
  | .bool,_=>True
  | .str,s=>s.size≤maxLen
  | .words,_=>True
  | .unit,_=>True
  | .pair a b,x=>Fit a x.1∧Fit b x.2
  | .sl c,xs=>xs.length≤maxLen ∧ ∀ x∈xs,Fit c x
  | .ptr c,x=>Fit c x
abbrev Rw (w:World):Nat→Prop:=fun b=>b<w.heap.size
structure Opens (P:Program) (t:TypeId) (c:Cd):Prop where
  size:P.cellsOf t=csz c
  ok : ∀ {H:Type} (enc:TypeId×Value→H) (w:World) (fuel:Nat) (cs:List Value) (x:DataW H×List MemPlace),
    DataW.trod enc P w 0 (fun _=>true) true fuel t cs=some x → ∃ y:El c,Fit c y∧Is w (Rw w) [] (ck c y) cs
section
variable {P:Program}
theorem opens_int {t:TypeId} {k:IntKind} (hu:P.underlying t=some (.int k)) (hs:P.cellsOf t=1):Opens P t (.int k):=
  ⟨hs,fun enc w fuel cs x h=>by
    obtain ⟨n,rfl,rfl,hw⟩:=DataW.trod_int hu h
    exact ⟨n,hw,.v rfl .nil⟩⟩
theorem opens_bool {t:TypeId} (hu:P.underlying t=some .bool) (hs:P.cellsOf t=1):Opens P t .bool:=
  ⟨hs,fun enc w fuel cs x h=>by
    obtain ⟨b,rfl,rfl⟩:=DataW.trod_bool hu h
    exact ⟨b,trivial,.v rfl .nil⟩⟩
theorem am_of : ∀ (n:Nat) (l:List Value),l.length=n→(∀ v∈l,∃ z:Int,v=.int .u32 z∧0≤z∧z<4294967296) → ∃ x,x<Pq.bp n∧l=Pq.am n x
  | 0,l,h,_=>⟨0,Pq.bp_pos 0,by rw[List.length_eq_zero_iff.1 h];rfl⟩
  | n+1,[],h,_=>by simp at h
  | n+1,v::r,h,hv=>by
    obtain ⟨x,hx,rfl⟩:=am_of n r (by simpa using h) (fun v hv'=>hv v (by simp[hv']))
    obtain ⟨z,rfl,h0,h1⟩:=hv v (by simp)
    refine ⟨Pq.lo z.toNat 1+Pq.bp 1*x,?_,?_⟩
    · have e:Pq.bp (n+1)=Pq.bp 1*Pq.bp n:=by unfold Pq.bp;rw[←Nat.pow_add];congr 1;omega
      have hl:Pq.lo z.toNat 1<Pq.bp 1:=by unfold Pq.lo;exact Nat.mod_lt _ (Pq.bp_pos 1)
      rw[e]
      have:Pq.bp 1*x+Pq.bp 1≤Pq.bp 1*Pq.bp n:=by rw[←Nat.mul_succ];exact Nat.mul_le_mul_left _ hx
      omega
    · have:=Pq.am_app 1 n z.toNat x
      rw[show n+1=1+n from by omega,←this]
      have e1:Pq.am 1 z.toNat=[Value.int .u32 z]:=by
        refine (Pq.am_ext (n:=1) (l:=[Value.int .u32 z]) rfl fun i hi=>?_).symm
        obtain rfl:i=0:=by omega
        have:Pq.wd z.toNat 0=z.toNat:=by
          unfold Pq.wd
          rw[Pq.bp_zero,Nat.div_one]
          exact Nat.mod_eq_of_lt (by omega)
        rw[this]
        simp
        omega
      rw[e1];rfl
theorem opens_words {t e:TypeId} (hu:P.underlying t=some (.array 32 e)) (he:P.underlying e=some (.int .u32)) (hs:P.cellsOf t=32) (hc:P.cellsOf e=1):Opens P t .words:=
  ⟨hs,fun enc w fuel cs x h=>by
    obtain ⟨xs,m,rfl,rfl,hlen,hxl,hx⟩:=DataW.trod_array hu h
    rw[hs]at hlen
    obtain ⟨a,ha,rfl⟩:=am_of 32 cs hlen (fun v hv=>by
      obtain ⟨i,hi,rfl⟩:=List.getElem_of_mem hv
      have:=hx i (by omega)
      rw[hc,List.getElem?_eq_getElem (by omega:i<xs.length)]at this
      obtain ⟨n,h1,_,h3⟩:=DataW.trod_int he this
      have e1:(cs.drop (i*1)).take 1=[cs[i]]:=by
        rw[Nat.mul_one,List.drop_eq_getElem_cons hi];rfl
      rw[e1]at h1
      have:=bounds_u32 h3
      exact ⟨n,by injection h1,this.1,by omega⟩)
    exact ⟨⟨a,ha⟩,trivial,by have:=Is.w (w:=w) (R:=Rw w) (σ:=[]) (x:=⟨a,ha⟩) .nil;rwa [List.append_nil]at this⟩⟩
def OpensF (P:Program):List Field→Nat→Cd→Prop
  | [f],o,c=>f.offset=o∧Opens P f.type c
  | f::g::r,o,.pair a b=>f.offset=o∧Opens P f.type a∧OpensF P (g::r) (o+csz a) b
  | _,_,_=>False
theorem opensF_ok {H:Type} {enc:TypeId×Value→H} {w:World} {n:Nat} {cs:List Value} : ∀ (fs:List Field) (o:Nat) (c:Cd),OpensF P fs o c→cs.length=o+csz c →
    (∀ f∈fs,∃ x,DataW.trod enc P w 0 (fun _=>true) true n f.type ((cs.drop f.offset).take (P.cellsOf f.type))=some x) → ∃ y:El c,Fit c y∧Is w (Rw w) [] (ck c y) (cs.drop o)
  | [],_,_,h,_,_=>h.elim
  | [f],o,c,h,hl,hx=>by
    obtain ⟨rfl,h'⟩:f.offset=o∧Opens P f.type c:=by unfold OpensF at h;exact h
    obtain ⟨x,hx⟩:=hx f (by simp)
    obtain ⟨y,h1,h2⟩:=h'.ok enc w n _ x hx
    rw[h'.size,List.take_of_length_le (by rw[List.length_drop];omega)]at h2
    exact ⟨y,h1,h2⟩
  | f::g::r,o,.pair a b,h,hl,hx=>by
    obtain ⟨rfl,ha,hr⟩:f.offset=o∧Opens P f.type a∧OpensF P (g::r) (o+csz a) b:=by unfold OpensF at h;exact h
    obtain ⟨x,hx0⟩:=hx f (by simp)
    obtain ⟨y,h1,h2⟩:=ha.ok enc w n _ x hx0
    obtain ⟨z,h3,h4⟩:=opensF_ok (g::r) _ b hr (by simp only[csz]at hl;omega) (fun f' hf'=>hx f' (by simp only[List.mem_cons]at hf' ⊢;exact .inr hf'))
    refine ⟨(y,z),⟨h1,h3⟩,?_⟩
    rw[ha.size]at h2
    have e:cs.drop f.offset=(cs.drop f.offset).take (csz a)++cs.drop (f.offset+csz a):=by
      rw[←List.drop_drop];exact (List.take_append_drop _ _).symm
    rw[e]
    exact h2.app h4
  | f::g::r,o,.int _,h,_,_=>by unfold OpensF at h;exact h.elim
  | f::g::r,o,.bool,h,_,_=>by unfold OpensF at h;exact h.elim
  | f::g::r,o,.str,h,_,_=>by unfold OpensF at h;exact h.elim
  | f::g::r,o,.words,h,_,_=>by unfold OpensF at h;exact h.elim
  | f::g::r,o,.unit,h,_,_=>by unfold OpensF at h;exact h.elim
  | f::g::r,o,.sl _,h,_,_=>by unfold OpensF at h;exact h.elim
  | f::g::r,o,.ptr _,h,_,_=>by unfold OpensF at h;exact h.elim
theorem opens_struct {t:TypeId} {c:Cd} {fs:Array Field} (hu:P.underlying t=some (.struct fs)) (hs:P.cellsOf t=csz c) (h:OpensF P fs.toList 0 c):Opens P t c:=
  ⟨hs,fun enc w fuel cs x hx=>by
    obtain ⟨xs,n,rfl,rfl,hlen,hxl,hf⟩:=DataW.trod_struct hu hx
    have:=opensF_ok (enc:=enc) (w:=w) (n:=n) (cs:=cs) fs.toList 0 c h (by omega) (fun f hm=>by
      obtain ⟨i,hi,rfl⟩:=List.getElem_of_mem hm
      have hi':i<fs.size:=by simpa using hi
      have h1:=hf i fs[i] (by simp[hi'])
      rw[List.getElem?_eq_getElem (by omega:i<xs.length)]at h1
      exact ⟨_,by simpa using h1⟩)
    simpa using this⟩
theorem cells_at {w:World} {a:Addr} {n:Nat} {cs:List Value} (h:w.cells? 0 a n=some cs):cs.length=n ∧ ∀ j v,cs[j]?=some v→w.cell? (a.add j)=some v:=by
  unfold World.cells? at h
  rw[if_pos (Nat.zero_le _)]at h
  have hl:=mapM_some_length h
  refine ⟨by simpa using hl,fun j v hj=>?_⟩
  have hj':j<n:=by have:=(List.getElem?_eq_some_iff.1 hj).1;simp at hl;omega
  rw[←hj]
  exact mapM_some_get h j j (by simp[hj'])
theorem opens_slice {t e:TypeId} {c:Cd} (hu:P.underlying t=some (.slice e)) (hs:P.cellsOf t=1) (he:Opens P e c) (hc:0<csz c):Opens P t (.sl c):=
  ⟨hs,fun enc w fuel cs x hx=>by
    rcases Deep.open_slice hu hx with ⟨rfl,rfl⟩|⟨a,len,cap,m,n,D,Pl,rfl,_,hl,hm,hmm,rfl,hel⟩
    · exact ⟨[],⟨Nat.zero_le _,by simp⟩,.dn .nil⟩
    · have hlm:len≤m:=by rw[hmm];simp;omega
      have hex : ∀ i,i<len → ∃ p:List Value×El c,w.cells? 0 (a.add (i*csz c)) (csz c)=some p.1∧Fit c p.2∧Is w (Rw w) [] (ck c p.2) p.1:=fun i hi=>by
        obtain ⟨cs',h1,h2⟩:=hel i (by omega)
        obtain ⟨y,h3,h4⟩:=he.ok enc w n cs' _ h2
        rw[he.size]at h1
        exact ⟨(cs',y),h1,h3,h4⟩
      by_cases h0:len=0
      · subst h0
        exact ⟨[],⟨Nat.zero_le _,by simp⟩,.de a cap .nil⟩
      · obtain ⟨p0,hp0⟩:=hex 0 (by omega)
        have:Inhabited (List Value×El c):=⟨p0⟩
        obtain ⟨g,hg⟩:=Deep.choose_lt hex
        have hl0:=cells_at (hg 0 (by omega)).1
        obtain ⟨b,o,spot⟩:=a
        have hne:(g 0).1≠[]:=by intro e;rw[e]at hl0;simp at hl0;omega
        obtain ⟨v,r,hvr⟩:=List.exists_cons_of_ne_nil hne
        have hcell:=hl0.2 0 v (by rw[hvr];rfl)
        rw[Nat.zero_mul]at hcell
        have hspot:spot=none:=by simpa [Addr.add] using World.cell?_spot hcell
        subst hspot
        have hb:b<w.heap.size:=by
          simp only[Addr.add,World.cell?]at hcell
          rcases Nat.lt_or_ge b w.heap.size with h|h
          · exact h
          · simp[Array.getElem?_eq_none h]at hcell
        have hxlen:((List.range len).map fun i=>(g i).2).length=len:=by simp
        refine ⟨(List.range len).map fun i=>(g i).2,⟨by rw[hxlen];omega,fun x hx=>?_⟩,?_⟩
        · obtain ⟨i,hi,rfl⟩:=List.mem_map.1 hx
          exact (hg i (List.mem_range.1 hi)).2.1
        · have key : ∀ (i:Nat) x,((List.range len).map fun i=>(g i).2)[i]?=some x→i<len∧x=(g i).2:=fun i x hx=>by
            have h:=(List.getElem?_eq_some_iff.1 hx).1
            rw[hxlen]at h
            refine ⟨h,?_⟩
            simp[h]at hx
            exact hx.symm
          have:Is w (Rw w) [] [.ds c ((List.range len).map fun i=>(g i).2)] [.slice (some ⟨b,o,none⟩) ((List.range len).map fun i=>(g i).2).length cap]:=
            .ds (fun i=>(g i).1) (by rw[hxlen];exact hl) hb (fun i x hx=>(cells_at (hg i (key i x hx).1).1).1) (fun i x hx=>by
              obtain ⟨h1,rfl⟩:=key i x hx
              exact (hg i h1).2.2) (fun i x hx=>by
              obtain ⟨h1,rfl⟩:=key i x hx
              intro j v hj
              have:=(cells_at (hg i h1).1).2 j v hj
              rw[Addr.add_mid,Addr.add_mid]at this
              exact this) .nil
          rw[hxlen]at this
          exact this⟩
def aggT (P:Program) (t:TypeId):Option Bool:=match P.underlying t with
  | some (.struct _)|some (.array _ _)=>some true
  | some .bool|some (.int _)|some .string|some (.slice _)|some (.pointer _)=>some false
  | _=>none
def OpensAll (P:Program):List TypeId→List (Bool×Cd)→Prop
  | [],[]=>True
  | t::ts,c::cs=>Opens P t c.2∧aggT P t=some c.1∧OpensAll P ts cs
  | _,_=>False
def FitA:(ts:List (Bool×Cd))→Els ts→Prop
  | [],_=>True
  | t::ts,x=>Fit t.2 x.1∧FitA ts x.2
theorem single_cells {w:World} {r:Reach} {base:Nat} {t:TypeId} {v:Value} (ha:aggT P t=some false) (h:Value.okWide P w r base t v):v.cells.toList=[v]:=by
  unfold aggT at ha
  unfold Value.okWide at h
  cases hu:P.underlying t with
  | none=>simp[hu]at ha
  | some u =>
    cases u <;> simp[hu]at ha h
    all_goals
      unfold Cell.okWide Cell.ok at h
      cases v <;> simp_all [Value.cells]
theorem agg_cells {w:World} {r:Reach} {base:Nat} {t:TypeId} {v:Value} (ha:aggT P t=some true) (h:Value.okWide P w r base t v) : ∃ us:List Value,v=.agg us.toArray∧v.cells.toList=us:=by
  unfold aggT at ha
  unfold Value.okWide at h
  cases hu:P.underlying t with
  | none=>simp[hu]at ha
  | some u =>
    cases u <;> simp[hu]at ha h
    all_goals
      obtain ⟨cs,rfl,_⟩:=h
      exact ⟨cs.toList,by simp,by simp[Value.cells]⟩
theorem is_one {w:World} {R:Nat→Prop} {σ:List Nat} {l:List Ck} {us:List Value} (h:Is w R σ l us) (h1:us.length=1) (hc : ∀ k∈l,0<k.size) : ∃ k,l=[k]∧k.size=1:=by
  match l,h with
  | [],h=>cases h;simp at h1
  | k::r,h =>
    obtain ⟨ua,ub,rfl,e,i1,i2⟩:=h.head
    have hk:=hc k (by simp)
    rw[List.length_append]at h1
    have hub:ub=[]:=List.length_eq_zero_iff.1 (by omega)
    subst hub
    match r,i2 with
    | [],_=>exact ⟨k,rfl,by simp at h1;omega⟩
    | k2::r2,i2 =>
      obtain ⟨uc,ud,e1,e2,_,_⟩:=i2.head
      have:=hc k2 (by simp)
      have:uc=[]:=by
        have:=congrArg List.length e1
        rw[List.length_append]at this
        exact List.length_eq_zero_iff.1 (by simp at this;omega)
      subst this
      simp at e2
      omega
theorem ck_size : ∀ (c:Cd) (x:El c),∀ k∈ck c x,0<k.size
  | .int k,x,k',h=>by simp[ck]at h;subst h;simp[Ck.size]
  | .bool,x,k',h=>by simp[ck]at h;subst h;simp[Ck.size]
  | .str,x,k',h=>by simp[ck]at h;subst h;simp[Ck.size]
  | .words,x,k',h=>by simp[ck]at h;subst h;simp[Ck.size]
  | .unit,x,k',h=>by simp[ck]at h
  | .pair a b,x,k',h=>by
    simp only[ck,List.mem_append]at h
    rcases h with h|h
    · exact ck_size a _ _ h
    · exact ck_size b _ _ h
  | .sl c,x,k',h=>by simp[ck]at h;subst h;simp[Ck.size]
  | .ptr c,x,k',h=>by simp[ck]at h;subst h;simp[Ck.size]
theorem arg_is {H:Type} {enc:TypeId×Value→H} {w:World} {r:Reach} {base:Nat} {t:TypeId} {b:Bool} {c:Cd} {v:Value} {d:DataW H} {p:List MemPlace} (hO:Opens P t c) (ha:aggT P t=some b)
    (hv:Value.okWide P w r base t v) (h:DataW.Trod enc P w 0 (fun _=>true) true t v d p) : ∃ y:El c,Fit c y∧AvIs w (Rw w) [] (encA b c y) v:=by
  obtain ⟨fuel,hf⟩:=h
  obtain ⟨y,h1,h2⟩:=hO.ok enc w fuel _ _ hf
  refine ⟨y,h1,?_⟩
  cases b with
  | true =>
    obtain ⟨us,rfl,e⟩:=agg_cells ha hv
    rw[e]at h2
    exact .agg h2
  | false =>
    have e:=single_cells ha hv
    rw[e]at h2
    obtain ⟨k,hk,hs⟩:=is_one h2 rfl (ck_size c y)
    unfold encA
    simp only[hk]at h2 ⊢
    exact .one hs h2
theorem args_are {H:Type} {enc:TypeId×Value→H} {w:World} {r:Reach} {base:Nat} : ∀ (ts:List (Bool×Cd)) (tys:List TypeId) (vs:List Value) (ds:List (DataW H)) (p:List MemPlace),OpensAll P tys ts →
    DataW.TrodAll enc P w 0 (fun _=>true) true tys vs ds p→(∀ (j:Nat) t v,tys[j]?=some t→vs[j]?=some v→Value.okWide P w r base t v) →
    ∃ x:Els ts,FitA ts x∧vs.length=(encs ts x).length∧(∀ (i:Nat) a v,(encs ts x)[i]?=some a→vs[i]?=some v→AvIs w (Rw w) [] a v)
  | [],[],vs,ds,p,_,h,_=>by
    obtain ⟨rfl,rfl,rfl⟩:=trodAll_nil h
    exact ⟨(),trivial,rfl,fun i a v h1=>by simp[encs]at h1⟩
  | [],_::_,_,_,_,hO,_,_=>hO.elim
  | _::_,[],_,_,_,hO,_,_=>hO.elim
  | c::ts,t::tys,vs,ds,p,hO,h,hv=>by
    obtain ⟨v,vs1,d,ds1,a,b,rfl,rfl,rfl,h1,h2⟩:=trodAll_cons h
    obtain ⟨o1,o2,o3⟩:=hO
    obtain ⟨y,f1,i1⟩:=arg_is o1 o2 (hv 0 t v rfl rfl) h1
    obtain ⟨x,f2,hl,i2⟩:=args_are ts tys vs1 ds1 b o3 h2 (fun j t' v' ht hv'=>hv (j+1) t' v' (by simpa using ht) (by simpa using hv'))
    refine ⟨(y,x),⟨f1,f2⟩,by simp[encs,hl],fun i a' v' ha' hv'=>?_⟩
    rcases i with _|i
    · cases ha';cases hv';exact i1
    · exact i2 i a' v' (by simpa [encs] using ha') (by simpa using hv')
theorem trod_stays {H:Type} {enc:TypeId×Value→H} {W W':World} (hl:laidOutB P=true) (hb:Below W.heap.size W W') : ∀ (tys:List TypeId) (vs:List Value) (ds:List (DataW H)) (p:List MemPlace),(∀ t∈tys,P.readableRec t=true∧t<P.types.size) →
    DataW.TrodAll enc P W 0 (fun _=>true) true tys vs ds p→(∀ x∈p,x.block<W.heap.size)→DataW.TrodAll enc P W' 0 (fun b=>decide (b<W.heap.size)) true tys vs ds p
  | [],vs,ds,p,_,h,_=>by
    obtain ⟨rfl,rfl,rfl⟩:=trodAll_nil h
    exact trodAll_mk0
  | t::tys,vs,ds,p,ht,h,hp=>by
    obtain ⟨v,vs1,d,ds1,a,b,rfl,rfl,rfl,h1,h2⟩:=trodAll_cons h
    exact trodAll_cons_mk (Below.trod hl (ht t (by simp)).1 (ht t (by simp)).2 h1 hb (fun x hx=>hp x (by simp[hx])))
      (trod_stays hl hb tys vs1 ds1 b (fun t' h'=>ht t' (by simp[h'])) h2 (fun x hx=>hp x (by simp[hx])))
theorem law_post {E:Env P} {L:Loops} {f:FuncId} {fn:Func} {H:Type} {enc:TypeId×Value→H} {s:ChangeSpec} {tb:TypeId} {W:World} {base:Nat} {args:Array Value} {ds gs:List (DataW H)} {before:List MemPlace}
    (hm:P.follows .mixedOrders=true) (hf:P.funcs[f]?=some fn) (hL : ∀ c,fn.body=some c→LoopsOk P 0 L c) (hlaid:laidOutB P=true) (ts:List (Bool×Cd))
    (hrun : ∀ x:Els ts,FitA ts x→(fnP E L fn (encs ts x)).wp fun av=>av=.one (.v (.bool true)))
    (tys:List TypeId) (hty:fn.params.toList=tys) (hO:OpensAll P tys ts) (hread : ∀ t∈tys,P.readableRec t=true∧t<P.types.size) (hres:fn.resultTypes = #[tb]) (hub:P.underlying tb=some .bool)
    (hvars:s.vars=[]) (hspec : ∀ ds:List (DataW H),ds.length=tys.length→s.fn H ds={ results:=[.lit (.bool true)],args:=ds })
    (hval : ∀ (j:Nat) t v,fn.params[j]?=some t→args[j]?=some v→Value.okWide P W .any base t v) (hW:DataW.Whole enc P fn.params.toList s.vars false W args.toList ds gs before) (hgl:GlobAt W (Ro W [] [])) :
    Calls P f args W fun e W' => ∃ v,e=.returned v∧s.post enc P fn false true false false W args v W':=by
  have hW':=hW
  obtain ⟨p,q,hA,hV,rfl,hfz,hnd⟩:=hW
  rw[hvars]at hV
  obtain ⟨rfl,rfl⟩:=trodVars_none hV
  rw[hty]at hA
  obtain ⟨x,hfit,hlen,hargs⟩:=args_are (r:=.any) (base:=base) ts tys args.toList ds p hO hA (fun j t v ht hv=>hval j t v (by rw[←hty]at ht;simpa using ht) (by simpa using hv))
  have hdl:ds.length=tys.length:=by
    have : ∀ (tys:List TypeId) (vs:List Value) (ds:List (DataW H)) (p:List MemPlace),DataW.TrodAll enc P W 0 (fun _=>true) true tys vs ds p→ds.length=tys.length:=by
      intro tys
      induction tys with
      | nil=>intro vs ds p h;obtain ⟨rfl,rfl,rfl⟩:=trodAll_nil h;rfl
      | cons t tys ih =>
        intro vs ds p h
        obtain ⟨v,vs1,d,ds1,a,b,rfl,rfl,rfl,h1,h2⟩:=trodAll_cons h
        simp[ih _ _ _ h2]
    exact this _ _ _ _ hA
  have hmem0:MemOk W [] [] []:=⟨rfl,by simp,by simp,hgl,fun i t cs b h1 h2=>by simp at h1⟩
  have hro : ∀ b,Rw W b→Ro W [] [] b:=fun b hb=>⟨hb,by simp,by simp⟩
  have hw:=fnP_wp (hrun x hfit)
  have hcall:=fn_ok (E:=E) (L:=L) (w:=W) (φ:=[]) (σ:=[]) hm hf hL (Nat.zero_le _) hmem0 hlen (fun i a v h1 h2=>(hargs i a v h1 h2).ro hro []) hw
  have hargsE:args.toList.toArray=args:=by simp
  rw[hargsE]at hcall
  refine hcall.mono fun e W' hr=>?_
  obtain ⟨v,av,m',σ',rfl,⟨hQ,hno⟩,hext,hkeep,hav,hmem'⟩:=hr
  have hv:v=.bool true:=by
    have:=nA_is hav
    rw[hQ]at this
    exact val_of this rfl
  subst hv
  have hb:=hkeep.below
  have hps : ∀ y∈p,y.block<W.heap.size:=fun y hy=>by simpa using hW'.lt y (by simp[hy])
  have hst:=trod_stays (enc:=enc) hlaid hb tys args.toList ds p hread hA hps
  refine ⟨_,rfl,ds,[],p++[],[],p,[],hW',?_,?_,?_,hb.frame _,fun h=>by cases h⟩
  · rw[List.append_nil,hspec ds hdl,hres]
    exact trodAll_mk1 (shut_bool hub true)
  · rw[List.append_nil,hspec ds hdl,hty]
    exact hst
  · rw[List.append_nil,hspec ds hdl,hvars]
    rfl
end
theorem handed_laid {H:Type} {enc:TypeId×Value→H} {a:Assume} {C:Checked} {os:Os} {f:FuncId} {fn:Func} {s:ChangeSpec} {conds:List PathCond} {apart fresh handsOn again:Bool} {laid:List (String×DataW Unit)}
    (own:ownKnob C.prog.godebug=none) (started:os.Started) (noInit:C.prog.inits.idxOf? f=none) (hfn:C.prog.funcs[f]?=some fn)
    (witness : ∃ (w:World) (tape:Tape) (i:Input),w.os=os∧(w.forCall tape i).Shaped C.prog∧i.vars=[]∧Input.okWide C.prog (w.forCall tape i) .any w.heap.size f i ∧
      ((s.pre enc C.prog fn conds apart (w.forCall tape i).memory i.args∧laidMetH C.prog laid (w.forCall tape i).memory)∧sizedMet enc C.prog fn (OpenSpec.ofChange s) apart (w.forCall tape i).memory i.args)∧a.holds C.prog (lone (Frame.enter C.prog f i.args .normal) [] (w.forCall tape i)))
    (contract : ∀ (W:World) (base:Nat) (args:Array Value) (ds gs:List (DataW H)) (before:List MemPlace),
      (∀ (j:Nat) t v,fn.params[j]?=some t→args[j]?=some v→Value.okWide C.prog W .any base t v) →
      DataW.Whole enc C.prog fn.params.toList s.vars apart W args.toList ds gs before→laidMetH C.prog laid W→W.ShapedOpen C.prog →
      Calls C.prog f args W fun e W' => ∃ v,e=.returned v∧s.post enc C.prog fn apart fresh handsOn again W args v W') :
    ReturnsInHanded a C os f .any (fun w args=>(s.pre enc C.prog fn conds apart w args∧laidMetH C.prog laid w)∧sizedMet enc C.prog fn (OpenSpec.ofChange s) apart w args) (s.post enc C.prog fn apart fresh handsOn again):=by
  refine returnsInHanded_of_calls own started noInit witness ?_
  intro w tape i _ hsh _ hok hpre hholds
  obtain ⟨_,_,_,fn',hfn',_,_,_,_,hval⟩:=hok
  have e:fn'=fn:=Option.some.inj (hfn'.symm.trans hfn)
  subst e
  obtain ⟨⟨⟨ds,gs,before,hw,hc⟩,hx⟩,hz⟩:=hpre
  have hw':=DataW.Whole.of_heap (w':=w.forCall tape i) (by rfl) hw
  refine (contract (w.forCall tape i) w.heap.size i.args ds gs before hval hw' (hx.of_heap (by rfl)) hsh).mono fun e W' ⟨v,he,hp⟩=>?_
  subst he
  exact ChangeSpec.post_blind hp
theorem cells_of_var {P:Program} {W:World} {n:String} {g:Nat} {cs:Array Value} (h:W.var? P n=some cs) (hg:P.globalNamed n=some g) : ∃ t z,W.heap[g]?=some (.cells cs t z):=by
  unfold World.var? at h
  rw[hg]at h
  simp only[Option.bind_some]at h
  split at h
  · rename_i c t z hh
    cases h
    exact ⟨t,z,hh⟩
  · cases h
theorem reads_iface {P:Program} {W:World} {n nm:String} {d:DataW Unit} {g ti:Nat} {ms:Array (String×TypeId)} (h:Lib.VarReads P W n (.iface nm d)) (hg:P.globalNamed n=some g) (ht:(P.globals[g]?).map (·.type)=some ti) (hi:P.underlying ti=some (.interface ms)) :
    ∃ cs t z,W.heap[g]?=some (.cells cs t z) ∧ ∃ te pe,cs = #[.iface te pe]:=by
  obtain ⟨g',t',cs,fuel,p,hg',ht',hv,hd⟩:=h
  obtain rfl:=Option.some.inj (hg.symm.trans hg')
  obtain rfl:=Option.some.inj (ht.symm.trans ht')
  obtain ⟨t,z,hh⟩:=cells_of_var hv hg
  obtain ⟨_,u,v,e,_⟩:=iface_of_trod hi hd
  refine ⟨cs,t,z,hh,u,v,?_⟩
  obtain ⟨l⟩:=cs
  have e:l=[.iface u v]:=e
  rw[e]
theorem reads_tab {P:Program} {W:World} {n:String} {k:IntKind} {zs:List Int} {g ti te m:Nat} (h:Lib.VarReads P W n (Lib.tabData k zs)) (hg:P.globalNamed n=some g) (ht:(P.globals[g]?).map (·.type)=some ti) (hu:P.underlying ti=some (.array m te)) (he:P.underlying te=some (.int k)) (hce:P.cellsOf te=1) (hct:P.cellsOf ti=m) :
    ∃ cs t z,W.heap[g]?=some (.cells cs t z)∧cs=(zs.map fun z=>Value.int k z).toArray:=by
  obtain ⟨g',t',cs,fuel,p,hg',ht',hv,hd⟩:=h
  obtain rfl:=Option.some.inj (hg.symm.trans hg')
  obtain rfl:=Option.some.inj (ht.symm.trans ht')
  obtain ⟨t,z,hh⟩:=cells_of_var hv hg
  refine ⟨cs,t,z,hh,?_⟩
  rw[←Lib.cells_of_tab hu he hce hct hd]
theorem shaped_int {P:Program} {w:World} {g t:Nat} {zero:Array Value} {k:IntKind} (h:w.ShapedOpen P) (hg:g<P.globals.size) (h0:((begin P (fun _ _=>0) default).world.heap[g]?).bind Obj.row?=some (zero,t)) (hz:zero.size=1)
    (hb:P.buildable t=true) (hc:P.cellTypes P.depth t=some [t]) (hu:P.underlying t=some (.int k)) : ∃ cs t z,w.heap[g]?=some (.cells cs t z) ∧ ∃ m,cs = #[.int k m]:=by
  obtain ⟨m,hm⟩:=Go.Proofs.cell_of_shapedOpen_int h hg h0 hz hb hc hu
  obtain ⟨cs,hh,hs,_⟩:=h.1 g zero t hg h0
  refine ⟨cs,t,_,hh,m,?_⟩
  rw[hz]at hs
  obtain ⟨l⟩:=cs
  match l,hs with
  | [x],_ =>
    have:w.cell? ⟨g,0,none⟩=some x:=by simp[World.cell?,hh]
    rw[hm]at this
    cases this
    rfl
end Ax
namespace Go.Proofs.YtmcbljjgkmkhcaaGreatDoor
open Go.ChangeShapes Go.WideShapes Go.ChangeAt Go.RowKit Ax
theorem own:ownKnob Tryz.prog.godebug=none:=by kernel_rfl
theorem laidOut:laidOutB Tryz.prog=true:=by kernel_rfl
abbrev laidL:List (String×DataW Unit):=Rows.writeBackRow.laid
theorem glob_laid {W:World} (h:laidMetH Tryz.prog laidL W) (hs:W.ShapedOpen Tryz.prog):GlobAt W (Ro W [] []):=by
  rw[MakeChecks.laidMetH_plain _ _ _ (by kernel_rfl)]at h
  have hro : ∀ (g:Nat) cs t z,W.heap[g]?=some (.cells cs t z)→Ro W [] [] g:=fun g cs t z hh=>⟨(Array.getElem?_eq_some_iff.1 hh).1,by simp,by simp⟩
  intro f hf g hg
  unfold gfacts at hf
  simp only[List.mem_cons,List.not_mem_nil,or_false]at hf
  have fin:(∃ cs t z,W.heap[g]?=some (.cells cs t z)∧f.2 cs)→Ro W [] [] g ∧ ∃ cs t z,W.heap[g]?=some (.cells cs t z)∧f.2 cs:=fun ⟨cs,t,z,h1,h2⟩=>⟨hro g cs t z h1,cs,t,z,h1,h2⟩
  refine fin ?_
  rcases hf with rfl|rfl|rfl|rfl
  · have e:Tryz.prog.globalNamed "strconv.ErrSyntax" = some 3:=by kernel_rfl
    obtain rfl:=Option.some.inj (e.symm.trans hg)
    exact reads_iface (ti:=160) (Lib.laidMet.reads h (n := "strconv.ErrSyntax") (d:=Rows.laid_strconv_ErrSyntax) (.tail _ (.tail _ (.tail _ (.tail _ (.tail _ (.head _))))))) e (by kernel_rfl) Tryz.underlying160
  · have e:Tryz.prog.globalNamed "strconv.ErrRange" = some 4:=by kernel_rfl
    obtain rfl:=Option.some.inj (e.symm.trans hg)
    exact reads_iface (ti:=160) (Lib.laidMet.reads h (n := "strconv.ErrRange") (d:=Rows.laid_strconv_ErrRange) (.tail _ (.tail _ (.tail _ (.tail _ (.head _)))))) e (by kernel_rfl) Tryz.underlying160
  · have e:Tryz.prog.globalNamed "internal/bytealg.MaxLen" = some 0:=by kernel_rfl
    obtain rfl:=Option.some.inj (e.symm.trans hg)
    exact shaped_int (P:=Tryz.prog) (t:=3) (zero := #[.int .i64 0]) hs (by decide +kernel) (by kernel_rfl) rfl (by kernel_rfl) (by kernel_rfl) (by kernel_rfl)
  · have e:Tryz.prog.globalNamed "internal/strconv.uint64pow10" = some 2:=by kernel_rfl
    obtain rfl:=Option.some.inj (e.symm.trans hg)
    exact reads_tab (zs:=Lib.pow10Tab) (ti:=257) (te:=117) (m:=20) (Lib.laidMet.reads h (n := "internal/strconv.uint64pow10") (d:=Rows.laid_internal_strconv_uint64pow10) (.tail _ (.tail _ (.head _)))) e (by kernel_rfl) (by kernel_rfl) (by kernel_rfl) (by kernel_rfl) (by kernel_rfl)
theorem opens_arr3 {P:Program} {t e:TypeId} {c:Cd} (hu:P.underlying t=some (.array 3 e)) (he:Opens P e c) (hs:P.cellsOf t=3*csz c):Opens P t (.pair c (.pair c c)):=
  ⟨by rw[hs];simp only[csz];omega,fun enc w fuel cs x h=>by
    obtain ⟨xs,m,rfl,rfl,hlen,hxl,hx⟩:=DataW.trod_array hu h
    rw[hs]at hlen
    have el : ∀ i,i<3 → ∃ y:El c,Fit c y∧Is w (Rw w) [] (ck c y) ((cs.drop (i*csz c)).take (csz c)):=fun i hi=>by
      have:=hx i (by omega)
      rw[he.size,List.getElem?_eq_getElem (by omega:i<xs.length)]at this
      exact he.ok enc w _ _ _ this
    obtain ⟨a,fa,ia⟩:=el 0 (by omega)
    obtain ⟨b,fb,ib⟩:=el 1 (by omega)
    obtain ⟨d,fd,id⟩:=el 2 (by omega)
    refine ⟨(a,b,d),⟨fa,fb,fd⟩,?_⟩
    have e1:cs=(cs.drop (0*csz c)).take (csz c)++((cs.drop (1*csz c)).take (csz c)++(cs.drop (2*csz c)).take (csz c)):=by
      rw[Nat.zero_mul,Nat.one_mul,List.drop_zero,List.take_of_length_le (l:=cs.drop (2*csz c)) (by rw[List.length_drop];omega),show 2*csz c=csz c+csz c by omega,←List.drop_drop,List.take_append_drop,List.take_append_drop]
    rw[e1]
    exact ia.app (ib.app id)⟩
theorem o_u8:Opens Tryz.prog 5 (.int .u8):=opens_int (by kernel_rfl) (by kernel_rfl)
theorem o_int:Opens Tryz.prog 3 (.int .i64):=opens_int (by kernel_rfl) (by kernel_rfl)
theorem o_bool:Opens Tryz.prog 4 .bool:=opens_bool (by kernel_rfl) (by kernel_rfl)
theorem o_words:Opens Tryz.prog 25 .words:=opens_words (e:=24) (by kernel_rfl) (by kernel_rfl) (by kernel_rfl) (by kernel_rfl)
theorem o_wide:Opens Tryz.prog 27 cW:=opens_struct Tryz.underlying27 (by kernel_rfl) ⟨rfl,o_bool,rfl,o_words⟩
theorem o_rat:Opens Tryz.prog 29 cF:=opens_struct Tryz.underlying29 (by kernel_rfl) ⟨rfl,o_wide,rfl,o_wide⟩
theorem o_pt:Opens Tryz.prog 36 cP:=opens_struct Tryz.underlying36 (by kernel_rfl) ⟨rfl,o_rat,rfl,o_rat⟩
theorem o_pts:Opens Tryz.prog 37 (.sl cP):=opens_slice (e:=36) (by kernel_rfl) (by kernel_rfl) o_pt (by decide)
theorem o_i3:Opens Tryz.prog 79 cI3:=opens_arr3 (e:=3) (by kernel_rfl) o_int (by kernel_rfl)
theorem o_i3s:Opens Tryz.prog 38 (.sl cI3):=opens_slice (e:=79) (by kernel_rfl) (by kernel_rfl) o_i3 (by decide)
theorem o_edge:Opens Tryz.prog 80 cI3:=opens_struct Tryz.underlying80 (by kernel_rfl) ⟨rfl,o_int,rfl,o_int,rfl,o_int⟩
theorem o_edges:Opens Tryz.prog 39 (.sl cI3):=opens_slice (e:=80) (by kernel_rfl) (by kernel_rfl) o_edge (by decide)
theorem o_mesh:Opens Tryz.prog 41 cMesh:=opens_struct Tryz.underlying41 (by kernel_rfl) ⟨rfl,o_pts,rfl,o_i3s,rfl,o_edges⟩
theorem fit_u8 {z:Int} (h:(Lit.int .u8 z).wf=true):0≤z∧z≤255:=by simpa [Lit.wf,IntKind.min,IntKind.max,IntKind.signed,IntKind.bits] using h
theorem loopsWk : ∀ c,(Tryz.f4).body=some c→LoopsOk Tryz.prog 0 lpWK c:=one_loop wk_ok (by kernel_rfl)
theorem fit_few (m:Mesh):meshFit m∨fewB m=false:=by
  by_cases h:fewB m=true
  · left
    unfold fewB at h
    simp only[Bool.and_eq_true,decide_eq_true_eq]at h
    obtain ⟨a1,a2,a3⟩:=h
    exact ⟨by omega,by omega,by omega⟩
  · right
    simpa using h
theorem law_run {x:Els [(true,cMesh),(false,.int .u8)]} (hg:0≤(x.2.1:Int)∧(x.2.1:Int)≤255) :
    (fnP EWD lpWK Tryz.f4 (encs [(true,cMesh),(false,.int .u8)] x)).wp (· = .one (.v (.bool true))):=by
  obtain ⟨m,g,u⟩:=x
  exact fnPC_of (O:=OWB) rfl (tr_wb_eq m g) (wbT_wp m g (fit_few m) hg)
theorem laid_wit (os:Os) (args:Array Value):laidMetH Tryz.prog laidL ((World.laidAll Tryz.prog os laidL).forCall (fun _ _=>0) ⟨#[],args,[]⟩).memory:=by
  rw[MakeChecks.laidMetH_plain _ _ _ (by kernel_rfl)]
  exact laidMet_laidAll _ (by kernel_rfl) (by kernel_rfl)
end Go.Proofs.YtmcbljjgkmkhcaaGreatDoor
