import Derived.Test.YtbkfakkkikmcbaaGreatDoorK5
set_option linter.unusedSimpArgs false
set_option linter.unusedVariables false
namespace Ax
open Go Go.RowKit
inductive BSh where
  | d (c:Cd)
  | r (k:Nat)
abbrev EBs:List BSh→Type
  | []=>Unit
  | .d c::r=>El c×EBs r
  | .r _::r=>EBs r
abbrev EBb:List (TypeId×List BSh)→Type
  | []=>Unit
  | b::r=>EBs b.2×EBb r
abbrev EGs:List (TypeId×Cd)→Type
  | []=>Unit
  | r::l=>Gr (El r.2)×EGs l
structure HSpec where
  n:Nat
  vs:List (Nat×Bool×Cd)
  ps:List (Nat×Nat×Nat)
  bs:List (TypeId×List BSh)
  rs:List (TypeId×Cd)
  sl:List (Nat×Nat)
  ex:Exit→List Nat
  exL:Exit→List (Nat×Nat)
abbrev HSpec.X (sp:HSpec):Type:=Els (vts sp.vs)
abbrev HSpec.Y (sp:HSpec):Type:=EBb sp.bs
abbrev HSpec.G (sp:HSpec):Type:=EGs sp.rs
def rowCks:(rs:List (TypeId×Cd))→EGs rs→Nat→List Ck
  | [],_,_=>[]
  | r::l,g,k=>match g.1 with
    | none=>.v (.slice none 0 0)::rowCks l g.2 k
    | some x=>.os k x.1.length x.2::rowCks l g.2 (k+1)
def rowMems:(rs:List (TypeId×Cd))→EGs rs→Mem
  | [],_=>[]
  | r::l,g=>match g.1 with
    | none=>rowMems l g.2
    | some x=>(r.1,[.row r.2 x.1 x.2])::rowMems l g.2
def mkCells:(shs:List BSh)→EBs shs→List Ck→List Ck
  | [],_,_=>[]
  | .d c::r,y,ex=>ck c y.1++mkCells r y.2 ex
  | .r k::r,y,ex=>ex.getD k .any::mkCells r y ex
def mkBlk:(bs:List (TypeId×List BSh))→EBb bs→List Ck→Mem
  | [],_,_=>[]
  | b::r,y,ex=>(b.1,mkCells b.2 y.1 ex)::mkBlk r y.2 ex
def HSpec.cks (sp:HSpec) (g:sp.G):List Ck:=rowCks sp.rs g sp.bs.length
def rowSl (sl:List (Nat×Nat)) (ex:List Ck):List (Nat×Av):=sl.map fun p=>(p.1,.one (ex.getD p.2 .any))
def HSpec.head (sp:HSpec) (x:sp.X) (y:sp.Y) (g:sp.G):St:=⟨mkFr sp.n (((sp.vs.map (·.1)).zip (encs (vts sp.vs) x)++pList sp.ps)++rowSl sp.sl (sp.cks g)),mkBlk sp.bs y (sp.cks g)++rowMems sp.rs g⟩
def HSpec.exitSt (sp:HSpec) (e:Exit) (avs:List Av) (y:sp.Y) (g:sp.G):St:=⟨mkFr sp.n (((sp.ex e).zip avs++pList sp.ps)++rowSl (sp.exL e) (sp.cks g)),mkBlk sp.bs y (sp.cks g)++rowMems sp.rs g⟩
def decBlk:(shs:List BSh)→List Ck→Option (EBs shs×List (Nat×Ck))
  | [],[]=>some ((),[])
  | .d c::r,cs=>match parse c cs with
    | some (x,cs')=>(match decBlk r cs' with
      | some (y,l)=>some ((x,y),l)
      | none=>none)
    | none=>none
  | .r k::r,c::cs=>match decBlk r cs with
    | some (y,l)=>some (y,(k,c)::l)
    | none=>none
  | _,_=>none
def decBlks:(bs:List (TypeId×List BSh))→Mem→Option (EBb bs×List (Nat×Ck))
  | [],_=>some ((),[])
  | b::r,(t,cs)::m=>match decide (t=b.1),decBlk b.2 cs,decBlks r m with
    | true,some (y,l),some (z,l')=>some ((y,z),l++l')
    | _,_,_=>none
  | _::_,[]=>none
def slCells (fr:List Av):List (Nat×Nat)→Option (List (Nat×Ck))
  | []=>some []
  | (t,k)::r=>match fr[t]?,slCells fr r with
    | some (.one c),some l=>some ((k,c)::l)
    | _,_=>none
def cellOf:List (Nat×Ck)→Nat→Ck
  | [],_=>.any
  | (j,c)::r,k=>match decide (j=k) with
    | true=>c
    | false=>cellOf r k
def rowIxs (l:List (Nat×Ck)):Nat→Nat→List Nat
  | _,0=>[]
  | k,n+1=>match cellOf l k with
    | .os j _ _=>j::rowIxs l (k+1) n
    | _=>rowIxs l (k+1) n
def HSpec.canon (sp:HSpec) (sl:List (Nat×Nat)) (live:List Nat) (st:St):T St:=fSt ⟨blankF (live++(sp.ps.map (·.1)++sl.map (·.1))) st.fr,st.mem⟩ fun st =>
  match slCells st.fr sl,decBlks sp.bs st.mem with
  | some l,some (_,l')=>fNats (List.range sp.bs.length++rowIxs (l++l') 0 sp.rs.length) fun I=>match okI sp.bs.length st.mem.length I with
    | true=>(gcT I st).bind fun st=>fSt st fun st=>.ret st
    | false=>.fail
  | _,_=>.fail
def decRows:(rs:List (TypeId×Cd))→Nat→Nat→List (Nat×Ck)→Mem→Option (EGs rs×List Prop)
  | [],_,_,_,_=>some ((),[])
  | r::rs,k,next,l,m=>match cellOf l k with
    | .v (.slice none 0 0)=>(match decRows rs (k+1) next l m with
      | some (g,p)=>some ((none,g),p)
      | none=>none)
    | .os j n cap=>(match decide (j=next),m[j]? with
      | true,some (ty,[.row c xs cap'])=>(match decide (ty=r.1),castRow c r.2 xs,decRows rs (k+1) (next+1) l m with
        | true,some ys,some (g,p)=>some ((some (ys,cap'),g),(n=ys.length∧cap'=cap)::p)
        | _,_,_=>none)
      | _,_=>none)
    | _=>none
def keysOk (rs:Nat) (l:List (Nat×Ck)):Bool:=nodB (l.map (·.1))&&l.all fun p=>decide (p.1<rs)
def HSpec.rest (sp:HSpec) (sl:List (Nat×Nat)) (st:St):Option (sp.Y×sp.G×List Prop):=
  match decide (st.fr.length=sp.n)&&ptrsOk sp.bs.length st.fr sp.ps,slCells st.fr sl,decBlks sp.bs st.mem with
  | true,some l,some (y,l')=>(match keysOk sp.rs.length (l++l'),decRows sp.rs 0 sp.bs.length (l++l') st.mem with
    | true,some (g,p)=>(match decide (st.mem.length=sp.bs.length+(rowMems sp.rs g).length) with
      | true=>some (y,g,p)
      | false=>none)
    | _,_=>none)
  | _,_,_=>none
def HSpec.dec (sp:HSpec) (st:St):Option (sp.X×sp.Y×sp.G×List Prop):=
  match getsA st.fr (sp.vs.map (·.1)),sp.rest sp.sl st with
  | some l,some (y,g,p)=>(match decs (vts sp.vs) l with
    | some x=>some (x,y,g,p)
    | none=>none)
  | _,_=>none
def HSpec.decE (sp:HSpec) (e:Exit) (st:St):Option (List Av×sp.Y×sp.G×List Prop):=
  match getsA st.fr (sp.ex e),sp.rest (sp.exL e) st with
  | some l,some (y,g,p)=>(match l.all noA with
    | true=>some (l.map nA,y,g,p)
    | false=>none)
  | _,_=>none
theorem cellOf_mem : ∀ {l:List (Nat×Ck)},nodB (l.map (·.1))=true → ∀ {k c},(k,c)∈l→cellOf l k=c
  | [],_,k,c,h=>by cases h
  | (j,d)::r,hn,k,c,h=>by
    rw[List.map_cons]at hn
    unfold nodB at hn
    rw[Bool.and_eq_true,Bool.not_eq_true',List.any_eq_false]at hn
    unfold cellOf
    rcases List.mem_cons.1 h with e|h
    · cases e;simp
    · have:j≠k:=fun e=>by
        have:=hn.1 k (List.mem_map.2 ⟨(k,c),h,rfl⟩)
        simp[e]at this
      simp only[this,decide_false]
      exact cellOf_mem hn.2 h
theorem decRows_ok : ∀ (rs:List (TypeId×Cd)) (k next:Nat) (l:List (Nat×Ck)) (m:Mem) (g:EGs rs) (ps:List Prop),decRows rs k next l m=some (g,ps)→(∀ p∈ps,p) →
    (∀ j,j<rs.length → ∀ w R σ us,Is w R σ [cellOf l (k+j)] us→Is w R σ [(rowCks rs g next).getD j .any] us) ∧
    (∀ (i:Nat) t cs,(rowMems rs g)[i]?=some (t,cs) → ∃ cs',m[next+i]?=some (t,cs') ∧ ∀ w R σ us,Is w R σ cs' us→Is w R [] cs us)
  | [],k,next,l,m,g,ps,_,_=>⟨fun j h=>absurd h (by simp),fun i t cs h=>by simp[rowMems]at h⟩
  | r::rs,k,next,l,m,g,ps,h,hp=>by
    unfold decRows at h
    split at h
    · rename_i hc
      split at h
      · rename_i g' p' hd
        cases h
        obtain ⟨h1,h2⟩:=decRows_ok rs (k+1) next l m g' ps hd hp
        refine ⟨fun j hj w R σ us hi=>?_,h2⟩
        rcases j with _|j
        · rw[Nat.add_zero,hc]at hi;exact hi
        · have:=h1 j (by simpa using hj) w R σ us (by rw[show k+1+j=k+(j+1) by omega];exact hi)
          exact this
      · cases h
    · rename_i j n cap hc
      split at h
      · rename_i ty c xs cap' hj hm
        have hj:=of_decide_eq_true hj
        subst hj
        split at h
        · rename_i ys g' p' hty hcast hd
          have hty:=of_decide_eq_true hty
          subst hty
          cases h
          obtain ⟨hn,hcap⟩:=hp _ (List.mem_cons_self ..)
          subst hn
          subst hcap
          obtain ⟨h1,h2⟩:=decRows_ok rs (k+1) (j+1) l m g' p' hd (fun p hpm=>hp p (List.mem_cons_of_mem _ hpm))
          refine ⟨fun j' hj' w R σ us hi=>?_,fun i t cs hi=>?_⟩
          · rcases j' with _|j'
            · rw[Nat.add_zero,hc]at hi;exact hi
            · have:=h1 j' (by simpa using hj') w R σ us (by rw[show k+1+j'=k+(j'+1) by omega];exact hi)
              exact this
          · rcases i with _|i
            · simp only[rowMems,List.getElem?_cons_zero,Option.some.injEq,Prod.mk.injEq]at hi
              obtain ⟨rfl,rfl⟩:=hi
              exact ⟨_,hm,fun w R σ us his=>row_none (castRow_is hcast his) []⟩
            · have:=h2 i t cs (by simpa [rowMems] using hi)
              rw[show j+1+i=j+(i+1) by omega]at this
              exact this
        · cases h
      · cases h
    · cases h
theorem decBlk_ok {w:World} {R:Nat→Prop} {σ:List Nat} {ex:List Ck} : ∀ (shs:List BSh) (cs:List Ck) (y:EBs shs) (l:List (Nat×Ck)) (us:List Value),decBlk shs cs=some (y,l) →
    (∀ k c,(k,c)∈l → ∀ us,Is w R σ [c] us→Is w R σ [ex.getD k .any] us)→Is w R σ cs us→Is w R σ (mkCells shs y ex) us
  | [],[],y,l,us,_,_,h=>h
  | [],_::_,y,l,us,h,_,_=>by simp[decBlk]at h
  | .d c::r,cs,y,l,us,h,hl,hi=>by
    unfold decBlk at h
    split at h
    · rename_i x cs' hp
      split at h
      · rename_i y' l' hd
        cases h
        obtain ⟨ua,ub,rfl,i1,i2⟩:=parse_ok c cs x cs' us hp hi
        exact (i1.none σ).app (decBlk_ok r cs' y' l ub hd hl i2)
      · cases h
    · cases h
  | .r k::r,[],y,l,us,h,_,_=>by simp[decBlk]at h
  | .r k::r,c::cs,y,l,us,h,hl,hi=>by
    unfold decBlk at h
    split at h
    · rename_i y' l' hd
      cases h
      obtain ⟨ua,ub,rfl,_,i1,i2⟩:=hi.head
      have:=hl k c (List.mem_cons_self ..) ua i1
      exact this.app (decBlk_ok r cs y l' ub hd (fun k c hm=>hl k c (List.mem_cons_of_mem _ hm)) i2)
    · cases h
theorem decBlks_ok : ∀ (bs:List (TypeId×List BSh)) (m:Mem) (y:EBb bs) (l:List (Nat×Ck)) (ex:List Ck),decBlks bs m=some (y,l)→bs.length≤m.length∧(mkBlk bs y ex).length=bs.length ∧
    ∀ (i:Nat) t cs,(mkBlk bs y ex)[i]?=some (t,cs) → ∃ cs',m[i]?=some (t,cs') ∧ ∀ w R σ us,(∀ k c,(k,c)∈l → ∀ us,Is w R σ [c] us→Is w R σ [ex.getD k .any] us)→Is w R σ cs' us→Is w R σ cs us
  | [],m,y,l,ex,_=>⟨Nat.zero_le _,rfl,by simp[mkBlk]⟩
  | b::r,[],y,l,ex,h=>by simp[decBlks]at h
  | b::r,(t,cs)::m,y,l,ex,h=>by
    unfold decBlks at h
    split at h
    · rename_i y' l1 z l2 ht hd hz
      cases h
      have ht:=of_decide_eq_true ht
      obtain ⟨g1,g2,g3⟩:=decBlks_ok r m z l2 ex hz
      refine ⟨by simp;omega,by simp[mkBlk,g2],fun i t' cs' hi=>?_⟩
      rcases i with _|i
      · simp only[mkBlk,List.getElem?_cons_zero,Option.some.injEq,Prod.mk.injEq]at hi
        obtain ⟨rfl,rfl⟩:=hi
        exact ⟨cs,by simp[ht],fun w R σ us hl his=>decBlk_ok b.2 cs y' l1 us hd (fun k c hm=>hl k c (List.mem_append_left _ hm)) his⟩
      · obtain ⟨cs'',h1,h2⟩:=g3 i t' cs' (by simpa [mkBlk] using hi)
        exact ⟨cs'',by simpa using h1,fun w R σ us hl his=>h2 w R σ us (fun k c hm=>hl k c (List.mem_append_right _ hm)) his⟩
    · cases h
theorem slCells_ok {fr:List Av} : ∀ (sl:List (Nat×Nat)) (l:List (Nat×Ck)),slCells fr sl=some l → ∀ p∈sl,∃ c,fr[p.1]?=some (.one c)∧(p.2,c)∈l
  | [],l,_,p,hp=>by cases hp
  | (t,k)::r,l,h,p,hp=>by
    unfold slCells at h
    split at h
    · rename_i c l' hf hr
      cases h
      rcases List.mem_cons.1 hp with rfl|hp
      · exact ⟨c,hf,List.mem_cons_self ..⟩
      · obtain ⟨c',h1,h2⟩:=slCells_ok r l' hr p hp
        exact ⟨c',h1,List.mem_cons_of_mem _ h2⟩
    · cases h
section
variable {P:Program} {E:Env P} {L:Loops} {w0 w:World} {φ σ0 σ:List Nat} {st:St} {a:Act}
theorem canon_ok (sp:HSpec) {sl:List (Nat×Nat)} {live:List Nat} {Q:St→Prop} (hφ : ∀ b∈φ,b<w0.heap.size) (h0:σ0.length≤sp.bs.length) (hS:Sat w0 φ σ0 σ st a w) (h:(sp.canon sl live st).wp Q) : ∃ st' σ',Q st'∧Sat w0 φ σ0 σ' st' a w:=by
  unfold HSpec.canon at h
  rw[fSt_eq]at h
  have hB:=blank_ok (live++(sp.ps.map (·.1)++sl.map (·.1))) hS
  split at h
  · rw[fNats_eq]at h
    split at h
    · rename_i hI
      rw[T.wp_bind]at h
      exact gc_ok (Q:=Q) hφ h0 hI hB (T.wp_mono (fun st' h'=>by rw[fSt_eq]at h';exact h') h)
    · exact h.elim
  · exact h.elim
theorem rest_view (sp:HSpec) {sl:List (Nat×Nat)} {y:sp.Y} {g:sp.G} {ps:List Prop} (hS:Sat w0 φ σ0 σ st a w) (h:sp.rest sl st=some (y,g,ps)) (hp : ∀ p∈ps,p) (dl:List (Nat×Av)) (hdl : ∀ q∈dl,AvIs w (Ro w φ σ) [] q.2 (a.tmps.getD q.1 undef)) :
    Sat w0 φ σ0 σ ⟨mkFr sp.n ((dl++pList sp.ps)++rowSl sl (sp.cks g)),mkBlk sp.bs y (sp.cks g)++rowMems sp.rs g⟩ a w:=by
  unfold HSpec.rest at h
  split at h
  case h_2=>cases h
  rename_i l y' l' hc hsl hbl
  split at h
  case h_2=>cases h
  rename_i g' p' hk hrw
  split at h
  case h_2=>cases h
  rename_i hlen
  cases h
  simp only[Bool.and_eq_true,decide_eq_true_eq]at hc hlen
  unfold keysOk at hk
  rw[Bool.and_eq_true]at hk
  obtain ⟨r1,r2⟩:=decRows_ok sp.rs 0 sp.bs.length (l++l') st.mem g ps hrw hp
  obtain ⟨b1,b2,b3⟩:=decBlks_ok sp.bs st.mem y l' (sp.cks g) hbl
  have cell : ∀ k c,(k,c)∈l++l' → ∀ (w:World) (R:Nat→Prop) (σ:List Nat) us,Is w R σ [c] us→Is w R σ [(sp.cks g).getD k .any] us:=fun k c hm w R σ us hi=>by
    have hkl:=of_decide_eq_true (List.all_eq_true.1 hk.2 (k,c) hm)
    have hce:=cellOf_mem hk.1 hm
    have:=r1 k hkl w R σ us
    rw[Nat.zero_add,hce]at this
    exact this hi
  refine ⟨⟨(fr_len _ _).trans (hc.1.symm.trans hS.fr.len),fun t av ht=>?_⟩,⟨by rw[List.length_append,b2,←hS.mem.len,hlen],hS.mem.nodup,hS.mem.fo,hS.mem.gl,fun i t cs b hi hb=>?_⟩,hS.ext,hS.keep,hS.df⟩
  · rcases fr_at ht with rfl|⟨q,hq,rfl,rfl⟩
    · exact .any
    · rcases List.mem_append.1 hq with hq|hq
      · rcases List.mem_append.1 hq with hq|hq
        · exact (hdl q hq).ro (fun b hb=>hb) _
        · unfold pList at hq
          obtain ⟨r,hr,rfl⟩:=List.mem_map.1 hq
          obtain ⟨hf,hlt⟩:=ptrs_ok sp.ps hc.2 r hr
          exact hS.fr.at_ _ _ hf
      · unfold rowSl at hq
        obtain ⟨p,hpm,rfl⟩:=List.mem_map.1 hq
        obtain ⟨c,h1,h2⟩:=slCells_ok sl l hsl p hpm
        have:=hS.fr.at_ _ _ h1
        cases this with
        | one g1 g2 =>
          have g3:=cell p.2 c (List.mem_append_left _ h2) _ _ _ _ g2
          refine .one ?_ g3
          have:=is_len _ g3
          simpa [ckLen] using this.symm
  · rcases Nat.lt_or_ge i sp.bs.length with hlt|hge
    · rw[List.getElem?_append_left (by omega)]at hi
      obtain ⟨cs',h1,h2⟩:=b3 i t cs hi
      obtain ⟨us,h3,h4⟩:=hS.mem.blk i t cs' b h1 hb
      exact ⟨us,h3,h2 _ _ _ _ (fun k c hm us=>cell k c (List.mem_append_right _ hm) _ _ _ us) h4⟩
    · rw[List.getElem?_append_right (by omega),b2]at hi
      obtain ⟨cs',h1,h2⟩:=r2 _ t cs hi
      rw[show sp.bs.length+(i-sp.bs.length)=i by omega]at h1
      obtain ⟨us,h3,h4⟩:=hS.mem.blk i t cs' b h1 hb
      exact ⟨us,h3,(h2 _ _ _ _ h4).none σ⟩
theorem headH_ok (sp:HSpec) {x:sp.X} {y:sp.Y} {g:sp.G} {ps:List Prop} (hS:Sat w0 φ σ0 σ st a w) (h:sp.dec st=some (x,y,g,ps)) (hp : ∀ p∈ps,p):Sat w0 φ σ0 σ (sp.head x y g) a w:=by
  unfold HSpec.dec at h
  split at h
  · rename_i l y' g' ps' hl hr
    split at h
    · rename_i x' hd
      cases h
      obtain ⟨k1,k2⟩:=gets_ok _ _ _ hl
      obtain ⟨d1,d2⟩:=decs_ok (w:=w) (R:=Ro w φ σ) (σ:=σ) (vts sp.vs) l x ((sp.vs.map (·.1)).map fun s=>a.tmps.getD s undef) hd (by simp at k1 ⊢;omega) (fun i b v hb hv=>by
        rw[List.getElem?_map]at hv
        cases hq:(sp.vs.map (·.1))[i]? with
        | none=>rw[hq]at hv;simp at hv
        | some s =>
          rw[hq]at hv
          simp only[Option.map_some,Option.some.injEq]at hv
          subst hv
          exact hS.fr.at_ s b (k2 i s b hq hb))
      refine rest_view sp hS hr hp _ fun q hq=>?_
      obtain ⟨i,hi,e⟩:=List.getElem_of_mem hq
      have hz:((sp.vs.map (·.1)).zip (encs (vts sp.vs) x))[i]?=some q:=by rw[List.getElem?_eq_getElem hi,e]
      rw[List.getElem?_zip_eq_some]at hz
      have hv:((sp.vs.map (·.1)).map fun s=>a.tmps.getD s undef)[i]?=some (a.tmps.getD q.1 undef):=by rw[List.getElem?_map,hz.1];rfl
      exact d2 i _ _ hz.2 hv
    · cases h
  · cases h
theorem exitH_ok (sp:HSpec) {e:Exit} {avs:List Av} {y:sp.Y} {g:sp.G} {ps:List Prop} (hS:Sat w0 φ σ0 σ st a w) (h:sp.decE e st=some (avs,y,g,ps)) (hp : ∀ p∈ps,p):Sat w0 φ σ0 σ (sp.exitSt e avs y g) a w:=by
  unfold HSpec.decE at h
  split at h
  · rename_i l y' g' ps' hl hr
    split at h
    · rename_i hno
      cases h
      obtain ⟨k1,k2⟩:=gets_ok _ _ _ hl
      refine rest_view sp hS hr hp _ fun q hq=>?_
      obtain ⟨i,hi,e1⟩:=List.getElem_of_mem hq
      have hz:((sp.ex e).zip (l.map nA))[i]?=some q:=by rw[List.getElem?_eq_getElem hi,e1]
      rw[List.getElem?_zip_eq_some]at hz
      have hz2:=hz.2
      rw[List.getElem?_map]at hz2
      cases hq:l[i]? with
      | none=>rw[hq]at hz2;simp at hz2
      | some b =>
        rw[hq]at hz2
        simp only[Option.map_some,Option.some.injEq]at hz2
        rw[←hz2]
        have hb:=hS.fr.at_ _ _ (k2 i _ b hz.1 hq)
        have hn:=List.all_eq_true.1 hno b (List.mem_of_getElem? hq)
        exact nA_is (av_no hb hn)
    · cases h
  · cases h
inductive HRd (sp:HSpec):Type
  | again (x:sp.X) (y:sp.Y) (g:sp.G)
  | out (e:Exit) (avs:List Av) (y:sp.Y) (g:sp.G)
def HSpec.round {P:Program} (sp:HSpec) (E:Env P) (L:Loops) (body:Code) (x:sp.X) (y:sp.Y) (g:sp.G):T (HRd sp):=
  (code (E.at_ sp.bs.length) L body (sp.head x y g)).bind fun r=>match r.1 with
    | .normal=>(sp.canon sp.sl (sp.vs.map (·.1)) r.2).bind fun st=>(match sp.dec st with
      | some (x',y',g',p)=>needAll p (.ret (.again x' y' g'))
      | none=>.fail)
    | e=>(sp.canon (sp.exL e) (sp.ex e) r.2).bind fun st=>(match sp.decE e st with
      | some (avs,y',g',p)=>needAll p (.ret (.out e avs y' g'))
      | none=>.fail)
def HSpec.run (sp:HSpec) (out:sp.X→sp.Y→sp.G→T (Exit×List Av×sp.Y×sp.G)) (st:St):T (Exit×St):=
  (sp.canon sp.sl (sp.vs.map (·.1)) st).bind fun st=>match sp.dec st with
  | some (x,y,g,p)=>needAll p ((out x y g).bind fun r=>.ret (r.1,sp.exitSt r.1 r.2.1 r.2.2.1 r.2.2.2))
  | none=>.fail
theorem loopH_ok (hm:P.follows .mixedOrders=true) (k:Nat) {body:Code} (hL:LoopsOk P k L body) (sp:HSpec) (hk:k≤sp.bs.length) (out:sp.X→sp.Y→sp.G→T (Exit×List Av×sp.Y×sp.G)) (μ:sp.X→sp.Y→sp.G→Nat)
    (hb : ∀ x y g Q,(out x y g).wp Q→(sp.round E L body x y g).wp fun r=>match r with
      | .again x' y' g'=>μ x' y' g'<μ x y g∧(out x' y' g').wp Q
      | .out e avs y' g'=>Q (e,avs,y',g')):LoopOk P k body (sp.run out):=by
  intro w0 φ σ0 σ st a w Q hσ hφ hS hrun
  unfold HSpec.run at hrun
  rw[T.wp_bind]at hrun
  obtain ⟨st1,σ1,hrun,hS1⟩:=canon_ok sp hφ (by omega) hS hrun
  split at hrun
  · rename_i x y g p hd
    obtain ⟨hp,hrun⟩:=needAll_wp hrun
    rw[T.wp_bind]at hrun
    have h0:=headH_ok sp hS1 hd hp
    refine wp_loop_ghost (fun n a w => ∃ x y g σ,n=μ x y g∧Sat w0 φ σ0 σ (sp.head x y g) a w∧(out x y g).wp fun r=>(T.ret (r.1,sp.exitSt r.1 r.2.1 r.2.2.1 r.2.2.2)).wp Q) _ ⟨x,y,g,_,rfl,h0,hrun⟩ fun n a w hI=>?_
    obtain ⟨x,y,g,σ,rfl,hS,hout⟩:=hI
    have h1:=hb x y g _ hout
    unfold HSpec.round at h1
    rw[T.wp_bind]at h1
    refine wp_mono (code_ok (E:=E.at_ sp.bs.length) hm hσ (by show σ0.length≤sp.bs.length;omega) hφ body _ σ a w _ hL hS h1) fun e a' w' hr=>?_
    obtain ⟨hq,st',σ',h2,h3⟩:=hr
    have out : ∀ e,((sp.canon (sp.exL e) (sp.ex e) st').bind fun st=>(match sp.decE e st with
      | some (avs,y',g',p)=>needAll p (T.ret (HRd.out e avs y' g'))
      | none=>.fail)).wp (fun r=>match r with
        | .again x' y' g'=>μ x' y' g'<μ x y g∧(out x' y' g').wp fun r=>(T.ret (r.1,sp.exitSt r.1 r.2.1 r.2.2.1 r.2.2.2)).wp Q
        | .out e avs y' g'=>(T.ret (e,sp.exitSt e avs y' g')).wp Q) → ∃ st σ,Q (e,st)∧Sat w0 φ σ0 σ st a' w':=fun e h2=>by
      rw[T.wp_bind]at h2
      obtain ⟨st2,σ2,h2,h4⟩:=canon_ok sp hφ (by omega) h3 h2
      split at h2
      · rename_i avs y' g' p' hd'
        obtain ⟨hp',h2⟩:=needAll_wp h2
        exact ⟨_,_,h2,exitH_ok sp h4 hd' hp'⟩
      · exact h2.elim
    cases e with
    | normal =>
      simp only[Exit.then]
      simp only at h2
      rw[T.wp_bind]at h2
      obtain ⟨st2,σ2,h2,h4⟩:=canon_ok sp hφ (by omega) h3 h2
      split at h2
      · rename_i x' y' g' p' hd'
        obtain ⟨hp',h2⟩:=needAll_wp h2
        exact ⟨_,h2.1,x',y',g',_,rfl,headH_ok sp h4 hd' hp',h2.2⟩
      · exact h2.elim
    | panic _=>cases hq
    | outgrown=>cases hq
    | exit id =>
      simp only[Exit.then]
      obtain ⟨st2,σ2,h4,h5⟩:=out _ h2
      exact ⟨rfl,_,_,h4,h5⟩
    | ret =>
      simp only[Exit.then]
      obtain ⟨st2,σ2,h4,h5⟩:=out _ h2
      exact ⟨rfl,_,_,h4,h5⟩
    | goto l =>
      simp only[Exit.then]
      obtain ⟨st2,σ2,h4,h5⟩:=out _ h2
      exact ⟨rfl,_,_,h4,h5⟩
  · exact hrun.elim
end
end Ax
namespace Go.Proofs.YtbkfakkkikmcbaaGreatDoor
open Go.RowKit Ax
abbrev cP:Cd:=.pair cF cF
abbrev Pt:=El cP
noncomputable def zeroP:Zero Tryz.prog:=⟨48,ck cP ((w0,w0),(w0,w0)),Pq.fl false 0 false 0++Pq.fl false 0 false 0,by kernel_rfl,fun w R σ=>(f_is w R σ (w0,w0)).app (f_is w R σ (w0,w0))⟩
noncomputable def codP:Cod Tryz.prog:=⟨48,cP,by kernel_rfl,⟨.agg (Pq.fl false 0 false 0++Pq.fl false 0 false 0).toArray,fun w=>by kernel_rfl⟩⟩
theorem cf_wjoin (xs:Array Value) (w:World):(callFunc 54 xs).run Tryz.prog w=.ok (.enter 54 xs) w:=by kernel_rfl
theorem wned {β:Type} {p:Prop} {t:T β} {Q:β→Prop} (hp:p) (h:t.wp Q):(T.need p t).wp Q:=⟨hp,h⟩
theorem wget {α β:Type} {l:List α} {i:Int} {K:α→T β} {Q:β→Prop} {v:α} (h0:0≤i) (hv:l[i.toNat]?=some v) (h:(K v).wp Q):(T.get l i K).wp Q:=⟨v,h0,hv,h⟩
theorem witf {β:Type} {c:Bool} {s t:T β} {Q:β→Prop} (hc:c=false) (h:t.wp Q):(T.ite c s t).wp Q:=⟨fun e=>Bool.noConfusion (hc.symm.trans e),fun _=>h⟩
theorem witt {β:Type} {c:Bool} {s t:T β} {Q:β→Prop} (hc:c=true) (h:s.wp Q):(T.ite c s t).wp Q:=⟨fun _=>h,fun e=>Bool.noConfusion (e.symm.trans hc)⟩
noncomputable def con_rparse1:Con Tryz.prog:=⟨72,[],_,cf_rparse,val_con (E:=E16) mixed Tryz.func72 no_loops [(false,.str)] (fun x=>lenOk (ByteArray.size x.1)) (fun x=>ansA true cF ((pR x.1).isSome) ((pR x.1).getD (w0,w0)) (w0,w0)) fun x hx=>by
  rw[tr_rparse_eq]
  exact rparse_ok x hx⟩
abbrev cI3:Cd:=.pair (.int .i64) (.pair (.int .i64) (.int .i64))
abbrev cMesh:Cd:=.pair (.sl cP) (.pair (.sl cI3) (.sl cI3))
abbrev cTab:Cd:=.pair (.sl cL) .bool
noncomputable def codStrW:Cod Tryz.prog:=⟨9,.str,by kernel_rfl,⟨.string (ByteArray.mk #[]),fun w=>by kernel_rfl⟩⟩
noncomputable def codIntW:Cod Tryz.prog:=⟨3,.int .i64,by kernel_rfl,⟨.int .i64 0,fun w=>by kernel_rfl⟩⟩
noncomputable def cod3W:Cod Tryz.prog:=⟨79,cI3,by kernel_rfl,⟨.agg (zU cI3).toArray,fun w=>by kernel_rfl⟩⟩
noncomputable def codEdge:Cod Tryz.prog:=⟨80,cI3,by kernel_rfl,⟨.agg (zU cI3).toArray,fun w=>by kernel_rfl⟩⟩
noncomputable def zeroStrW:Zero Tryz.prog:=zOf 9 .str rfl (by kernel_rfl)
noncomputable def zeroIntW:Zero Tryz.prog:=zOf 3 (.int .i64) rfl (by kernel_rfl)
noncomputable def zero3W:Zero Tryz.prog:=zOf 79 cI3 rfl (by kernel_rfl)
noncomputable def zeroEdge:Zero Tryz.prog:=zOf 80 cI3 rfl (by kernel_rfl)
noncomputable def zeroMesh:Zero Tryz.prog:=zOf 26 cMesh rfl (by kernel_rfl)
noncomputable def zeroText:Zero Tryz.prog:=zOf 129 cTab rfl (by kernel_rfl)
noncomputable def zeroTab:Zero Tryz.prog:=zOf 131 cTab rfl (by kernel_rfl)
noncomputable def EW0:Env Tryz.prog:=⟨con_rparse1::con_llines::con_lint::con_itoa::EZ.con,zeroStrW::zeroIntW::zero3W::zeroEdge::zeroMesh::zeroText::zeroTab::zeroP::EZ.zero,codStrW::codIntW::cod3W::codEdge::codP::EZ.cod,fun _=>false,0,fun _=>[]⟩
def wiv (s:ByteArray):Int:=if lintB s=true then atoiV s else 0
abbrev LLw:=List (Int×List ByteArray)
def whead (l:LLw):List ByteArray:=match l with
  | []=>[]
  | a::_=>a.2
def joinB (xs:List ByteArray) (sep:ByteArray):ByteArray:=⟨(Lib.join (xs.map (·.data.toList)) sep.data.toList).toArray⟩
noncomputable def con_wjoin:Con Tryz.prog:=⟨54,[],pureRun' [(false,.sl .str),(false,.str)] (fun x=>.need (List.length x.1≤1000000∧(joinB x.1 x.2.1).size≤1000000000) (.ret (.one (.v (.string (joinB x.1 x.2.1)))))),cf_wjoin,ret_con _ _ fun x vs w R Q ha hQ=>by
  obtain ⟨v,v',rfl,h1,h2⟩:=args2 ha
  obtain ⟨xs,sep,u⟩:=x
  have e2:v'=.string sep:=val_of h2 rfl
  subst e2
  obtain ⟨⟨k1,k2⟩,hQ⟩:=hQ
  have k2:(Lib.join (xs.map (·.data.toList)) sep.data.toList).length≤1000000000:=k2
  rcases is_ds (c:=.str) (xs:=xs) h1 with ⟨rfl,rfl⟩|⟨rfl,a',cap,rfl⟩|⟨b,of,cap,g,rfl,hc,hR,g1,g2,g3⟩
  · exact ⟨_,_,hQ,(Tryz.strings_Join_none none 0 sep w).mono fun e w' hr=>⟨hr.1,hr.2 ▸ Below.refl _ _⟩,fun _ _=>.val rfl⟩
  · exact ⟨_,_,hQ,(Tryz.strings_Join_none (some a') cap sep w).mono fun e w' hr=>⟨hr.1,hr.2 ▸ Below.refl _ _⟩,fun _ _=>.val rfl⟩
  · have cells : ∀ (j:Nat) (x:ByteArray),xs[j]?=some x→w.cell? ⟨b,of+j,none⟩=some (.string x):=fun j x hj=>by
      obtain ⟨t,e,h⟩:=is_v (g2 j x hj)
      cases h
      have:=g3 j x hj 0 (.string x) (by rw[e];rfl)
      simpa [csz] using this
    cases xs with
    | nil=>exact ⟨_,_,hQ,(Tryz.strings_Join_none (some ⟨b,of,none⟩) cap sep w).mono fun e w' hr=>⟨hr.1,hr.2 ▸ Below.refl _ _⟩,fun _ _=>.val rfl⟩
    | cons y r =>
      have hb:b<w.heap.size:=by
        have:=cells 0 y rfl
        unfold World.cell? at this
        rcases Nat.lt_or_ge b w.heap.size with h|h
        · exact h
        · rw[show w.heap[(⟨b,of+0,none⟩:Addr).block]?=none from Array.getElem?_eq_none h]at this
          cases this
      exact ⟨_,_,hQ,(Tryz.strings_Join b of cap (y::r) sep w cells hb (Nat.le_trans (show (y::r).length≤1000000 from k1) (by decide)) hc (Nat.le_trans k2 (by decide))).mono fun e w' hr=>⟨hr.1,hr.2⟩,fun _ _=>.val rfl⟩⟩
noncomputable def EW1:Env Tryz.prog:=EW0.add [con_wjoin]
def spB:ByteArray:=⟨#[32]⟩
def rowS (xs:List ByteArray):ByteArray:=joinB xs spB++⟨#[10]⟩
def rwTree (xs:List ByteArray):T Av:=.need (List.length xs≤1000000∧(joinB xs spB).size≤1000000000) (.need (((joinB xs spB).size+ByteArray.size ⟨#[10]⟩:Nat)≤IntKind.max .i64) (.lt (joinB xs spB++⟨#[10]⟩) fun v=>.ret (.one (.v (.string v)))))
noncomputable def EW2:Env Tryz.prog:=EW1.add []
end Go.Proofs.YtbkfakkkikmcbaaGreatDoor
namespace Ax
open Go Go.RowKit
section
variable {P:Program} {con:List (Con P)}
def LSpec.roundC (sp:LSpec) (O:Opt con) (E:Env P) (L:Loops) (body:Code) (x:sp.X) (y:sp.Y):T (Rd sp):=
  (codeC O (E.at_ sp.bs.length) L body (sp.head x y)).bind fun r=>match r.1 with
    | .normal=>fSt r.2 fun st=>match sp.dec st with
      | some (x',y')=>.ret (.again x' y')
      | none=>.fail
    | e=>fSt r.2 fun st=>match sp.decE e st with
      | some (avs,y')=>.ret (.out e avs y')
      | none=>.fail
theorem LSpec.roundC_wp {sp:LSpec} {O:Opt con} {E:Env P} (hE:E.con=con) {L:Loops} {body:Code} {x:sp.X} {y:sp.Y} {Q:Rd sp→Prop} (h:(sp.roundC O E L body x y).wp Q):(sp.round E L body x y).wp Q:=by
  unfold LSpec.roundC at h
  unfold LSpec.round
  simp only[fSt_eq]at h
  rw[T.wp_bind]at h ⊢
  exact codeC_wp (E:=E.at_ sp.bs.length) hE body _ h
def RSpec.roundC (sp:RSpec) (O:Opt con) (E:Env P) (L:Loops) (body:Code) (x:sp.X) (y:sp.Y) (g:sp.G):T (RRd sp):=
  (codeC O (E.at_ (sp.bs.length+(if sp.fixed then 1 else 0))) L body (sp.head x y g)).bind fun r=>match r.1 with
    | .normal=>fSt r.2 fun st=>match sp.dec st with
      | some (x',y',g',p)=>.need p (.ret (.again x' y' g'))
      | none=>.fail
    | e=>fSt r.2 fun st=>match sp.decE e st with
      | some (avs,y',g',p)=>.need p (.ret (.out e avs y' g'))
      | none=>.fail
theorem RSpec.roundC_wp {sp:RSpec} {O:Opt con} {E:Env P} (hE:E.con=con) {L:Loops} {body:Code} {x:sp.X} {y:sp.Y} {g:sp.G} {Q:RRd sp→Prop} (h:(sp.roundC O E L body x y g).wp Q):(sp.round E L body x y g).wp Q:=by
  unfold RSpec.roundC at h
  unfold RSpec.round
  simp only[fSt_eq]at h
  rw[T.wp_bind]at h ⊢
  exact codeC_wp (E:=E.at_ (sp.bs.length+(if sp.fixed then 1 else 0))) hE body _ h
end
end Ax
namespace Go.Proofs.YtbkfakkkikmcbaaGreatDoor
open Go.RowKit Ax
def wi1 (i:Int):Int:=IntKind.wrap .i64 (i+1)
theorem wi1_eq {i:Int} (h : -1000000000000≤i∧i≤1000000000000):wi1 i=i+1:=IntWalk.i64_in _ (by omega)
def wat (l:List ByteArray) (k:Nat):ByteArray:=(l[k]?).getD (ByteArray.mk #[])
theorem wat_get {l:List ByteArray} {k:Nat} (h:k<l.length):l[k]?=some (wat l k):=by
  unfold wat
  rw[List.getElem?_eq_getElem h]
  rfl
theorem wat_ok {l:List ByteArray} {k:Nat} (h : ∀ w∈l,w.size≤900000):(wat l k).size≤900000:=by
  unfold wat
  cases e:l[k]? with
  | none=>exact (by decide:(ByteArray.mk #[]).size≤900000)
  | some w=>exact h w (List.mem_of_getElem? e)
theorem cf_pints (xs:Array Value) (w:World):(callFunc 110 xs).run Tryz.prog w=.ok (.enter 110 xs) w:=by kernel_rfl
theorem cf_pnext (xs:Array Value) (w:World):(callFunc 109 xs).run Tryz.prog w=.ok (.enter 109 xs) w:=by kernel_rfl
theorem cf_pdone (xs:Array Value) (w:World):(callFunc 112 xs).run Tryz.prog w=.ok (.enter 112 xs) w:=by kernel_rfl
theorem cf_pfits (xs:Array Value) (w:World):(callFunc 111 xs).run Tryz.prog w=.ok (.enter 111 xs) w:=by kernel_rfl
theorem cf_phead (xs:Array Value) (w:World):(callFunc 108 xs).run Tryz.prog w=.ok (.enter 108 xs) w:=by kernel_rfl
theorem cf_pverts (xs:Array Value) (w:World):(callFunc 57 xs).run Tryz.prog w=.ok (.enter 57 xs) w:=by kernel_rfl
theorem cf_psegs (xs:Array Value) (w:World):(callFunc 58 xs).run Tryz.prog w=.ok (.enter 58 xs) w:=by kernel_rfl
theorem cf_pholes (xs:Array Value) (w:World):(callFunc 59 xs).run Tryz.prog w=.ok (.enter 59 xs) w:=by kernel_rfl
theorem cf_pvertex (xs:Array Value) (w:World):(callFunc 113 xs).run Tryz.prog w=.ok (.enter 113 xs) w:=by kernel_rfl
theorem cf_plines (xs:Array Value) (w:World):(callFunc 56 xs).run Tryz.prog w=.ok (.enter 56 xs) w:=by kernel_rfl
theorem cf_pparse (xs:Array Value) (w:World):(callFunc 27 xs).run Tryz.prog w=.ok (.enter 27 xs) w:=by kernel_rfl
abbrev spPi3:RSpec:=⟨28,[(9,false,.sl .str),(10,false,.int .i64),(11,false,.int .i64)],[],[],fun e=>match e with|.ret=>[3]|_=>[],4,3,.int .i64,false,fun e=>match e with|.ret=>2|_=>4⟩
abbrev GI:=Gr Int
def piR (l:List ByteArray) (n i:Int) (g:GI):T (RRd spPi3):=.ite (decide (i<n)) (.get l i fun w=>.need (ByteArray.size w≤281474976710656) (.ite (!lintB w) (.need True (.ret (.out Exit.ret [.one (.v (.bool false))] () none))) (appG 7 g (wiv w) fun m g'=>.need (gnd m g') (.ret (.again (l,n,wi1 i,()) () g'))))) (.need (gnd (gl g) g) (.ret (.out (Exit.exit 0) [] () g)))
theorem tr_piL_eq (l:List ByteArray) (n i:Int) (xs:List Int) (cap:Nat):RSpec.round spPi3 EW2 (fun _=>none) (bodyOf Tryz.f110 0) (l,n,i,()) () (some (xs,cap))=piR l n i (some (xs,cap)):=by kernel_rfl
theorem tr_piL0_eq (l:List ByteArray) (n i:Int):RSpec.round spPi3 EW2 (fun _=>none) (bodyOf Tryz.f110 0) (l,n,i,()) () none=piR l n i none:=by kernel_rfl
abbrev PiInv (l:List ByteArray) (n i:Int) (m:Nat):Prop:=n=(List.length l:Int)∧0≤i∧List.length l≤1000000∧(∀ w∈l,w.size≤900000)∧(m:Int)≤i
def outPi3 (x:RSpec.X spPi3) (y:RSpec.Y spPi3) (g:RSpec.G spPi3):T (Exit×List Av×RSpec.Y spPi3×RSpec.G spPi3):=
  .need (PiInv x.1 x.2.1 x.2.2.1 (gl (α:=Int) g)) (.ite ((List.drop (Int.toNat x.2.2.1) (x.1:List ByteArray)).all lintB) (finG (Exit.exit 0) [] () g ((List.drop (Int.toNat x.2.2.1) (x.1:List ByteArray)).map wiv)) (.ret (Exit.ret,[.one (.v (.bool false))],(),none)))
theorem pi_core (l : List ByteArray) (n i : Int) (g : GI) (Q : Exit × List Av × RSpec.Y spPi3 × RSpec.G spPi3 → Prop) (hq : (outPi3 (l, n, i, ()) () g).wp Q) : (piR l n i g).wp fun r => match r with
      | .again x' y' g'=>(x'.2.1-x'.2.2.1).toNat<(n-i).toNat∧(outPi3 x' y' g').wp Q
      | .out e avs y' g'=>Q (e,avs,y',g'):=by
  obtain ⟨⟨hn,i0,hl,hs,hg⟩,hy,hz⟩:=hq
  have hn:n=(l.length:Int):=hn
  have i0:0≤i:=i0
  have hl:l.length≤1000000:=hl
  have hs : ∀ w∈l,w.size≤900000:=hs
  have hg:((gl g:Nat):Int)≤i:=hg
  have hy:(l.drop i.toNat).all lintB=true→(finG (Exit.exit 0) [] () g ((l.drop i.toNat).map wiv)).wp Q:=hy
  have hz:(l.drop i.toNat).all lintB=false→Q (Exit.ret,[.one (.v (.bool false))],(),none):=hz
  refine ⟨fun hlt=>?_,fun hge=>?_⟩
  · have hlt:=of_decide_eq_true hlt
    obtain ⟨w,hw⟩:=elem_at (l:=l) i0 (by omega)
    have hws:=hs w (List.mem_of_getElem? hw)
    rw[drop_at i0 hw,List.all_cons,List.map_cons]at hy
    rw[drop_at i0 hw,List.all_cons]at hz
    refine wget i0 hw (wned (by omega) ⟨fun h=>wned trivial (hz ?_),fun h=>?_⟩)
    · have h:lintB w=false:=by simpa using h
      rw[h];rfl
    · have h:lintB w=true:=by simpa using h
      rw[h,Bool.true_and]at hy hz
      have hM:maxLen=9223372036854775807:=rfl
      refine appG_wp (by omega) (by omega) fun k=>wned (gnd_app g _ k) ?_
      rw[wi1_eq (i:=i) (by omega)]
      refine ⟨show (n-(i+1)).toNat<(n-i).toNat by omega,wned ⟨hn,show 0≤i+1 by omega,hl,hs,?_⟩ ⟨fun a=>finG_cons (hy a) k,fun a=>hz a⟩⟩
      show (((gx g++[_]).length:Nat):Int)≤i+1
      rw[List.length_append,←gl_eq]
      simp only[List.length_cons,List.length_nil]
      omega
  · have hge:=of_decide_eq_false hge
    rw[drop_end (by omega)]at hy
    exact wned (gnd_gl g) (finG_nil (hy rfl))
theorem piL_ok:LoopOk Tryz.prog 0 (bodyOf Tryz.f110 0) (spPi3.run outPi3):=
  loopR_ok (E:=EW2) (L:=fun _=>none) mixed 0 (loops_none _ _ _) spPi3 (Nat.zero_le _) outPi3 (fun x _ _=>(x.2.1-x.2.2.1).toNat) (by
    rintro ⟨l,n,i,⟨⟩⟩ ⟨⟩ g Q hq
    match g,hq with
    | some (xs,cap),hq =>
      rw[tr_piL_eq l n i xs cap]
      exact pi_core l n i (some (xs,cap)) Q hq
    | none,hq =>
      rw[tr_piL0_eq l n i]
      exact pi_core l n i none Q hq)
noncomputable def lpPi3:Loops:=oneL 3 (spPi3.run outPi3)
def pintsV (l:List ByteArray):List Int:=if l.all lintB=true then l.map wiv else []
def nilA:Av:=.one (.v (.slice none 0 0))
def piTree (l:List ByteArray):T Av:=.need True (.need (PiInv l (List.length l:Int) 0 (gl (none:GI))) (.ite ((List.drop (Int.toNat 0) l).all lintB) (.ite ((List.drop (Int.toNat 0) l).map wiv).isEmpty (.ret (.tup [nilA,.one (.v (.bool true))])) (.up 0 fun _=>.need (List.length ((List.drop (Int.toNat 0) l).map wiv)≤List.length ((List.drop (Int.toNat 0) l).map wiv)) (.ret (.tup [.one (.ds (.int .i64) (List.take (List.length ((List.drop (Int.toNat 0) l).map wiv)) ((List.drop (Int.toNat 0) l).map wiv))),.one (.v (.bool true))])))) (.ret (.tup [nilA,.one (.v (.bool false))]))))
theorem tr_pints_eq (l:List ByteArray):fnP EW2 lpPi3 Tryz.f110 (encs [(false,.sl .str)] (l,()))=piTree l:=by kernel_rfl
noncomputable def con_pints:Con Tryz.prog:=⟨110,[],_,cf_pints,val_con_wL (E:=EW2) (L:=lpPi3) mixed Tryz.func110 (one_loop piL_ok (by kernel_rfl)) [(false,.sl .str)] (fun x=>List.length x.1≤1000000 ∧ ∀ w∈(x.1:List ByteArray),w.size≤900000) (fun x=>.tup [.one (.ds (.int .i64) (pintsV x.1)),.one (.v (.bool (List.all x.1 lintB)))]) fun x hx=>by
  obtain ⟨l,u⟩:=x
  have h1:l.length≤1000000:=hx.1
  have h2 : ∀ w∈l,w.size≤900000:=hx.2
  rw[show fnP EW2 lpPi3 Tryz.f110 (encs [(false,.sl .str)] (l,u))=piTree l from tr_pints_eq l]
  show (piTree l).wp fun a => ∀ w R σ v,AvIs w R σ a v→AvIs w R σ (.tup [.one (.ds (.int .i64) (pintsV l)),.one (.v (.bool (l.all lintB)))]) v
  unfold piTree nilA pintsV
  rw[Int.toNat_zero,List.drop_zero,List.take_length]
  refine wned trivial (wned ⟨rfl,Int.le_refl 0,h1,h2,Int.le_refl 0⟩ ⟨fun a=>⟨fun e w R σ v hv=>?_,fun _ k _=>wned (Nat.le_refl _) fun w R σ v hv=>?_⟩,fun a w R σ v hv=>?_⟩)
  · rw[a,if_pos rfl,List.isEmpty_iff.1 e]
    exact nil_av2L hv
  · rw[a,if_pos rfl]
    exact hv
  · rw[a,if_neg Bool.false_ne_true]
    exact nil_av2L hv⟩
noncomputable def EPl1:Env Tryz.prog:=EW2.add [con_pints]
theorem cf_scount (xs:Array Value) (w:World):(callFunc 106 xs).run Tryz.prog w=.ok (.enter 106 xs) w:=by kernel_rfl
theorem cf_hsuf (xs:Array Value) (w:World):(callFunc 107 xs).run Tryz.prog w=.ok (.enter 107 xs) w:=by kernel_rfl
def cnt10 (s:ByteArray):Int:=(Lib.countByte s.data.toList 10:Int)
noncomputable def con_scount:Con Tryz.prog:=⟨106,[],pureRun' [(false,.str),(false,.str)] (fun x=>.need (x.2.1=(⟨#[10]⟩:ByteArray)) (.ret (aI .i64 (cnt10 x.1)))),cf_scount,ret_con _ _ fun x vs w R Q ha hQ=>by
  obtain ⟨v,v',rfl,h1,h2⟩:=args2 ha
  obtain ⟨s,p,u⟩:=x
  have e1:v=.string s:=val_of h1 rfl
  have e2:v'=.string p:=val_of h2 rfl
  subst e1
  subst e2
  obtain ⟨hp,hQ⟩:=hQ
  have hp:p=⟨#[10]⟩:=hp
  subst hp
  exact ⟨_,_,hQ,(Tryz.strings_Count_one s 10 w).mono fun e w' hr=>⟨hr.1,hr.2 ▸ Below.refl _ _⟩,fun _ _=>.val rfl⟩⟩
noncomputable def con_hsuf:Con Tryz.prog:=⟨107,[],pureRun' [(false,.str),(false,.str)] (fun x=>.need (ByteArray.size x.1≤9223372036854775807) (.ret (.one (.v (.bool (Lib.hasSuffix (ByteArray.data x.1).toList (ByteArray.data x.2.1).toList)))))),cf_hsuf,ret_con _ _ fun x vs w R Q ha hQ=>by
  obtain ⟨v,v',rfl,h1,h2⟩:=args2 ha
  obtain ⟨s,p,u⟩:=x
  have e1:v=.string s:=val_of h1 rfl
  have e2:v'=.string p:=val_of h2 rfl
  subst e1
  subst e2
  have hs:s.size≤9223372036854775807:=hQ.1
  exact ⟨_,_,hQ.2,(Tryz.strings_HasSuffix s p w hs).mono fun e w' hr=>⟨hr.1,hr.2 ▸ Below.refl _ _⟩,fun _ _=>.val rfl⟩⟩
noncomputable def EPl2:Env Tryz.prog:=EPl1.add [con_scount,con_hsuf]
def hs10 (s:ByteArray):Bool:=Lib.hasSuffix s.data.toList (ByteArray.mk #[10]).data.toList
def plTr (s:ByteArray):T Av:=.need ((⟨#[10]⟩:ByteArray)=⟨#[10]⟩) (.ite (s.toList != (ByteArray.mk #[]).toList) (.need (s.size≤9223372036854775807) (.ite (!hs10 s) (.ret (aI .i64 (wi1 (cnt10 s)))) (.ret (aI .i64 (cnt10 s))))) (.ret (aI .i64 (cnt10 s))))
theorem tr_plines_eq (s:ByteArray):fnP EPl2 (fun _=>none) Tryz.f56 (encs [(false,.str)] (s,()))=plTr s:=by kernel_rfl
def plN (s:ByteArray):Int:=if s.data.toList≠[]∧hs10 s=false then cnt10 s+1 else cnt10 s
theorem cb_le : ∀ (l:List UInt8) (c:UInt8),Lib.countByte l c≤l.length:=fun l c=>by
  unfold Lib.countByte
  exact List.count_le_length ..
theorem cnt_in (s:ByteArray):0≤cnt10 s∧cnt10 s≤(s.size:Int):=by
  have h:=cb_le s.data.toList 10
  rw[←Lib.size_eq]at h
  unfold cnt10
  omega
theorem plTr_wp {s:ByteArray} (hs:s.size≤900000):(plTr s).wp (· = aI .i64 (plN s)):=by
  have hc:=cnt_in s
  have hM:maxLen=9223372036854775807:=rfl
  have ne:(s.toList != (ByteArray.mk #[]).toList)=decide (s.data.toList≠[]):=by
    rw[Bool.eq_iff_iff,bne_iff_ne,decide_eq_true_iff,Lib.toList_data,Lib.toList_data]
  unfold plTr
  rw[ne]
  refine wned rfl ⟨fun h1=>wned (by omega) ⟨fun h2=>?_,fun h2=>?_⟩,fun h1=>?_⟩
  · have h1:=of_decide_eq_true h1
    have h2:hs10 s=false:=by simpa using h2
    rw[wi1_eq (i:=cnt10 s) (by omega)]
    unfold plN
    rw[if_pos ⟨h1,h2⟩]
    rfl
  · have h2:hs10 s=true:=by simpa using h2
    unfold plN
    rw[if_neg (fun h=>by rw[h2]at h;cases h.2)]
    rfl
  · have h1:=of_decide_eq_false h1
    unfold plN
    rw[if_neg (fun h=>h1 h.1)]
    rfl
noncomputable def con_plines:Con Tryz.prog:=⟨56,[],_,cf_plines,val_con (E:=EPl2) (L:=fun _=>none) mixed Tryz.func56 no_loops [(false,.str)] (fun x=>ByteArray.size x.1≤900000) (fun x=>aI .i64 (plN x.1)) fun x hx=>by
  obtain ⟨s,u⟩:=x
  have hx:s.size≤900000:=hx
  rw[show fnP EPl2 (fun _=>none) Tryz.f56 (encs [(false,.str)] (s,u))=plTr s from tr_plines_eq s]
  exact plTr_wp hx⟩
noncomputable def EPl3:Env Tryz.prog:=EPl2.add [con_plines]
noncomputable def OPl:Opt EPl3.con:=⟨[],[],fun _=>none⟩
noncomputable def con_pnext:Con Tryz.prog:=⟨109,[0],_,cf_pnext,inlC_ok (O:=OPl) (E:=EPl3) (L:=fun _=>none) rfl mixed Tryz.func109 1 no_loops [0]⟩
noncomputable def con_pdone:Con Tryz.prog:=⟨112,[0],_,cf_pdone,inlC_ok (O:=OPl) (E:=EPl3) (L:=fun _=>none) rfl mixed Tryz.func112 1 no_loops [0]⟩
noncomputable def con_pfits:Con Tryz.prog:=⟨111,[0],_,cf_pfits,inlC_ok (O:=OPl) (E:=EPl3) (L:=fun _=>none) rfl mixed Tryz.func111 1 no_loops [0]⟩
noncomputable def EPl4:Env Tryz.prog:=EPl3.add [con_pnext,con_pdone,con_pfits]
abbrev cPr (c:Cd):Cd:=.pair (.sl cL) (.pair (.int .i64) (.pair (.int .i64) c))
abbrev cPs1:Cd:=.pair .nls (.pair .nls (.pair .nls (.int .i64)))
abbrev cPs2:Cd:=.pair (.sl cI3) (.pair .nls (.pair .nls (.int .i64)))
abbrev cPs3:Cd:=.pair (.sl cI3) (.pair (.sl cI3) (.pair .nls (.int .i64)))
abbrev cPs4:Cd:=.pair (.sl cI3) (.pair (.sl cI3) (.pair (.sl cP) (.int .i64)))
abbrev c2I:Cd:=.pair (.int .i64) (.int .i64)
abbrev Par (c:Cd):=El (cPr c)
abbrev spHd (c:Cd):LSpec:=⟨69,[(1,false,.sl c2I),(6,false,.bool),(7,false,.sl (.int .i64)),(9,false,.int .i64)],[(0,0,0)],[(115,cPr c)],fun e=>match e with|.exit _=>[1,6,7]|_=>[]⟩
abbrev I2:=Int×Int
def hdEx {c:Cd} (l:List I2) (b:Bool) (n:List Int) (y:Par c):T (Rd (spHd c)):=.ret (.out (Exit.exit 0) [.one (.ds c2I l),.one (.v (.bool b)),.one (.ds (.int .i64) n)] (y,()))
def hdAg {c:Cd} (l:List I2) (b:Bool) (n:List Int) (i:Int) (y:Par c):T (Rd (spHd c)):=.ret (.again (l,b,n,wi1 i,()) (y,()))
def hdR {c:Cd} (l:List I2) (b:Bool) (n:List Int) (i:Int) (y:Par c):T (Rd (spHd c)):=.ite b (.ite (decide (i<(List.length l:Int))) (.get n i fun v=>.get l i fun p=>.need ((0:Int)≤0∧(0:Int)<2) (.ite (decide (v≥p.1)) (.get n i fun v=>.get l i fun p=>.need ((0:Int)≤1∧(1:Int)<2) (hdAg l (decide (v≤p.2)) n i y)) (hdAg l false n i y))) (hdEx l b n y)) (hdEx l b n y)
theorem tr_hdL1_eq (l:List I2) (b:Bool) (n:List Int) (i:Int) (y:Par cPs1):LSpec.round (spHd cPs1) EPl4 (fun _=>none) (bodyOf Tryz.f108 0) (l,b,n,i,()) (y,())=hdR l b n i y:=by kernel_rfl
theorem tr_hdL2_eq (l:List I2) (b:Bool) (n:List Int) (i:Int) (y:Par cPs2):LSpec.round (spHd cPs2) EPl4 (fun _=>none) (bodyOf Tryz.f108 0) (l,b,n,i,()) (y,())=hdR l b n i y:=by kernel_rfl
theorem tr_hdL3_eq (l:List I2) (b:Bool) (n:List Int) (i:Int) (y:Par cPs3):LSpec.round (spHd cPs3) EPl4 (fun _=>none) (bodyOf Tryz.f108 0) (l,b,n,i,()) (y,())=hdR l b n i y:=by kernel_rfl
def inB (v:Int) (p:I2):Bool:=decide (v≥p.1)&&decide (v≤p.2)
def okH:List Int→List I2→Bool
  | v::n,p::l=>inB v p&&okH n l
  | _,_=>true
def HdInv (l:List I2) (b:Bool) (n:List Int) (i:Int):Prop:=0≤i∧(b=true→List.length n=List.length l)∧List.length l≤1000
def outHd {c:Cd} (x:LSpec.X (spHd c)) (y:LSpec.Y (spHd c)):T (Exit×List Av×LSpec.Y (spHd c)):=
  .need (HdInv x.1 x.2.1 x.2.2.1 x.2.2.2.1) (.ret (.exit 0,[.one (.ds c2I x.1),.one (.v (.bool (x.2.1&&okH (List.drop (Int.toNat x.2.2.2.1) (x.2.2.1:List Int)) (List.drop (Int.toNat x.2.2.2.1) (x.1:List I2))))),.one (.ds (.int .i64) x.2.2.1)],y))
theorem hd_core {c : Cd} (l : List I2) (b : Bool) (n : List Int) (i : Int) (y : Par c) (Q : Exit × List Av × LSpec.Y (spHd c) → Prop) (hq : (outHd (c := c) (l, b, n, i, ()) (y, ())).wp Q) : (hdR l b n i y).wp fun r => match r with
      | .again x' y'=>(List.length x'.1-Int.toNat x'.2.2.2.1)<l.length-i.toNat∧(outHd (c:=c) x' y').wp Q
      | .out e avs y'=>Q (e,avs,y'):=by
  obtain ⟨⟨i0,hb,hl⟩,hq⟩:=hq
  have i0:0≤i:=i0
  have hb:b=true→n.length=l.length:=hb
  have hl:l.length≤1000:=hl
  have hq:Q (.exit 0,[.one (.ds c2I l),.one (.v (.bool (b&&okH (List.drop i.toNat n) (List.drop i.toNat l)))),.one (.ds (.int .i64) n)],(y,())):=hq
  have ex:(b&&okH (List.drop i.toNat n) (List.drop i.toNat l))=b→(hdEx l b n y).wp fun r=>match r with
      | .again x' y'=>(List.length x'.1-Int.toNat x'.2.2.2.1)<l.length-i.toNat∧(outHd (c:=c) x' y').wp Q
      | .out e avs y'=>Q (e,avs,y'):=fun e=>by
    rw[e]at hq
    exact hq
  refine ⟨fun h1=>⟨fun hlt=>?_,fun hge=>ex ?_⟩,fun h1=>ex ?_⟩
  · have h1:b=true:=h1
    have hlt:=of_decide_eq_true hlt
    have hnl:=hb h1
    obtain ⟨p,hp⟩:=elem_at (α:=Int×Int) (l:=l) i0 hlt
    obtain ⟨v,hv⟩:=elem_at (l:=n) i0 (by omega)
    rw[drop_at i0 hp,drop_at i0 hv,okH,h1,Bool.true_and]at hq
    have ag : ∀ b':Bool,(b'=false∨b'=inB v p)→(inB v p&&okH (List.drop (i+1).toNat n) (List.drop (i+1).toNat l))=(b'&&okH (List.drop (i+1).toNat n) (List.drop (i+1).toNat l))→(hdAg l b' n i y).wp fun r=>match r with
      | .again x' y'=>(List.length x'.1-Int.toNat x'.2.2.2.1)<l.length-i.toNat∧(outHd (c:=c) x' y').wp Q
      | .out e avs y'=>Q (e,avs,y'):=fun b' _ e=>by
      rw[e]at hq
      unfold hdAg
      rw[wi1_eq (i:=i) (by omega)]
      exact ⟨show l.length-(i+1).toNat<l.length-i.toNat by omega,wned ⟨show 0≤i+1 by omega,fun _=>hnl,hl⟩ hq⟩
    refine wget i0 hv (wget i0 hp (wned (by decide) ⟨fun h2=>wget i0 hv (wget i0 hp (wned (by decide) (ag _ (.inr ?_) ?_))),fun h2=>ag false (.inl rfl) ?_⟩))
    · unfold inB;rw[show decide (v≥p.1)=true from h2];rfl
    · unfold inB;rw[show decide (v≥p.1)=true from h2];rfl
    · unfold inB;rw[show decide (v≥p.1)=false from h2];rfl
  · have h1:b=true:=h1
    have hge:=of_decide_eq_false hge
    have hnl:=hb h1
    rw[drop_end (l:=n) (by omega),h1]
    rfl
  · have h1:b=false:=h1
    rw[h1];rfl
theorem hdL_ok (c:Cd) (e : ∀ (l:List I2) (b:Bool) (n:List Int) (i:Int) (y:Par c),LSpec.round (spHd c) EPl4 (fun _=>none) (bodyOf Tryz.f108 0) (l,b,n,i,()) (y,())=hdR l b n i y):LoopOk Tryz.prog 1 (bodyOf Tryz.f108 0) ((spHd c).run outHd):=
  loop_ok (E:=EPl4) (L:=fun _=>none) mixed 1 (loops_none _ _ _) (spHd c) (Nat.le_refl 1) outHd (fun x _=>(List.length x.1-Int.toNat x.2.2.2.1)) (by
    rintro ⟨l,b,n,i,⟨⟩⟩ ⟨y,⟨⟩⟩ Q hq
    rw[e l b n i y]
    exact hd_core l b n i y Q hq)
noncomputable def lpHd (c:Cd):Loops:=oneL 5 ((spHd c).run outHd)
def wordU (w:List UInt8):Prop:=w≠[] ∧ ∀ c∈w,c≠10∧c≠35∧bl c=false
def inter:List (List UInt8)→List UInt8
  | []=>[]
  | [w]=>w
  | w::x::r=>w++32::inter (x::r)
def rowU (ws:List (List UInt8)):List UInt8:=inter ws++[10]
theorem inter_join : ∀ ws:List (List UInt8),Lib.join ws [32]=inter ws
  | []=>rfl
  | [w]=>by simp[Lib.join,inter,List.intercalate]
  | w::x::r=>by
    have ih:=inter_join (x::r)
    unfold Lib.join at ih ⊢
    rw[inter,←ih]
    simp[List.intercalate,List.intersperse]
theorem bl_32:bl 32=true:=by decide
theorem w_fgo_nil (cur:List UInt8):fgo cur []=(if cur=[] then [] else [cur]):=rfl
theorem w_fgo_cons (cur r:List UInt8) (h:cur≠[]):fgo cur (32::r)=cur::fgo [] r:=by
  rw[fgo,if_pos bl_32,if_neg h]
theorem fgo_inter : ∀ ws:List (List UInt8),(∀ w∈ws,wordU w)→fgo [] (inter ws)=ws
  | [],_=>rfl
  | [w],h=>by
    obtain ⟨h1,h2⟩:=h w (by simp)
    have e:=fgo_run w [] [] (fun c hc=>(h2 c hc).2.2)
    rw[List.append_nil]at e
    rw[inter,e,List.nil_append,w_fgo_nil,if_neg h1]
  | w::x::r,h=>by
    obtain ⟨h1,h2⟩:=h w (by simp)
    rw[inter,fgo_run w [] _ (fun c hc=>(h2 c hc).2.2),List.nil_append,w_fgo_cons _ _ h1,fgo_inter (x::r) (fun y hy=>h y (by simp at hy ⊢;exact .inr hy))]
theorem inter_no : ∀ ws:List (List UInt8),(∀ w∈ws,wordU w) → ∀ c∈inter ws,c≠10∧c≠35
  | [],_,c,hc=>by cases hc
  | [w],h,c,hc=>by
    have:=(h w (by simp)).2 c hc
    exact ⟨this.1,this.2.1⟩
  | w::x::r,h,c,hc=>by
    rw[inter]at hc
    rcases List.mem_append.1 hc with hc|hc
    · have:=(h w (by simp)).2 c hc
      exact ⟨this.1,this.2.1⟩
    · rcases List.mem_cons.1 hc with rfl|hc
      · decide
      · exact inter_no (x::r) (fun y hy=>h y (by simp at hy ⊢;exact .inr hy)) c hc
theorem tw_all : ∀ (l:List UInt8),(∀ c∈l,c≠35)→l.takeWhile (· != 35)=l
  | [],_=>rfl
  | c::r,h=>by
    rw[List.takeWhile_cons,if_pos (by simpa using h c (by simp)),tw_all r (fun d hd=>h d (by simp[hd]))]
theorem words_inter (ws:List (List UInt8)) (h : ∀ w∈ws,wordU w):wordsB (inter ws)=ws.map mkB:=by
  unfold wordsB
  rw[tw_all _ (fun c hc=>(inter_no ws h c hc).2),fgo_inter ws h]
theorem lf_line : ∀ (l cur r:List UInt8) (n:Int),(∀ c∈l,c≠10)→lf cur (l++10::r) n=one1 (cur++l) n++lf [] r (n+1)
  | [],cur,r,n,_=>by rw[List.nil_append,lf,if_pos rfl,List.append_nil]
  | c::l,cur,r,n,h=>by
    rw[List.cons_append,lf,if_neg (h c (by simp)),lf_line l (cur++[c]) r n (fun d hd=>h d (by simp[hd]))]
    simp
theorem lf_row (ws:List (List UInt8)) (hn:ws≠[]) (h : ∀ w∈ws,wordU w) (r:List UInt8) (n:Int):lf [] (rowU ws++r) n=(n+1,ws.map mkB)::lf [] r (n+1):=by
  unfold rowU
  rw[List.append_assoc,List.singleton_append,lf_line _ _ _ _ (fun c hc=>(inter_no ws h c hc).1),List.nil_append]
  unfold one1
  rw[words_inter ws h,if_pos (by cases ws with|nil=>exact absurd rfl hn|cons a b=>simp)]
  rfl
def rowsU:List (List (List UInt8))→List UInt8
  | []=>[]
  | r::l=>rowU r++rowsU l
def rowsL:List (List (List UInt8))→Int→List (Int×List ByteArray)
  | [],_=>[]
  | r::l,n=>(n+1,r.map mkB)::rowsL l (n+1)
theorem lf_rows : ∀ (l:List (List (List UInt8))) (n:Int),(∀ ws∈l,ws≠[] ∧ ∀ w∈ws,wordU w)→lf [] (rowsU l) n=rowsL l n
  | [],n,_=>rfl
  | r::l,n,h=>by
    obtain ⟨h1,h2⟩:=h r (by simp)
    rw[rowsU,lf_row r h1 h2,lf_rows l (n+1) (fun ws hw=>h ws (by simp[hw]))]
    rfl
theorem linesOf_rows (l:List (List (List UInt8))) (h : ∀ ws∈l,ws≠[] ∧ ∀ w∈ws,wordU w) (s:ByteArray) (hs:s.data.toList=rowsU l):linesOf s=rowsL l 0:=by
  rw[linesOf_lf,hs,lf_rows l 0 h]
theorem fgo_word : ∀ (l cur:List UInt8),∀ w∈fgo cur l,w.length≤cur.length+l.length
  | [],cur,w,h=>by
    rw[fgo]at h
    split at h
    · cases h
    · rw[List.mem_singleton]at h;subst h;simp
  | c::r,cur,w,h=>by
    rw[fgo]at h
    split at h
    · split at h
      · have:=fgo_word r [] w h;simp at this ⊢;omega
      · rcases List.mem_cons.1 h with rfl|h
        · simp
        · have:=fgo_word r [] w h;simp at this ⊢;omega
    · have:=fgo_word r (cur++[c]) w h;simp at this ⊢;omega
theorem wordsB_size (l:List UInt8) : ∀ w∈wordsB l,w.size≤l.length:=by
  intro w hw
  unfold wordsB at hw
  obtain ⟨u,hu,rfl⟩:=List.mem_map.1 hw
  have h:=fgo_word _ [] u hu
  have:=(List.takeWhile_prefix (p:=(· != 35)) (l:=l)).length_le
  show u.toArray.size≤_
  simp at h ⊢;omega
theorem lf_size : ∀ (l cur:List UInt8) (n:Int),∀ e∈lf cur l n,∀ w∈e.2,w.size≤cur.length+l.length
  | [],cur,n,e,he,w,hw=>by
    rw[lf,one1]at he
    split at he
    · rw[List.mem_singleton]at he;subst he
      have:=wordsB_size cur w hw;simpa using this
    · cases he
  | c::r,cur,n,e,he,w,hw=>by
    rw[lf]at he
    split at he
    · rcases List.mem_append.1 he with he|he
      · unfold one1 at he
        split at he
        · rw[List.mem_singleton]at he;subst he
          have:=wordsB_size cur w hw;simp;omega
        · cases he
      · have:=lf_size r [] (n+1) e he w hw;simp at this ⊢;omega
    · have:=lf_size r (cur++[c]) n e he w hw;simp at this ⊢;omega
theorem lines_size (s:ByteArray) : ∀ e∈linesOf s,∀ w∈e.2,w.size≤s.size:=by
  intro e he w hw
  rw[linesOf_lf]at he
  have:=lf_size _ [] 0 e he w hw
  rw[←Lib.size_eq]at this
  simpa using this
def setL {c:Cd} (y:Par c) (ls:LLw):Par c:=(ls,y.2)
def setW {c:Cd} (y:Par c) (w:Int):Par c:=(y.1,y.2.1,w,y.2.2.2)
abbrev TH (c:Cd):=T (Av×Par c)
def hZ {c:Cd} (l:List I2) (y:Par c):TH c:=.need (0≤(List.length l:Int)∧(List.length l:Int)=(List.length l:Int)∧8*(List.length l:Int).toNat≤281474976710656∧(List.length l:Int).toNat≤maxLen) (.need ((List.length l:Int).toNat≤(List.replicate (List.length l:Int).toNat (zE (.int .i64))).length) (.ret (.one (.ds (.int .i64) (List.take (List.length l:Int).toNat (List.replicate (List.length l:Int).toNat (zE (.int .i64))))),y)))
def hFin {c:Cd} (l:List I2) (d:Bool) (n:List Int) (y:Par c):TH c:=match d with
  | false=>hZ l y
  | true=>.ret (.one (.ds (.int .i64) n),y)
def hDone {c:Cd} (l:List I2) (b:Bool) (n:List Int) (y:Par c):TH c:=.ite (decide (y.2.2.1>0)) (hFin l false n y) (.ite (!b) (.get y.1 0 fun a=>hFin l false n (setW y a.1)) (.need ((0:Int)≤1∧(1:Int)≤List.length y.1∧(List.length y.1:Int)≤List.length y.1) (hFin l true n (setL y (List.drop (Int.toNat 1) (List.take (Int.toNat (List.length y.1:Int)) y.1))))))
def hInts {c:Cd} (l:List I2) (ok:Bool) (w:List ByteArray) (y:Par c):TH c:=.need (List.length w≤1000000 ∧ ∀ x∈w,x.size≤900000) (.need (HdInv l (ok&&w.all lintB) (pintsV w) 0) (hDone l ((ok&&w.all lintB)&&okH (List.drop (Int.toNat 0) (pintsV w)) (List.drop (Int.toNat 0) l)) (pintsV w) y))
def hTree {c:Cd} (l:List I2) (y:Par c):TH c:=.ite (decide (y.2.2.1>0)) (hInts l false [] y) (.ite ((List.length y.1:Int)==0) (hInts l false [] (setW y (wi1 y.2.1))) (.get y.1 0 fun a=>.ite ((List.length a.2:Int) != (List.length l:Int)) (.get y.1 0 fun a=>hInts l false [] (setW y a.1)) (hInts l true a.2 y)))
theorem tr_phead1_eq (l:List I2) (y:Par cPs1):ptr1 EPl4 (lpHd cPs1) Tryz.f108 0 115 (cPr cPs1) y (encs [(false,.sl c2I)] (l,()))=hTree l y:=by kernel_rfl
theorem tr_phead2_eq (l:List I2) (y:Par cPs2):ptr1 EPl4 (lpHd cPs2) Tryz.f108 0 115 (cPr cPs2) y (encs [(false,.sl c2I)] (l,()))=hTree l y:=by kernel_rfl
theorem tr_phead3_eq (l:List I2) (y:Par cPs3):ptr1 EPl4 (lpHd cPs3) Tryz.f108 0 115 (cPr cPs3) y (encs [(false,.sl c2I)] (l,()))=hTree l y:=by kernel_rfl
def LOk (ls:LLw):Prop := ∀ a∈ls,0<a.1∧a.1≤1000000∧a.2.length≤1000000 ∧ ∀ w∈a.2,w.size≤900000
def YOk {c:Cd} (y:Par c):Prop:=LOk y.1∧0≤(y.2.1:Int)∧(y.2.1:Int)≤1000000∧List.length y.1≤1000000
def lnOk (l:List I2) (w:List ByteArray):Bool:=decide (w.length=l.length)&&(w.all lintB&&okH (w.map wiv) l)
def hdOk {c:Cd} (l:List I2) (y:Par c):Bool:=decide ((y.2.2.1:Int)≤0)&&(match (y.1:LLw) with
  | []=>false
  | a::_=>lnOk l a.2)
def hdV {c:Cd} (l:List I2) (y:Par c):List Int:=if hdOk l y=true then (whead y.1).map wiv else List.replicate l.length 0
def hdSt {c:Cd} (l:List I2) (y:Par c):Par c:=if 0<(y.2.2.1:Int) then y else (match (y.1:LLw) with
  | []=>setW y (y.2.1+1)
  | a::r=>if lnOk l a.2=true then setL y r else setW y a.1)
theorem hZ_wp {c:Cd} {l:List I2} {y:Par c} (hl:l.length≤1000):(hZ l y).wp (· = (.one (.ds (.int .i64) (List.replicate l.length (0:Int))),y)):=by
  have hM:maxLen=9223372036854775807:=rfl
  unfold hZ
  rw[Int.toNat_natCast]
  refine wned ⟨by omega,rfl,by omega,by omega⟩ (wned (by rw[List.length_replicate];exact Nat.le_refl _) ?_)
  rw[List.take_of_length_le (by rw[List.length_replicate];exact Nat.le_refl _)]
  rfl
theorem hBad_wp {c:Cd} {l:List I2} {b:Bool} {n:List Int} {y:Par c} (hl:l.length≤1000) (hw:0<(y.2.2.1:Int)):(hDone l b n y).wp (· = (.one (.ds (.int .i64) (List.replicate l.length (0:Int))),y)):=by
  unfold hDone hFin
  exact witt (decide_eq_true hw) (hZ_wp hl)
theorem hInts_bad {c:Cd} {l:List I2} {y:Par c} (hl:l.length≤1000) (hw:0<(y.2.2.1:Int)):(hInts l false [] y).wp (· = (.one (.ds (.int .i64) (List.replicate l.length (0:Int))),y)):=
  wned ⟨Nat.zero_le _,fun x h=>by cases h⟩ (wned ⟨Int.le_refl 0,(fun h=>by cases h),hl⟩ (hBad_wp hl hw))
theorem hTree_wp' {c:Cd} {l:List I2} (ls:LLw) (nl wr:Int) (z:El c) (hl:l.length≤1000) (hy:YOk (c:=c) (ls,nl,wr,z)):(hTree (c:=c) l (ls,nl,wr,z)).wp (· = (.one (.ds (.int .i64) (hdV (c:=c) l (ls,nl,wr,z))),hdSt (c:=c) l (ls,nl,wr,z))):=by
  obtain ⟨h1,h2,h3,h4⟩:=hy
  have h1:LOk ls:=h1
  have h2:0≤nl:=h2
  have h3:nl≤1000000:=h3
  have h4:ls.length≤1000000:=h4
  unfold hTree
  refine ⟨fun hw=>?_,fun hw=>?_⟩
  · have hw:wr>0:=of_decide_eq_true hw
    have e1:hdV (c:=c) l (ls,nl,wr,z)=List.replicate l.length 0:=by
      unfold hdV hdOk
      rw[if_neg (by rw[decide_eq_false (show ¬ wr≤0 by omega)];simp)]
    have e2:hdSt (c:=c) l (ls,nl,wr,z)=(ls,nl,wr,z):=by unfold hdSt;rw[if_pos (show 0<wr from hw)]
    rw[e1,e2]
    exact hInts_bad hl hw
  · have hwn:¬ 0<wr:=of_decide_eq_false hw
    clear hw
    have hw0:decide (wr≤0)=true:=decide_eq_true (by omega)
    cases ls with
    | nil =>
      refine witt (by simp) ?_
      have e1:hdV (c:=c) l ([],nl,wr,z)=List.replicate l.length 0:=by
        unfold hdV hdOk
        rw[if_neg (by simp)]
      have e2:hdSt (c:=c) l ([],nl,wr,z)=setW (c:=c) ([],nl,wr,z) (wi1 nl):=by
        unfold hdSt
        rw[if_neg (show ¬ 0<wr from hwn),wi1_eq (i:=nl) (by omega)]
      rw[e1,e2]
      exact hInts_bad hl (by show 0<wi1 nl;rw[wi1_eq (i:=nl) (by omega)];omega)
    | cons a r =>
      obtain ⟨p1,p2,p3,p4⟩:=h1 a (by simp)
      refine witf (beq_false_of_ne (by simp only[List.length_cons];omega)) (wget (v:=a) (Int.le_refl 0) rfl ⟨fun hn=>wget (v:=a) (Int.le_refl 0) rfl ?_,fun hn=>?_⟩)
      · have hn:¬ a.2.length=l.length:=fun e=>by rw[e]at hn;simp at hn
        have e0:lnOk l a.2=false:=by unfold lnOk;rw[decide_eq_false hn];rfl
        have e1:hdV (c:=c) l (a::r,nl,wr,z)=List.replicate l.length 0:=by
          unfold hdV hdOk
          rw[if_neg (by simp only[e0,Bool.and_false];exact Bool.false_ne_true)]
        have e2:hdSt (c:=c) l (a::r,nl,wr,z)=setW (c:=c) (a::r,nl,wr,z) a.1:=by
          unfold hdSt
          rw[if_neg (show ¬ 0<wr from hwn)]
          simp only[e0]
          exact if_neg Bool.false_ne_true
        rw[e1,e2]
        exact hInts_bad hl (show 0<a.1 from p1)
      · have hn:a.2.length=l.length:=by
          have:(a.2.length:Int)=l.length:=by simpa using hn
          omega
        have eo:((true&&a.2.all lintB)&&okH (List.drop (Int.toNat 0) (pintsV a.2)) (List.drop (Int.toNat 0) l))=lnOk l a.2:=by
          unfold lnOk pintsV
          rw[decide_eq_true hn,Bool.true_and,Bool.true_and,Int.toNat_zero,List.drop_zero,List.drop_zero]
          cases a.2.all lintB <;> rfl
        refine wned ⟨p3,p4⟩ (wned ⟨Int.le_refl 0,fun h=>?_,hl⟩ ?_)
        · unfold pintsV
          rw[Bool.true_and]at h
          rw[if_pos h,List.length_map];exact hn
        · rw[eo]
          unfold hDone hFin
          refine witf (decide_eq_false hwn) ⟨fun h=>wget (v:=a) (Int.le_refl 0) rfl ?_,fun h=>wned ⟨by decide,by simp only[List.length_cons];omega,Int.le_refl _⟩ ?_⟩
          · have e0:lnOk l a.2=false:=by simpa using h
            have e1:hdV (c:=c) l (a::r,nl,wr,z)=List.replicate l.length 0:=by
              unfold hdV hdOk
              rw[if_neg (by simp only[e0,Bool.and_false];exact Bool.false_ne_true)]
            have e2:hdSt (c:=c) l (a::r,nl,wr,z)=setW (c:=c) (a::r,nl,wr,z) a.1:=by
              unfold hdSt
              rw[if_neg (show ¬ 0<wr from hwn)]
              simp only[e0]
              exact if_neg Bool.false_ne_true
            rw[e1,e2]
            exact hZ_wp hl
          · have e0:lnOk l a.2=true:=by simpa using h
            have el:a.2.all lintB=true:=by
              unfold lnOk at e0
              simp only[Bool.and_eq_true]at e0
              exact e0.2.1
            have e1:hdV (c:=c) l (a::r,nl,wr,z)=a.2.map wiv:=by
              unfold hdV hdOk
              rw[if_pos (by simp only[e0,Bool.and_true];exact hw0)]
              rfl
            have e2:hdSt (c:=c) l (a::r,nl,wr,z)=(r,nl,wr,z):=by
              unfold hdSt
              rw[if_neg (show ¬ 0<wr from hwn)]
              simp only[e0,if_true]
              rfl
            rw[e1,e2]
            unfold pintsV
            rw[if_pos el,Int.toNat_natCast,List.take_length]
            rfl
theorem hTree_wp {c:Cd} {l:List I2} {y:Par c} (hl:l.length≤1000) (hy:YOk y):(hTree l y).wp (· = (.one (.ds (.int .i64) (hdV l y)),hdSt l y)):=by
  obtain ⟨ls,nl,wr,z⟩:=y
  exact hTree_wp' ls nl wr z hl hy
theorem phead_ok (c:Cd) (hL : ∀ b,Tryz.f108.body=some b→LoopsOk Tryz.prog 1 (lpHd c) b) (e : ∀ (l:List I2) (y:Par c),ptr1 EPl4 (lpHd c) Tryz.f108 0 115 (cPr c) y (encs [(false,.sl c2I)] (l,()))=hTree l y) :
    ConOk Tryz.prog 108 [0] (ptr1Run 0 115 (cPr c) [(false,.sl c2I)] (fun y x=>.need (YOk (c:=c) y∧List.length x.1≤1000) (.ret (.one (.ds (.int .i64) (hdV (c:=c) x.1 y)),hdSt (c:=c) x.1 y)))):=
  ptr1_ok (E:=EPl4) (L:=lpHd c) mixed Tryz.func108 hL 0 115 (cPr c) [(false,.sl c2I)] _ fun y x Q hq=>by
  obtain ⟨l,u⟩:=x
  have h1:YOk (c:=c) y∧List.length l≤1000:=hq.1
  have hq:=hq.2
  rw[show ptr1 EPl4 (lpHd c) Tryz.f108 0 115 (cPr c) y (encs [(false,.sl c2I)] (l,u))=hTree l y from e l y]
  exact T.wp_mono (fun r hr=>by rw[hr];exact hq) (hTree_wp h1.2 h1.1)
noncomputable def con_phead1:Con Tryz.prog:=⟨108,[0],_,cf_phead,phead_ok cPs1 (one_loop (hdL_ok cPs1 tr_hdL1_eq) (by kernel_rfl)) tr_phead1_eq⟩
noncomputable def con_phead2:Con Tryz.prog:=⟨108,[0],_,cf_phead,phead_ok cPs2 (one_loop (hdL_ok cPs2 tr_hdL2_eq) (by kernel_rfl)) tr_phead2_eq⟩
noncomputable def con_phead3:Con Tryz.prog:=⟨108,[0],_,cf_phead,phead_ok cPs3 (one_loop (hdL_ok cPs3 tr_hdL3_eq) (by kernel_rfl)) tr_phead3_eq⟩
noncomputable def EPl5:Env Tryz.prog:=EPl4.add [con_phead1]
end Go.Proofs.YtbkfakkkikmcbaaGreatDoor
namespace Ax
open Go Go.RowKit
section
end
section
variable {P:Program} {con:List (Con P)}
def HSpec.roundC (sp:HSpec) (O:Opt con) (E:Env P) (L:Loops) (body:Code) (x:sp.X) (y:sp.Y) (g:sp.G):T (HRd sp):=
  fSt (sp.head x y g) fun st=>(codeC O (E.at_ sp.bs.length) L body st).bind fun r=>match r.1 with
    | .normal=>fSt r.2 fun st=>(sp.canon sp.sl (sp.vs.map (·.1)) st).bind fun st=>fSt st fun st=>(match sp.dec st with
      | some (x',y',g',p)=>needAll p (.ret (.again x' y' g'))
      | none=>.fail)
    | e=>fSt r.2 fun st=>(sp.canon (sp.exL e) (sp.ex e) st).bind fun st=>fSt st fun st=>(match sp.decE e st with
      | some (avs,y',g',p)=>needAll p (.ret (.out e avs y' g'))
      | none=>.fail)
theorem HSpec.roundC_wp {sp:HSpec} {O:Opt con} {E:Env P} (hE:E.con=con) {L:Loops} {body:Code} {x:sp.X} {y:sp.Y} {g:sp.G} {Q:HRd sp→Prop} (h:(sp.roundC O E L body x y g).wp Q):(sp.round E L body x y g).wp Q:=by
  unfold HSpec.roundC at h
  unfold HSpec.round
  simp only[fSt_eq]at h
  rw[T.wp_bind]at h ⊢
  exact codeC_wp (E:=E.at_ sp.bs.length) hE body _ h
theorem loopHC_ok {O:Opt con} {E:Env P} (hE:E.con=con) {L:Loops} (hm:P.follows .mixedOrders=true) (k:Nat) {body:Code} (hL:LoopsOk P k L body) (sp:HSpec) (hk:k≤sp.bs.length) (out:sp.X→sp.Y→sp.G→T (Exit×List Av×sp.Y×sp.G)) (μ:sp.X→sp.Y→sp.G→Nat)
    (hb : ∀ x y g Q,(out x y g).wp Q → ∃ t,sp.roundC O E L body x y g=t∧t.wp fun r=>match r with
      | .again x' y' g'=>μ x' y' g'<μ x y g∧(out x' y' g').wp Q
      | .out e avs y' g'=>Q (e,avs,y',g')):LoopOk P k body (sp.run out):=
  loopH_ok (E:=E) (L:=L) hm k hL sp hk out μ fun x y g Q h=>HSpec.roundC_wp hE (by obtain ⟨t,e,ht⟩:=hb x y g Q h;rw[e];exact ht)
end
end Ax
namespace Go.Proofs.YtbkfakkkikmcbaaGreatDoor
open Go.RowKit Ax
def kb1:Av→Av
  | .one (.v (.bool b))=>.one (.kb b)
  | a=>a
def kbA:Av→Av
  | .tup l=>.tup (l.map kb1)
  | a=>kb1 a
theorem kb1_is {w:World} {R:Nat→Prop} {σ:List Nat} {a:Av} {v:Value} (h:AvIs w R σ a v):AvIs w R σ (kb1 a) v:=by
  unfold kb1
  split
  · rw[val_of h rfl]
    exact .one rfl (.kb .nil)
  · exact h
theorem kbA_is {w:World} {R:Nat→Prop} {σ:List Nat} {a:Av} {v:Value} (h:AvIs w R σ a v):AvIs w R σ (kbA a) v:=by
  unfold kbA
  split
  · cases h with
    | tup us hl hi =>
      refine .tup us (by rw[List.length_map];exact hl) fun i x u hx hu=>?_
      rw[List.getElem?_map]at hx
      obtain ⟨y,hy,rfl⟩:=Option.map_eq_some_iff.1 hx
      exact kb1_is (hi i y u hy hu)
  · exact kb1_is h
theorem con_kb {P:Program} {f:FuncId} {pos:List Nat} {r0:List Av→Mem→T (Av×Mem)} (h0:ConOk P f pos r0):ConOk P f pos (fun args m=>(r0 args m).bind fun r=>.ret (kbA r.1,r.2)):=
  con_weaken h0 fun args m Q hq=>by
    rw[T.wp_bind]at hq
    exact T.wp_mono (fun r hr=>⟨kbA r.1,hr,fun _ _ _ _ h=>kbA_is h⟩) hq
noncomputable def con_pnext4:Con Tryz.prog:=⟨109,[0],_,cf_pnext,inlC_ok (O:=OPl) (E:=EPl3) (L:=fun _=>none) rfl mixed Tryz.func109 4 no_loops [0]⟩
noncomputable def con_pdone4:Con Tryz.prog:=⟨112,[0],_,cf_pdone,inlC_ok (O:=OPl) (E:=EPl3) (L:=fun _=>none) rfl mixed Tryz.func112 4 no_loops [0]⟩
noncomputable def con_pfits4:Con Tryz.prog:=⟨111,[0],_,cf_pfits,inlC_ok (O:=OPl) (E:=EPl3) (L:=fun _=>none) rfl mixed Tryz.func111 4 no_loops [0]⟩
noncomputable def con_pnextK:Con Tryz.prog:=⟨109,[0],_,cf_pnext,con_kb con_pnext4.ok⟩
noncomputable def con_pdoneK:Con Tryz.prog:=⟨112,[0],_,cf_pdone,con_kb con_pdone4.ok⟩
noncomputable def zeroVert:Zero Tryz.prog:=zOf 73 cI3 rfl (by kernel_rfl)
noncomputable def codVert:Cod Tryz.prog:=⟨73,cI3,by kernel_rfl,⟨.agg (zU cI3).toArray,fun w=>by kernel_rfl⟩⟩
noncomputable def zero2I:Zero Tryz.prog:=zOf 173 c2I rfl (by kernel_rfl)
noncomputable def cod2I:Cod Tryz.prog:=⟨173,c2I,by kernel_rfl,⟨.agg (zU c2I).toArray,fun w=>by kernel_rfl⟩⟩
noncomputable def EPl6:Env Tryz.prog:=⟨con_pnextK::con_pdoneK::con_pfits4::EPl5.con,zeroVert::zero2I::EPl5.zero,codVert::cod2I::EPl5.cod,EPl5.sure,EPl5.base,EPl5.frz⟩
abbrev shV:List BSh:=[.d (.sl cL),.d (.int .i64),.d (.int .i64),.r 0,.d .nls,.d .nls,.d (.int .i64)]
noncomputable def OP6:Opt EPl6.con:=⟨[],[],fun _=>none⟩
abbrev spVt:HSpec:=⟨103,[(2,false,.sl (.int .i64)),(19,false,.int .i64),(20,false,.int .i64)],[(0,0,0)],[(115,shV)],[(73,cI3)],[],fun _=>[],fun _=>[]⟩
abbrev YV:=EBs shV
abbrev GV:=Gr (El cI3)
abbrev V3:=Int×Int×Int
abbrev TV:=T (HRd spVt)
def ndV {β:Type} (n:Nat) (g:GV) (K:T β):T β:=match g with
  | none=>K
  | some r=>.need (n=r.1.length∧r.2=r.2) K
def yW (y:YV) (w:Int):YV:=(y.1,y.2.1,w,y.2.2.2)
def yL (y:YV) (ls:LLw):YV:=(ls,y.2)
def yF (y:YV) (f:Int):YV:=(y.1,y.2.1,y.2.2.1,y.2.2.2.1,y.2.2.2.2.1,f,())
def vRet (y:YV) (g:GV):TV:=ndV (gl g) g (.ret (.out Exit.ret [] (y,()) (g,())))
def vAp1 (h:List Int) (n i:Int) (v:V3) (y:YV) (g:GV):TV:=appG 23 g v fun m g'=>ndV m g' (.ret (.again (h,n,wi1 i,()) (y,()) (g',())))
def vApp (h:List Int) (n i:Int) (v:V3) (y:YV) (g:GV):TV:=.need (True∧True∧True) (vAp1 h n i v y g)
def vNot (kn ok:Bool) (A B:TV):TV:=match kn with
  | true=>match ok with
    | true=>B
    | false=>A
  | false=>.ite (!ok) A B
def vDone (h:List Int) (n i:Int) (kn ok:Bool) (v:V3) (y:YV) (g:GV):TV:=.ite (decide (y.2.2.1>0)) (vRet y g) (vNot kn ok (.get y.1 0 fun l=>vRet (yW y l.1) g) (.need ((0:Int)≤1∧(1:Int)≤List.length y.1∧(List.length y.1:Int)≤List.length y.1) (vApp h n i v (yL y (List.drop (Int.toNat 1) (List.take (Int.toNat (List.length y.1:Int)) y.1))) g)))
def vAnd (kn ok:Bool) (m:ByteArray) (K:Bool→Bool→TV):TV:=match kn with
  | true=>match ok with
    | true=>K false (lintB m)
    | false=>K true false
  | false=>.ite ok (K false (lintB m)) (K true false)
def vMark (h:List Int) (n i:Int) (w:List ByteArray) (kn ok:Bool) (a b:Int) (y:YV) (g:GV):TV:=.get h 3 fun k=>.ite (decide (k>0)) (.get w (IntKind.wrap .i64 ((List.length w:Int)-1)) fun m=>.need (ByteArray.size m≤281474976710656) (vAnd kn ok m fun kn ok=>vDone h n i kn ok (a,b,wiv m) y g)) (vDone h n i kn ok (a,b,0) y g)
def vFits (i n0:Int) (y:YV) (K:Bool→Bool→YV→TV):TV:=.ite (i==0) (.ite (n0==0) (K true true (yF y n0)) (K false (n0==1) (yF y n0))) (K false (n0==IntKind.wrap .i64 (y.2.2.2.2.2.1+i)) y)
def vBody (h:List Int) (n i:Int) (w:List ByteArray) (y:YV) (g:GV):TV:=.need ((0:Int)≤0∧(0:Int)≤3∧(3:Int)≤List.length w) (.need (List.length (List.drop (Int.toNat 0) (List.take (Int.toNat 3) w))≤1000000 ∧ ∀ x∈List.drop (Int.toNat 0) (List.take (Int.toNat 3) w),x.size≤900000)
  (.ite (List.all (List.drop (Int.toNat 0) (List.take (Int.toNat 3) w)) lintB) (.get (pintsV (List.drop (Int.toNat 0) (List.take (Int.toNat 3) w))) 0 fun n0=>vFits i n0 y fun kn ok y=>.get (pintsV (List.drop (Int.toNat 0) (List.take (Int.toNat 3) w))) 1 fun a=>.get (pintsV (List.drop (Int.toNat 0) (List.take (Int.toNat 3) w))) 2 fun b=>vMark h n i w kn ok a b y g)
    (vMark h n i w false (List.all (List.drop (Int.toNat 0) (List.take (Int.toNat 3) w)) lintB) 0 0 y g)))
def vNext (h:List Int) (n i want:Int) (y:YV) (g:GV):TV:=.ite (decide (y.2.2.1>0)) (vRet y g) (.ite ((List.length y.1:Int)==0) (vRet (yW y (wi1 y.2.1)) g) (.get y.1 0 fun l=>.ite ((List.length l.2:Int) != want) (.get y.1 0 fun l=>vRet (yW y l.1) g) (vBody h n i l.2 y g)))
def vR (h:List Int) (n i:Int) (y:YV) (g:GV):TV:=.ite (decide (i<n)) (.get h 2 fun a=>.get h 3 fun b=>vNext h n i (IntKind.wrap .i64 (IntKind.wrap .i64 (3+a)+b)) y g) (ndV (gl g) g (.ret (.out (Exit.exit 0) [] (y,()) (g,()))))
theorem tr_vtL_eq (h:List Int) (n i:Int) (ls:LLw) (nl wr:Int) (S H:Unit) (f:Int) (xs:List V3) (cap:Nat):HSpec.roundC spVt OP6 EPl6 (fun _=>none) (bodyOf Tryz.f57 0) (h,n,i,()) ((ls,nl,wr,S,H,f,()),()) (some (xs,cap),())=vR h n i (ls,nl,wr,S,H,f,()) (some (xs,cap)):=by kernel_rfl
theorem tr_vtL0_eq (h:List Int) (n i:Int) (ls:LLw) (nl wr:Int) (S H:Unit) (f:Int):HSpec.roundC spVt OP6 EPl6 (fun _=>none) (bodyOf Tryz.f57 0) (h,n,i,()) ((ls,nl,wr,S,H,f,()),()) (none,())=vR h n i (ls,nl,wr,S,H,f,()) none:=by kernel_rfl
theorem ndV_wp {β:Type} {n:Nat} {g:GV} {K:T β} {R:β→Prop} (h:gnd n g) (hk:K.wp R):(ndV n g K).wp R:=by
  cases g with
  | none=>exact hk
  | some r=>exact ⟨h,hk⟩
def finV {A B C:Type} (e:A) (avs:B) (y:C) (g:GV×Unit) (W:List V3):T (A×B×C×(GV×Unit)):=(finG e avs y g.1 W).bind fun r=>.ret (r.1,r.2.1,r.2.2.1,(r.2.2.2,()))
theorem finV_nil {A B C:Type} {e:A} {avs:B} {y:C} {g:GV} {Q:A×B×C×(GV×Unit)→Prop} (h:(finV e avs y (g,()) []).wp Q):Q (e,avs,y,(g,())):=by
  unfold finV at h
  rw[T.wp_bind]at h
  exact finG_nil h
theorem finV_cons {A B C:Type} {e:A} {avs:B} {y:C} {g:GV} {v:V3} {W:List V3} {Q:A×B×C×(GV×Unit)→Prop} (h:(finV e avs y (g,()) (v::W)).wp Q) (k:Nat):(finV e avs y (some (gx g++[v],k),()) W).wp Q:=by
  unfold finV at h ⊢
  rw[T.wp_bind]at h ⊢
  exact finG_cons h k
def hAt (h:List Int) (k:Nat):Int:=(h[k]?).getD 0
def fitB (i n0 f:Int):Bool:=if i=0 then (n0==0||n0==1) else n0==f+i
def vAll (w:List ByteArray):Bool:=(w.take 3).all lintB
def lastW (b:Int) (w:List ByteArray):Bool:=if 0<b then lintB (wat w (w.length-1)) else true
def vOk (b i f:Int) (w:List ByteArray):Bool:=(vAll w&&fitB i (wiv (wat w 0)) f)&&lastW b w
def vRow (b:Int) (w:List ByteArray):V3:=(wiv (wat w 1),wiv (wat w 2),if 0<b then wiv (wat w (w.length-1)) else 0)
def vFst (i f:Int) (w:List ByteArray):Int:=if vAll w=true∧i=0 then wiv (wat w 0) else f
def vtGo (h:List Int):Nat→Int→YV→List V3×YV×Bool
  | 0,_,y=>([],y,true)
  | k+1,i,y=>match (y.1:LLw) with
    | []=>([],yW y (y.2.1+1),false)
    | l::r=>if (l.2.length:Int)=3+hAt h 2+hAt h 3 then (if vOk (hAt h 3) i y.2.2.2.2.2.1 l.2=true then (vRow (hAt h 3) l.2::(vtGo h k (i+1) (yL (yF y (vFst i y.2.2.2.2.2.1 l.2)) r)).1,(vtGo h k (i+1) (yL (yF y (vFst i y.2.2.2.2.2.1 l.2)) r)).2) else ([],yW (yF y (vFst i y.2.2.2.2.2.1 l.2)) l.1,false)) else ([],yW y l.1,false)
structure VInv (h:List Int) (n i:Int) (y:YV) (m:Nat):Prop where
  h4:h.length=4
  h2:0≤hAt h 2∧hAt h 2≤2
  h3:0≤hAt h 3∧hAt h 3≤1
  hn:n≤1000
  hi:0≤i
  hls:LOk y.1
  hlz:List.length y.1≤1000000
  hnl:0≤(y.2.1:Int)∧(y.2.1:Int)≤1000000
  hwr:i<n→(y.2.2.1:Int)≤0
  hf:0<i→0≤(y.2.2.2.2.2.1:Int)∧(y.2.2.2.2.2.1:Int)≤1
  hg:(m:Int)≤i
def outVt (x:HSpec.X spVt) (y:HSpec.Y spVt) (g:HSpec.G spVt):T (Exit×List Av×HSpec.Y spVt×HSpec.G spVt):=
  .need (VInv x.1 x.2.1 x.2.2.1 y.1 (gl (α:=V3) g.1)) (.ite (vtGo x.1 (x.2.1-x.2.2.1).toNat x.2.2.1 y.1).2.2 (finV (Exit.exit 0) [] ((vtGo x.1 (x.2.1-x.2.2.1).toNat x.2.2.1 y.1).2.1,()) g (vtGo x.1 (x.2.1-x.2.2.1).toNat x.2.2.1 y.1).1) (finV Exit.ret [] ((vtGo x.1 (x.2.1-x.2.2.1).toNat x.2.2.1 y.1).2.1,()) g (vtGo x.1 (x.2.1-x.2.2.1).toNat x.2.2.1 y.1).1))
section
variable {h:List Int} {n i:Int} {g:GV} {R:HRd spVt→Prop}
theorem vRet_wp {y:YV} (hr:R (.out Exit.ret [] (y,()) (g,()))):(vRet y g).wp R:=ndV_wp (gnd_gl g) hr
theorem vNot_wp {kn ok:Bool} {A B:TV} (h0:ok=false→A.wp R) (h1:ok=true→B.wp R):(vNot kn ok A B).wp R:=by
  unfold vNot
  cases kn <;> cases ok
  · exact witt rfl (h0 rfl)
  · exact witf rfl (h1 rfl)
  · exact h0 rfl
  · exact h1 rfl
theorem vDone_wp {kn ok:Bool} {v:V3} {y:YV} {l:Int×List ByteArray} {r:LLw} (hw:¬ 0<(y.2.2.1:Int)) (hl:y.1=l::r) (h0:ok=false→R (.out Exit.ret [] (yW y l.1,()) (g,()))) (h1:ok=true→(vAp1 h n i v (yL y r) g).wp R):(vDone h n i kn ok v y g).wp R:=by
  obtain ⟨ls,y2⟩:=y
  have hl:ls=l::r:=hl
  subst hl
  unfold vDone vApp
  refine witf (decide_eq_false hw) (vNot_wp (fun e=>?_) fun e=>wned ⟨by decide,by simp only[List.length_cons];omega,Int.le_refl _⟩ ?_)
  · exact wget (v:=l) (Int.le_refl 0) rfl (vRet_wp (h0 e))
  · have:=h1 e
    rw[Int.toNat_natCast,List.take_length]
    exact wned ⟨trivial,trivial,trivial⟩ this
theorem vAnd_wp {kn ok:Bool} {m:ByteArray} {K:Bool→Bool→TV} (hk : ∀ kn',(K kn' (ok&&lintB m)).wp R):(vAnd kn ok m K).wp R:=by
  unfold vAnd
  cases kn <;> cases ok <;> simp only[Bool.true_and,Bool.false_and]at hk
  · exact witf rfl (hk _)
  · exact witt rfl (hk _)
  · exact hk _
  · exact hk _
theorem vMark_wp {w:List ByteArray} {kn ok:Bool} {a b:Int} {y:YV} {l:Int×List ByteArray} {r:LLw} (h4:h.length=4) (hn:3≤w.length) (hz:w.length≤1000000) (hs : ∀ x∈w,x.size≤900000) (hw:¬ 0<(y.2.2.1:Int)) (hl:y.1=l::r)
    (h0:(ok&&lastW (hAt h 3) w)=false→R (.out Exit.ret [] (yW y l.1,()) (g,()))) (h1:(ok&&lastW (hAt h 3) w)=true→(vAp1 h n i (a,b,if 0<hAt h 3 then wiv (wat w (w.length-1)) else 0) (yL y r) g).wp R):(vMark h n i w kn ok a b y g).wp R:=by
  have e3:h[(3:Int).toNat]?=some (hAt h 3):=by
    unfold hAt
    rw[show (3:Int).toNat=3 from rfl,List.getElem?_eq_getElem (by omega:3<h.length)]
    rfl
  unfold vMark
  unfold lastW at h0 h1
  refine wget (by decide) e3 ⟨fun hk=>?_,fun hk=>?_⟩
  · have hk:0<hAt h 3:=of_decide_eq_true hk
    rw[if_pos hk]at h0 h1
    rw[if_pos hk]at h1
    have hwr:IntKind.wrap .i64 ((w.length:Int)-1)=(w.length:Int)-1:=IntWalk.i64_in _ (by omega)
    rw[hwr]
    refine wget (v:=wat w (w.length-1)) (by omega) (by rw[show ((w.length:Int)-1).toNat=w.length-1 by omega];exact wat_get (by omega)) (wned (by have:=wat_ok (k:=w.length-1) hs;omega) (vAnd_wp fun _=>vDone_wp hw hl h0 h1))
  · have hk:¬ 0<hAt h 3:=of_decide_eq_false hk
    rw[if_neg hk,Bool.and_true]at h0 h1
    rw[if_neg hk]at h1
    exact vDone_wp hw hl h0 h1
end
theorem w3_eq (w:List ByteArray):List.drop (Int.toNat 0) (List.take (Int.toNat 3) w)=w.take 3:=by
  rw[Int.toNat_zero,List.drop_zero];rfl
theorem p3_get {w:List ByteArray} {k:Nat} (hw:3≤w.length) (hk:k<3) (ha:vAll w=true):(pintsV (w.take 3))[k]?=some (wiv (wat w k)):=by
  unfold vAll at ha
  unfold pintsV
  rw[if_pos ha,List.getElem?_map,List.getElem?_take,if_pos hk,wat_get (by omega)]
  rfl
theorem vt_core (h : List Int) (n i : Int) (ls : LLw) (nl wr : Int) (S H : Unit) (f : Int) (g : GV) (Q : Exit × List Av × HSpec.Y spVt × HSpec.G spVt → Prop) (hq : (outVt (h, n, i, ()) ((ls, nl, wr, S, H, f, ()), ()) (g, ())).wp Q) : (vR h n i (ls, nl, wr, S, H, f, ()) g).wp fun r => match r with
      | .again x' y' g'=>(x'.2.1-x'.2.2.1).toNat<(n-i).toNat∧(outVt x' y' g').wp Q
      | .out e avs y' g'=>Q (e,avs,y',g'):=by
  obtain ⟨hI,hy,hz⟩:=hq
  have hI:VInv h n i (ls,nl,wr,S,H,f,()) (gl g):=hI
  obtain ⟨h4,ha2,ha3,hn,i0,hls,hlz,hnl,hwr,hf,hg⟩:=hI
  have hlz:ls.length≤1000000:=hlz
  have hnl:0≤nl∧nl≤1000000:=hnl
  have hwr:i<n→wr≤0:=hwr
  have hf:0<i→0≤f∧f≤1:=hf
  have hls:LOk ls:=hls
  have hy:(vtGo h (n-i).toNat i (ls,nl,wr,S,H,f,())).2.2=true→(finV (Exit.exit 0) [] ((vtGo h (n-i).toNat i (ls,nl,wr,S,H,f,())).2.1,()) (g,()) (vtGo h (n-i).toNat i (ls,nl,wr,S,H,f,())).1).wp Q:=hy
  have hz:(vtGo h (n-i).toNat i (ls,nl,wr,S,H,f,())).2.2=false→(finV Exit.ret [] ((vtGo h (n-i).toNat i (ls,nl,wr,S,H,f,())).2.1,()) (g,()) (vtGo h (n-i).toNat i (ls,nl,wr,S,H,f,())).1).wp Q:=hz
  unfold vR
  refine ⟨fun hlt=>?_,fun hge=>?_⟩
  · have hlt:=of_decide_eq_true hlt
    have hw0:wr≤0:=hwr hlt
    have hw:¬ 0<wr:=by omega
    have eh : ∀ k,k<4→h[k]?=some (hAt h k):=fun k hk=>by
      unfold hAt
      rw[List.getElem?_eq_getElem (by omega:k<h.length)]
      rfl
    obtain ⟨k,hk⟩ : ∃ k,(n-i).toNat=k+1:=⟨(n-i).toNat-1,by omega⟩
    rw[hk]at hy hz
    have ew:IntKind.wrap .i64 (IntKind.wrap .i64 (3+hAt h 2)+hAt h 3)=3+hAt h 2+hAt h 3:=by
      rw[IntWalk.i64_in (3+hAt h 2) (by omega),IntWalk.i64_in _ (by omega)]
    refine wget (by decide) (eh 2 (by decide)) (wget (by decide) (eh 3 (by decide)) ?_)
    rw[ew]
    unfold vNext
    refine witf (decide_eq_false hw) ?_
    cases ls with
    | nil =>
      have ev:vtGo h (k+1) i ([],nl,wr,S,H,f,())=([],yW ([],nl,wr,S,H,f,()) (nl+1),false):=rfl
      rw[ev]at hz
      refine witt (by simp) (vRet_wp ?_)
      have:=finV_nil (hz rfl)
      rw[show wi1 ((([],nl,wr,S,H,f,()):YV)).2.1=nl+1 from wi1_eq (i:=nl) (by omega)]
      exact this
    | cons l r =>
      obtain ⟨p1,p2,p3,p4⟩:=hls l (by simp)
      have hlsr:LOk r:=fun a ha=>hls a (by simp[ha])
      refine witf (beq_false_of_ne (by simp only[List.length_cons];omega)) (wget (v:=l) (Int.le_refl 0) rfl ⟨fun hne=>?_,fun hne=>?_⟩)
      · have hne:¬ (l.2.length:Int)=3+hAt h 2+hAt h 3:=by simpa using hne
        have ev:vtGo h (k+1) i (l::r,nl,wr,S,H,f,())=([],yW (l::r,nl,wr,S,H,f,()) l.1,false):=by
          rw[vtGo]
          simp only[]
          rw[if_neg hne]
        rw[ev]at hz
        exact wget (v:=l) (Int.le_refl 0) rfl (vRet_wp (finV_nil (hz rfl)))
      · have hne:(l.2.length:Int)=3+hAt h 2+hAt h 3:=by simpa using hne
        have hw3:3≤l.2.length:=by omega
        have ev:vtGo h (k+1) i (l::r,nl,wr,S,H,f,())=if vOk (hAt h 3) i f l.2=true then (vRow (hAt h 3) l.2::(vtGo h k (i+1) (r,nl,wr,S,H,vFst i f l.2,())).1,(vtGo h k (i+1) (r,nl,wr,S,H,vFst i f l.2,())).2) else ([],yW (yF (l::r,nl,wr,S,H,f,()) (vFst i f l.2)) l.1,false):=by
          rw[vtGo]
          simp only[]
          rw[if_pos hne]
          rfl
        rw[ev]at hy hz
        have bad:vOk (hAt h 3) i f l.2=false→Q (Exit.ret,[],(yW (yF (l::r,nl,wr,S,H,f,()) (vFst i f l.2)) l.1,()),(g,())):=fun e=>by
          rw[if_neg (by rw[e];exact Bool.false_ne_true)]at hz
          exact finV_nil (hz rfl)
        have good:vOk (hAt h 3) i f l.2=true→(vAp1 h n i (vRow (hAt h 3) l.2) (yL (yF (l::r,nl,wr,S,H,f,()) (vFst i f l.2)) r) g).wp fun r=>match r with
            | .again x' y' g'=>(x'.2.1-x'.2.2.1).toNat<(n-i).toNat∧(outVt x' y' g').wp Q
            | .out e avs y' g'=>Q (e,avs,y',g'):=fun e=>by
          rw[if_pos e]at hy hz
          have hM:maxLen=9223372036854775807:=rfl
          unfold vAp1
          refine appG_wp (by omega) (by omega) fun kk=>ndV_wp (gnd_app g _ kk) ?_
          rw[wi1_eq (i:=i) (by omega)]
          have ek:(n-(i+1)).toNat=k:=by omega
          refine ⟨show (n-(i+1)).toNat<(n-i).toNat by omega,wned ?_ ⟨fun a=>?_,fun a=>?_⟩⟩
          · refine ⟨h4,ha2,ha3,hn,show 0≤i+1 by omega,hlsr,show r.length≤1000000 by simp only[List.length_cons]at hlz;omega,hnl,fun _=>hw0,fun _=>?_,?_⟩
            · show 0≤vFst i f l.2∧vFst i f l.2≤1
              unfold vFst
              unfold vOk fitB at e
              simp only[Bool.and_eq_true]at e
              obtain ⟨⟨e1,e2⟩,_⟩:=e
              by_cases h0:i=0
              · rw[if_pos ⟨e1,h0⟩]
                rw[if_pos h0]at e2
                simp only[Bool.or_eq_true,beq_iff_eq]at e2
                omega
              · rw[if_neg (fun hh=>h0 hh.2)]
                exact hf (by omega)
            · show (((gx g++[_]).length:Nat):Int)≤i+1
              rw[List.length_append,←gl_eq]
              simp only[List.length_cons,List.length_nil]
              omega
          · have a:(vtGo h (n-(i+1)).toNat (i+1) (r,nl,wr,S,H,vFst i f l.2,())).2.2=true:=a
            rw[ek]at a
            show (finV (Exit.exit 0) [] ((vtGo h (n-(i+1)).toNat (i+1) (r,nl,wr,S,H,vFst i f l.2,())).2.1,()) (some (gx g++[vRow (hAt h 3) l.2],kk),()) (vtGo h (n-(i+1)).toNat (i+1) (r,nl,wr,S,H,vFst i f l.2,())).1).wp Q
            rw[ek]
            exact finV_cons (hy a) kk
          · have a:(vtGo h (n-(i+1)).toNat (i+1) (r,nl,wr,S,H,vFst i f l.2,())).2.2=false:=a
            rw[ek]at a
            show (finV Exit.ret [] ((vtGo h (n-(i+1)).toNat (i+1) (r,nl,wr,S,H,vFst i f l.2,())).2.1,()) (some (gx g++[vRow (hAt h 3) l.2],kk),()) (vtGo h (n-(i+1)).toNat (i+1) (r,nl,wr,S,H,vFst i f l.2,())).1).wp Q
            rw[ek]
            exact finV_cons (hz a) kk
        unfold vBody
        rw[w3_eq]
        refine wned ⟨Int.le_refl 0,by decide,by omega⟩ (wned ⟨by rw[List.length_take];omega,fun x hx=>p4 x (List.mem_of_mem_take hx)⟩ ⟨fun ha=>?_,fun ha=>?_⟩)
        · have ha:vAll l.2=true:=ha
          refine wget (Int.le_refl 0) (p3_get (k:=0) hw3 (by decide) ha) ?_
          have K : ∀ (kn ok:Bool) (f':Int),ok=fitB i (wiv (wat l.2 0)) f→f'=vFst i f l.2→(T.get (pintsV (l.2.take 3)) 1 fun a=>.get (pintsV (l.2.take 3)) 2 fun b=>vMark h n i l.2 kn ok a b (yF (l::r,nl,wr,S,H,f,()) f') g).wp fun r=>match r with
              | .again x' y' g'=>(x'.2.1-x'.2.2.1).toNat<(n-i).toNat∧(outVt x' y' g').wp Q
              | .out e avs y' g'=>Q (e,avs,y',g'):=fun kn ok f' e1 e2=>by
            subst e1
            subst e2
            have eo:(fitB i (wiv (wat l.2 0)) f&&lastW (hAt h 3) l.2)=vOk (hAt h 3) i f l.2:=by unfold vOk;rw[ha,Bool.true_and]
            refine wget (by decide) (p3_get (k:=1) hw3 (by decide) ha) (wget (by decide) (p3_get (k:=2) hw3 (by decide) ha) (vMark_wp (l:=l) (r:=r) h4 hw3 p3 p4 hw rfl (fun e=>bad (eo ▸ e)) (fun e=>good (eo ▸ e))))
          have e0 : ∀ hi:i=0,vFst i f l.2=wiv (wat l.2 0):=fun hi=>by unfold vFst;rw[if_pos ⟨ha,hi⟩]
          refine ⟨fun hi=>⟨fun h0=>K true true _ ?_ (e0 (by simpa using hi)).symm,fun h0=>K false _ _ ?_ (e0 (by simpa using hi)).symm⟩,fun hi=>?_⟩
          · have hi:i=0:=by simpa using hi
            unfold fitB
            rw[if_pos hi,h0];rfl
          · have hi:i=0:=by simpa using hi
            unfold fitB
            rw[if_pos hi,h0];rfl
          · have hi:¬ i=0:=by simpa using hi
            obtain ⟨f0,f1⟩:=hf (by omega)
            refine K false _ f ?_ ?_
            · unfold fitB
              rw[if_neg hi]
              show (wiv (wat l.2 0)==IntKind.wrap .i64 (f+i))=_
              rw[IntWalk.i64_in (f+i) (by omega)]
            · unfold vFst;rw[if_neg (fun hh=>hi hh.2)]
        · have ha:vAll l.2=false:=ha
          have e1:vFst i f l.2=f:=by unfold vFst;rw[if_neg (fun hh=>by rw[ha]at hh;exact absurd hh.1 Bool.false_ne_true)]
          have e2:vOk (hAt h 3) i f l.2=false:=by unfold vOk;rw[ha];rfl
          rw[e1]at bad
          refine vMark_wp (l:=l) (r:=r) h4 hw3 p3 p4 hw rfl (fun _=>bad e2) (fun e=>?_)
          have:List.all (l.2.take 3) lintB=false:=ha
          rw[this]at e
          cases e
  · have hge:=of_decide_eq_false hge
    rw[show (n-i).toNat=0 by omega]at hy
    exact ndV_wp (gnd_gl g) (finV_nil (hy rfl))
theorem vtL_ok:LoopOk Tryz.prog 1 (bodyOf Tryz.f57 0) (spVt.run outVt):=
  loopHC_ok (O:=OP6) (E:=EPl6) (L:=fun _=>none) rfl mixed 1 (loops_none _ _ _) spVt (by decide) outVt (fun x _ _=>(x.2.1-x.2.2.1).toNat) (by
    rintro ⟨h,n,i,⟨⟩⟩ ⟨⟨ls,nl,wr,S,H,f,⟨⟩⟩,⟨⟩⟩ ⟨g,⟨⟩⟩ Q hq
    match g,hq with
    | some (xs,cap),hq=>exact ⟨_,tr_vtL_eq h n i ls nl wr S H f xs cap,vt_core h n i ls nl wr S H f (some (xs,cap)) Q hq⟩
    | none,hq=>exact ⟨_,tr_vtL0_eq h n i ls nl wr S H f,vt_core h n i ls nl wr S H f none Q hq⟩)
noncomputable def lpVt:Loops:=oneL 2 (spVt.run outVt)
noncomputable def con_pvertex4:Con Tryz.prog:=⟨113,[0],_,cf_pvertex,inlC_ok (O:=OPl) (E:=EPl3) (L:=fun _=>none) rfl mixed Tryz.func113 4 no_loops [0]⟩
noncomputable def zeroSeg:Zero Tryz.prog:=zOf 76 cI3 rfl (by kernel_rfl)
noncomputable def codSeg:Cod Tryz.prog:=⟨76,cI3,by kernel_rfl,⟨.agg (zU cI3).toArray,fun w=>by kernel_rfl⟩⟩
noncomputable def zeroNum:Zero Tryz.prog:=zOf 113 (.int .i64) rfl (by kernel_rfl)
noncomputable def EPg6:Env Tryz.prog:=⟨con_pvertex4::con_pnextK::con_pdoneK::con_pfits4::con_phead2::EPl4.con,zeroSeg::zeroNum::zero2I::EPl5.zero,codSeg::cod2I::EPl5.cod,EPl5.sure,EPl5.base,EPl5.frz⟩
noncomputable def OPg:Opt EPg6.con:=⟨[],[],fun _=>none⟩
abbrev shS:List BSh:=[.d (.sl cL),.d (.int .i64),.d (.int .i64),.d (.sl cI3),.r 0,.d .nls,.d (.int .i64)]
abbrev spSg:HSpec:=⟨105,[(2,false,.sl (.int .i64)),(21,false,.int .i64),(22,false,.int .i64)],[(0,0,0),(3,1,0)],[(115,shS),(113,[.d (.int .i64)])],[(76,cI3)],[],fun _=>[],fun _=>[]⟩
abbrev YS:=EBs shS
abbrev TS:=T (HRd spSg)
def sW (y:YS) (w:Int):YS:=(y.1,y.2.1,w,y.2.2.2)
def sL (y:YS) (ls:LLw):YS:=(ls,y.2)
def sRet (y:YS) (fr:Int) (g:GV):TS:=ndV (gl g) g (.ret (.out Exit.ret [] (y,(fr,()),()) (g,())))
def sAp1 (h:List Int) (n i:Int) (v:V3) (y:YS) (fr:Int) (g:GV):TS:=appG 23 g v fun m g'=>ndV m g' (.ret (.again (h,n,wi1 i,()) (y,(fr,()),()) (g',())))
def sApp (h:List Int) (n i:Int) (v:V3) (y:YS) (fr:Int) (g:GV):TS:=.need (True∧True∧True) (sAp1 h n i v y fr g)
def gNot {β:Type} (kn ok:Bool) (A B:T β):T β:=match kn with
  | true=>match ok with
    | true=>B
    | false=>A
  | false=>.ite (!ok) A B
def gIf {β:Type} (kn ok:Bool) (A B:T β):T β:=match kn with
  | true=>match ok with
    | true=>A
    | false=>B
  | false=>.ite ok A B
def sDone (h:List Int) (n i:Int) (kn ok:Bool) (v:V3) (y:YS) (fr:Int) (g:GV):TS:=.ite (decide (y.2.2.1>0)) (sRet y fr g) (gNot kn ok (.get y.1 0 fun l=>sRet (sW y l.1) fr g) (.need ((0:Int)≤1∧(1:Int)≤List.length y.1∧(List.length y.1:Int)≤List.length y.1) (sApp h n i v (sL y (List.drop (Int.toNat 1) (List.take (Int.toNat (List.length y.1:Int)) y.1))) fr g)))
def sMark (h:List Int) (n i:Int) (ns:List Int) (kn ok:Bool) (a b:Int) (y:YS) (fr:Int) (g:GV):TS:=gIf kn ok (.get h 1 fun k=>.ite (decide (k>0)) (.get ns 3 fun m=>sDone h n i kn ok (a,b,m) y fr g) (sDone h n i kn ok (a,b,0) y fr g)) (sDone h n i kn ok (a,b,0) y fr g)
def sFits (i n0 fr:Int) (K:Bool→Bool→Int→TS):TS:=.ite (i==0) (.ite (n0==0) (K true true n0) (K false (n0==1) n0)) (K false (n0==IntKind.wrap .i64 (fr+i)) fr)
def sVtx (p:Int) (y:YS) (K:Bool→Bool→Int→TS):TS:=.ite (decide (IntKind.wrap .i64 (p-y.2.2.2.2.2.1)≥0)) (K false (decide (IntKind.wrap .i64 (p-y.2.2.2.2.2.1)<(List.length y.2.2.2.1:Int))) (IntKind.wrap .i64 (p-y.2.2.2.2.2.1))) (K true false (IntKind.wrap .i64 (p-y.2.2.2.2.2.1)))
def sBody (h:List Int) (n i:Int) (w:List ByteArray) (y:YS) (fr:Int) (g:GV):TS:=.need (List.length w≤1000000 ∧ ∀ x∈w,x.size≤900000) (.ite (List.all w lintB) (.get (pintsV w) 1 fun p=>sVtx p y fun ka oa a=>.get (pintsV w) 2 fun q=>sVtx q y fun kb ob b=>gIf ka oa (gIf kb ob (.get (pintsV w) 0 fun n0=>sFits i n0 fr fun kn ok fr'=>sMark h n i (pintsV w) kn ok a b y fr' g) (sMark h n i (pintsV w) true false a b y fr g)) (sMark h n i (pintsV w) true false a b y fr g)) (sMark h n i (pintsV w) false (List.all w lintB) 0 0 y fr g))
def sBad (y:YS) (fr:Int) (g:GV):TS:=.need (List.length ([]:List ByteArray)≤1000000 ∧ ∀ x∈([]:List ByteArray),x.size≤900000) (sRet y fr g)
def sNext (h:List Int) (n i want:Int) (y:YS) (fr:Int) (g:GV):TS:=.ite (decide (y.2.2.1>0)) (sBad y fr g) (.ite ((List.length y.1:Int)==0) (sBad (sW y (wi1 y.2.1)) fr g) (.get y.1 0 fun l=>.ite ((List.length l.2:Int) != want) (.get y.1 0 fun l=>sBad (sW y l.1) fr g) (sBody h n i l.2 y fr g)))
def sR (h:List Int) (n i:Int) (y:YS) (fr:Int) (g:GV):TS:=.ite (decide (i<n)) (.get h 1 fun b=>sNext h n i (IntKind.wrap .i64 (3+b)) y fr g) (ndV (gl g) g (.ret (.out (Exit.exit 0) [] (y,(fr,()),()) (g,()))))
theorem tr_sgL_eq (h:List Int) (n i:Int) (ls:LLw) (nl wr:Int) (V:List V3) (H:Unit) (f fr:Int) (xs:List V3) (cap:Nat):HSpec.roundC spSg OPg EPg6 (fun _=>none) (bodyOf Tryz.f58 0) (h,n,i,()) ((ls,nl,wr,V,H,f,()),(fr,()),()) (some (xs,cap),())=sR h n i (ls,nl,wr,V,H,f,()) fr (some (xs,cap)):=by kernel_rfl
theorem tr_sgL0_eq (h:List Int) (n i:Int) (ls:LLw) (nl wr:Int) (V:List V3) (H:Unit) (f fr:Int):HSpec.roundC spSg OPg EPg6 (fun _=>none) (bodyOf Tryz.f58 0) (h,n,i,()) ((ls,nl,wr,V,H,f,()),(fr,()),()) (none,())=sR h n i (ls,nl,wr,V,H,f,()) fr none:=by kernel_rfl
def wsub (a b:Int):Int:=IntKind.wrap .i64 (a-b)
def inV (V:List V3) (m:Int):Bool:=decide (0≤m∧m<(List.length V:Int))
def sgIn (V:List V3) (f:Int) (w:List ByteArray):Bool:=w.all lintB&&(inV V (wsub (wiv (wat w 1)) f)&&inV V (wsub (wiv (wat w 2)) f))
def sgOk (V:List V3) (f i fr:Int) (w:List ByteArray):Bool:=sgIn V f w&&fitB i (wiv (wat w 0)) fr
def sgRow (b f:Int) (w:List ByteArray):V3:=(wsub (wiv (wat w 1)) f,wsub (wiv (wat w 2)) f,if 0<b then wiv (wat w 3) else 0)
def sgFst (V:List V3) (f i fr:Int) (w:List ByteArray):Int:=if sgIn V f w=true∧i=0 then wiv (wat w 0) else fr
def sgGo (b:Int) (V:List V3) (f nl:Int):Nat→Int→Int→LLw→List V3×LLw×Option Int×Int
  | 0,_,fr,ls=>([],ls,none,fr)
  | _+1,_,fr,[]=>([],[],some (nl+1),fr)
  | k+1,i,fr,l::r=>if (l.2.length:Int)=3+b then (if sgOk V f i fr l.2=true then (sgRow b f l.2::(sgGo b V f nl k (i+1) (sgFst V f i fr l.2) r).1,(sgGo b V f nl k (i+1) (sgFst V f i fr l.2) r).2) else ([],l::r,some l.1,sgFst V f i fr l.2)) else ([],l::r,some l.1,fr)
structure SInv (h:List Int) (n i:Int) (y:YS) (fr:Int) (m:Nat):Prop where
  h2:h.length=2
  hb:0≤hAt h 1∧hAt h 1≤1
  hn:n≤1000
  hi:0≤i
  hls:LOk y.1
  hlz:List.length y.1≤1000000
  hnl:0≤(y.2.1:Int)∧(y.2.1:Int)≤1000000
  hwr:i<n→(y.2.2.1:Int)≤0
  hf:0<i→0≤fr∧fr≤1
  hg:(m:Int)≤i
def sgY (y:YS) (r:List V3×LLw×Option Int×Int):HSpec.Y spSg:=((r.2.1,y.2.1,r.2.2.1.getD y.2.2.1,y.2.2.2),(r.2.2.2,()),())
def sgN (h:List Int) (n i:Int) (y:YS) (fr:Int):List V3×LLw×Option Int×Int:=sgGo (hAt h 1) y.2.2.2.1 y.2.2.2.2.2.1 y.2.1 (n-i).toNat i fr y.1
def outSg (x:HSpec.X spSg) (y:HSpec.Y spSg) (g:HSpec.G spSg):T (Exit×List Av×HSpec.Y spSg×HSpec.G spSg):=
  .need (SInv x.1 x.2.1 x.2.2.1 y.1 y.2.1.1 (gl (α:=V3) g.1)) (.ite (sgN x.1 x.2.1 x.2.2.1 y.1 y.2.1.1).2.2.1.isNone (finV (Exit.exit 0) [] (sgY y.1 (sgN x.1 x.2.1 x.2.2.1 y.1 y.2.1.1)) g (sgN x.1 x.2.1 x.2.2.1 y.1 y.2.1.1).1) (finV Exit.ret [] (sgY y.1 (sgN x.1 x.2.1 x.2.2.1 y.1 y.2.1.1)) g (sgN x.1 x.2.1 x.2.2.1 y.1 y.2.1.1).1))
theorem gIf_wp {β:Type} {kn ok:Bool} {A B:T β} {R:β→Prop} (h1:ok=true→A.wp R) (h0:ok=false→B.wp R):(gIf kn ok A B).wp R:=by
  unfold gIf
  cases kn <;> cases ok
  · exact witf rfl (h0 rfl)
  · exact witt rfl (h1 rfl)
  · exact h0 rfl
  · exact h1 rfl
theorem gNot_wp {β:Type} {kn ok:Bool} {A B:T β} {R:β→Prop} (h0:ok=false→A.wp R) (h1:ok=true→B.wp R):(gNot kn ok A B).wp R:=by
  unfold gNot
  cases kn <;> cases ok
  · exact witt rfl (h0 rfl)
  · exact witf rfl (h1 rfl)
  · exact h0 rfl
  · exact h1 rfl
section
variable {h:List Int} {n i:Int} {g:GV} {R:HRd spSg→Prop}
theorem sRet_wp {y:YS} {fr:Int} (hr:R (.out Exit.ret [] (y,(fr,()),()) (g,()))):(sRet y fr g).wp R:=ndV_wp (gnd_gl g) hr
theorem sBad_wp {y:YS} {fr:Int} (hr:R (.out Exit.ret [] (y,(fr,()),()) (g,()))):(sBad y fr g).wp R:=wned ⟨Nat.zero_le _,fun x h=>by cases h⟩ (sRet_wp hr)
theorem sDone_wp {kn ok:Bool} {v:V3} {y:YS} {fr:Int} {l:Int×List ByteArray} {r:LLw} (hw:¬ 0<(y.2.2.1:Int)) (hl:y.1=l::r) (h0:ok=false→R (.out Exit.ret [] (sW y l.1,(fr,()),()) (g,()))) (h1:ok=true→(sAp1 h n i v (sL y r) fr g).wp R):(sDone h n i kn ok v y fr g).wp R:=by
  obtain ⟨ls,y2⟩:=y
  have hl:ls=l::r:=hl
  subst hl
  unfold sDone sApp
  refine witf (decide_eq_false hw) (gNot_wp (fun e=>?_) fun e=>wned ⟨by decide,by simp only[List.length_cons];omega,Int.le_refl _⟩ ?_)
  · exact wget (v:=l) (Int.le_refl 0) rfl (sRet_wp (h0 e))
  · have:=h1 e
    rw[Int.toNat_natCast,List.take_length]
    exact wned ⟨trivial,trivial,trivial⟩ this
theorem sMark_wp {w:List ByteArray} {kn ok:Bool} {a b:Int} {y:YS} {fr:Int} {l:Int×List ByteArray} {r:LLw} (h2:h.length=2) (hn:(w.length:Int)=3+hAt h 1) (hb:0≤hAt h 1) (ha:ok=true→w.all lintB=true) (hw:¬ 0<(y.2.2.1:Int)) (hl:y.1=l::r)
    (h0:ok=false→R (.out Exit.ret [] (sW y l.1,(fr,()),()) (g,()))) (h1:ok=true→(sAp1 h n i (a,b,if 0<hAt h 1 then wiv (wat w 3) else 0) (sL y r) fr g).wp R):(sMark h n i (pintsV w) kn ok a b y fr g).wp R:=by
  have e1:h[(1:Int).toNat]?=some (hAt h 1):=by
    unfold hAt
    rw[show (1:Int).toNat=1 from rfl,List.getElem?_eq_getElem (by omega:1<h.length)]
    rfl
  unfold sMark
  refine gIf_wp (fun e=>wget (by decide) e1 ⟨fun hk=>?_,fun hk=>?_⟩) fun e=>sDone_wp hw hl h0 fun e'=>absurd (e.symm.trans e') (by decide)
  · have hk:0<hAt h 1:=of_decide_eq_true hk
    rw[if_pos hk]at h1
    refine wget (v:=wiv (wat w 3)) (by decide) ?_ (sDone_wp hw hl h0 h1)
    unfold pintsV
    rw[if_pos (ha e),show (3:Int).toNat=3 from rfl,List.getElem?_map,wat_get (by omega)]
    rfl
  · have hk:¬ 0<hAt h 1:=of_decide_eq_false hk
    rw[if_neg hk]at h1
    exact sDone_wp hw hl h0 h1
theorem sVtx_wp {p:Int} {y:YS} {K:Bool→Bool→Int→TS} (hk : ∀ kn,(K kn (inV y.2.2.2.1 (wsub p y.2.2.2.2.2.1)) (wsub p y.2.2.2.2.2.1)).wp R):(sVtx p y K).wp R:=by
  unfold sVtx
  refine ⟨fun e=>?_,fun e=>?_⟩
  · have e:IntKind.wrap .i64 (p-y.2.2.2.2.2.1)≥0:=of_decide_eq_true e
    have:=hk false
    have e2:inV y.2.2.2.1 (wsub p y.2.2.2.2.2.1)=decide (IntKind.wrap .i64 (p-y.2.2.2.2.2.1)<(List.length y.2.2.2.1:Int)):=by
      unfold inV wsub
      rw[Bool.eq_iff_iff,decide_eq_true_iff,decide_eq_true_iff]
      exact ⟨fun h=>h.2,fun h=>⟨e,h⟩⟩
    rw[e2]at this
    exact this
  · have e:¬ IntKind.wrap .i64 (p-y.2.2.2.2.2.1)≥0:=of_decide_eq_false e
    have:=hk true
    have e2:inV y.2.2.2.1 (wsub p y.2.2.2.2.2.1)=false:=decide_eq_false fun h=>e h.1
    rw[e2]at this
    exact this
end
theorem p_get {w:List ByteArray} {k:Nat} (hk:k<w.length) (ha:w.all lintB=true):(pintsV w)[k]?=some (wiv (wat w k)):=by
  unfold pintsV
  rw[if_pos ha,List.getElem?_map,wat_get hk]
  rfl
theorem sg_core (h : List Int) (n i : Int) (ls : LLw) (nl wr : Int) (V : List V3) (H : Unit) (f fr : Int) (g : GV) (Q : Exit × List Av × HSpec.Y spSg × HSpec.G spSg → Prop) (hq : (outSg (h, n, i, ()) ((ls, nl, wr, V, H, f, ()), (fr, ()), ()) (g, ())).wp Q) : (sR h n i (ls, nl, wr, V, H, f, ()) fr g).wp fun r => match r with
      | .again x' y' g'=>(x'.2.1-x'.2.2.1).toNat<(n-i).toNat∧(outSg x' y' g').wp Q
      | .out e avs y' g'=>Q (e,avs,y',g'):=by
  obtain ⟨hI,hy,hz⟩:=hq
  have hI:SInv h n i (ls,nl,wr,V,H,f,()) fr (gl g):=hI
  obtain ⟨h2,hb,hn,i0,hls,hlz,hnl,hwr,hf,hg⟩:=hI
  have hlz:ls.length≤1000000:=hlz
  have hnl:0≤nl∧nl≤1000000:=hnl
  have hwr:i<n→wr≤0:=hwr
  have hls:LOk ls:=hls
  have hy:(sgGo (hAt h 1) V f nl (n-i).toNat i fr ls).2.2.1.isNone=true→(finV (Exit.exit 0) [] (sgY (ls,nl,wr,V,H,f,()) (sgGo (hAt h 1) V f nl (n-i).toNat i fr ls)) (g,()) (sgGo (hAt h 1) V f nl (n-i).toNat i fr ls).1).wp Q:=hy
  have hz:(sgGo (hAt h 1) V f nl (n-i).toNat i fr ls).2.2.1.isNone=false→(finV Exit.ret [] (sgY (ls,nl,wr,V,H,f,()) (sgGo (hAt h 1) V f nl (n-i).toNat i fr ls)) (g,()) (sgGo (hAt h 1) V f nl (n-i).toNat i fr ls).1).wp Q:=hz
  unfold sR
  refine ⟨fun hlt=>?_,fun hge=>?_⟩
  · have hlt:=of_decide_eq_true hlt
    have hw0:wr≤0:=hwr hlt
    have hw:¬ 0<wr:=by omega
    have e1:h[(1:Int).toNat]?=some (hAt h 1):=by
      unfold hAt
      rw[show (1:Int).toNat=1 from rfl,List.getElem?_eq_getElem (by omega:1<h.length)]
      rfl
    obtain ⟨k,hk⟩ : ∃ k,(n-i).toNat=k+1:=⟨(n-i).toNat-1,by omega⟩
    rw[hk]at hy hz
    have ew:IntKind.wrap .i64 (3+hAt h 1)=3+hAt h 1:=IntWalk.i64_in (3+hAt h 1) (by omega)
    refine wget (by decide) e1 ?_
    rw[ew]
    unfold sNext
    refine witf (decide_eq_false hw) ?_
    cases ls with
    | nil =>
      have ev:sgGo (hAt h 1) V f nl (k+1) i fr []=([],[],some (nl+1),fr):=rfl
      rw[ev]at hz
      refine witt (by simp) (sBad_wp ?_)
      have:=finV_nil (hz rfl)
      rw[show wi1 ((([],nl,wr,V,H,f,()):YS)).2.1=nl+1 from wi1_eq (i:=nl) (by omega)]
      exact this
    | cons l r =>
      obtain ⟨p1,p2,p3,p4⟩:=hls l (by simp)
      have hlsr:LOk r:=fun a ha=>hls a (by simp[ha])
      refine witf (beq_false_of_ne (by simp only[List.length_cons];omega)) (wget (v:=l) (Int.le_refl 0) rfl ⟨fun hne=>?_,fun hne=>?_⟩)
      · have hne:¬ (l.2.length:Int)=3+hAt h 1:=by simpa using hne
        have ev:sgGo (hAt h 1) V f nl (k+1) i fr (l::r)=([],l::r,some l.1,fr):=by rw[sgGo,if_neg hne]
        rw[ev]at hz
        exact wget (v:=l) (Int.le_refl 0) rfl (sBad_wp (finV_nil (hz rfl)))
      · have hne:(l.2.length:Int)=3+hAt h 1:=by simpa using hne
        have ev:sgGo (hAt h 1) V f nl (k+1) i fr (l::r)=if sgOk V f i fr l.2=true then (sgRow (hAt h 1) f l.2::(sgGo (hAt h 1) V f nl k (i+1) (sgFst V f i fr l.2) r).1,(sgGo (hAt h 1) V f nl k (i+1) (sgFst V f i fr l.2) r).2) else ([],l::r,some l.1,sgFst V f i fr l.2):=by rw[sgGo,if_pos hne]
        rw[ev]at hy hz
        have bad:sgOk V f i fr l.2=false→Q (Exit.ret,[],((l::r,nl,l.1,V,H,f,()),(sgFst V f i fr l.2,()),()),(g,())):=fun e=>by
          rw[if_neg (by rw[e];exact Bool.false_ne_true)]at hz
          exact finV_nil (hz rfl)
        have good:sgOk V f i fr l.2=true→(sAp1 h n i (sgRow (hAt h 1) f l.2) (r,nl,wr,V,H,f,()) (sgFst V f i fr l.2) g).wp fun r=>match r with
            | .again x' y' g'=>(x'.2.1-x'.2.2.1).toNat<(n-i).toNat∧(outSg x' y' g').wp Q
            | .out e avs y' g'=>Q (e,avs,y',g'):=fun e=>by
          rw[if_pos e]at hy hz
          have hM:maxLen=9223372036854775807:=rfl
          unfold sAp1
          refine appG_wp (by omega) (by omega) fun kk=>ndV_wp (gnd_app g _ kk) ?_
          rw[wi1_eq (i:=i) (by omega)]
          have ek:(n-(i+1)).toNat=k:=by omega
          refine ⟨show (n-(i+1)).toNat<(n-i).toNat by omega,wned ?_ ⟨fun a=>?_,fun a=>?_⟩⟩
          · refine ⟨h2,hb,hn,show 0≤i+1 by omega,hlsr,show r.length≤1000000 by simp only[List.length_cons]at hlz;omega,hnl,fun _=>hw0,fun _=>?_,?_⟩
            · show 0≤sgFst V f i fr l.2∧sgFst V f i fr l.2≤1
              unfold sgFst
              unfold sgOk fitB at e
              rw[Bool.and_eq_true]at e
              obtain ⟨e1,e2⟩:=e
              by_cases h0:i=0
              · rw[if_pos ⟨e1,h0⟩]
                rw[if_pos h0]at e2
                simp only[Bool.or_eq_true,beq_iff_eq]at e2
                omega
              · rw[if_neg (fun hh=>h0 hh.2)]
                exact hf (by omega)
            · show (((gx g++[_]).length:Nat):Int)≤i+1
              rw[List.length_append,←gl_eq]
              simp only[List.length_cons,List.length_nil]
              omega
          · have a:(sgGo (hAt h 1) V f nl (n-(i+1)).toNat (i+1) (sgFst V f i fr l.2) r).2.2.1.isNone=true:=a
            rw[ek]at a
            show (finV (Exit.exit 0) [] (sgY (r,nl,wr,V,H,f,()) (sgGo (hAt h 1) V f nl (n-(i+1)).toNat (i+1) (sgFst V f i fr l.2) r)) (some (gx g++[sgRow (hAt h 1) f l.2],kk),()) (sgGo (hAt h 1) V f nl (n-(i+1)).toNat (i+1) (sgFst V f i fr l.2) r).1).wp Q
            rw[ek]
            exact finV_cons (hy a) kk
          · have a:(sgGo (hAt h 1) V f nl (n-(i+1)).toNat (i+1) (sgFst V f i fr l.2) r).2.2.1.isNone=false:=a
            rw[ek]at a
            show (finV Exit.ret [] (sgY (r,nl,wr,V,H,f,()) (sgGo (hAt h 1) V f nl (n-(i+1)).toNat (i+1) (sgFst V f i fr l.2) r)) (some (gx g++[sgRow (hAt h 1) f l.2],kk),()) (sgGo (hAt h 1) V f nl (n-(i+1)).toNat (i+1) (sgFst V f i fr l.2) r).1).wp Q
            rw[ek]
            exact finV_cons (hz a) kk
        unfold sBody
        have hw3:3≤l.2.length:=by omega
        refine wned ⟨p3,p4⟩ ⟨fun ha=>?_,fun ha=>?_⟩
        · refine wget (by decide) (p_get (k:=1) (by omega) ha) (sVtx_wp fun ka=>wget (by decide) (p_get (k:=2) (by omega) ha) (sVtx_wp fun kb=>?_))
          have out:sgIn V f l.2=false → ∀ a b,(sMark h n i (pintsV l.2) true false a b (l::r,nl,wr,V,H,f,()) fr g).wp fun r=>match r with
              | .again x' y' g'=>(x'.2.1-x'.2.2.1).toNat<(n-i).toNat∧(outSg x' y' g').wp Q
              | .out e avs y' g'=>Q (e,avs,y',g'):=fun e a b=>by
            refine sMark_wp (l:=l) (r:=r) h2 hne hb.1 (fun e=>by cases e) hw rfl (fun _=>?_) (fun e=>by cases e)
            have e1:sgFst V f i fr l.2=fr:=by unfold sgFst;rw[if_neg (fun hh=>by rw[e]at hh;exact absurd hh.1 Bool.false_ne_true)]
            have:=bad (by unfold sgOk;rw[e];rfl)
            rw[e1]at this
            exact this
          refine gIf_wp (fun ea=>gIf_wp (fun eb=>wget (v:=wiv (wat l.2 0)) (by decide) (p_get (k:=0) (by omega) ha) ?_) fun eb=>out ?_ _ _) fun ea=>out ?_ _ _
          · have hin:sgIn V f l.2=true:=by
              unfold sgIn
              rw[ha,Bool.true_and,Bool.and_eq_true]
              exact ⟨ea,eb⟩
            have K : ∀ (kn ok:Bool) (fr':Int),ok=fitB i (wiv (wat l.2 0)) fr→fr'=sgFst V f i fr l.2→(sMark h n i (pintsV l.2) kn ok (wsub (wiv (wat l.2 1)) f) (wsub (wiv (wat l.2 2)) f) (l::r,nl,wr,V,H,f,()) fr' g).wp fun r=>match r with
                | .again x' y' g'=>(x'.2.1-x'.2.2.1).toNat<(n-i).toNat∧(outSg x' y' g').wp Q
                | .out e avs y' g'=>Q (e,avs,y',g'):=fun kn ok fr' x1 x2=>by
              subst x1
              subst x2
              have eo:fitB i (wiv (wat l.2 0)) fr=sgOk V f i fr l.2:=by unfold sgOk;rw[hin,Bool.true_and]
              exact sMark_wp (l:=l) (r:=r) h2 hne hb.1 (fun _=>ha) hw rfl (fun e=>bad (eo ▸ e)) (fun e=>good (eo ▸ e))
            have e0 : ∀ hi:i=0,sgFst V f i fr l.2=wiv (wat l.2 0):=fun hi=>by unfold sgFst;rw[if_pos ⟨hin,hi⟩]
            unfold sFits
            refine ⟨fun hi=>⟨fun h0=>K true true _ ?_ (e0 (by simpa using hi)).symm,fun h0=>K false _ _ ?_ (e0 (by simpa using hi)).symm⟩,fun hi=>?_⟩
            · have hi:i=0:=by simpa using hi
              unfold fitB
              rw[if_pos hi,h0];rfl
            · have hi:i=0:=by simpa using hi
              unfold fitB
              rw[if_pos hi,h0];rfl
            · have hi:¬ i=0:=by simpa using hi
              obtain ⟨f0,f1⟩:=hf (by omega)
              refine K false _ fr ?_ ?_
              · unfold fitB
                rw[if_neg hi]
                show (wiv (wat l.2 0)==IntKind.wrap .i64 (fr+i))=_
                rw[IntWalk.i64_in (fr+i) (by omega)]
              · unfold sgFst;rw[if_neg (fun hh=>hi hh.2)]
          · have eb:inV V (wsub (wiv (wat l.2 2)) f)=false:=eb
            unfold sgIn
            rw[eb,Bool.and_false,Bool.and_false]
          · have ea:inV V (wsub (wiv (wat l.2 1)) f)=false:=ea
            unfold sgIn
            rw[ea,Bool.false_and,Bool.and_false]
        · have ha:l.2.all lintB=false:=ha
          have hin:sgIn V f l.2=false:=by unfold sgIn;rw[ha];rfl
          have e1:sgFst V f i fr l.2=fr:=by unfold sgFst;rw[if_neg (fun hh=>by rw[hin]at hh;exact absurd hh.1 Bool.false_ne_true)]
          have e2:sgOk V f i fr l.2=false:=by unfold sgOk;rw[hin];rfl
          rw[e1]at bad
          exact sMark_wp (l:=l) (r:=r) h2 hne hb.1 (fun e=>e) hw rfl (fun _=>bad e2) (fun e=>absurd (ha.symm.trans e) (by decide))
  · have hge:=of_decide_eq_false hge
    rw[show (n-i).toNat=0 by omega]at hy
    exact ndV_wp (gnd_gl g) (finV_nil (hy rfl))
theorem sgL_ok:LoopOk Tryz.prog 1 (bodyOf Tryz.f58 0) (spSg.run outSg):=
  loopHC_ok (O:=OPg) (E:=EPg6) (L:=fun _=>none) rfl mixed 1 (loops_none _ _ _) spSg (by decide) outSg (fun x _ _=>(x.2.1-x.2.2.1).toNat) (by
    rintro ⟨h,n,i,⟨⟩⟩ ⟨⟨ls,nl,wr,V,H,f,⟨⟩⟩,⟨fr,⟨⟩⟩,⟨⟩⟩ ⟨g,⟨⟩⟩ Q hq
    match g,hq with
    | some (xs,cap),hq=>exact ⟨_,tr_sgL_eq h n i ls nl wr V H f fr xs cap,sg_core h n i ls nl wr V H f fr (some (xs,cap)) Q hq⟩
    | none,hq=>exact ⟨_,tr_sgL0_eq h n i ls nl wr V H f fr,sg_core h n i ls nl wr V H f fr none Q hq⟩)
noncomputable def lpSg:Loops:=oneL 3 (spSg.run outSg)
noncomputable def EPh6:Env Tryz.prog:=⟨con_pnextK::con_pdoneK::con_pfits4::con_phead3::EPl4.con,zeroNum::zero2I::EPl5.zero,cod2I::EPl5.cod,EPl5.sure,EPl5.base,EPl5.frz⟩
noncomputable def OPh:Opt EPh6.con:=⟨[],[],fun _=>none⟩
abbrev shH:List BSh:=[.d (.sl cL),.d (.int .i64),.d (.int .i64),.d (.sl cI3),.d (.sl cI3),.r 0,.d (.int .i64)]
abbrev spHl:HSpec:=⟨84,[(18,false,.int .i64),(19,false,.int .i64)],[(0,0,0),(3,1,0)],[(115,shH),(113,[.d (.int .i64)])],[(48,cP)],[],fun _=>[],fun _=>[]⟩
abbrev YH:=EBs shH
abbrev THl:=T (HRd spHl)
abbrev P2:=El cP
abbrev GPh:=Gr P2
def ndP {β:Type} (n:Nat) (g:GPh) (K:T β):T β:=match g with
  | none=>K
  | some r=>.need (n=r.1.length∧r.2=r.2) K
def qV (s:ByteArray):F:=if (pR s).isSome=true then (pR s).getD (w0,w0) else (w0,w0)
def hW (y:YH) (w:Int):YH:=(y.1,y.2.1,w,y.2.2.2)
def hL (y:YH) (ls:LLw):YH:=(ls,y.2)
def hRet (y:YH) (fr:Int) (g:GPh):THl:=ndP (gl g) g (.ret (.out Exit.ret [] (y,(fr,()),()) (g,())))
def hAp1 (n i:Int) (v:P2) (y:YH) (fr:Int) (g:GPh):THl:=appG 527 g v fun m g'=>ndP m g' (.ret (.again (n,wi1 i,()) (y,(fr,()),()) (g',())))
def hApp (n i:Int) (v:P2) (y:YH) (fr:Int) (g:GPh):THl:=.need (True∧True∧True) (hAp1 n i v y fr g)
def hDn (n i:Int) (kn ok:Bool) (v:P2) (y:YH) (fr:Int) (g:GPh):THl:=.ite (decide (y.2.2.1>0)) (hRet y fr g) (gNot kn ok (.get y.1 0 fun l=>hRet (hW y l.1) fr g) (.need ((0:Int)≤1∧(1:Int)≤List.length y.1∧(List.length y.1:Int)≤List.length y.1) (hApp n i v (hL y (List.drop (Int.toNat 1) (List.take (Int.toNat (List.length y.1:Int)) y.1))) fr g)))
def hFits (i n0 fr:Int) (K:Bool→Bool→Int→THl):THl:=.ite (i==0) (.ite (n0==0) (K true true n0) (K false (n0==1) n0)) (K false (n0==IntKind.wrap .i64 (fr+i)) fr)
def hBody (n i:Int) (w:List ByteArray) (y:YH) (fr:Int) (g:GPh):THl:=.get w 0 fun a=>.need (ByteArray.size a≤281474976710656) (.get w 1 fun b=>.need (lenOk (ByteArray.size b)) (.get w 2 fun c=>.need (lenOk (ByteArray.size c)) (.ite (lintB a) (.ite (pR b).isSome (.ite (pR c).isSome (hFits i (wiv a) fr fun kn ok fr'=>hDn n i kn ok (qV b,qV c) y fr' g) (hDn n i true false (qV b,qV c) y fr g)) (hDn n i true false (qV b,qV c) y fr g)) (hDn n i true false (qV b,qV c) y fr g))))
def hNext (n i:Int) (y:YH) (fr:Int) (g:GPh):THl:=.ite (decide (y.2.2.1>0)) (hRet y fr g) (.ite ((List.length y.1:Int)==0) (hRet (hW y (wi1 y.2.1)) fr g) (.get y.1 0 fun l=>.ite ((List.length l.2:Int) != 3) (.get y.1 0 fun l=>hRet (hW y l.1) fr g) (hBody n i l.2 y fr g)))
def hR (n i:Int) (y:YH) (fr:Int) (g:GPh):THl:=.ite (decide (i<n)) (hNext n i y fr g) (ndP (gl g) g (.ret (.out (Exit.exit 0) [] (y,(fr,()),()) (g,()))))
theorem tr_hlL_eq (n i:Int) (ls:LLw) (nl wr:Int) (V S:List V3) (f fr:Int) (xs:List P2) (cap:Nat):HSpec.roundC spHl OPh EPh6 (fun _=>none) (bodyOf Tryz.f59 0) (n,i,()) ((ls,nl,wr,V,S,f,()),(fr,()),()) (some (xs,cap),())=hR n i (ls,nl,wr,V,S,f,()) fr (some (xs,cap)):=by kernel_rfl
theorem tr_hlL0_eq (n i:Int) (ls:LLw) (nl wr:Int) (V S:List V3) (f fr:Int):HSpec.roundC spHl OPh EPh6 (fun _=>none) (bodyOf Tryz.f59 0) (n,i,()) ((ls,nl,wr,V,S,f,()),(fr,()),()) (none,())=hR n i (ls,nl,wr,V,S,f,()) fr none:=by kernel_rfl
theorem ndP_wp {β:Type} {n:Nat} {g:GPh} {K:T β} {R:β→Prop} (h:gnd n g) (hk:K.wp R):(ndP n g K).wp R:=by
  cases g with
  | none=>exact hk
  | some r=>exact ⟨h,hk⟩
def finP {A B C:Type} (e:A) (avs:B) (y:C) (g:GPh×Unit) (W:List P2):T (A×B×C×(GPh×Unit)):=(finG e avs y g.1 W).bind fun r=>.ret (r.1,r.2.1,r.2.2.1,(r.2.2.2,()))
theorem finP_nil {A B C:Type} {e:A} {avs:B} {y:C} {g:GPh} {Q:A×B×C×(GPh×Unit)→Prop} (h:(finP e avs y (g,()) []).wp Q):Q (e,avs,y,(g,())):=by
  unfold finP at h
  rw[T.wp_bind]at h
  exact finG_nil h
theorem finP_cons {A B C:Type} {e:A} {avs:B} {y:C} {g:GPh} {v:P2} {W:List P2} {Q:A×B×C×(GPh×Unit)→Prop} (h:(finP e avs y (g,()) (v::W)).wp Q) (k:Nat):(finP e avs y (some (gx g++[v],k),()) W).wp Q:=by
  unfold finP at h ⊢
  rw[T.wp_bind]at h ⊢
  exact finG_cons h k
def hlWs (w:List ByteArray):Bool:=lintB (wat w 0)&&((pR (wat w 1)).isSome&&(pR (wat w 2)).isSome)
def hlOk (i fr:Int) (w:List ByteArray):Bool:=hlWs w&&fitB i (wiv (wat w 0)) fr
def hlRow (w:List ByteArray):P2:=(qV (wat w 1),qV (wat w 2))
def hlFst (i fr:Int) (w:List ByteArray):Int:=if hlWs w=true∧i=0 then wiv (wat w 0) else fr
def hlGo (nl:Int):Nat→Int→Int→LLw→List P2×LLw×Option Int×Int
  | 0,_,fr,ls=>([],ls,none,fr)
  | _+1,_,fr,[]=>([],[],some (nl+1),fr)
  | k+1,i,fr,l::r=>if (l.2.length:Int)=3 then (if hlOk i fr l.2=true then (hlRow l.2::(hlGo nl k (i+1) (hlFst i fr l.2) r).1,(hlGo nl k (i+1) (hlFst i fr l.2) r).2) else ([],l::r,some l.1,hlFst i fr l.2)) else ([],l::r,some l.1,fr)
structure HInv (n i:Int) (y:YH) (fr:Int) (m:Nat):Prop where
  hn:n≤1000
  hi:0≤i
  hls:LOk y.1
  hlz:List.length y.1≤1000000
  hnl:0≤(y.2.1:Int)∧(y.2.1:Int)≤1000000
  hwr:i<n→(y.2.2.1:Int)≤0
  hf:0<i→0≤fr∧fr≤1
  hg:(m:Int)≤i
def hlY (y:YH) (r:List P2×LLw×Option Int×Int):HSpec.Y spHl:=((r.2.1,y.2.1,r.2.2.1.getD y.2.2.1,y.2.2.2),(r.2.2.2,()),())
def hlN (n i:Int) (y:YH) (fr:Int):List P2×LLw×Option Int×Int:=hlGo y.2.1 (n-i).toNat i fr y.1
def outHl (x:HSpec.X spHl) (y:HSpec.Y spHl) (g:HSpec.G spHl):T (Exit×List Av×HSpec.Y spHl×HSpec.G spHl):=
  .need (HInv x.1 x.2.1 y.1 y.2.1.1 (gl (α:=P2) g.1)) (.ite (hlN x.1 x.2.1 y.1 y.2.1.1).2.2.1.isNone (finP (Exit.exit 0) [] (hlY y.1 (hlN x.1 x.2.1 y.1 y.2.1.1)) g (hlN x.1 x.2.1 y.1 y.2.1.1).1) (finP Exit.ret [] (hlY y.1 (hlN x.1 x.2.1 y.1 y.2.1.1)) g (hlN x.1 x.2.1 y.1 y.2.1.1).1))
section
variable {n i:Int} {g:GPh} {R:HRd spHl→Prop}
theorem hRet_wp {y:YH} {fr:Int} (hr:R (.out Exit.ret [] (y,(fr,()),()) (g,()))):(hRet y fr g).wp R:=ndP_wp (gnd_gl g) hr
theorem hDn_wp {kn ok:Bool} {v:P2} {y:YH} {fr:Int} {l:Int×List ByteArray} {r:LLw} (hw:¬ 0<(y.2.2.1:Int)) (hl:y.1=l::r) (h0:ok=false→R (.out Exit.ret [] (hW y l.1,(fr,()),()) (g,()))) (h1:ok=true→(hAp1 n i v (hL y r) fr g).wp R):(hDn n i kn ok v y fr g).wp R:=by
  obtain ⟨ls,y2⟩:=y
  have hl:ls=l::r:=hl
  subst hl
  unfold hDn hApp
  refine witf (decide_eq_false hw) (gNot_wp (fun e=>?_) fun e=>wned ⟨by decide,by simp only[List.length_cons];omega,Int.le_refl _⟩ ?_)
  · exact wget (v:=l) (Int.le_refl 0) rfl (hRet_wp (h0 e))
  · have:=h1 e
    rw[Int.toNat_natCast,List.take_length]
    exact wned ⟨trivial,trivial,trivial⟩ this
end
theorem hl_core (n i : Int) (ls : LLw) (nl wr : Int) (V S : List V3) (f fr : Int) (g : GPh) (Q : Exit × List Av × HSpec.Y spHl × HSpec.G spHl → Prop) (hq : (outHl (n, i, ()) ((ls, nl, wr, V, S, f, ()), (fr, ()), ()) (g, ())).wp Q) : (hR n i (ls, nl, wr, V, S, f, ()) fr g).wp fun r => match r with
      | .again x' y' g'=>(x'.1-x'.2.1).toNat<(n-i).toNat∧(outHl x' y' g').wp Q
      | .out e avs y' g'=>Q (e,avs,y',g'):=by
  obtain ⟨hI,hy,hz⟩:=hq
  have hI:HInv n i (ls,nl,wr,V,S,f,()) fr (gl g):=hI
  obtain ⟨hn,i0,hls,hlz,hnl,hwr,hf,hg⟩:=hI
  have hlz:ls.length≤1000000:=hlz
  have hnl:0≤nl∧nl≤1000000:=hnl
  have hwr:i<n→wr≤0:=hwr
  have hls:LOk ls:=hls
  have hy:(hlGo nl (n-i).toNat i fr ls).2.2.1.isNone=true→(finP (Exit.exit 0) [] (hlY (ls,nl,wr,V,S,f,()) (hlGo nl (n-i).toNat i fr ls)) (g,()) (hlGo nl (n-i).toNat i fr ls).1).wp Q:=hy
  have hz:(hlGo nl (n-i).toNat i fr ls).2.2.1.isNone=false→(finP Exit.ret [] (hlY (ls,nl,wr,V,S,f,()) (hlGo nl (n-i).toNat i fr ls)) (g,()) (hlGo nl (n-i).toNat i fr ls).1).wp Q:=hz
  unfold hR
  refine ⟨fun hlt=>?_,fun hge=>?_⟩
  · have hlt:=of_decide_eq_true hlt
    have hw0:wr≤0:=hwr hlt
    have hw:¬ 0<wr:=by omega
    obtain ⟨k,hk⟩ : ∃ k,(n-i).toNat=k+1:=⟨(n-i).toNat-1,by omega⟩
    rw[hk]at hy hz
    unfold hNext
    refine witf (decide_eq_false hw) ?_
    cases ls with
    | nil =>
      have ev:hlGo nl (k+1) i fr []=([],[],some (nl+1),fr):=rfl
      rw[ev]at hz
      refine witt (by simp) (hRet_wp ?_)
      have:=finP_nil (hz rfl)
      rw[show wi1 ((([],nl,wr,V,S,f,()):YH)).2.1=nl+1 from wi1_eq (i:=nl) (by omega)]
      exact this
    | cons l r =>
      obtain ⟨p1,p2,p3,p4⟩:=hls l (by simp)
      have hlsr:LOk r:=fun a ha=>hls a (by simp[ha])
      refine witf (beq_false_of_ne (by simp only[List.length_cons];omega)) (wget (v:=l) (Int.le_refl 0) rfl ⟨fun hne=>?_,fun hne=>?_⟩)
      · have hne:¬ (l.2.length:Int)=3:=by simpa using hne
        have ev:hlGo nl (k+1) i fr (l::r)=([],l::r,some l.1,fr):=by rw[hlGo,if_neg hne]
        rw[ev]at hz
        exact wget (v:=l) (Int.le_refl 0) rfl (hRet_wp (finP_nil (hz rfl)))
      · have hne:(l.2.length:Int)=3:=by simpa using hne
        have ev:hlGo nl (k+1) i fr (l::r)=if hlOk i fr l.2=true then (hlRow l.2::(hlGo nl k (i+1) (hlFst i fr l.2) r).1,(hlGo nl k (i+1) (hlFst i fr l.2) r).2) else ([],l::r,some l.1,hlFst i fr l.2):=by rw[hlGo,if_pos hne]
        rw[ev]at hy hz
        have bad:hlOk i fr l.2=false→Q (Exit.ret,[],((l::r,nl,l.1,V,S,f,()),(hlFst i fr l.2,()),()),(g,())):=fun e=>by
          rw[if_neg (by rw[e];exact Bool.false_ne_true)]at hz
          exact finP_nil (hz rfl)
        have good:hlOk i fr l.2=true→(hAp1 n i (hlRow l.2) (r,nl,wr,V,S,f,()) (hlFst i fr l.2) g).wp fun r=>match r with
            | .again x' y' g'=>(x'.1-x'.2.1).toNat<(n-i).toNat∧(outHl x' y' g').wp Q
            | .out e avs y' g'=>Q (e,avs,y',g'):=fun e=>by
          rw[if_pos e]at hy hz
          have hM:maxLen=9223372036854775807:=rfl
          unfold hAp1
          refine appG_wp (by omega) (by omega) fun kk=>ndP_wp (gnd_app g _ kk) ?_
          rw[wi1_eq (i:=i) (by omega)]
          have ek:(n-(i+1)).toNat=k:=by omega
          refine ⟨show (n-(i+1)).toNat<(n-i).toNat by omega,wned ?_ ⟨fun a=>?_,fun a=>?_⟩⟩
          · refine ⟨hn,show 0≤i+1 by omega,hlsr,show r.length≤1000000 by simp only[List.length_cons]at hlz;omega,hnl,fun _=>hw0,fun _=>?_,?_⟩
            · show 0≤hlFst i fr l.2∧hlFst i fr l.2≤1
              unfold hlFst
              unfold hlOk fitB at e
              rw[Bool.and_eq_true]at e
              obtain ⟨e1,e2⟩:=e
              by_cases h0:i=0
              · rw[if_pos ⟨e1,h0⟩]
                rw[if_pos h0]at e2
                simp only[Bool.or_eq_true,beq_iff_eq]at e2
                omega
              · rw[if_neg (fun hh=>h0 hh.2)]
                exact hf (by omega)
            · show (((gx g++[_]).length:Nat):Int)≤i+1
              rw[List.length_append,←gl_eq]
              simp only[List.length_cons,List.length_nil]
              omega
          · have a:(hlGo nl (n-(i+1)).toNat (i+1) (hlFst i fr l.2) r).2.2.1.isNone=true:=a
            rw[ek]at a
            show (finP (Exit.exit 0) [] (hlY (r,nl,wr,V,S,f,()) (hlGo nl (n-(i+1)).toNat (i+1) (hlFst i fr l.2) r)) (some (gx g++[hlRow l.2],kk),()) (hlGo nl (n-(i+1)).toNat (i+1) (hlFst i fr l.2) r).1).wp Q
            rw[ek]
            exact finP_cons (hy a) kk
          · have a:(hlGo nl (n-(i+1)).toNat (i+1) (hlFst i fr l.2) r).2.2.1.isNone=false:=a
            rw[ek]at a
            show (finP Exit.ret [] (hlY (r,nl,wr,V,S,f,()) (hlGo nl (n-(i+1)).toNat (i+1) (hlFst i fr l.2) r)) (some (gx g++[hlRow l.2],kk),()) (hlGo nl (n-(i+1)).toNat (i+1) (hlFst i fr l.2) r).1).wp Q
            rw[ek]
            exact finP_cons (hz a) kk
        unfold hBody
        have s0:=wat_ok (k:=0) p4
        have s1:=wat_ok (k:=1) p4
        have s2:=wat_ok (k:=2) p4
        refine wget (by decide) (wat_get (k:=0) (by omega)) (wned (by omega) (wget (by decide) (wat_get (k:=1) (by omega)) (wned (by unfold lenOk;omega) (wget (by decide) (wat_get (k:=2) (by omega)) (wned (by unfold lenOk;omega) ?_)))))
        have out:hlWs l.2=false→(hDn n i true false (qV (wat l.2 1),qV (wat l.2 2)) (l::r,nl,wr,V,S,f,()) fr g).wp fun r=>match r with
            | .again x' y' g'=>(x'.1-x'.2.1).toNat<(n-i).toNat∧(outHl x' y' g').wp Q
            | .out e avs y' g'=>Q (e,avs,y',g'):=fun e=>by
          refine hDn_wp (l:=l) (r:=r) hw rfl (fun _=>?_) (fun e=>by cases e)
          have e1:hlFst i fr l.2=fr:=by unfold hlFst;rw[if_neg (fun hh=>by rw[e]at hh;exact absurd hh.1 Bool.false_ne_true)]
          have:=bad (by unfold hlOk;rw[e];rfl)
          rw[e1]at this
          exact this
        refine ⟨fun ea=>⟨fun eb=>⟨fun ec=>?_,fun ec=>out ?_⟩,fun eb=>out ?_⟩,fun ea=>out ?_⟩
        · have hin:hlWs l.2=true:=by
            unfold hlWs
            rw[ea,eb,ec];rfl
          have K : ∀ (kn ok:Bool) (fr':Int),ok=fitB i (wiv (wat l.2 0)) fr→fr'=hlFst i fr l.2→(hDn n i kn ok (qV (wat l.2 1),qV (wat l.2 2)) (l::r,nl,wr,V,S,f,()) fr' g).wp fun r=>match r with
              | .again x' y' g'=>(x'.1-x'.2.1).toNat<(n-i).toNat∧(outHl x' y' g').wp Q
              | .out e avs y' g'=>Q (e,avs,y',g'):=fun kn ok fr' x1 x2=>by
            subst x1
            subst x2
            have eo:fitB i (wiv (wat l.2 0)) fr=hlOk i fr l.2:=by unfold hlOk;rw[hin,Bool.true_and]
            exact hDn_wp (l:=l) (r:=r) hw rfl (fun e=>bad (eo ▸ e)) (fun e=>good (eo ▸ e))
          have e0 : ∀ hi:i=0,hlFst i fr l.2=wiv (wat l.2 0):=fun hi=>by unfold hlFst;rw[if_pos ⟨hin,hi⟩]
          unfold hFits
          refine ⟨fun hi=>⟨fun h0=>K true true _ ?_ (e0 (by simpa using hi)).symm,fun h0=>K false _ _ ?_ (e0 (by simpa using hi)).symm⟩,fun hi=>?_⟩
          · have hi:i=0:=by simpa using hi
            unfold fitB
            rw[if_pos hi,h0];rfl
          · have hi:i=0:=by simpa using hi
            unfold fitB
            rw[if_pos hi,h0];rfl
          · have hi:¬ i=0:=by simpa using hi
            obtain ⟨f0,f1⟩:=hf (by omega)
            refine K false _ fr ?_ ?_
            · unfold fitB
              rw[if_neg hi]
              show (wiv (wat l.2 0)==IntKind.wrap .i64 (fr+i))=_
              rw[IntWalk.i64_in (fr+i) (by omega)]
            · unfold hlFst;rw[if_neg (fun hh=>hi hh.2)]
        · unfold hlWs;rw[ec,Bool.and_false,Bool.and_false]
        · unfold hlWs;rw[eb,Bool.false_and,Bool.and_false]
        · unfold hlWs;rw[ea,Bool.false_and]
  · have hge:=of_decide_eq_false hge
    rw[show (n-i).toNat=0 by omega]at hy
    exact ndP_wp (gnd_gl g) (finP_nil (hy rfl))
theorem hlL_ok:LoopOk Tryz.prog 1 (bodyOf Tryz.f59 0) (spHl.run outHl):=
  loopHC_ok (O:=OPh) (E:=EPh6) (L:=fun _=>none) rfl mixed 1 (loops_none _ _ _) spHl (by decide) outHl (fun x _ _=>(x.1-x.2.1).toNat) (by
    rintro ⟨n,i,⟨⟩⟩ ⟨⟨ls,nl,wr,V,S,f,⟨⟩⟩,⟨fr,⟨⟩⟩,⟨⟩⟩ ⟨g,⟨⟩⟩ Q hq
    match g,hq with
    | some (xs,cap),hq=>exact ⟨_,tr_hlL_eq n i ls nl wr V S f fr xs cap,hl_core n i ls nl wr V S f fr (some (xs,cap)) Q hq⟩
    | none,hq=>exact ⟨_,tr_hlL0_eq n i ls nl wr V S f fr,hl_core n i ls nl wr V S f fr none Q hq⟩)
noncomputable def lpHl:Loops:=oneL 3 (spHl.run outHl)
end Go.Proofs.YtbkfakkkikmcbaaGreatDoor
namespace Ax
open Go Go.RowKit
section
variable {P:Program} {con:List (Con P)}
def ptrC (O:Opt con) (E:Env P) (L:Loops) (fn:Func) (k:Nat) (ty:TypeId) (c1 c2:Cd) (x:El c1) (args:List Av):T (Av×El c2):=
  (fnRunC O E L fn (args.take k++.one (.p 0 0)::args.drop k) [(ty,ck c1 x)]).bind fun r=>fSt ⟨[r.1],r.2⟩ fun st=>(frzAll 1 st).bind fun st=>fSt st fun st=>match st.fr[0]?,st.mem[0]? with
    | some av,some (ty',cs)=>(match noA av&&decide (ty'=ty),parse c2 cs with
      | true,some (y,[])=>.ret (nA av,y)
      | _,_=>.fail)
    | _,_=>.fail
def ptrCRun (k:Nat) (ty:TypeId) (c1 c2:Cd) (ts:List (Bool×Cd)) (sp:El c1→Els ts→T (Av×El c2)) (args:List Av) (m:Mem):T (Av×Mem):=
  match args[k]? with
  | some (.one (.p i 0))=>match m[i]? with
    | some (ty',cs)=>if ty'=ty then (match parse c1 cs,decs ts (args.take k++args.drop (k+1)) with
      | some (x,[]),some xs=>(sp x xs).bind fun r=>.ret (r.1,m.set i (ty,ck c2 r.2))
      | _,_=>.fail) else .fail
    | none=>.fail
  | _=>.fail
theorem ptrC_ok {O:Opt con} {E:Env P} (hE:E.con=con) {L:Loops} {f:FuncId} {fn:Func} (hm:P.follows .mixedOrders=true) (hf:P.funcs[f]?=some fn) (hL : ∀ c,fn.body=some c→LoopsOk P 1 L c) (k:Nat) (ty:TypeId) (c1 c2:Cd) (ts:List (Bool×Cd)) (sp:El c1→Els ts→T (Av×El c2))
    (h : ∀ x xs Q,(sp x xs).wp Q → ∃ t,ptrC O E L fn k ty c1 c2 x (encs ts xs)=t∧t.wp Q):ConOk P f [k] (ptrCRun k ty c1 c2 ts sp):=by
  intro w φ σ m args vs Q hmem hlen hargs hrun
  unfold ptrCRun at hrun
  split at hrun
  · rename_i i hk
    split at hrun
    · rename_i ty' cs hmi
      by_cases hty:ty'=ty
      · rw[if_pos hty]at hrun
        subst hty
        split at hrun
        · rename_i x xs hp hd
          rw[T.wp_bind]at hrun
          obtain ⟨t,ht,hrun⟩:=h x xs _ hrun
          rw[←ht]at hrun
          unfold ptrC at hrun
          simp only[fSt_eq]at hrun
          rw[T.wp_bind]at hrun
          have hrun:=fnRunC_wp hE hrun
          have hkl:k<args.length:=(List.getElem?_eq_some_iff.1 hk).1
          have hvk:vs[k]?=some (vs[k]'(by omega)):=List.getElem?_eq_getElem _
          obtain ⟨b,hb,hve⟩:=is_one_p (hargs k _ _ hk hvk)
          have hbm:b∈σ:=List.mem_of_getElem? hb
          have hblt:=hmem.lt hbm
          obtain ⟨us,hbl,his⟩:=hmem.blk i _ cs b hmi hb
          obtain ⟨ua,ub,rfl,i1,i2⟩:=parse_ok c1 cs x [] us hp his
          cases i2
          rw[List.append_nil]at hbl
          have hro : ∀ z,Ro w φ σ z→Ro w (φ++σ.erase b) [b] z:=fun z hz=>⟨hz.1,by
            intro hm
            rcases List.mem_append.1 hm with h1|h1
            · exact hz.2.1 h1
            · exact hz.2.2 (List.mem_of_mem_erase h1),by
            intro hm
            rw[List.mem_singleton]at hm
            subst hm
            exact hz.2.2 hbm⟩
          have hmem0:MemOk w (φ++σ.erase b) [b] [(ty',ck c1 x)]:=⟨rfl,by simp,fun z hz=>by
              rcases List.mem_append.1 hz with h1|h1
              · exact hmem.fo z h1
              · exact hmem.lt (List.mem_of_mem_erase h1),hmem.gl.mono fun z hz=>⟨hro z hz,rfl⟩,fun j t cs' b' hj hb'=>by
              rcases j with _|j
              · simp only[List.getElem?_cons_zero,Option.some.injEq]at hj hb'
                cases hj;subst hb'
                exact ⟨ua,hbl,(i1.mono (fun z hz=>⟨hro z hz,rfl⟩) (fun _ _ h=>by simp at h))⟩
              · simp at hj⟩
          have hsplit:vs=vs.take k++vs[k]'(by omega)::vs.drop (k+1):=by simp
          have hl1:(vs.take k++vs.drop (k+1)).length=(args.take k++args.drop (k+1)).length:=by simp[hlen]
          obtain ⟨hle,hae⟩:=decs_ok (w:=w) (R:=Ro w φ σ) (σ:=σ) ts _ xs (vs.take k++vs.drop (k+1)) hd hl1 (fun j a v ha hv=>by
            rcases Nat.lt_or_ge j k with hj|hj
            · rw[List.getElem?_append_left (by simp;omega),List.getElem?_take,if_pos hj]at ha
              rw[List.getElem?_append_left (by simp;omega),List.getElem?_take,if_pos hj]at hv
              exact hargs j a v ha hv
            · rw[List.getElem?_append_right (by simp;omega),List.getElem?_drop]at ha
              rw[List.getElem?_append_right (by simp;omega),List.getElem?_drop]at hv
              have e1:(args.take k).length=k:=by simp;omega
              have e2:(vs.take k).length=k:=by simp;omega
              rw[e1]at ha
              rw[e2]at hv
              exact hargs _ a v ha hv)
          have hek:k≤(encs ts xs).length:=by rw[←hle];simp;omega
          have hlen2:vs.length=((encs ts xs).take k++.one (.p 0 0)::(encs ts xs).drop k).length:=by
            have:=hle
            simp at this ⊢
            omega
          have hargs2 : ∀ (j:Nat) a v,((encs ts xs).take k++.one (.p 0 0)::(encs ts xs).drop k)[j]?=some a→vs[j]?=some v→AvIs w (Ro w (φ++σ.erase b) [b]) [b] a v:=by
            intro j a v ha hv
            have e1:((encs ts xs).take k).length=k:=by simp;omega
            rcases Nat.lt_trichotomy j k with hj|hj|hj
            · rw[List.getElem?_append_left (by omega),List.getElem?_take,if_pos hj]at ha
              have hv2:(vs.take k++vs.drop (k+1))[j]?=some v:=by
                rw[List.getElem?_append_left (by simp;omega),List.getElem?_take,if_pos hj];exact hv
              exact (hae j a v ha hv2).ro hro [b]
            · subst hj
              rw[List.getElem?_append_right (by omega),e1,Nat.sub_self,List.getElem?_cons_zero]at ha
              cases ha
              have:v=.pointer (some ⟨b,0,none⟩):=by
                rw[hvk]at hv
                cases hv;exact hve
              subst this
              exact .one rfl (.p rfl .nil)
            · rw[List.getElem?_append_right (by omega),e1]at ha
              obtain ⟨d,rfl⟩ : ∃ d,j=k+1+d:=⟨j-k-1,by omega⟩
              rw[show k+1+d-k=d+1 from by omega,List.getElem?_cons_succ,List.getElem?_drop]at ha
              have hv2:(vs.take k++vs.drop (k+1))[k+d]?=some v:=by
                rw[List.getElem?_append_right (by simp;omega),List.getElem?_drop]
                have e2:(vs.take k).length=k:=by simp;omega
                rw[e2,show k+1+(k+d-k)=k+1+d from by omega];exact hv
              exact (hae (k+d) a v ha hv2).ro hro [b]
          refine (fn_ok (E:=E) (L:=L) hm hf hL (Nat.le_refl _) hmem0 hlen2 hargs2 hrun).mono fun e w' hr=>?_
          obtain ⟨v,av0,m0,σ0,rfl,hQ,hext0,hkeep0,hav0,hmem0'⟩:=hr
          have hS:Sat w (φ++σ.erase b) [b] σ0 ⟨[av0],m0⟩ { tmps := #[v],defers:=[] } w':=⟨⟨rfl,fun t av ht=>by
            rcases t with _|t
            · cases ht;exact hav0
            · simp at ht⟩,hmem0',hext0,hkeep0,rfl⟩
          dsimp only []at hQ
          rw[T.wp_bind]at hQ
          obtain ⟨st2,σ',hQ,hS2⟩:=frzAll_ok hmem0.fo (Nat.le_refl 1) hS hQ
          obtain ⟨fr2,m'⟩:=st2
          have hext:=hS2.ext
          have hkeep:=hS2.keep
          have hmem':=hS2.mem
          dsimp only []at hQ hmem'
          split at hQ
          · rename_i av ty2 cs2 hfr hm0
            have hav:AvIs w' (Ro w' (φ++σ.erase b) σ') σ' av v:=hS2.fr.at_ 0 av hfr
            split at hQ
            · rename_i y hno hp2
              rw[Bool.and_eq_true,decide_eq_true_iff]at hno
              obtain ⟨hno,hty2⟩:=hno
              subst hty2
              have hb0:σ'[0]?=some b:=hext.get rfl
              obtain ⟨us2,hbl2,his2⟩:=hmem'.blk 0 ty2 cs2 b hm0 hb0
              obtain ⟨va,vb,rfl,j1,j2⟩:=parse_ok c2 cs2 y [] us2 hp2 his2
              cases j2
              rw[List.append_nil]at hbl2
              have hkeep2:Keep w σ w':=⟨hkeep.os,hkeep.tape,hkeep.output,hkeep.size,fun z hz hn=>hkeep.block z hz (fun h=>by
                rw[List.mem_singleton]at h
                subst h
                exact hn hbm)⟩
              have hro2 : ∀ z,Ro w' (φ++σ.erase b) σ' z→Ro w' φ σ z:=fun z hz=>⟨hz.1,fun h=>hz.2.1 (by simp[h]),fun h=>by
                by_cases hzb:z=b
                · subst hzb;exact hz.2.2 (List.mem_of_getElem? hb0)
                · exact hz.2.1 (List.mem_append.2 (.inr ((List.mem_erase_of_ne hzb).2 h)))⟩
              have hoth : ∀ z:Nat,z≠b→z<w.heap.size→w'.heap[z]?=w.heap[z]?:=fun z hz hlt=>hkeep.block z hlt (by simpa using hz)
              refine ⟨v,nA av,m.set i (ty2,ck c2 y),σ,rfl,hQ,Ext.refl _ _,hkeep2,fun j b' hj hn=>?_,(nA_is (av_no hav hno)).ro hro2 σ,?_⟩
              · refine hoth b' (fun e=>?_) (hmem.lt (List.mem_of_getElem? hj))
                subst e
                apply hn
                obtain ⟨l1,e1⟩:=List.getElem?_eq_some_iff.1 hb
                obtain ⟨l2,e2⟩:=List.getElem?_eq_some_iff.1 hj
                have:=(List.getElem_inj hmem.nodup).1 (e1.trans e2.symm)
                subst this
                refine mem_wrOf ?_
                unfold wrDirect
                simp[hk]
              · refine ⟨by simp[hmem.len],hmem.nodup,fun z hz=>Nat.lt_of_lt_of_le (hmem.fo z hz) hkeep.size,hmem'.gl.mono fun z hz=>⟨hro2 z hz,rfl⟩,fun j t cs' b' hj hb'=>?_⟩
                rw[List.getElem?_set]at hj
                by_cases e:i=j
                · subst e
                  rw[if_pos rfl]at hj
                  split at hj
                  · cases hj
                    rw[hb]at hb'
                    cases hb'
                    exact ⟨va,hbl2,j1.mono (fun z hz=>⟨hro2 z hz,rfl⟩) (fun _ _ h=>by simp at h)⟩
                  · cases hj
                · rw[if_neg e]at hj
                  obtain ⟨us3,g1,g2⟩:=hmem.blk j t cs' b' hj hb'
                  have hne:b'≠b:=by
                    rintro rfl
                    obtain ⟨l1,e1⟩:=List.getElem?_eq_some_iff.1 hb
                    obtain ⟨l2,e2⟩:=List.getElem?_eq_some_iff.1 hb'
                    exact e ((List.getElem_inj hmem.nodup).1 (e1.trans e2.symm))
                  exact ⟨us3,(hoth b' hne (hmem.lt (List.mem_of_getElem? hb'))).trans g1,g2.mono (hkeep2.ro (Ext.refl _ _)) (fun _ _ h=>h)⟩
            · exact hQ.elim
          · exact hQ.elim
        · exact hrun.elim
      · rw[if_neg hty]at hrun;exact hrun.elim
    · exact hrun.elim
  · exact hrun.elim
end
end Ax
namespace Go.Proofs.YtbkfakkkikmcbaaGreatDoor
open Go.RowKit Ax
theorem okH_get : ∀ (n:List Int) (l:List I2) (k:Nat) (v:Int) (p:I2),okH n l=true→n[k]?=some v→l[k]?=some p→inB v p=true
  | [],_,k,v,p,_,h,_=>by simp at h
  | _::_,[],k,v,p,_,_,h=>by simp at h
  | a::n,b::l,0,v,p,h,h1,h2=>by
    rw[okH,Bool.and_eq_true]at h
    cases h1;cases h2
    exact h.1
  | a::n,b::l,k+1,v,p,h,h1,h2=>by
    rw[okH,Bool.and_eq_true]at h
    exact okH_get n l k v p h.2 h1 h2
theorem hd_good {c:Cd} {l:List I2} {y:Par c} (h:hdOk l y=true) : ∃ a r,y.1=a::r∧lnOk l a.2=true∧hdV l y=a.2.map wiv∧hdSt l y=setL y r∧(y.2.2.1:Int)≤0:=by
  obtain ⟨ls,nl,wr,z⟩:=y
  have h0:=h
  unfold hdOk at h
  rw[Bool.and_eq_true,decide_eq_true_iff]at h
  obtain ⟨h1,h2⟩:=h
  cases ls with
  | nil=>cases h2
  | cons a r =>
    refine ⟨a,r,rfl,h2,?_,?_,h1⟩
    · unfold hdV;rw[if_pos h0];rfl
    · unfold hdSt
      rw[if_neg (show ¬ (0:Int)<(wr:Int) from Int.not_lt.2 h1)]
      show (if lnOk l a.2=true then _ else _)=_
      rw[if_pos h2]
theorem hd_bad {c:Cd} {l:List I2} {y:Par c} (h:hdOk l y=false):hdV l y=List.replicate l.length 0:=by
  unfold hdV
  rw[if_neg (by rw[h];exact Bool.false_ne_true)]
theorem hdV_len {c:Cd} {l:List I2} {y:Par c}:(hdV l y).length=l.length:=by
  cases h:hdOk l y with
  | false=>rw[hd_bad h,List.length_replicate]
  | true =>
    obtain ⟨a,r,_,h2,h3,_⟩:=hd_good h
    rw[h3,List.length_map]
    unfold lnOk at h2
    rw[Bool.and_eq_true,decide_eq_true_iff]at h2
    exact h2.1
theorem hdV_in {c:Cd} {l:List I2} {y:Par c} {k:Nat} {p:I2} (hp:l[k]?=some p):hAt (hdV l y) k=0∧hdOk l y=false∨(p.1≤hAt (hdV l y) k∧hAt (hdV l y) k≤p.2)∧hdOk l y=true:=by
  have hk:k<l.length:=(List.getElem?_eq_some_iff.1 hp).1
  cases h:hdOk l y with
  | false =>
    left
    refine ⟨?_,rfl⟩
    unfold hAt
    rw[hd_bad h,List.getElem?_replicate,if_pos hk]
    rfl
  | true =>
    right
    refine ⟨?_,rfl⟩
    have hl:=hdV_len (l:=l) (y:=y)
    have e:(hdV l y)[k]?=some (hAt (hdV l y) k):=by
      unfold hAt
      rw[List.getElem?_eq_getElem (by omega:k<(hdV l y).length)]
      rfl
    obtain ⟨a,r,_,h2,h3,_⟩:=hd_good h
    unfold lnOk at h2
    rw[Bool.and_eq_true,Bool.and_eq_true]at h2
    rw[←h3]at h2
    have:=okH_get _ _ k _ _ h2.2.2 e hp
    unfold inB at this
    rw[Bool.and_eq_true,decide_eq_true_iff,decide_eq_true_iff]at this
    exact ⟨this.1,this.2⟩
theorem hdSt_yok {c:Cd} {l:List I2} {y:Par c} (h:YOk y):YOk (hdSt l y):=by
  obtain ⟨ls,nl,wr,z⟩:=y
  obtain ⟨h1,h2,h3,h4⟩:=h
  unfold hdSt
  split
  · exact ⟨h1,h2,h3,h4⟩
  · cases ls with
    | nil=>exact ⟨h1,h2,h3,h4⟩
    | cons a r =>
      show YOk (if lnOk l a.2=true then _ else _)
      split
      · refine ⟨fun b hb=>h1 b (List.mem_cons_of_mem _ hb),h2,h3,?_⟩
        have h4:(a::r).length≤1000000:=h4
        rw[List.length_cons]at h4
        show r.length≤1000000
        omega
      · exact ⟨h1,h2,h3,h4⟩
theorem hd_wr {c:Cd} {l:List I2} {y:Par c} (h:0<hAt (hdV l y) 0):((hdSt l y).2.2.1:Int)≤0:=by
  cases hk:hdOk l y with
  | false =>
    rw[hd_bad hk]at h
    unfold hAt at h
    rw[List.getElem?_replicate]at h
    split at h <;> simp at h
  | true =>
    obtain ⟨a,r,_,_,_,h4,h5⟩:=hd_good hk
    rw[h4]
    exact h5
theorem hAt_get {h:List Int} {k:Nat} (hk:k<h.length):h[k]?=some (hAt h k):=by
  unfold hAt
  rw[List.getElem?_eq_getElem hk]
  rfl
abbrev l4:List I2:=[((0:Int),(1000:Int)),((2:Int),(2:Int)),((0:Int),(2:Int)),((0:Int),(1:Int))]
def vtY (y:Par cPs1):YV:=(y.1,y.2.1,y.2.2.1,(),(),y.2.2.2.2.2.2,())
def vtN (y:Par cPs1) (n:Int):List V3×YV×Bool:=vtGo (hdV (c:=cPs1) l4 y) (n-0).toNat 0 (vtY (hdSt (c:=cPs1) l4 y))
def vtP (y:YV) (W:List V3):Par cPs2:=(y.1,y.2.1,y.2.2.1,W,(),(),y.2.2.2.2.2.1)
def vtEnd (y:YV) (W:List V3):T (Av×Par cPs2):=.ite W.isEmpty (.ret (.tup [],vtP y [])) (.up 0 fun _=>.need (List.length W≤List.length W) (.ret (.tup [],vtP y (List.take (List.length W) W))))
def vTree (y:Par cPs1):T (Av×Par cPs2):=.need (YOk (c:=cPs1) y∧List.length l4≤1000) (.get (hdV (c:=cPs1) l4 y) 0 fun n=>.need (VInv (hdV (c:=cPs1) l4 y) n 0 (vtY (hdSt (c:=cPs1) l4 y)) (gl (α:=V3) none)) (.ite (vtN y n).2.2 (vtEnd (vtN y n).2.1 (vtN y n).1) (vtEnd (vtN y n).2.1 (vtN y n).1)))
theorem tr_pverts_eq (y:Par cPs1):ptrC OP6 EPl6 lpVt Tryz.f57 0 115 (cPr cPs1) (cPr cPs2) y (encs [] ())=vTree y:=by kernel_rfl
def vtF (y:Par cPs1):Par cPs2:=vtP (vtN y (hAt (hdV (c:=cPs1) l4 y) 0)).2.1 (vtN y (hAt (hdV (c:=cPs1) l4 y) 0)).1
theorem vtEnd_wp {y:YV} {W:List V3}:(vtEnd y W).wp (· = (.tup [],vtP y W)):=by
  refine ⟨fun h=>?_,fun _ _ _=>⟨Nat.le_refl _,?_⟩⟩
  · rw[List.isEmpty_iff.1 h];rfl
  · rw[List.take_length];rfl
theorem vTree_wp {y:Par cPs1} (hy:YOk (c:=cPs1) y):(vTree y).wp (· = (.tup [],vtF y)):=by
  have hl:(hdV (c:=cPs1) l4 y).length=4:=hdV_len
  have hs:=hdSt_yok (l:=l4) hy
  have b0:=hdV_in (c:=cPs1) (l:=l4) (y:=y) (k:=0) rfl
  have b2:=hdV_in (c:=cPs1) (l:=l4) (y:=y) (k:=2) rfl
  have b3:=hdV_in (c:=cPs1) (l:=l4) (y:=y) (k:=3) rfl
  dsimp only at b0 b2 b3
  unfold vTree
  refine wned ⟨hy,by decide⟩ (wget (v:=hAt (hdV (c:=cPs1) l4 y) 0) (Int.le_refl 0) (hAt_get (by omega)) (wned ⟨hl,by omega,by omega,by omega,Int.le_refl 0,hs.1,hs.2.2.2,⟨hs.2.1,hs.2.2.1⟩,fun h=>hd_wr h,fun h=>absurd h (Int.lt_irrefl 0),Int.le_refl 0⟩ ⟨fun _=>vtEnd_wp,fun _=>vtEnd_wp⟩))
noncomputable def con_pverts:Con Tryz.prog:=⟨57,[0],_,cf_pverts,ptrC_ok (O:=OP6) (E:=EPl6) rfl (L:=lpVt) mixed Tryz.func57 (one_loop vtL_ok (by kernel_rfl)) 0 115 (cPr cPs1) (cPr cPs2) [] (fun y _=>.need (YOk (c:=cPs1) y) (.ret (.tup [],vtF y))) fun y xs Q hq=>by
  obtain ⟨h1,hq⟩:=hq
  exact ⟨_,tr_pverts_eq y,T.wp_mono (fun r hr=>by rw[hr];exact hq) (vTree_wp h1)⟩⟩
abbrev l2:List I2:=[((0:Int),(1000:Int)),((0:Int),(1:Int))]
abbrev l1:List I2:=[((0:Int),(1000:Int))]
def sgY0 (y:Par cPs2):YS:=(y.1,y.2.1,y.2.2.1,y.2.2.2.1,(),y.2.2.2.2.2.2,())
def sgP (y:HSpec.Y spSg) (W:List V3):Par cPs3:=(y.1.1,y.1.2.1,y.1.2.2.1,y.1.2.2.2.1,W,(),y.1.2.2.2.2.2.1)
def sgEnd (y:HSpec.Y spSg) (W:List V3):T (Av×Par cPs3):=.ite W.isEmpty (.ret (.tup [],sgP y [])) (.up 0 fun _=>.need (List.length W≤List.length W) (.ret (.tup [],sgP y (List.take (List.length W) W))))
def sgN0 (y:Par cPs2) (n:Int):List V3×LLw×Option Int×Int:=sgN (hdV (c:=cPs2) l2 y) n 0 (sgY0 (hdSt (c:=cPs2) l2 y)) 0
def sTree (y:Par cPs2):T (Av×Par cPs3):=.need (YOk (c:=cPs2) y∧List.length l2≤1000) (.get (hdV (c:=cPs2) l2 y) 0 fun n=>.need (SInv (hdV (c:=cPs2) l2 y) n 0 (sgY0 (hdSt (c:=cPs2) l2 y)) 0 (gl (α:=V3) none)) (.ite (sgN0 y n).2.2.1.isNone (sgEnd (sgY (sgY0 (hdSt (c:=cPs2) l2 y)) (sgN0 y n)) (sgN0 y n).1) (sgEnd (sgY (sgY0 (hdSt (c:=cPs2) l2 y)) (sgN0 y n)) (sgN0 y n).1)))
theorem tr_psegs_eq (y:Par cPs2):ptrC OPg EPg6 lpSg Tryz.f58 0 115 (cPr cPs2) (cPr cPs3) y (encs [] ())=sTree y:=by kernel_rfl
def sgF (y:Par cPs2):Par cPs3:=sgP (sgY (sgY0 (hdSt (c:=cPs2) l2 y)) (sgN0 y (hAt (hdV (c:=cPs2) l2 y) 0))) (sgN0 y (hAt (hdV (c:=cPs2) l2 y) 0)).1
theorem sgEnd_wp {y:HSpec.Y spSg} {W:List V3}:(sgEnd y W).wp (· = (.tup [],sgP y W)):=by
  refine ⟨fun h=>?_,fun _ _ _=>⟨Nat.le_refl _,?_⟩⟩
  · rw[List.isEmpty_iff.1 h];rfl
  · rw[List.take_length];rfl
theorem sTree_wp {y:Par cPs2} (hy:YOk (c:=cPs2) y):(sTree y).wp (· = (.tup [],sgF y)):=by
  have hl:(hdV (c:=cPs2) l2 y).length=2:=hdV_len
  have hs:=hdSt_yok (l:=l2) hy
  have b0:=hdV_in (c:=cPs2) (l:=l2) (y:=y) (k:=0) rfl
  have b1:=hdV_in (c:=cPs2) (l:=l2) (y:=y) (k:=1) rfl
  dsimp only at b0 b1
  unfold sTree
  refine wned ⟨hy,by decide⟩ (wget (v:=hAt (hdV (c:=cPs2) l2 y) 0) (Int.le_refl 0) (hAt_get (by omega)) (wned ⟨hl,by omega,by omega,Int.le_refl 0,hs.1,hs.2.2.2,⟨hs.2.1,hs.2.2.1⟩,fun h=>hd_wr h,fun h=>absurd h (Int.lt_irrefl 0),Int.le_refl 0⟩ ⟨fun _=>sgEnd_wp,fun _=>sgEnd_wp⟩))
noncomputable def con_psegs:Con Tryz.prog:=⟨58,[0],_,cf_psegs,ptrC_ok (O:=OPg) (E:=EPg6) rfl (L:=lpSg) mixed Tryz.func58 (one_loop sgL_ok (by kernel_rfl)) 0 115 (cPr cPs2) (cPr cPs3) [] (fun y _=>.need (YOk (c:=cPs2) y) (.ret (.tup [],sgF y))) fun y xs Q hq=>by
  obtain ⟨h1,hq⟩:=hq
  exact ⟨_,tr_psegs_eq y,T.wp_mono (fun r hr=>by rw[hr];exact hq) (sTree_wp h1)⟩⟩
def hlY0 (y:Par cPs3):YH:=(y.1,y.2.1,y.2.2.1,y.2.2.2.1,y.2.2.2.2.1,y.2.2.2.2.2.2,())
def hlP (y:HSpec.Y spHl) (W:List P2):Par cPs4:=(y.1.1,y.1.2.1,y.1.2.2.1,y.1.2.2.2.1,y.1.2.2.2.2.1,W,y.1.2.2.2.2.2.1)
def hlEnd (y:HSpec.Y spHl) (W:List P2):T (Av×Par cPs4):=.ite W.isEmpty (.ret (.tup [],hlP y [])) (.up 0 fun _=>.need (List.length W≤List.length W) (.ret (.tup [],hlP y (List.take (List.length W) W))))
def hlN0 (y:Par cPs3) (n:Int):List P2×LLw×Option Int×Int:=hlN n 0 (hlY0 (hdSt (c:=cPs3) l1 y)) 0
def hlTree (y:Par cPs3):T (Av×Par cPs4):=.need (YOk (c:=cPs3) y∧List.length l1≤1000) (.get (hdV (c:=cPs3) l1 y) 0 fun n=>.need (HInv n 0 (hlY0 (hdSt (c:=cPs3) l1 y)) 0 (gl (α:=P2) none)) (.ite (hlN0 y n).2.2.1.isNone (hlEnd (hlY (hlY0 (hdSt (c:=cPs3) l1 y)) (hlN0 y n)) (hlN0 y n).1) (hlEnd (hlY (hlY0 (hdSt (c:=cPs3) l1 y)) (hlN0 y n)) (hlN0 y n).1)))
theorem tr_pholes_eq (y:Par cPs3):ptrC OPh EPh6 lpHl Tryz.f59 0 115 (cPr cPs3) (cPr cPs4) y (encs [] ())=hlTree y:=by kernel_rfl
def hlF (y:Par cPs3):Par cPs4:=hlP (hlY (hlY0 (hdSt (c:=cPs3) l1 y)) (hlN0 y (hAt (hdV (c:=cPs3) l1 y) 0))) (hlN0 y (hAt (hdV (c:=cPs3) l1 y) 0)).1
theorem hlEnd_wp {y:HSpec.Y spHl} {W:List P2}:(hlEnd y W).wp (· = (.tup [],hlP y W)):=by
  refine ⟨fun h=>?_,fun _ _ _=>⟨Nat.le_refl _,?_⟩⟩
  · rw[List.isEmpty_iff.1 h];rfl
  · rw[List.take_length];rfl
theorem hlTree_wp {y:Par cPs3} (hy:YOk (c:=cPs3) y):(hlTree y).wp (· = (.tup [],hlF y)):=by
  have hl:(hdV (c:=cPs3) l1 y).length=1:=hdV_len
  have hs:=hdSt_yok (l:=l1) hy
  have b0:=hdV_in (c:=cPs3) (l:=l1) (y:=y) (k:=0) rfl
  dsimp only at b0
  unfold hlTree
  refine wned ⟨hy,by decide⟩ (wget (v:=hAt (hdV (c:=cPs3) l1 y) 0) (Int.le_refl 0) (hAt_get (by omega)) (wned ⟨by omega,Int.le_refl 0,hs.1,hs.2.2.2,⟨hs.2.1,hs.2.2.1⟩,fun h=>hd_wr h,fun h=>absurd h (Int.lt_irrefl 0),Int.le_refl 0⟩ ⟨fun _=>hlEnd_wp,fun _=>hlEnd_wp⟩))
noncomputable def con_pholes:Con Tryz.prog:=⟨59,[0],_,cf_pholes,ptrC_ok (O:=OPh) (E:=EPh6) rfl (L:=lpHl) mixed Tryz.func59 (one_loop hlL_ok (by kernel_rfl)) 0 115 (cPr cPs3) (cPr cPs4) [] (fun y _=>.need (YOk (c:=cPs3) y) (.ret (.tup [],hlF y))) fun y xs Q hq=>by
  obtain ⟨h1,hq⟩:=hq
  exact ⟨_,tr_pholes_eq y,T.wp_mono (fun r hr=>by rw[hr];exact hq) (hlTree_wp h1)⟩⟩
theorem p_fgo_length : ∀ (l cur:List UInt8),(fgo cur l).length≤cur.length+l.length
  | [],cur=>by
    rw[fgo]
    split
    · exact Nat.zero_le _
    · rename_i h
      have:0<cur.length:=List.length_pos_iff.2 h
      simp;omega
  | c::r,cur=>by
    rw[fgo]
    split
    · split
      · have:=p_fgo_length r [];simp at this ⊢;omega
      · rename_i h
        have h1:0<cur.length:=List.length_pos_iff.2 h
        have:=p_fgo_length r [];simp at this ⊢;omega
    · have:=p_fgo_length r (cur++[c]);simp at this ⊢;omega
theorem p_wordsB_length (l:List UInt8):(wordsB l).length≤l.length:=by
  unfold wordsB
  rw[List.length_map]
  have h:=p_fgo_length (l.takeWhile (· != 35)) []
  have:=(List.takeWhile_prefix (p:=(· != 35)) (l:=l)).length_le
  simp at h;omega
theorem p_lf_fit : ∀ (l cur:List UInt8) (n:Int),(lf cur l n).length≤l.length+1 ∧ ∀ e∈lf cur l n,e.2.length≤cur.length+l.length
  | [],cur,n=>by
    have:=p_wordsB_length cur
    rw[lf,one1]
    split
    · exact ⟨by simp,fun e he=>by rw[List.mem_singleton]at he;subst he;simpa using this⟩
    · exact ⟨by simp,fun e he=>by cases he⟩
  | c::r,cur,n=>by
    rw[lf]
    split
    · obtain ⟨h1,h2⟩:=p_lf_fit r [] (n+1)
      have:=p_wordsB_length cur
      unfold one1
      split
      · refine ⟨by simp;omega,fun e he=>?_⟩
        rw[List.singleton_append]at he
        rcases List.mem_cons.1 he with rfl|he
        · simp only[List.length_cons];omega
        · have:=h2 e he;simp at this ⊢;omega
      · refine ⟨by simp;omega,fun e he=>?_⟩
        have:=h2 e (by simpa using he);simp at this ⊢;omega
    · obtain ⟨h1,h2⟩:=p_lf_fit r (cur++[c]) n
      refine ⟨by simp;omega,fun e he=>?_⟩
      have:=h2 e he;simp at this ⊢;omega
theorem lf_num : ∀ (l cur:List UInt8) (n:Int),∀ e∈lf cur l n,n<e.1∧e.1≤n+l.length+1
  | [],cur,n,e,he=>by
    rw[lf,one1]at he
    split at he
    · rw[List.mem_singleton]at he;subst he
      show n<n+1∧n+1≤n+(([]:List UInt8).length:Int)+1
      simp;omega
    · cases he
  | c::r,cur,n,e,he=>by
    rw[lf]at he
    split at he
    · rcases List.mem_append.1 he with he|he
      · unfold one1 at he
        split at he
        · rw[List.mem_singleton]at he;subst he;simp;omega
        · cases he
      · have:=lf_num r [] (n+1) e he;simp;omega
    · have:=lf_num r (cur++[c]) n e he;simp;omega
theorem lok_lines {s:ByteArray} (hs:s.size≤900000):LOk (linesOf s)∧(linesOf s).length≤1000000:=by
  obtain ⟨h1,h2⟩:=p_lf_fit s.data.toList [] 0
  have h3:=lf_num s.data.toList [] 0
  have h4:=lines_size s
  rw[←linesOf_lf]at h1 h2 h3
  rw[←Lib.size_eq]at h1 h2 h3
  refine ⟨fun a ha=>?_,by omega⟩
  have a2:=h2 a ha
  have a3:=h3 a ha
  have a4:=h4 a ha
  refine ⟨by omega,by omega,?_,fun w hw=>?_⟩
  · simp at a2;omega
  · have:=a4 w hw;omega
theorem pl_in {s:ByteArray} (hs:s.size≤900000):0≤plN s∧plN s≤1000000:=by
  have:=cnt_in s
  unfold plN
  split <;> omega
def LK (ls:LLw):Prop:=LOk ls∧ls.length≤1000000
theorem LK.tail {l:Int×List ByteArray} {r:LLw} (h:LK (l::r)):LK r:=⟨fun a ha=>h.1 a (List.mem_cons_of_mem _ ha),by have:=h.2;rw[List.length_cons]at this;omega⟩
theorem vtGo_lk (h:List Int) : ∀ (k:Nat) (i:Int) (ls:LLw) (nl wr:Int) (S H:Unit) (f:Int),LK ls→LK (vtGo h k i (ls,nl,wr,S,H,f,())).2.1.1∧(vtGo h k i (ls,nl,wr,S,H,f,())).2.1.2.1=nl
  | 0,i,ls,nl,wr,S,H,f,hl=>⟨hl,rfl⟩
  | k+1,i,[],nl,wr,S,H,f,hl=>⟨hl,rfl⟩
  | k+1,i,l::r,nl,wr,S,H,f,hl=>by
    rw[vtGo]
    simp only[]
    split
    · split
      · exact vtGo_lk h k (i+1) r nl wr S H _ hl.tail
      · exact ⟨hl,rfl⟩
    · exact ⟨hl,rfl⟩
theorem sgGo_lk (b:Int) (V:List V3) (f nl:Int) : ∀ (k:Nat) (i fr:Int) (ls:LLw),LK ls→LK (sgGo b V f nl k i fr ls).2.1
  | 0,i,fr,ls,hl=>hl
  | k+1,i,fr,[],hl=>hl
  | k+1,i,fr,l::r,hl=>by
    rw[sgGo]
    split
    · split
      · exact sgGo_lk b V f nl k (i+1) _ r hl.tail
      · exact hl
    · exact hl
theorem vtF_yok {y:Par cPs1} (h:YOk (c:=cPs1) y):YOk (c:=cPs2) (vtF y):=by
  have hs:=hdSt_yok (l:=l4) h
  unfold vtF vtN
  generalize hdSt (c:=cPs1) l4 y=z at hs
  obtain ⟨ls,nl,wr,V,S,H,f⟩:=z
  obtain ⟨h1,h2,h3,h4⟩:=hs
  have:=vtGo_lk (hdV (c:=cPs1) l4 y) (hAt (hdV (c:=cPs1) l4 y) 0-0).toNat 0 ls nl wr () () f ⟨h1,h4⟩
  refine ⟨this.1.1,?_,?_,this.1.2⟩
  · exact Int.le_trans h2 (Int.le_of_eq this.2.symm)
  · exact Int.le_trans (Int.le_of_eq this.2) h3
theorem sgF_yok {y:Par cPs2} (h:YOk (c:=cPs2) y):YOk (c:=cPs3) (sgF y):=by
  have hs:=hdSt_yok (l:=l2) h
  unfold sgF sgN0
  generalize hdSt (c:=cPs2) l2 y=z at hs
  obtain ⟨ls,nl,wr,V,S,H,f⟩:=z
  obtain ⟨h1,h2,h3,h4⟩:=hs
  have:=sgGo_lk (hAt (hdV (c:=cPs2) l2 y) 1) V f nl (hAt (hdV (c:=cPs2) l2 y) 0-0).toNat 0 0 ls ⟨h1,h4⟩
  exact ⟨this.1,h2,h3,this.2⟩
abbrev cDr7:Cd:=.pair (.sl cI3) (.pair (.sl cI3) (.sl cP))
abbrev Dr:=El cDr7
noncomputable def zeroDr:Zero Tryz.prog:=zOf 63 cDr7 rfl (by kernel_rfl)
noncomputable def zeroRd:Zero Tryz.prog:=zOf 111 (.pair (.sl cL) (.pair (.int .i64) (.int .i64))) rfl (by kernel_rfl)
noncomputable def zeroPs:Zero Tryz.prog:=zRow 115 [.sl cL,.int .i64,.int .i64,.sl cI3,.sl cI3,.sl cP,.int .i64] rfl (by kernel_rfl)
noncomputable def EPp:Env Tryz.prog:=⟨con_pverts::con_psegs::con_pholes::con_plines::EPl4.con,zeroDr::zeroRd::zeroPs::EPl5.zero,EPl5.cod,EPl5.sure,EPl5.base,EPl5.frz⟩
noncomputable def OPp:Opt EPp.con:=⟨[],[],fun _=>none⟩
def dr0:Dr:=([],[],[])
def ppBad (w:Int):T Av:=.ret (.tup [.agg (ck cDr7 dr0),aI .i64 w])
def ppFin (y:Par cPs4) (w:Int):T Av:=.ite (decide (w>0)) (ppBad w) (.ret (.tup [.agg (ck cDr7 (y.2.2.2.1,y.2.2.2.2.1,y.2.2.2.2.2.1)),aI .i64 0]))
def ppEnd (y:Par cPs4):T Av:=.ite ((y.2.2.1:Int)==0) (.ite (decide ((List.length y.1:Int)>0)) (.get y.1 0 fun l=>ppFin y l.1) (ppFin y y.2.2.1)) (ppFin y y.2.2.1)
def pp0 (s:ByteArray):Par cPs1:=(linesOf s,plN s,(0:Int),(),(),(),(0:Int))
def ppTree (s:ByteArray):T Av:=.ite (decide ((s.size:Int)>4000)) (ppBad 1) (.need (LinesFit s) (.need (s.size≤900000) (.need (YOk (c:=cPs1) (pp0 s)) (.need (YOk (c:=cPs2) (vtF (pp0 s))) (.need (YOk (c:=cPs3) (sgF (vtF (pp0 s)))) (ppEnd (hlF (sgF (vtF (pp0 s))))))))))
theorem tr_pparse_eq (s:ByteArray):fnPC OPp EPp (fun _=>none) Tryz.f27 (encs [(false,.str)] (s,()))=ppTree s:=by kernel_rfl
def ppW (y:Par cPs4):Int:=if (y.2.2.1:Int)=0 then (match (y.1:LLw) with
  | []=>0
  | l::_=>l.1) else y.2.2.1
def ppR (y:Par cPs4):Dr×Int:=if 0<ppW y then (dr0,ppW y) else ((y.2.2.2.1,y.2.2.2.2.1,y.2.2.2.2.2.1),0)
def ppV (s:ByteArray):Dr×Int:=if 4000<s.size then (dr0,1) else ppR (hlF (sgF (vtF (pp0 s))))
theorem ppFin_wp {y:Par cPs4} {w:Int} (h:ppW y=w):(ppFin y w).wp (· = .tup [.agg (ck cDr7 (ppR y).1),aI .i64 (ppR y).2]):=by
  unfold ppFin ppR
  rw[h]
  refine ⟨fun e=>?_,fun e=>?_⟩
  · have e:w>0:=of_decide_eq_true e
    rw[if_pos (show 0<w from e)];rfl
  · have e:¬ w>0:=of_decide_eq_false e
    rw[if_neg (show ¬ 0<w from e)];rfl
theorem ppEnd_wp {y:Par cPs4}:(ppEnd y).wp (· = .tup [.agg (ck cDr7 (ppR y).1),aI .i64 (ppR y).2]):=by
  unfold ppEnd
  obtain ⟨ls,nl,wr,z⟩:=y
  refine ⟨fun e=>⟨fun e2=>?_,fun e2=>ppFin_wp ?_⟩,fun e=>ppFin_wp ?_⟩
  · have e0:(wr:Int)=0:=eq_of_beq (α:=Int) e
    have e2:(ls.length:Int)>0:=of_decide_eq_true e2
    cases ls with
    | nil=>simp at e2
    | cons l r =>
      refine wget (v:=l) (Int.le_refl 0) rfl (ppFin_wp ?_)
      unfold ppW
      rw[if_pos (show (wr:Int)=0 from e0)]
  · have e0:(wr:Int)=0:=eq_of_beq (α:=Int) e
    have e2:¬ (ls.length:Int)>0:=of_decide_eq_false e2
    cases ls with
    | cons l r=>exact absurd (show (((l::r).length:Nat):Int)>0 by rw[List.length_cons];omega) e2
    | nil =>
      unfold ppW
      rw[if_pos (show (wr:Int)=0 from e0)]
      exact e0.symm
  · have e:¬ (wr:Int)=0:=fun h=>by
      have h2:((wr:Int)==0)=false:=e
      rw[h]at h2
      cases h2
    unfold ppW
    rw[if_neg (show ¬ wr=0 from e)]
theorem pp0_yok {s:ByteArray} (h:s.size≤900000):YOk (c:=cPs1) (pp0 s):=⟨(lok_lines h).1,(pl_in h).1,(pl_in h).2,(lok_lines h).2⟩
theorem ppTree_wp (s:ByteArray):(ppTree s).wp (· = .tup [.agg (ck cDr7 (ppV s).1),aI .i64 (ppV s).2]):=by
  unfold ppTree ppV
  refine ⟨fun e=>?_,fun e=>?_⟩
  · have e:(s.size:Int)>4000:=of_decide_eq_true e
    rw[if_pos (by omega)];rfl
  · have e:¬ (s.size:Int)>4000:=of_decide_eq_false e
    rw[if_neg (by omega)]
    have h0:=pp0_yok (s:=s) (by omega)
    exact wned (fit_of s (by omega)) (wned (by omega) (wned h0 (wned (vtF_yok h0) (wned (sgF_yok (vtF_yok h0)) ppEnd_wp))))
noncomputable def con_pparse:Con Tryz.prog:=⟨27,[],_,cf_pparse,val_conC (O:=OPp) (E:=EPp) (L:=fun _=>none) rfl mixed Tryz.func27 no_loops [(false,.str)] (fun _=>True) (fun x=>.tup [.agg (ck cDr7 (ppV x.1).1),aI .i64 (ppV x.1).2]) (fun x=>ppTree x.1) (fun x=>tr_pparse_eq x.1) fun x _=>ppTree_wp x.1⟩
abbrev I3:=Int×Int×Int
abbrev GSt:=Gr ByteArray
def in64W (v:Int):Prop := -9223372036854775808≤v∧v≤9223372036854775807
theorem inter_len (b:Nat) : ∀ ws:List (List UInt8),(∀ w∈ws,w.length≤b)→(inter ws).length≤ws.length*(b+1)
  | [],_=>Nat.zero_le _
  | [w],h=>by have:=h w (by simp);simp[inter];omega
  | w::x::r,h=>by
    have h1:=h w (by simp)
    have h2:=inter_len b (x::r) (fun y hy=>h y (by simp at hy ⊢;exact .inr hy))
    rw[inter,List.length_append,List.length_cons,List.length_cons (a:=w),Nat.add_mul]
    omega
theorem joinB_list (xs:List ByteArray):(joinB xs spB).data.toList=inter (xs.map (·.data.toList)):=inter_join _
theorem rowS_list (xs:List ByteArray):(rowS xs).data.toList=rowU (xs.map (·.data.toList)):=by
  unfold rowS rowU
  rw[←joinB_list]
  simp
theorem joinB_size (b:Nat) (xs:List ByteArray) (h : ∀ w∈xs,w.size≤b):(joinB xs spB).size≤xs.length*(b+1):=by
  have:=inter_len b (xs.map (·.data.toList)) (fun w hw=>by
    obtain ⟨x,hx,rfl⟩:=List.mem_map.1 hw
    rw[←Lib.size_eq]
    exact h x hx)
  rw[←joinB_list,←Lib.size_eq,List.length_map]at this
  exact this
theorem rowS_size (b:Nat) (xs:List ByteArray) (h : ∀ w∈xs,w.size≤b):(rowS xs).size≤xs.length*(b+1)+1:=by
  have:=joinB_size b xs h
  unfold rowS
  rw[ByteArray.size_append]
  have:ByteArray.size ⟨#[10]⟩=1:=rfl
  omega
theorem itoaS_size {v:Int} (h:in64W v):(itoaS v).size≤20:=by
  unfold in64W at h
  have h9:(Lib.decDigits v.natAbs).length≤19:=by
    rw[Lib.decDigits_length]
    exact nd_le 18 _ (by omega)
  show (Lib.itoa v).toArray.size≤20
  rw[List.size_toArray]
  unfold Lib.itoa
  split
  · rw[List.length_cons];omega
  · rw[show v.toNat=v.natAbs by omega];omega
def intsS (l:List Int):ByteArray:=rowS (l.map itoaS)
theorem ints_w {l:List Int} (hv : ∀ v∈l,in64W v) : ∀ w∈l.map itoaS,w.size≤20:=fun w hw=>by
  obtain ⟨v,h,rfl⟩:=List.mem_map.1 hw
  exact itoaS_size (hv v h)
theorem intsS_size {l:List Int} (hv : ∀ v∈l,in64W v):(intsS l).size≤l.length*21+1:=by
  have:=rowS_size 20 _ (ints_w hv)
  rwa [List.length_map]at this
def intsN {β:Type} (s:ByteArray) (xs:List Int) (K:ByteArray→T β):T β:=.need (List.length xs≤1000 ∧ ∀ v∈xs,in64W v) (.need (((ByteArray.size s+ByteArray.size (intsS xs):Nat):Int)≤IntKind.max .i64) (.lt (s++intsS xs) K))
def strL {α:Type} (f:Int→α→ByteArray):List α→Int→ByteArray
  | [],_=>⟨#[]⟩
  | p::r,i=>f (i+1) p++strL f r (i+1)
theorem app_nil (s:ByteArray):s++(⟨#[]⟩:ByteArray)=s:=by
  have e:(s++(⟨#[]⟩:ByteArray)).data.toList=s.data.toList:=by simp
  rw[←mkB_data (s++⟨#[]⟩),e,mkB_data]
def nsF (i:Int) (p:Pt):ByteArray:=rowS [itoaS i,ftxt p.1,ftxt p.2]
def gsF (i:Int) (p:I3):ByteArray:=intsS [i,p.1+1,p.2.1+1,p.2.2]
abbrev StInv {α:Type} (s:ByteArray) (l:List α) (n i:Int):Prop:=n=(l.length:Int)∧0≤i∧i≤(l.length:Int)∧l.length≤1000∧(s.size:Int)+10000*((l.length:Int)-i)≤100000000
def smI (v:Int):Prop := -1000000000000≤v∧v≤1000000000000
def smP (p:I3):Prop:=smI p.1∧smI p.2.1∧smI p.2.2
theorem ftxt_size (x:F):(ftxt x).size≤2051:=by
  unfold ftxt
  have h1:=txt_size x.1
  have h2:=txt_size x.2
  have h3:ByteArray.size (⟨#[47]⟩:ByteArray)=1:=rfl
  split
  · split
    · omega
    · rw[ByteArray.size_append,ByteArray.size_append];omega
  · exact Nat.zero_le _
theorem intsN_wp {β:Type} {s:ByteArray} {xs:List Int} {K:ByteArray→T β} {Q:β→Prop} (hx:xs.length≤4) (hv : ∀ v∈xs,in64W v) (hs:s.size≤100000000) (h:(K (s++intsS xs)).wp Q):(intsN s xs K).wp Q:=by
  have h2:=intsS_size hv
  refine wned ⟨by omega,hv⟩ (wned ?_ h)
  show ((s.size+(intsS xs).size:Nat):Int)≤9223372036854775807
  omega
theorem strL_end {α:Type} (f:Int→α→ByteArray) {l:List α} {i:Int} (s:ByteArray) (h:(l.length:Int)≤i):s++strL f (List.drop i.toNat l) i=s:=by
  rw[drop_end h,strL,app_nil]
theorem strL_next {α:Type} (f:Int→α→ByteArray) {l:List α} {i:Int} {p:α} (s:ByteArray) (i0:0≤i) (h:l[i.toNat]?=some p):s++strL f (List.drop i.toNat l) i=(s++f (i+1) p)++strL f (List.drop (i+1).toNat l) (i+1):=by
  rw[drop_at i0 h,strL,ByteArray.append_assoc]
theorem r2 : ∀ v∈[(2:Int),0,0],0≤v∧v≤3:=by decide
theorem r3 : ∀ v∈[(3:Int),0],0≤v∧v≤3:=by decide
theorem r1 : ∀ v∈[(1:Int)],0≤v∧v≤3:=by decide
def eqFw (v x:F):Bool:=v.1.1==x.1.1&&(v.1.2.1==x.1.2.1&&true)&&(v.2.1==x.2.1&&(v.2.2.1==x.2.2.1&&true)&&true)
def eqPw (u v:Pt):Bool:=eqFw u.1 v.1&&(eqFw u.2 v.2&&true)
def eqIw (u v:I3):Bool:=u.1==v.1&&(u.2.1==v.2.1&&(u.2.2==v.2.2&&true))
theorem eqW_iff (v x:W):(v.1==x.1&&(v.2.1==x.2.1&&true))=true↔v=x:=by
  obtain ⟨a,b⟩:=v
  obtain ⟨c,d⟩:=x
  rw[Bool.and_true,Bool.and_eq_true,beq_iff_eq,beq_iff_eq,Prod.mk.injEq]
  exact ⟨fun h=>⟨h.1,Subtype.ext h.2⟩,fun h=>⟨h.1,congrArg Subtype.val h.2⟩⟩
theorem eqFw_iff (v x:F):eqFw v x=true↔v=x:=by
  obtain ⟨a,b⟩:=v
  obtain ⟨c,d⟩:=x
  unfold eqFw
  rw[Bool.and_eq_true,Bool.and_true (_&&_),Prod.mk.injEq]
  exact and_congr (eqW_iff a c) (eqW_iff b d)
theorem eqPw_iff (u v:Pt):eqPw u v=true↔u=v:=by
  obtain ⟨a,b⟩:=u
  obtain ⟨c,d⟩:=v
  unfold eqPw
  rw[Bool.and_eq_true,Bool.and_true,Prod.mk.injEq]
  exact and_congr (eqFw_iff a c) (eqFw_iff b d)
theorem eqIw_iff (u v:I3):eqIw u v=true↔u=v:=by
  obtain ⟨a,b,c⟩:=u
  obtain ⟨d,e,f⟩:=v
  unfold eqIw
  simp[Prod.mk.injEq]
instance:DecidableEq Pt:=inferInstanceAs (DecidableEq ((((Bool×Amt)×(Bool×Amt))×((Bool×Amt)×(Bool×Amt)))))
def smF:T Av:=.ret (.one (.v (.bool false)))
def smL {α:Type} [DecidableEq α] (p q:List α) (K:T Av):T Av:=.need ((0:Int)≤0∧p.length=q.length∧p.length≤1000000) (.ite (decide (p.drop (Int.toNat 0)=q.drop (Int.toNat 0))) K smF)
theorem smL_wp {α:Type} [DecidableEq α] {p q:List α} {K:T Av} {Q:Av→Prop} (hl:((p.length:Int) != (q.length:Int))=false) (hm:p.length≤1000000) (h1:p=q→K.wp Q) (h2:p≠q→Q (.one (.v (.bool false)))):(smL p q K).wp Q:=by
  have hl : p.length = q.length := by have : (p.length : Int) = q.length := by simpa using hl
                                      omega
  exact wned ⟨Int.le_refl 0,hl,hm⟩ ⟨fun h=>h1 (of_decide_eq_true h),fun h=>h2 (of_decide_eq_false h)⟩
theorem cf_prow (xs:Array Value) (w:World):(callFunc 53 xs).run Tryz.prog w=.ok (.enter 53 xs) w:=by kernel_rfl
theorem cf_pprint (xs:Array Value) (w:World):(callFunc 26 xs).run Tryz.prog w=.ok (.enter 26 xs) w:=by kernel_rfl
theorem cf_psame (xs:Array Value) (w:World):(callFunc 31 xs).run Tryz.prog w=.ok (.enter 31 xs) w:=by kernel_rfl
theorem cf_peqV (xs:Array Value) (w:World):(callFunc 61 xs).run Tryz.prog w=.ok (.enter 61 xs) w:=by kernel_rfl
theorem cf_peqS (xs:Array Value) (w:World):(callFunc 62 xs).run Tryz.prog w=.ok (.enter 62 xs) w:=by kernel_rfl
theorem cf_peqP (xs:Array Value) (w:World):(callFunc 63 xs).run Tryz.prog w=.ok (.enter 63 xs) w:=by kernel_rfl
theorem cf_rsame (xs:Array Value) (w:World):(callFunc 28 xs).run Tryz.prog w=.ok (.enter 28 xs) w:=by kernel_rfl
theorem cf_rrow (xs:Array Value) (w:World):(callFunc 29 xs).run Tryz.prog w=.ok (.enter 29 xs) w:=by kernel_rfl
theorem cf_k7 (xs:Array Value) (w:World):(callFunc 23 xs).run Tryz.prog w=.ok (.enter 23 xs) w:=by kernel_rfl
noncomputable def EPr:Env Tryz.prog:=EPl4.add [con_pparse]
abbrev spPr:RSpec:=⟨21,[(6,false,.sl (.int .i64)),(7,false,.int .i64),(8,false,.int .i64)],[],[],fun _=>[],3,9,.str,false,fun _=>3⟩
def prR (l:List Int) (n i:Int) (g:GSt):T (RRd spPr):=.ite (decide (i<n)) (.get l i fun v=>.need (-9223372036854775808≤v∧v≤9223372036854775807) (appG 15 g (itoaS v) fun m g'=>.need (gnd m g') (.ret (.again (l,n,wi1 i,()) () g')))) (.need (gnd (gl g) g) (.ret (.out (Exit.exit 0) [] () g)))
theorem tr_prL_eq (l:List Int) (n i:Int) (xs:List ByteArray) (cap:Nat):RSpec.round spPr EPr (fun _=>none) (bodyOf Tryz.f53 0) (l,n,i,()) () (some (xs,cap))=prR l n i (some (xs,cap)):=by kernel_rfl
theorem tr_prL0_eq (l:List Int) (n i:Int):RSpec.round spPr EPr (fun _=>none) (bodyOf Tryz.f53 0) (l,n,i,()) () none=prR l n i none:=by kernel_rfl
def outPr (x:RSpec.X spPr) (y:RSpec.Y spPr) (g:RSpec.G spPr):T (Exit×List Av×RSpec.Y spPr×RSpec.G spPr):=
  .need (x.2.1=(List.length x.1:Int)∧0≤x.2.2.1∧List.length x.1≤1000∧(∀ v∈(x.1:List Int),in64W v)∧((gl (α:=ByteArray) g:Nat):Int)≤x.2.2.1) (finG (Exit.exit 0) [] () g ((List.drop x.2.2.1.toNat (x.1:List Int)).map itoaS))
theorem pr_core (l : List Int) (n i : Int) (g : GSt) (Q : Exit × List Av × RSpec.Y spPr × RSpec.G spPr → Prop) (hq : (outPr (l, n, i, ()) () g).wp Q) : (prR l n i g).wp fun r => match r with
      | .again x' y' g'=>(x'.2.1-x'.2.2.1).toNat<(n-i).toNat∧(outPr x' y' g').wp Q
      | .out e avs y' g'=>Q (e,avs,y',g'):=by
  obtain ⟨⟨hn,i0,hl,hv,hg⟩,hq⟩:=hq
  have hn:n=(l.length:Int):=hn
  have i0:0≤i:=i0
  have hl:l.length≤1000:=hl
  have hv : ∀ v∈l,in64W v:=hv
  have hg:((gl g:Nat):Int)≤i:=hg
  have hq:(finG (Exit.exit 0) [] () g ((List.drop i.toNat l).map itoaS)).wp Q:=hq
  refine ⟨fun hlt=>?_,fun hge=>?_⟩
  · have hlt:=of_decide_eq_true hlt
    obtain ⟨v,hvi⟩:=elem_at (l:=l) i0 (by omega)
    rw[drop_at i0 hvi,List.map_cons]at hq
    have hM:maxLen=9223372036854775807:=rfl
    refine wget i0 hvi (wned (hv v (List.mem_of_getElem? hvi)) (appG_wp (by omega) (by omega) fun k=>wned (gnd_app g _ k) ?_))
    rw[wi1_eq (i:=i) (by omega)]
    refine ⟨show (n-(i+1)).toNat<(n-i).toNat by omega,wned ⟨hn,show 0≤i+1 by omega,hl,hv,?_⟩ (finG_cons hq k)⟩
    show (((gx g++[_]).length:Nat):Int)≤i+1
    rw[List.length_append,←gl_eq]
    simp only[List.length_cons,List.length_nil]
    omega
  · have hge:=of_decide_eq_false hge
    rw[drop_end (by omega)]at hq
    exact wned (gnd_gl g) (finG_nil hq)
theorem prL_ok:LoopOk Tryz.prog 0 (bodyOf Tryz.f53 0) (spPr.run outPr):=
  loopR_ok (E:=EPr) (L:=fun _=>none) mixed 0 (loops_none _ _ _) spPr (Nat.zero_le _) outPr (fun x _ _=>(x.2.1-x.2.2.1).toNat) (by
    rintro ⟨l,n,i,⟨⟩⟩ ⟨⟩ g Q hq
    match g,hq with
    | some (xs,cap),hq =>
      rw[tr_prL_eq l n i xs cap]
      exact pr_core l n i (some (xs,cap)) Q hq
    | none,hq =>
      rw[tr_prL0_eq l n i]
      exact pr_core l n i none Q hq)
noncomputable def lpPr:Loops:=oneL 3 (spPr.run outPr)
noncomputable def EPrf:Env Tryz.prog:=EPr.fz [(7,[3])]
def prTree (l:List Int):T Av:=.need True (.need ((List.length l:Int)=(List.length l:Int)∧(0:Int)≤0∧List.length l≤1000∧(∀ v∈l,in64W v)∧((gl (none:GSt):Nat):Int)≤0) (.ite ((List.drop (Int.toNat 0) l).map itoaS).isEmpty (rwTree []) (.up 0 fun _=>.need (List.length ((List.drop (Int.toNat 0) l).map itoaS)≤List.length ((List.drop (Int.toNat 0) l).map itoaS)) (rwTree (List.take (List.length ((List.drop (Int.toNat 0) l).map itoaS)) ((List.drop (Int.toNat 0) l).map itoaS))))))
theorem tr_prow_eq (l:List Int):fnP EPrf lpPr Tryz.f53 (encs [(false,.sl (.int .i64))] (l,()))=prTree l:=by kernel_rfl
theorem rwTree_wp {xs:List ByteArray} (hl:xs.length≤1000) (h : ∀ w∈xs,w.size≤3000):(rwTree xs).wp (· = .one (.v (.string (rowS xs)))):=by
  have h1:=joinB_size 3000 xs h
  have h2:xs.length*(3000+1)≤1000*3001:=Nat.mul_le_mul_right _ hl
  refine wned ⟨by omega,by omega⟩ (wned ?_ rfl)
  show (((joinB xs spB).size+1:Nat):Int)≤9223372036854775807
  omega
noncomputable def con_prow:Con Tryz.prog:=⟨53,[],_,cf_prow,val_con (E:=EPrf) (L:=lpPr) mixed Tryz.func53 (one_loop prL_ok (by kernel_rfl)) [(false,.sl (.int .i64))] (fun x=>List.length x.1≤1000 ∧ ∀ v∈(x.1:List Int),in64W v) (fun x=>.one (.v (.string (intsS x.1)))) fun x hx=>by
  obtain ⟨l,u⟩:=x
  have hl:l.length≤1000:=hx.1
  have hv : ∀ v∈l,in64W v:=hx.2
  rw[show fnP EPrf lpPr Tryz.f53 (encs [(false,.sl (.int .i64))] (l,u))=prTree l from tr_prow_eq l]
  show (prTree l).wp (· = .one (.v (.string (rowS (l.map itoaS)))))
  have hw : ∀ w∈l.map itoaS,w.size≤3000:=fun w hw=>Nat.le_trans (ints_w hv w hw) (by decide)
  refine wned trivial (wned ⟨rfl,Int.le_refl 0,hl,hv,Int.le_refl 0⟩ ⟨fun h=>?_,fun _ k _=>wned (Nat.le_refl _) ?_⟩)
  · have e:l.map itoaS=[]:=List.isEmpty_iff.1 h
    rw[e]
    exact rwTree_wp (by decide) (fun w hw=>by cases hw)
  · rw[List.take_length]
    exact rwTree_wp (by rw[List.length_map];exact hl) hw⟩
noncomputable def EPt:Env Tryz.prog:=⟨con_prow::EPr.con,zeroDr::zeroVert::zeroSeg::EPr.zero,codVert::codSeg::EPr.cod,EPr.sure,EPr.base,EPr.frz⟩
abbrev spT0:LSpec:=⟨97,[(3,false,.str),(16,false,.sl cI3),(17,false,.int .i64),(18,false,.int .i64)],[(1,0,0)],[(63,cDr7)],fun e=>match e with|.exit _=>[3]|_=>[]⟩
abbrev spT1:LSpec:=⟨97,[(3,false,.str),(44,false,.sl cI3),(45,false,.int .i64),(46,false,.int .i64)],[(1,0,0)],[(63,cDr7)],fun e=>match e with|.exit _=>[3]|_=>[]⟩
abbrev spT2:LSpec:=⟨97,[(3,false,.str),(74,false,.sl cP),(75,false,.int .i64),(76,false,.int .i64)],[(1,0,0)],[(63,cDr7)],fun e=>match e with|.exit _=>[3]|_=>[]⟩
def t0R (s:ByteArray) (l:List I3) (n i:Int) (d:Dr):T (Rd spT0):=.ite (decide (i<n)) (.get l i fun p=>intsN s [wi1 i,p.1,p.2.1,p.2.2] fun v=>.ret (.again (v,l,n,wi1 i,()) (d,()))) (.ret (.out (Exit.exit 0) [.one (.v (.string s))] (d,())))
def t1R (s:ByteArray) (l:List I3) (n i:Int) (d:Dr):T (Rd spT1):=.ite (decide (i<n)) (.get l i fun p=>intsN s [wi1 i,wi1 p.1,wi1 p.2.1,p.2.2] fun v=>.ret (.again (v,l,n,wi1 i,()) (d,()))) (.ret (.out (Exit.exit 2) [.one (.v (.string s))] (d,())))
def joN {β:Type} (s:ByteArray) (xs:List ByteArray) (K:ByteArray→T β):T β:=.need (List.length xs≤1000000∧(joinB xs spB).size≤1000000000) (.need (((joinB xs spB).size+ByteArray.size ⟨#[10]⟩:Nat)≤IntKind.max .i64) (.lt (joinB xs spB++⟨#[10]⟩) fun v=>.need (((ByteArray.size s+ByteArray.size v:Nat):Int)≤IntKind.max .i64) (.lt (s++v) K)))
def t2R (s:ByteArray) (l:List P2) (n i:Int) (d:Dr):T (Rd spT2):=.ite (decide (i<n)) (.get l i fun p=>.need (-9223372036854775808≤wi1 i∧wi1 i≤9223372036854775807) (joN s [itoaS (wi1 i),ftxt p.1,ftxt p.2] fun v=>.ret (.again (v,l,n,wi1 i,()) (d,())))) (.ret (.out (Exit.exit 4) [.one (.v (.string s))] (d,())))
theorem tr_t0L_eq (s:ByteArray) (l:List I3) (n i:Int) (d:Dr):LSpec.round spT0 EPt (fun _=>none) (bodyOf Tryz.f26 0) (s,l,n,i,()) (d,())=t0R s l n i d:=by kernel_rfl
theorem tr_t1L_eq (s:ByteArray) (l:List I3) (n i:Int) (d:Dr):LSpec.round spT1 EPt (fun _=>none) (bodyOf Tryz.f26 1) (s,l,n,i,()) (d,())=t1R s l n i d:=by kernel_rfl
theorem tr_t2L_eq (s:ByteArray) (l:List P2) (n i:Int) (d:Dr):LSpec.round spT2 EPt (fun _=>none) (bodyOf Tryz.f26 2) (s,l,n,i,()) (d,())=t2R s l n i d:=by kernel_rfl
def vtS (i:Int) (p:I3):ByteArray:=intsS [i,p.1,p.2.1,p.2.2]
def outT0 (x:LSpec.X spT0) (y:LSpec.Y spT0):T (Exit×List Av×LSpec.Y spT0):=.need (StInv (α:=I3) x.1 x.2.1 x.2.2.1 x.2.2.2.1 ∧ ∀ p∈(x.2.1:List I3),smP p) (.ret (.exit 0,[.one (.v (.string (x.1++strL vtS (List.drop (Int.toNat x.2.2.2.1) (x.2.1:List I3)) x.2.2.2.1)))],y))
def outT1 (x:LSpec.X spT1) (y:LSpec.Y spT1):T (Exit×List Av×LSpec.Y spT1):=.need (StInv (α:=I3) x.1 x.2.1 x.2.2.1 x.2.2.2.1 ∧ ∀ p∈(x.2.1:List I3),smP p) (.ret (.exit 2,[.one (.v (.string (x.1++strL gsF (List.drop (Int.toNat x.2.2.2.1) (x.2.1:List I3)) x.2.2.2.1)))],y))
def outT2 (x:LSpec.X spT2) (y:LSpec.Y spT2):T (Exit×List Av×LSpec.Y spT2):=.need (StInv (α:=P2) x.1 x.2.1 x.2.2.1 x.2.2.2.1) (.ret (.exit 4,[.one (.v (.string (x.1++strL nsF (List.drop (Int.toNat x.2.2.2.1) (x.2.1:List P2)) x.2.2.2.1)))],y))
theorem joN_wp {β:Type} {s:ByteArray} {xs:List ByteArray} {K:ByteArray→T β} {Q:β→Prop} (hx:xs.length≤4) (hw : ∀ w∈xs,w.size≤2051) (hs:s.size≤100000000) (h:(K (s++rowS xs)).wp Q):(joN s xs K).wp Q:=by
  have h1:=joinB_size 2051 xs hw
  have h2:=rowS_size 2051 xs hw
  have h3:xs.length*(2051+1)≤4*2052:=Nat.mul_le_mul_right _ hx
  refine wned ⟨by omega,by omega⟩ (wned ?_ (wned ?_ h))
  · show (((joinB xs spB).size+1:Nat):Int)≤9223372036854775807
    omega
  · show ((s.size+(rowS xs).size:Nat):Int)≤9223372036854775807
    omega
theorem t0_core (s : ByteArray) (l : List I3) (n i : Int) (d : Dr) (Q : Exit × List Av × LSpec.Y spT0 → Prop) (hq : (outT0 (s, l, n, i, ()) (d, ())).wp Q) : (t0R s l n i d).wp fun r => match r with
      | .again x' y'=>(x'.2.2.1-x'.2.2.2.1).toNat<(n-i).toNat∧(outT0 x' y').wp Q
      | .out e avs y'=>Q (e,avs,y'):=by
  obtain ⟨⟨⟨hn,i0,hi,hl,hs⟩,hv⟩,hq⟩:=hq
  have hn:n=(l.length:Int):=hn
  have i0:0≤i:=i0
  have hi:i≤(l.length:Int):=hi
  have hl:l.length≤1000:=hl
  have hv : ∀ p∈l,smP p:=hv
  have hs:(s.size:Int)+10000*((l.length:Int)-i)≤100000000:=hs
  have hq:Q (.exit 0,[.one (.v (.string (s++strL vtS (List.drop i.toNat l) i)))],(d,())):=hq
  refine ⟨fun hlt=>?_,fun hge=>?_⟩
  · have hlt:=of_decide_eq_true hlt
    obtain ⟨p,hp⟩:=elem_at (l:=l) i0 (by omega)
    rw[strL_next vtS s i0 hp]at hq
    obtain ⟨a,b,c⟩:=p
    obtain ⟨⟨a1,a2⟩,⟨b1,b2⟩,⟨c1,c2⟩⟩:=hv _ (List.mem_of_getElem? hp)
    refine wget i0 hp ?_
    rw[wi1_eq (i:=i) (by omega)]
    have a1 : -1000000000000≤a:=a1
    have a2:a≤1000000000000:=a2
    have b1 : -1000000000000≤b:=b1
    have b2:b≤1000000000000:=b2
    have c1 : -1000000000000≤c:=c1
    have c2:c≤1000000000000:=c2
    have hw : ∀ v∈[i+1,a,b,c],in64W v:=by
      intro v hv
      unfold in64W
      simp only[List.mem_cons,List.not_mem_nil,or_false]at hv
      omega
    refine intsN_wp (by simp) hw (by omega) ⟨show (n-(i+1)).toNat<(n-i).toNat by omega,wned ⟨⟨hn,show 0≤i+1 by omega,show i+1≤(l.length:Int) by omega,hl,?_⟩,hv⟩ hq⟩
    have:=intsS_size hw
    show ((s++intsS [i+1,a,b,c]).size:Int)+10000*((l.length:Int)-(i+1))≤100000000
    rw[ByteArray.size_append]
    simp only[List.length_cons,List.length_nil]at this
    omega
  · have hge:=of_decide_eq_false hge
    rw[strL_end vtS s (by omega)]at hq
    exact hq
theorem t1_core (s : ByteArray) (l : List I3) (n i : Int) (d : Dr) (Q : Exit × List Av × LSpec.Y spT1 → Prop) (hq : (outT1 (s, l, n, i, ()) (d, ())).wp Q) : (t1R s l n i d).wp fun r => match r with
      | .again x' y'=>(x'.2.2.1-x'.2.2.2.1).toNat<(n-i).toNat∧(outT1 x' y').wp Q
      | .out e avs y'=>Q (e,avs,y'):=by
  obtain ⟨⟨⟨hn,i0,hi,hl,hs⟩,hv⟩,hq⟩:=hq
  have hn:n=(l.length:Int):=hn
  have i0:0≤i:=i0
  have hi:i≤(l.length:Int):=hi
  have hl:l.length≤1000:=hl
  have hv : ∀ p∈l,smP p:=hv
  have hs:(s.size:Int)+10000*((l.length:Int)-i)≤100000000:=hs
  have hq:Q (.exit 2,[.one (.v (.string (s++strL gsF (List.drop i.toNat l) i)))],(d,())):=hq
  refine ⟨fun hlt=>?_,fun hge=>?_⟩
  · have hlt:=of_decide_eq_true hlt
    obtain ⟨p,hp⟩:=elem_at (l:=l) i0 (by omega)
    rw[strL_next gsF s i0 hp]at hq
    obtain ⟨a,b,c⟩:=p
    obtain ⟨⟨a1,a2⟩,⟨b1,b2⟩,⟨c1,c2⟩⟩:=hv _ (List.mem_of_getElem? hp)
    refine wget i0 hp ?_
    rw[wi1_eq (i:=i) (by omega),wi1_eq (i:=a) ⟨a1,a2⟩,wi1_eq (i:=b) ⟨b1,b2⟩]
    have a1 : -1000000000000≤a:=a1
    have a2:a≤1000000000000:=a2
    have b1 : -1000000000000≤b:=b1
    have b2:b≤1000000000000:=b2
    have c1 : -1000000000000≤c:=c1
    have c2:c≤1000000000000:=c2
    have hw : ∀ v∈[i+1,a+1,b+1,c],in64W v:=by
      intro v hv
      unfold in64W
      simp only[List.mem_cons,List.not_mem_nil,or_false]at hv
      omega
    refine intsN_wp (by simp) hw (by omega) ⟨show (n-(i+1)).toNat<(n-i).toNat by omega,wned ⟨⟨hn,show 0≤i+1 by omega,show i+1≤(l.length:Int) by omega,hl,?_⟩,hv⟩ hq⟩
    have:=intsS_size hw
    show ((s++intsS [i+1,a+1,b+1,c]).size:Int)+10000*((l.length:Int)-(i+1))≤100000000
    rw[ByteArray.size_append]
    simp only[List.length_cons,List.length_nil]at this
    omega
  · have hge:=of_decide_eq_false hge
    rw[strL_end gsF s (by omega)]at hq
    exact hq
theorem ns_w {i:Int} {p:P2} (hi:0≤i∧i≤100000) : ∀ w∈[itoaS i,ftxt p.1,ftxt p.2],w.size≤2051:=fun w hw=>by
  rcases List.mem_cons.1 hw with rfl|hw
  · have:=itoaS_size (v:=i) (by unfold in64W;omega);omega
  · rcases List.mem_cons.1 hw with rfl|hw
    · exact ftxt_size _
    · rcases List.mem_cons.1 hw with rfl|hw
      · exact ftxt_size _
      · cases hw
theorem t2_core (s : ByteArray) (l : List P2) (n i : Int) (d : Dr) (Q : Exit × List Av × LSpec.Y spT2 → Prop) (hq : (outT2 (s, l, n, i, ()) (d, ())).wp Q) : (t2R s l n i d).wp fun r => match r with
      | .again x' y'=>(x'.2.2.1-x'.2.2.2.1).toNat<(n-i).toNat∧(outT2 x' y').wp Q
      | .out e avs y'=>Q (e,avs,y'):=by
  obtain ⟨⟨hn,i0,hi,hl,hs⟩,hq⟩:=hq
  have hn:n=(l.length:Int):=hn
  have i0:0≤i:=i0
  have hi:i≤(l.length:Int):=hi
  have hl:l.length≤1000:=hl
  have hs:(s.size:Int)+10000*((l.length:Int)-i)≤100000000:=hs
  have hq:Q (.exit 4,[.one (.v (.string (s++strL nsF (List.drop i.toNat l) i)))],(d,())):=hq
  refine ⟨fun hlt=>?_,fun hge=>?_⟩
  · have hlt:=of_decide_eq_true hlt
    obtain ⟨p,hp⟩:=elem_at (l:=l) i0 (by omega)
    rw[strL_next nsF s i0 hp]at hq
    rw[wi1_eq (i:=i) (by omega)]
    have hw:=ns_w (i:=i+1) (p:=p) (by omega)
    refine wget i0 hp (wned (by omega) (joN_wp (by simp) hw (by omega) ⟨show (n-(i+1)).toNat<(n-i).toNat by omega,wned ⟨hn,show 0≤i+1 by omega,show i+1≤(l.length:Int) by omega,hl,?_⟩ hq⟩))
    have:=rowS_size 2051 _ hw
    show ((s++rowS [itoaS (i+1),ftxt p.1,ftxt p.2]).size:Int)+10000*((l.length:Int)-(i+1))≤100000000
    rw[ByteArray.size_append]
    simp only[List.length_cons,List.length_nil]at this
    omega
  · have hge:=of_decide_eq_false hge
    rw[strL_end nsF s (by omega)]at hq
    exact hq
theorem t0L_ok:LoopOk Tryz.prog 0 (bodyOf Tryz.f26 0) (spT0.run outT0):=
  loop_ok (E:=EPt) (L:=fun _=>none) mixed 0 (loops_none _ _ _) spT0 (Nat.zero_le _) outT0 (fun x _=>(x.2.2.1-x.2.2.2.1).toNat) (by
    rintro ⟨s,l,n,i,⟨⟩⟩ ⟨d,⟨⟩⟩ Q hq
    rw[tr_t0L_eq s l n i d]
    exact t0_core s l n i d Q hq)
theorem t1L_ok:LoopOk Tryz.prog 0 (bodyOf Tryz.f26 1) (spT1.run outT1):=
  loop_ok (E:=EPt) (L:=fun _=>none) mixed 0 (loops_none _ _ _) spT1 (Nat.zero_le _) outT1 (fun x _=>(x.2.2.1-x.2.2.2.1).toNat) (by
    rintro ⟨s,l,n,i,⟨⟩⟩ ⟨d,⟨⟩⟩ Q hq
    rw[tr_t1L_eq s l n i d]
    exact t1_core s l n i d Q hq)
theorem t2L_ok:LoopOk Tryz.prog 0 (bodyOf Tryz.f26 2) (spT2.run outT2):=
  loop_ok (E:=EPt) (L:=fun _=>none) mixed 0 (loops_none _ _ _) spT2 (Nat.zero_le _) outT2 (fun x _=>(x.2.2.1-x.2.2.2.1).toNat) (by
    rintro ⟨s,l,n,i,⟨⟩⟩ ⟨d,⟨⟩⟩ Q hq
    rw[tr_t2L_eq s l n i d]
    exact t2_core s l n i d Q hq)
noncomputable def lpPt:Loops:=manyL [(3,spT0.run outT0),(9,spT1.run outT1),(15,spT2.run outT2)]
def hd1 (l:List I3):ByteArray:=intsS [(List.length l:Int),2,0,1]
def pnTree (d:Dr):T Av:=.need (List.length [(List.length d.1:Int),2,0,1]≤1000 ∧ ∀ v∈[(List.length d.1:Int),2,0,1],in64W v) (.need (StInv (α:=I3) (hd1 d.1) d.1 (List.length d.1:Int) 0 ∧ ∀ p∈(d.1:List I3),smP p)
  (intsN (hd1 d.1++strL vtS (List.drop (Int.toNat 0) (d.1:List I3)) 0) [(List.length d.2.1:Int),1] fun s2=>.need (StInv (α:=I3) s2 d.2.1 (List.length d.2.1:Int) 0 ∧ ∀ p∈(d.2.1:List I3),smP p)
  (intsN (s2++strL gsF (List.drop (Int.toNat 0) (d.2.1:List I3)) 0) [(List.length d.2.2:Int)] fun s3=>.need (StInv (α:=P2) s3 d.2.2 (List.length d.2.2:Int) 0) (.ret (.one (.v (.string (s3++strL nsF (List.drop (Int.toNat 0) (d.2.2:List P2)) 0))))))))
theorem tr_pprint_eq (d:Dr):fnP EPt lpPt Tryz.f26 (encs [(true,cDr7)] (d,()))=pnTree d:=by kernel_rfl
theorem strL_sz {α:Type} (f:Int→α→ByteArray) (B:Nat) : ∀ (l:List α) (i:Int),0≤i→i+l.length≤100000→(∀ p∈l,∀ j,0≤j→j≤100000→(f j p).size≤B)→(strL f l i).size≤l.length*B
  | [],i,_,_,_=>Nat.zero_le _
  | p::r,i,h0,h1,h=>by
    rw[List.length_cons]at h1
    have a:=h p (by simp) (i+1) (by omega) (by omega)
    have b:=strL_sz f B r (i+1) (by omega) (by omega) (fun q hq=>h q (by simp[hq]))
    rw[strL,ByteArray.size_append,List.length_cons,Nat.add_mul]
    omega
theorem i4_sz {a b c e:Int} (h:smI a∧smI b∧smI c∧smI e):(intsS [a,b,c,e]).size≤100:=by
  unfold smI at h
  have:=intsS_size (l:=[a,b,c,e]) (fun v hv=>by
    unfold in64W
    simp only[List.mem_cons,List.not_mem_nil,or_false]at hv
    omega)
  simp only[List.length_cons,List.length_nil]at this
  omega
def prnS (d:Dr):ByteArray:=((((hd1 d.1++strL vtS d.1 0)++intsS [(List.length d.2.1:Int),1])++strL gsF d.2.1 0)++intsS [(List.length d.2.2:Int)])++strL nsF d.2.2 0
structure DrOk (d:Dr):Prop where
  v:List.length d.1≤100
  s:List.length d.2.1≤100
  h:List.length d.2.2≤100
  vs : ∀ p∈(d.1:List I3),smP p
  ss : ∀ p∈(d.2.1:List I3),smP p
theorem pnTree_wp {d:Dr} (hd:DrOk d):(pnTree d).wp (· = .one (.v (.string (prnS d)))):=by
  obtain ⟨V,S,H⟩:=d
  obtain ⟨hv,hs,hh,vs,ss⟩:=hd
  have hv:V.length≤100:=hv
  have hs:S.length≤100:=hs
  have hh:H.length≤100:=hh
  have vs : ∀ p∈V,smP p:=vs
  have ss : ∀ p∈S,smP p:=ss
  have w1 : ∀ v∈[(V.length:Int),2,0,1],in64W v:=by
    intro v hv'
    unfold in64W
    simp only[List.mem_cons,List.not_mem_nil,or_false]at hv'
    omega
  have w2 : ∀ v∈[(S.length:Int),1],in64W v:=by
    intro v hv'
    unfold in64W
    simp only[List.mem_cons,List.not_mem_nil,or_false]at hv'
    omega
  have w3 : ∀ v∈[(H.length:Int)],in64W v:=by
    intro v hv'
    unfold in64W
    simp only[List.mem_cons,List.not_mem_nil,or_false]at hv'
    omega
  have z1:=intsS_size w1
  have z2:=intsS_size w2
  have z3:=intsS_size w3
  simp only[List.length_cons,List.length_nil]at z1 z2 z3
  have t1:=strL_sz vtS 100 V 0 (Int.le_refl 0) (by omega) (fun p hp j h1 h2=>by
    obtain ⟨a,b,c⟩:=p
    obtain ⟨h3,h4,h5⟩:=vs _ hp
    exact i4_sz ⟨⟨by omega,by omega⟩,h3,h4,h5⟩)
  have t2:=strL_sz gsF 100 S 0 (Int.le_refl 0) (by omega) (fun p hp j h1 h2=>by
    obtain ⟨a,b,c⟩:=p
    obtain ⟨⟨h3,h3'⟩,⟨h4,h4'⟩,h5⟩:=ss _ hp
    have h3 : -1000000000000≤a:=h3
    have h3':a≤1000000000000:=h3'
    have h4 : -1000000000000≤b:=h4
    have h4':b≤1000000000000:=h4'
    have h5' : -1000000000000≤c∧c≤1000000000000:=h5
    have:=intsS_size (l:=[j,a+1,b+1,c]) (fun v hv=>by
      unfold in64W
      simp only[List.mem_cons,List.not_mem_nil,or_false]at hv
      omega)
    simp only[List.length_cons,List.length_nil]at this
    show (intsS [j,a+1,b+1,c]).size≤100
    omega)
  have m1:V.length*100≤100*100:=Nat.mul_le_mul_right _ hv
  have m2:S.length*100≤100*100:=Nat.mul_le_mul_right _ hs
  unfold pnTree hd1
  rw[Int.toNat_zero,List.drop_zero,List.drop_zero,List.drop_zero]
  refine wned ⟨by simp,w1⟩ (wned ⟨⟨rfl,Int.le_refl 0,?_,?_,?_⟩,vs⟩ (intsN_wp (by simp) w2 ?_ (wned ⟨⟨rfl,Int.le_refl 0,?_,?_,?_⟩,ss⟩ (intsN_wp (by simp) w3 ?_ (wned ⟨rfl,Int.le_refl 0,?_,?_,?_⟩ rfl)))))
  all_goals (try simp only[ByteArray.size_append])
  all_goals (try (show _≤_))
  all_goals omega
noncomputable def con_pprint:Con Tryz.prog:=⟨26,[],_,cf_pprint,val_con (E:=EPt) (L:=lpPt) mixed Tryz.func26 (many_loops (by kernel_rfl) (by simp) (fun i p hp=>by
    match i,hp with
    | 0,hp=>cases hp;exact t0L_ok
    | 1,hp=>cases hp;exact t1L_ok
    | 2,hp=>cases hp;exact t2L_ok
    | i+3,hp=>simp at hp)) [(true,cDr7)] (fun x=>DrOk x.1) (fun x=>.one (.v (.string (prnS x.1)))) fun x hx=>by
  obtain ⟨d,u⟩:=x
  rw[show fnP EPt lpPt Tryz.f26 (encs [(true,cDr7)] (d,u))=pnTree d from tr_pprint_eq d]
  exact pnTree_wp hx⟩
abbrev spEq (c:Cd):LSpec:=⟨26,[(0,false,.sl c),(1,false,.sl c),(12,false,.int .i64),(13,false,.int .i64)],[],[],fun e=>match e with|.ret=>[4]|_=>[]⟩
def eqR {c:Cd} (eqv:El c→El c→Bool) (p q:List (El c)) (n i:Int):T (Rd (spEq c)):=.ite (decide (i<n)) (.get p i fun u=>.get q i fun v=>.ite (!eqv u v) (.ret (.out Exit.ret [.one (.v (.bool false))] ())) (.ret (.again (p,q,n,wi1 i,()) ()))) (.ret (.out (Exit.exit 0) [] ()))
theorem tr_eqV_eq (p q:List I3) (n i:Int):LSpec.round (spEq cI3) EPt (fun _=>none) (bodyOf Tryz.f61 0) (p,q,n,i,()) ()=eqR (c:=cI3) eqIw p q n i:=by kernel_rfl
theorem tr_eqS_eq (p q:List I3) (n i:Int):LSpec.round (spEq cI3) EPt (fun _=>none) (bodyOf Tryz.f62 0) (p,q,n,i,()) ()=eqR (c:=cI3) eqIw p q n i:=by kernel_rfl
theorem tr_eqP_eq (p q:List Pt) (n i:Int):LSpec.round (spEq cP) EPt (fun _=>none) (bodyOf Tryz.f63 0) (p,q,n,i,()) ()=eqR (c:=cP) eqPw p q n i:=by kernel_rfl
def outEq {c:Cd} [DecidableEq (El c)] (X:LSpec.X (spEq c)) (y:LSpec.Y (spEq c)):T (Exit×List Av×LSpec.Y (spEq c)):=
  .need (0≤(X.2.2.2.1:Int)∧(X.2.2.1:Int)=(List.length X.1:Int)∧List.length X.1=List.length X.2.1∧List.length X.1≤1000000) (.ite (decide (List.drop (Int.toNat X.2.2.2.1) (X.1:List (El c))=List.drop (Int.toNat X.2.2.2.1) (X.2.1:List (El c)))) (.ret (.exit 0,[],y)) (.ret (.ret,[.one (.v (.bool false))],y)))
theorem eq_core {c : Cd} [DecidableEq (El c)] (eqv : El c → El c → Bool) (he : ∀ u v, eqv u v = true ↔ u = v) (p q : List (El c)) (n i : Int) (Q : Exit × List Av × LSpec.Y (spEq c) → Prop) (hq : (outEq (c := c) (p, q, n, i, ()) ()).wp Q) : (eqR eqv p q n i).wp fun r => match r with
      | .again x' y'=>(List.length x'.1-Int.toNat x'.2.2.2.1)<p.length-i.toNat∧(outEq (c:=c) x' y').wp Q
      | .out e avs y'=>Q (e,avs,y'):=by
  obtain ⟨⟨i0,hn,hl,hm⟩,hy,hz⟩:=hq
  have i0:0≤i:=i0
  have hn:n=(p.length:Int):=hn
  have hl:p.length=q.length:=hl
  have hm:p.length≤1000000:=hm
  have hy:decide (p.drop i.toNat=q.drop i.toNat)=true→Q (.exit 0,[],()):=hy
  have hz:decide (p.drop i.toNat=q.drop i.toNat)=false→Q (.ret,[.one (.v (.bool false))],()):=hz
  refine ⟨fun hlt=>?_,fun hge=>?_⟩
  · have hlt:=of_decide_eq_true hlt
    obtain ⟨u,hu⟩:=elem_at (l:=p) i0 (by omega)
    obtain ⟨v,hv⟩:=elem_at (l:=q) i0 (by omega)
    rw[drop_at i0 hu,drop_at i0 hv]at hy hz
    refine wget i0 hu (wget i0 hv ⟨fun h=>hz ?_,fun h=>?_⟩)
    · have h:eqv u v=false:=by simpa using h
      rw[decide_eq_false_iff_not]
      intro e
      have:=(he u v).2 (List.cons.inj e).1
      rw[this]at h;cases h
    · have h:eqv u v=true:=by simpa using h
      have h:=(he u v).1 h
      subst h
      have e:decide (u::p.drop (i+1).toNat=u::q.drop (i+1).toNat)=decide (p.drop (i+1).toNat=q.drop (i+1).toNat):=by
        rw[decide_eq_decide];simp
      rw[e]at hy hz
      rw[wi1_eq (i:=i) (by omega)]
      exact ⟨show p.length-(i+1).toNat<p.length-i.toNat by omega,wned ⟨show 0≤i+1 by omega,hn,hl,hm⟩ ⟨hy,hz⟩⟩
  · have hge:=of_decide_eq_false hge
    rw[drop_end (by omega),drop_end (by omega)]at hy
    exact hy (decide_eq_true rfl)
instance:DecidableEq (El cI3):=inferInstanceAs (DecidableEq (Int×Int×Int))
instance:DecidableEq (El cP):=inferInstanceAs (DecidableEq Pt)
instance:DecidableEq Dr:=inferInstanceAs (DecidableEq (List I3×List I3×List Pt))
theorem eqL_ok {fn:Func} {c:Cd} [DecidableEq (El c)] (eqv:El c→El c→Bool) (he : ∀ u v,eqv u v=true↔u=v) (e : ∀ (p q:List (El c)) (n i:Int),LSpec.round (spEq c) EPt (fun _=>none) (bodyOf fn 0) (p,q,n,i,()) ()=eqR eqv p q n i) (hb:LoopsOk Tryz.prog 0 (fun _=>none) (bodyOf fn 0)):LoopOk Tryz.prog 0 (bodyOf fn 0) ((spEq c).run outEq):=
  loop_ok (E:=EPt) (L:=fun _=>none) mixed 0 hb (spEq c) (Nat.zero_le _) outEq (fun x _=>(List.length x.1-Int.toNat x.2.2.2.1)) (by
    rintro ⟨p,q,n,i,⟨⟩⟩ ⟨⟩ Q hq
    rw[e p q n i]
    exact eq_core eqv he p q n i Q hq)
noncomputable def lpEq (c:Cd) [DecidableEq (El c)]:Loops:=oneL 4 ((spEq c).run outEq)
def eqTree {c:Cd} [DecidableEq (El c)] (p q:List (El c)):T Av:=.ite ((List.length p:Int) != (List.length q:Int)) smF (.need ((0:Int)≤0∧(List.length p:Int)=(List.length p:Int)∧List.length p=List.length q∧List.length p≤1000000) (.ite (decide (List.drop (Int.toNat 0) p=List.drop (Int.toNat 0) q)) (.ret (.one (.v (.bool true)))) smF))
theorem tr_peqV_eq (p q:List I3):fnP EPt (lpEq cI3) Tryz.f61 (encs [(false,.sl cI3),(false,.sl cI3)] (p,q,()))=eqTree (c:=cI3) p q:=by kernel_rfl
theorem tr_peqS_eq (p q:List I3):fnP EPt (lpEq cI3) Tryz.f62 (encs [(false,.sl cI3),(false,.sl cI3)] (p,q,()))=eqTree (c:=cI3) p q:=by kernel_rfl
theorem tr_peqP_eq (p q:List Pt):fnP EPt (lpEq cP) Tryz.f63 (encs [(false,.sl cP),(false,.sl cP)] (p,q,()))=eqTree (c:=cP) p q:=by kernel_rfl
theorem eqTree_wp {c:Cd} [DecidableEq (El c)] {p q:List (El c)} (h:p.length≤1000000):(eqTree p q).wp (· = .one (.v (.bool (decide (p=q))))):=by
  unfold eqTree smF
  rw[Int.toNat_zero,List.drop_zero,List.drop_zero]
  refine ⟨fun e=>?_,fun e=>?_⟩
  · have e:¬ (p.length:Int)=q.length:=by simpa using e
    show _=_
    rw[decide_eq_false (fun x=>e (by rw[x]))]
  · have e:p.length=q.length:=by
      have:(p.length:Int)=q.length:=by simpa using e
      omega
    refine wned ⟨Int.le_refl 0,rfl,e,h⟩ ⟨fun x=>?_,fun x=>?_⟩
    · show _=_
      rw[x]
    · show _=_
      rw[x]
noncomputable def con_peqV:Con Tryz.prog:=⟨61,[],_,cf_peqV,val_con (E:=EPt) (L:=lpEq cI3) mixed Tryz.func61 (one_loop (eqL_ok (c:=cI3) eqIw eqIw_iff tr_eqV_eq (loops_none _ _ _)) (by kernel_rfl)) [(false,.sl cI3),(false,.sl cI3)] (fun x=>List.length x.1≤1000000) (fun x=>.one (.v (.bool (decide ((x.1:List I3)=x.2.1))))) fun x hx=>by
  obtain ⟨p,q,u⟩:=x
  rw[show fnP EPt (lpEq cI3) Tryz.f61 (encs [(false,.sl cI3),(false,.sl cI3)] (p,q,u))=eqTree (c:=cI3) p q from tr_peqV_eq p q]
  exact eqTree_wp (c:=cI3) hx⟩
noncomputable def con_peqS:Con Tryz.prog:=⟨62,[],_,cf_peqS,val_con (E:=EPt) (L:=lpEq cI3) mixed Tryz.func62 (one_loop (eqL_ok (c:=cI3) eqIw eqIw_iff tr_eqS_eq (loops_none _ _ _)) (by kernel_rfl)) [(false,.sl cI3),(false,.sl cI3)] (fun x=>List.length x.1≤1000000) (fun x=>.one (.v (.bool (decide ((x.1:List I3)=x.2.1))))) fun x hx=>by
  obtain ⟨p,q,u⟩:=x
  rw[show fnP EPt (lpEq cI3) Tryz.f62 (encs [(false,.sl cI3),(false,.sl cI3)] (p,q,u))=eqTree (c:=cI3) p q from tr_peqS_eq p q]
  exact eqTree_wp (c:=cI3) hx⟩
noncomputable def con_peqP:Con Tryz.prog:=⟨63,[],_,cf_peqP,val_con (E:=EPt) (L:=lpEq cP) mixed Tryz.func63 (one_loop (eqL_ok (c:=cP) eqPw eqPw_iff tr_eqP_eq (loops_none _ _ _)) (by kernel_rfl)) [(false,.sl cP),(false,.sl cP)] (fun x=>List.length x.1≤1000000) (fun x=>.one (.v (.bool (decide ((x.1:List Pt)=x.2.1))))) fun x hx=>by
  obtain ⟨p,q,u⟩:=x
  rw[show fnP EPt (lpEq cP) Tryz.f63 (encs [(false,.sl cP),(false,.sl cP)] (p,q,u))=eqTree (c:=cP) p q from tr_peqP_eq p q]
  exact eqTree_wp (c:=cP) hx⟩
noncomputable def EPq:Env Tryz.prog:=EPt.add [con_pprint,con_peqV,con_peqS,con_peqP]
def psTree (a b:Dr):T Av:=.need (List.length a.1≤1000000) (.ite (decide ((a.1:List I3)=b.1)) (.need (List.length a.2.1≤1000000) (.ite (decide ((a.2.1:List I3)=b.2.1)) (.need (List.length a.2.2≤1000000) (.ret (.one (.v (.bool (decide ((a.2.2:List Pt)=b.2.2))))))) smF)) smF)
theorem tr_psame_eq (a b:Dr):fnP EPq (fun _=>none) Tryz.f31 (encs [(true,cDr7),(true,cDr7)] (a,b,()))=psTree a b:=by kernel_rfl
def drFit (a:Dr):Prop:=List.length a.1≤1000000∧List.length a.2.1≤1000000∧List.length a.2.2≤1000000
theorem psTree_wp {a b:Dr} (h:drFit a):(psTree a b).wp (· = .one (.v (.bool (decide (a=b))))):=by
  obtain ⟨V,S,H⟩:=a
  obtain ⟨V',S',H'⟩:=b
  obtain ⟨h1,h2,h3⟩:=h
  have no:¬ ((V,S,H):Dr)=(V',S',H')→smF.wp (· = .one (.v (.bool (decide (((V,S,H):Dr)=(V',S',H')))))):=fun h=>by
    rw[decide_eq_false h];rfl
  refine wned h1 ⟨fun e1=>wned h2 ⟨fun e2=>wned h3 ?_,fun e2=>no fun e=>?_⟩,fun e1=>no fun e=>?_⟩
  · have e3:V=V':=of_decide_eq_true e1
    have e4:S=S':=of_decide_eq_true e2
    subst e3;subst e4
    show Av.one (.v (.bool (decide ((H:List Pt)=H'))))=_
    congr 3
    rw[decide_eq_decide]
    exact ⟨fun h=>by rw[show H=H' from h],fun h=>congrArg (·.2.2) h⟩
  · exact of_decide_eq_false e2 (congrArg (·.2.1) e)
  · exact of_decide_eq_false e1 (congrArg (·.1) e)
noncomputable def con_psame:Con Tryz.prog:=⟨31,[],_,cf_psame,val_con (E:=EPq) (L:=fun _=>none) mixed Tryz.func31 no_loops [(true,cDr7),(true,cDr7)] (fun x=>drFit x.1) (fun x=>.one (.v (.bool (decide ((x.1:Dr)=x.2.1))))) fun x hx=>by
  obtain ⟨a,b,u⟩:=x
  rw[show fnP EPq (fun _=>none) Tryz.f31 (encs [(true,cDr7),(true,cDr7)] (a,b,u))=psTree a b from tr_psame_eq a b]
  exact psTree_wp hx⟩
noncomputable def EPs:Env Tryz.prog:=EPq.add [con_psame]
abbrev spR (k:Nat):LSpec:=⟨87,[(k,false,.int .i64)],[(2,0,0),(3,1,0)],[(63,cDr7),(63,cDr7)],fun e=>match e with|.ret=>[4]|_=>[]⟩
def rsR (k x:Nat) {α:Type} (p q:List α) (eqv:α→α→Bool) (a b:Dr) (i:Int):T (Rd (spR k)):=.ite (decide (i<(List.length p:Int))) (.get p i fun u=>.get q i fun v=>.ite (!eqv u v) (.ret (.out Exit.ret [.one (.v (.bool false))] (a,b,()))) (.ret (.again (wi1 i,()) (a,b,())))) (.ret (.out (Exit.exit x) [] (a,b,())))
theorem tr_rs0_eq (a b:Dr) (i:Int):LSpec.round (spR 5) EPs (fun _=>none) (bodyOf Tryz.f28 0) (i,()) (a,b,())=rsR 5 0 a.1 b.1 eqIw a b i:=by kernel_rfl
theorem tr_rs1_eq (a b:Dr) (i:Int):LSpec.round (spR 6) EPs (fun _=>none) (bodyOf Tryz.f28 1) (i,()) (a,b,())=rsR 6 2 a.2.1 b.2.1 eqIw a b i:=by kernel_rfl
theorem tr_rs2_eq (a b:Dr) (i:Int):LSpec.round (spR 7) EPs (fun _=>none) (bodyOf Tryz.f28 2) (i,()) (a,b,())=rsR 7 4 a.2.2 b.2.2 eqPw a b i:=by kernel_rfl
def outR (k x:Nat) {α:Type} [DecidableEq α] (p q:Dr→List α) (X:LSpec.X (spR k)) (y:LSpec.Y (spR k)):T (Exit×List Av×LSpec.Y (spR k)):=
  .need (0≤(X.1:Int)∧(p y.1).length=(q y.2.1).length∧(p y.1).length≤1000000) (.ite (decide ((p y.1).drop (Int.toNat X.1)=(q y.2.1).drop (Int.toNat X.1))) (.ret (.exit x,[],y)) (.ret (.ret,[.one (.v (.bool false))],y)))
theorem rs_core (k x : Nat) {α : Type} [DecidableEq α] (p q : Dr → List α) (eqv : α → α → Bool) (he : ∀ u v, eqv u v = true ↔ u = v) (a b : Dr) (i : Int) (Q : Exit × List Av × LSpec.Y (spR k) → Prop) (hq : (outR k x p q (i, ()) (a, b, ())).wp Q) : (rsR k x (p a) (q b) eqv a b i).wp fun r => match r with
      | .again x' y'=>((p y'.1).length-Int.toNat x'.1)<(p a).length-i.toNat∧(outR k x p q x' y').wp Q
      | .out e avs y'=>Q (e,avs,y'):=by
  obtain ⟨⟨i0,hl,hm⟩,hy,hz⟩:=hq
  have i0:0≤i:=i0
  have hl:(p a).length=(q b).length:=hl
  have hm:(p a).length≤1000000:=hm
  have hy:decide ((p a).drop i.toNat=(q b).drop i.toNat)=true→Q (.exit x,[],(a,b,())):=hy
  have hz:decide ((p a).drop i.toNat=(q b).drop i.toNat)=false→Q (.ret,[.one (.v (.bool false))],(a,b,())):=hz
  refine ⟨fun hlt=>?_,fun hge=>?_⟩
  · have hlt:=of_decide_eq_true hlt
    obtain ⟨u,hu⟩:=elem_at (l:=p a) i0 hlt
    obtain ⟨v,hv⟩:=elem_at (l:=q b) i0 (by omega)
    rw[drop_at i0 hu,drop_at i0 hv]at hy hz
    refine wget i0 hu (wget i0 hv ⟨fun h=>hz ?_,fun h=>?_⟩)
    · have h:eqv u v=false:=by simpa using h
      rw[decide_eq_false_iff_not]
      intro e
      have:=(he u v).2 (List.cons.inj e).1
      rw[this]at h;cases h
    · have h:eqv u v=true:=by simpa using h
      have h:=(he u v).1 h
      subst h
      have e:decide (u::(p a).drop (i+1).toNat=u::(q b).drop (i+1).toNat)=decide ((p a).drop (i+1).toNat=(q b).drop (i+1).toNat):=by
        rw[decide_eq_decide];simp
      rw[e]at hy hz
      rw[wi1_eq (i:=i) (by omega)]
      exact ⟨show (p a).length-(i+1).toNat<(p a).length-i.toNat by omega,wned ⟨show 0≤i+1 by omega,hl,hm⟩ ⟨hy,hz⟩⟩
  · have hge:=of_decide_eq_false hge
    rw[drop_end (by omega),drop_end (by omega)]at hy
    exact hy (decide_eq_true rfl)
theorem rs0_ok:LoopOk Tryz.prog 0 (bodyOf Tryz.f28 0) ((spR 5).run (outR 5 0 (α:=I3) (fun m=>m.1) (fun m=>m.1))):=
  loop_ok (E:=EPs) (L:=fun _=>none) mixed 0 (loops_none _ _ _) (spR 5) (Nat.zero_le _) (outR 5 0 (α:=I3) (fun m=>m.1) (fun m=>m.1)) (fun x y=>(y.1.1.length-Int.toNat x.1)) (by
    rintro ⟨i,⟨⟩⟩ ⟨a,b,⟨⟩⟩ Q hq
    rw[tr_rs0_eq a b i]
    exact rs_core 5 0 (α:=I3) (fun m=>m.1) (fun m=>m.1) eqIw eqIw_iff a b i Q hq)
theorem rs1_ok:LoopOk Tryz.prog 0 (bodyOf Tryz.f28 1) ((spR 6).run (outR 6 2 (α:=I3) (fun m=>m.2.1) (fun m=>m.2.1))):=
  loop_ok (E:=EPs) (L:=fun _=>none) mixed 0 (loops_none _ _ _) (spR 6) (Nat.zero_le _) (outR 6 2 (α:=I3) (fun m=>m.2.1) (fun m=>m.2.1)) (fun x y=>(y.1.2.1.length-Int.toNat x.1)) (by
    rintro ⟨i,⟨⟩⟩ ⟨a,b,⟨⟩⟩ Q hq
    rw[tr_rs1_eq a b i]
    exact rs_core 6 2 (α:=I3) (fun m=>m.2.1) (fun m=>m.2.1) eqIw eqIw_iff a b i Q hq)
theorem rs2_ok:LoopOk Tryz.prog 0 (bodyOf Tryz.f28 2) ((spR 7).run (outR 7 4 (α:=Pt) (fun m=>m.2.2) (fun m=>m.2.2))):=
  loop_ok (E:=EPs) (L:=fun _=>none) mixed 0 (loops_none _ _ _) (spR 7) (Nat.zero_le _) (outR 7 4 (α:=Pt) (fun m=>m.2.2) (fun m=>m.2.2)) (fun x y=>(y.1.2.2.length-Int.toNat x.1)) (by
    rintro ⟨i,⟨⟩⟩ ⟨a,b,⟨⟩⟩ Q hq
    rw[tr_rs2_eq a b i]
    exact rs_core 7 4 (α:=Pt) (fun m=>m.2.2) (fun m=>m.2.2) eqPw eqPw_iff a b i Q hq)
noncomputable def lpRs:Loops:=manyL [(4,(spR 5).run (outR 5 0 (α:=I3) (fun m=>m.1) (fun m=>m.1))),(9,(spR 6).run (outR 6 2 (α:=I3) (fun m=>m.2.1) (fun m=>m.2.1))),(14,(spR 7).run (outR 7 4 (α:=Pt) (fun m=>m.2.2) (fun m=>m.2.2)))]
def rsTree (a b:Dr):T Av:=.ite ((List.length a.1:Int) != (List.length b.1:Int)) smF (.ite ((List.length a.2.1:Int) != (List.length b.2.1:Int)) smF (.ite ((List.length a.2.2:Int) != (List.length b.2.2:Int)) smF
  (smL (α:=I3) a.1 b.1 (smL (α:=I3) a.2.1 b.2.1 (smL (α:=Pt) a.2.2 b.2.2 (.ret (.one (.v (.bool true)))))))))
theorem tr_rsame_eq (a b:Dr):fnP EPs lpRs Tryz.f28 (encs [(true,cDr7),(true,cDr7)] (a,b,()))=rsTree a b:=by kernel_rfl
noncomputable def con_rsame:Con Tryz.prog:=⟨28,[],_,cf_rsame,val_con (E:=EPs) (L:=lpRs) mixed Tryz.func28 (many_loops (by kernel_rfl) (by simp) (fun i p hp=>by
    match i,hp with
    | 0,hp=>cases hp;exact rs0_ok
    | 1,hp=>cases hp;exact rs1_ok
    | 2,hp=>cases hp;exact rs2_ok
    | i+3,hp=>simp at hp)) [(true,cDr7),(true,cDr7)] (fun x=>drFit x.1) (fun x=>.one (.v (.bool (decide ((x.1:Dr)=x.2.1))))) fun x hx=>by
  obtain ⟨a,b,u⟩:=x
  have hx:drFit a:=hx
  rw[show fnP EPs lpRs Tryz.f28 (encs [(true,cDr7),(true,cDr7)] (a,b,u))=rsTree a b from tr_rsame_eq a b]
  show (rsTree a b).wp (· = .one (.v (.bool (decide ((a:Dr)=b)))))
  have no:¬ a=b→smF.wp (· = .one (.v (.bool (decide ((a:Dr)=b))))):=fun h=>by
    rw[decide_eq_false h];rfl
  obtain ⟨p,t,e⟩:=a
  obtain ⟨p',t',e'⟩:=b
  obtain ⟨h1,h2,h3⟩:=hx
  refine ⟨fun h=>no fun e=>?_,fun l1=>⟨fun h=>no fun e=>?_,fun l2=>⟨fun h=>no fun e=>?_,fun l3=>smL_wp l1 h1 (fun e1=>smL_wp l2 h2 (fun e2=>smL_wp l3 h3 (fun e3=>?_) fun e3=>no fun e=>e3 ?_) fun e2=>no fun e=>e2 ?_) fun e1=>no fun e=>e1 ?_⟩⟩⟩
  · rw[e]at h;simp at h
  · rw[e]at h;simp at h
  · rw[e]at h;simp at h
  · have e1:p=p':=e1
    have e2:t=t':=e2
    have e3:e=e':=e3
    subst e1;subst e2;subst e3
    rw[decide_eq_true rfl];rfl
  · exact congrArg (·.2.2) e
  · exact congrArg (·.2.1) e
  · exact congrArg (·.1) e⟩
noncomputable def EPk:Env Tryz.prog:=⟨con_rsame::EPs.con,EPs.zero,EPs.cod,fun id=>id==4,EPs.base,EPs.frz⟩
noncomputable def OPk:Opt EPk.con:=⟨[],[],fun _=>none⟩
def q7 (c:Bool) (K:T Av):T Av:=.need (c=true) K
def tA7:ByteArray:=⟨#[51,32,50,32,48,32,49,10,48,32,48,32,48,32,53,10,49,32,52,32,48,32,54,10,50,32,48,32,52,32,55,10,51,32,48,10,49,32,48,32,49,10,50,32,49,32,50,10,51,32,50,32,48,10,49,10,49,32,49,47,50,32,49,10]⟩
def tB7:ByteArray:=⟨#[]⟩
def tC7:ByteArray:=⟨#[48,32,50,32,48,32,48,10,48,32,48,10,48,32,49,10]⟩
def tD7:ByteArray:=⟨#[48,32,50,32,48,32,49,10,48,32,49,10,48,10]⟩
def k7T:T Av:=.need True (.need True (.need True (q7 ((ppV tA7).2==0) (q7 ((List.length (ppV tA7).1.1:Int)==3) (.get (ppV tA7).1.1 2 fun v=>q7 (eqIw v ((0:Int),(4:Int),(7:Int))) (q7 ((List.length (ppV tA7).1.2.1:Int)==3) (.get (ppV tA7).1.2.1 2 fun v=>q7 (eqIw v ((2:Int),(0:Int),(0:Int))) (q7 ((List.length (ppV tA7).1.2.2:Int)==1) (q7 ((ppV tB7).2==1) (q7 ((ppV tC7).2==3) (.need (drFit (ppV tA7).1) (q7 (decide ((ppV tA7).1=(ppV tA7).1)) (.need (drFit (ppV tA7).1) (q7 (!decide ((ppV tA7).1=dr0)) (.need (DrOk dr0) (.ret (.one (.v (.bool ((prnS dr0).toList==tD7.toList))))))))))))))))))))
theorem tr_k7_eq:fnPC OPk EPk (fun _=>none) Tryz.f23 (encs [] ())=k7T:=by kernel_rfl
theorem pA_v:(ppV tA7).1.1=[((0:Int),(0:Int),(5:Int)),((4:Int),(0:Int),(6:Int)),((0:Int),(4:Int),(7:Int))]:=by kernel_rfl
theorem pA_s:(ppV tA7).1.2.1=[((0:Int),(1:Int),(0:Int)),((1:Int),(2:Int),(0:Int)),((2:Int),(0:Int),(0:Int))]:=by kernel_rfl
theorem pA_h:List.length (ppV tA7).1.2.2=1:=by kernel_rfl
theorem pA_0:(ppV tA7).2=0:=by kernel_rfl
theorem pB_1:(ppV tB7).2=1:=by kernel_rfl
theorem pC_3:(ppV tC7).2=3:=by kernel_rfl
theorem pD_t:prnS dr0=tD7:=by kernel_rfl
theorem q7_wp {c:Bool} {K:T Av} {Q:Av→Prop} (hc:c=true) (h:K.wp Q):(q7 c K).wp Q:=⟨hc,h⟩
theorem k7_wp:k7T.wp (· = .one (.v (.bool true))):=by
  have hf:drFit (ppV tA7).1:=⟨by rw[pA_v];decide,by rw[pA_s];decide,by rw[pA_h];decide⟩
  refine wned trivial (wned trivial (wned trivial (q7_wp (by rw[pA_0];rfl) (q7_wp (by rw[pA_v];rfl) (wget (v:=((0:Int),(4:Int),(7:Int))) (by decide) (by rw[pA_v];rfl) (q7_wp (by decide) (q7_wp (by rw[pA_s];rfl) (wget (v:=((2:Int),(0:Int),(0:Int))) (by decide) (by rw[pA_s];rfl) (q7_wp (by decide) (q7_wp (by rw[pA_h];rfl) (q7_wp (by rw[pB_1];rfl) (q7_wp (by rw[pC_3];rfl) (wned hf (q7_wp (decide_eq_true rfl) (wned hf (q7_wp ?_ (wned ⟨by decide,by decide,by decide,(fun p h=>by cases h),(fun p h=>by cases h)⟩ ?_)))))))))))))))))
  · have:¬ (ppV tA7).1=dr0:=fun e=>by
      have h:(ppV tA7).1.1=dr0.1:=congrArg (fun d:Dr=>d.1) e
      rw[pA_v]at h
      cases h
    rw[decide_eq_false this];rfl
  · show _=_
    rw[pD_t,beq_self_eq_true]
noncomputable def con_k7:Con Tryz.prog:=⟨23,[],_,cf_k7,val_conC (O:=OPk) (E:=EPk) (L:=fun _=>none) rfl mixed Tryz.func23 no_loops [] (fun _=>True) (fun _=>.one (.v (.bool true))) (fun _=>k7T) (fun _=>tr_k7_eq) fun _ _=>k7_wp⟩
def isDig (c:UInt8):Prop:=48≤(c.toNat:Int)∧(c.toNat:Int)≤57
end Go.Proofs.YtbkfakkkikmcbaaGreatDoor
namespace Ax
open Go Go.RowKit Go.Proofs.YtbkfakkkikmcbaaGreatDoor
def Bd (k:Nat) (r:Rat):Prop:=r.num.natAbs<2^k∧r.den<2^k
theorem Bd.mono {j k:Nat} {r:Rat} (h:Bd j r) (hk:j≤k):Bd k r:=
  ⟨Nat.lt_of_lt_of_le h.1 (Nat.pow_le_pow_right (by omega) hk),Nat.lt_of_lt_of_le h.2 (Nat.pow_le_pow_right (by omega) hk)⟩
theorem pow_mul {a b j k:Nat} (ha:a<2^j) (hb:b<2^k):a*b<2^(j+k):=by
  rw[Nat.pow_add];exact Nat.mul_lt_mul'' ha hb
theorem pow_bp {a k:Nat} (h:a<2^k) (hk:k≤1024):a<Pq.bp 32:=by
  exact Nat.lt_of_lt_of_le h (bp_ge 1024 rfl hk)
theorem Bd.fits {k:Nat} {r:Rat} (h:Bd k r) (hk:k≤1024):Fits r:=⟨pow_bp h.1 hk,pow_bp h.2 hk⟩
end Ax
namespace Go.Proofs.YtbkfakkkikmcbaaGreatDoor
open Go.RowKit Ax
theorem app_list (a b:ByteArray):(a++b).data.toList=a.data.toList++b.data.toList:=by rw[ByteArray.data_append,Array.toList_append]
theorem wiv_itoa {v:Int} (h:v.natAbs<1000000000):lintB (itoaS v)=true∧wiv (itoaS v)=v:=by
  obtain ⟨h1,h2⟩:=num9 h
  refine ⟨h1,?_⟩
  unfold wiv
  rw[if_pos (show lintB (itoaS v)=true from h1)]
  exact h2
def okW (c:UInt8):Prop:=isDig c∨(c.toNat:Int)=45∨(c.toNat:Int)=46∨(c.toNat:Int)=47
theorem okW_ne {c:UInt8} (h:okW c):c≠10∧c≠35∧bl c=false:=by
  unfold okW isDig at h
  refine ⟨fun e=>?_,fun e=>?_,?_⟩
  · subst e;revert h;decide
  · subst e;revert h;decide
  · rw[bl_of];exact decide_eq_false (by omega)
theorem wordW {l:List UInt8} (h:l≠[]) (h2 : ∀ c∈l,okW c):wordU l:=⟨h,fun c hc=>okW_ne (h2 c hc)⟩
theorem dig_of {u:Nat} (h:u<10):isDig (UInt8.ofNat (48+u)):=by
  unfold isDig
  rw[UInt8.toNat_ofNat']
  omega
theorem dec_mem (n:Nat) : ∀ c∈Lib.decDigits n,isDig c:=by
  induction n using Nat.strongRecOn with
  | _ n ih =>
    intro c hc
    rw[Lib.decDigits]at hc
    split at hc
    · rename_i h
      rw[List.mem_singleton]at hc;subst hc
      exact dig_of h
    · rename_i h
      rcases List.mem_append.1 hc with hc|hc
      · exact ih (n/10) (by omega) c hc
      · rw[List.mem_singleton]at hc;subst hc
        exact dig_of (by omega)
theorem itoa_word (v:Int):wordU (Lib.itoa v):=by
  refine wordW (itoa_ne v) fun c hc=>?_
  unfold Lib.itoa at hc
  split at hc
  · rcases List.mem_cons.1 hc with rfl|hc
    · exact .inr (.inl (by decide))
    · exact .inl (dec_mem _ c hc)
  · exact .inl (dec_mem _ c hc)
theorem intsS_list (l:List Int):(intsS l).data.toList=rowU (l.map Lib.itoa):=by
  unfold intsS
  rw[rowS_list,List.map_map]
  rfl
def goodR (R:List (List (List UInt8))):Prop := ∀ ws∈R,ws≠[] ∧ ∀ w∈ws,wordU w
theorem good_hd (l:List Int) (h:l≠[]):l.map Lib.itoa≠[] ∧ ∀ w∈l.map Lib.itoa,wordU w:=⟨by simpa using h,fun w hw=>by
  obtain ⟨v,_,rfl⟩:=List.mem_map.1 hw
  exact itoa_word v⟩
end Go.Proofs.YtbkfakkkikmcbaaGreatDoor
