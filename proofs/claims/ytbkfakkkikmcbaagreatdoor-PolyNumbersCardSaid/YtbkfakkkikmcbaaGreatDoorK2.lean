import Derived.Deep.LoopGhost
import Derived.IntWalk
import Derived.Test.YtbkfakkkikmcbaaGreatDoorK1
set_option linter.unusedSimpArgs false
set_option linter.unusedVariables false
namespace Ax
open Go Go.RowKit
structure St where
  fr:List Av
  mem:Mem
structure Ef where
  av:Av
  mem:Mem
  wr:List Nat
def putFr (fr:List Av) (d:Option Tmp) (av:Av):List Av:=match d with|some t=>fr.set t av|none=>fr
section
variable {P:Program} {w:World} {R:Nat→Prop} {φ σ:List Nat} {m:Mem} {fr:List Av} {a:Act}
theorem FrOk.put {d:Option Tmp} {av:Av} {v:Value} (hf:FrOk w R σ fr a) (h:AvIs w R σ av v):FrOk w R σ (putFr fr d av) (a.put d v):=by
  cases d with
  | none=>exact hf
  | some t =>
    refine ⟨by simp[putFr,Act.put,hf.len],fun s b hs=>?_⟩
    simp only[putFr,List.getElem?_set]at hs
    have hlen:=hf.len
    by_cases e:t=s
    · subst e
      rw[if_pos rfl]at hs
      by_cases hlt:t<fr.length
      · rw[if_pos hlt]at hs
        cases hs
        have:t<a.tmps.size:=hlen ▸ hlt
        simpa [Act.put,this] using h
      · rw[if_neg hlt]at hs;cases hs
    · rw[if_neg e]at hs
      have:=hf.at_ s b hs
      have e2:(a.put (some t) v).tmps.getD s undef=a.tmps.getD s undef:=by
        simp[Act.put,Array.getElem?_setIfInBounds_ne e]
      rw[e2];exact this
theorem FrOk.mono {w':World} {R':Nat→Prop} {σ':List Nat} (hR : ∀ b,R b→R' b∧w'.heap[b]?=w.heap[b]?) (hσ : ∀ i b:Nat,σ[i]?=some b→σ'[i]?=some b) (hf:FrOk w R σ fr a):FrOk w' R' σ' fr a:=
  ⟨hf.len,fun t av h=>(hf.at_ t av h).mono hR hσ⟩
theorem MemOk.lt (hm:MemOk w φ σ m) {b:Nat} (h:b∈σ):b<w.heap.size:=by
  obtain ⟨i,hi,rfl⟩:=List.getElem_of_mem h
  have hl:i<m.length:=by rw[hm.len];exact hi
  obtain ⟨us,h1,_⟩:=hm.blk i m[i].1 m[i].2 σ[i] (by simp[hl]) (by simp[hi])
  exact (Array.getElem?_eq_some_iff.1 h1).1
theorem ext_new (w:World) (σ:List Nat):Ext w σ (σ++[w.heap.size]):=⟨⟨_,rfl,by simp⟩⟩
theorem keep_alloc (w:World) (σ:List Nat) (o:Obj):Keep w σ (w.alloc o):=⟨rfl,rfl,rfl,by simp,fun k hk _=>Below.heap_alloc w o k hk⟩
theorem MemOk.grow (hm:MemOk w φ σ m) {t:TypeId} {cs:List Ck} {us:List Value} (h:Is w (Ro w φ σ) σ cs us) :
    MemOk (w.alloc (.cells us.toArray t)) φ (σ++[w.heap.size]) (m++[(t,cs)]):=by
  have hro:=(keep_alloc w σ (.cells us.toArray t)).ro (φ:=φ) (ext_new w σ)
  have hg : ∀ i b:Nat,σ[i]?=some b→(σ++[w.heap.size])[i]?=some b:=fun i b hi=>(ext_new w σ).get hi
  refine ⟨by simp[hm.len],?_,fun b hb=>by have:=hm.fo b hb;simp;omega,hm.gl.mono hro,fun i t' cs' b hi hb=>?_⟩
  · rw[List.nodup_append]
    exact ⟨hm.nodup,by simp,fun x hx y hy=>by
      rw[List.mem_singleton]at hy
      have:=hm.lt hx;omega⟩
  · rcases Nat.lt_or_ge i m.length with hlt|hge
    · rw[List.getElem?_append_left hlt]at hi
      have hlt2:i<σ.length:=by rw[←hm.len];exact hlt
      rw[List.getElem?_append_left hlt2]at hb
      obtain ⟨vs,h1,h2⟩:=hm.blk i t' cs' b hi hb
      exact ⟨vs,(Below.heap_alloc w _ b (Array.getElem?_eq_some_iff.1 h1).1).trans h1,h2.mono hro hg⟩
    · rw[List.getElem?_append_right hge]at hi
      rw[List.getElem?_append_right (by rw[←hm.len];exact hge)]at hb
      obtain ⟨h0,hi'⟩:i-m.length=0∧(t,cs)=(t',cs'):=by
        rcases hk:i-m.length with _|k
        · rw[hk]at hi;exact ⟨rfl,by simpa using hi⟩
        · rw[hk]at hi;simp at hi
      have h0':i-σ.length=0:=by rw[←hm.len];exact h0
      rw[h0']at hb
      cases hi'
      obtain rfl:w.heap.size=b:=by simpa using hb
      exact ⟨us,heap_alloc_new w _,h.mono hro hg⟩
theorem MemOk.stay {w':World} {σ':List Nat} (hm:MemOk w φ σ m) (hk:Keep w σ w') (he:Ext w σ σ') (hl:σ'=σ) (ho : ∀ i b:Nat,σ[i]?=some b→w'.heap[b]?=w.heap[b]?):MemOk w' φ σ' m:=by
  subst hl
  exact ⟨hm.len,hm.nodup,fun b hb=>Nat.lt_of_lt_of_le (hm.fo b hb) hk.size,hm.gl.mono (hk.ro he),fun i t cs b hi hb=>by
    obtain ⟨us,h1,h2⟩:=hm.blk i t cs b hi hb
    exact ⟨us,(ho i b hb).trans h1,h2.mono (hk.ro he) (fun _ _ h=>h)⟩⟩
theorem MemOk.put {w':World} {i:Nat} {b:Nat} {t:TypeId} {cs:List Ck} {us:List Value} (hm:MemOk w φ σ m) (hk:Keep w σ w') (hb:σ[i]?=some b)
    (ho : ∀ k:Nat,k≠b→w'.heap[k]?=w.heap[k]?) (hn:w'.heap[b]?=some (.cells us.toArray t (0,0))) (his:Is w (Ro w φ σ) σ cs us):MemOk w' φ σ (m.set i (t,cs)):=by
  refine ⟨by simp[hm.len],hm.nodup,fun b hb=>Nat.lt_of_lt_of_le (hm.fo b hb) hk.size,hm.gl.mono (hk.ro (Ext.refl w σ)),fun j t' cs' c hj hc=>?_⟩
  have hro:=hk.ro (φ:=φ) (Ext.refl w σ)
  rw[List.getElem?_set]at hj
  by_cases e:i=j
  · subst e
    rw[if_pos rfl]at hj
    split at hj
    · cases hj
      rw[hb]at hc
      cases hc
      exact ⟨us,hn,his.mono hro (fun _ _ h=>h)⟩
    · cases hj
  · rw[if_neg e]at hj
    obtain ⟨vs,h1,h2⟩:=hm.blk j t' cs' c hj hc
    have hne:c≠b:=by
      rintro rfl
      have h1:=(List.getElem?_eq_some_iff.1 hb)
      have h2:=(List.getElem?_eq_some_iff.1 hc)
      obtain ⟨l1,e1⟩:=h1
      obtain ⟨l2,e2⟩:=h2
      exact e ((List.getElem_inj hm.nodup).1 (e1.trans e2.symm))
    exact ⟨vs,(ho c hne).trans h1,h2.mono hro (fun _ _ h=>h)⟩
end
theorem setCells_spec (g:Nat) (t:TypeId) : ∀ (vs ua old ub:List Value) (w:World),old.length=vs.length→w.heap[g]?=some (.cells (ua++(old++ub)).toArray t (0,0)) →
    (w.setCells g ua.length vs).heap[g]?=some (.cells (ua++(vs++ub)).toArray t (0,0))∧(∀ k,k≠g→(w.setCells g ua.length vs).heap[k]?=w.heap[k]?) ∧
    (w.setCells g ua.length vs).heap.size=w.heap.size∧(w.setCells g ua.length vs).os=w.os∧(w.setCells g ua.length vs).tape=w.tape∧(w.setCells g ua.length vs).output=w.output
  | [],ua,old,ub,w,hl,hg=>by
    obtain rfl:old=[]:=List.length_eq_zero_iff.1 (by simpa using hl)
    exact ⟨hg,fun _ _=>rfl,rfl,rfl,rfl,rfl⟩
  | v::vs,ua,old,ub,w,hl,hg=>by
    obtain ⟨o,old,rfl⟩ : ∃ o r,old=o::r:=by
      match old,hl with
      | o::r,_=>exact ⟨o,r,rfl⟩
    have h1:w.setCell ⟨g,ua.length,none⟩ v=w.setRow g (ua++(v::old++ub)).toArray:=by
      rw[setCell_eq_setRow w g ua.length _ t (0,0) v hg]
      congr 1
      simp
    have h2:(w.setRow g (ua++(v::old++ub)).toArray).heap[g]?=some (.cells ((ua++[v])++(old++ub)).toArray t (0,0)):=by
      rw[setRow_heap w g _ _ t (0,0) hg];simp
    have ih:=setCells_spec g t vs (ua++[v]) old ub _ (by simpa using hl) h2
    simp only[List.length_append,List.length_cons,List.length_nil,Nat.zero_add]at ih
    simp only[World.setCells,h1]
    obtain ⟨i1,i2,i3,i4,i5,i6⟩:=ih
    refine ⟨by rw[i1];simp,fun k hk=>(i2 k hk).trans (setRow_other w g k _ hk),by rw[i3];simp[World.setRow],i4.trans rfl,i5.trans rfl,i6.trans rfl⟩
theorem there_of_block {w:World} {g:Nat} {t:TypeId} {ua old ub:List Value} (hg:w.heap[g]?=some (.cells (ua++(old++ub)).toArray t (0,0))):w.there g ua.length old.length:=fun j hj=>by
  refine ⟨?_,frozen_of_row w g _ _ t hg⟩
  rw[cell_of_row w g _ _ t _ hg]
  simp
  omega
theorem run_put {P:Program} {w:World} {g:Nat} {t ty:TypeId} {ua old ub vs:List Value} {x:Value} (hg:w.heap[g]?=some (.cells (ua++(old++ub)).toArray t (0,0))) (hl:old.length=vs.length) (hx:x.cells=vs.toArray)
    (h1 : ∀ u∈vs,u.oneCell'=true) (hi:(P.info? ty).map (·.size)=some vs.length):(Instr.storeAt ty (.pointer (some ⟨g,ua.length,none⟩)) x).run P w=.ok () (w.setCells g ua.length vs):=by
  have ht:=there_of_block hg
  rw[hl]at ht
  have:=run_storeCells_cells (P:=P) g ua.length vs 0 w (fun j hj=>by simpa using (ht j hj).1) (fun j hj=>by simpa using (ht j hj).2) h1
  cases hq:P.info? ty with
  | none=>simp[hq]at hi
  | some i =>
    have hs:i.size=vs.length:=by simpa [hq] using hi
    simp only[Nat.add_zero]at this
    simp[Instr.storeAt,Instr.sureAddr,Sem.run_bind,storeVar,Go.sizeOf,typeInfo,hq,hs,hx,this]
def wrDirect (pos:List Nat) (args:List Av):List Nat:=pos.filterMap fun k=>match args[k]? with|some (Av.one (Ck.p i _))=>some i|some (Av.one (Ck.os i _ _))=>some i|_=>none
def ptrsIn:List Ck→List Nat
  | []=>[]
  | .p i _::r=>i::ptrsIn r
  | .pe i _ _ _::r=>i::ptrsIn r
  | .os i _ _::r=>i::ptrsIn r
  | _::r=>ptrsIn r
def insN (l:List Nat) (x:Nat):List Nat:=match l.any fun j=>decide (j=x) with
  | true=>l
  | false=>l++[x]
def closeI (m:Mem):Nat→List Nat→List Nat
  | 0,l=>l
  | k+1,l=>closeI m k ((l.flatMap fun i=>match m[i]? with
    | some e=>ptrsIn e.2
    | none=>[]).foldl insN l)
theorem mem_insN {l:List Nat} {x i:Nat} (h:i∈l):i∈insN l x:=by
  unfold insN
  split
  · exact h
  · exact List.mem_append_left _ h
theorem mem_foldN : ∀ (r l:List Nat) {i:Nat},i∈l→i∈r.foldl insN l
  | [],_,_,h=>h
  | x::r,l,i,h=>mem_foldN r (insN l x) (mem_insN h)
theorem mem_closeI (m:Mem) : ∀ (k:Nat) (l:List Nat) {i:Nat},i∈l→i∈closeI m k l
  | 0,_,_,h=>h
  | k+1,l,i,h=>mem_closeI m k _ (mem_foldN _ l h)
def wrOf (pos:List Nat) (args:List Av) (m:Mem):List Nat:=closeI m 3 (wrDirect pos args)
theorem mem_wrOf {pos:List Nat} {args:List Av} {m:Mem} {i:Nat} (h:i∈wrDirect pos args):i∈wrOf pos args m:=mem_closeI m 3 _ h
def ConOk (P:Program) (f:FuncId) (pos:List Nat) (run:List Av→Mem→T (Av×Mem)):Prop:=
  ∀ (w:World) (φ σ:List Nat) (m:Mem) (args:List Av) (vs:List Value) (Q:Av×Mem→Prop),MemOk w φ σ m→vs.length=args.length →
    (∀ (i:Nat) (a:Av) (v:Value),args[i]?=some a→vs[i]?=some v→AvIs w (Ro w φ σ) σ a v)→(run args m).wp Q →
    Calls P f vs.toArray w fun e w' => ∃ v av m' σ',e=.returned v∧Q (av,m')∧Ext w σ σ'∧Keep w σ w'∧(∀ i b:Nat,σ[i]?=some b→i ∉ wrOf pos args m→w'.heap[b]?=w.heap[b]?) ∧
      AvIs w' (Ro w' φ σ') σ' av v∧MemOk w' φ σ' m'
structure Con (P:Program):Type 1 where
  f:FuncId
  pos:List Nat
  run:List Av→Mem→T (Av×Mem)
  cf : ∀ xs w,(callFunc f xs).run P w=.ok (.enter f xs) w
  ok:ConOk P f pos run
structure Cod (P:Program):Type 1 where
  ty:TypeId
  c:Cd
  size:(P.info? ty).map (·.size)=some (csz c)
  zero : ∃ z,∀ w,(zeroValue ty).run P w=.ok z w
structure Env (P:Program):Type 1 where
  con:List (Con P)
  zero:List (Zero P)
  cod:List (Cod P)
  sure:Nat→Bool
  base:Nat
  frz:Nat→List Tmp
def Env.sel {P:Program} (E:Env P) (id:Nat):Env P:=⟨E.con,E.zero,E.cod,fun _=>E.sure id,E.base,E.frz⟩
def Env.at_ {P:Program} (E:Env P) (n:Nat):Env P:=⟨E.con,E.zero,E.cod,E.sure,n,E.frz⟩
def Env.fz {P:Program} (E:Env P) (l:List (Nat×List Tmp)):Env P:=⟨E.con,E.zero,E.cod,E.sure,E.base,fun id=>match l.find? fun p=>p.1==id with|some p=>p.2|none=>[]⟩
def Env.su {P:Program} (E:Env P) (f:Nat→Bool):Env P:=⟨E.con,E.zero,E.cod,f,E.base,E.frz⟩
def Env.add {P:Program} (E:Env P) (l:List (Con P)):Env P:=⟨l++E.con,E.zero,E.cod,E.sure,E.base,E.frz⟩
def parse:(c:Cd)→List Ck→Option (El c×List Ck)
  | .int k,.v (.int k' z)::r=>if k'=k then some (z,r) else none
  | .bool,.v (.bool b)::r=>some (b,r)
  | .bool,.kb b::r=>some (b,r)
  | .str,.v (.string s)::r=>some (s,r)
  | .words,.w x::r=>some (x,r)
  | .unit,r=>some ((),r)
  | .pair a b,r=>match parse a r with
    | some (x,r)=>match parse b r with
      | some (y,r)=>some ((x,y),r)
      | none=>none
    | none=>none
  | .sl c,.ds c' xs::r=>if h:c'=c then some (h ▸ xs,r) else none
  | .sl _,.v (.slice none 0 0)::r=>some ([],r)
  | .nls,.v (.slice none 0 0)::r=>some ((),r)
  | .ptr c,.pr cs::r=>match parse c cs with
    | some (x,[])=>some (x,r)
    | _=>none
  | _,_=>none
theorem parse_ok {w:World} {R:Nat→Prop} {σ:List Nat} : ∀ (c:Cd) (cs:List Ck) (x:El c) (r:List Ck) (us:List Value),parse c cs=some (x,r)→Is w R σ cs us →
    ∃ ua ub,us=ua++ub∧Is w R [] (ck c x) ua∧Is w R σ r ub:=by
  intro c
  induction c with
  | int k =>
    intro cs x r us h hi
    rcases cs with _|⟨c0,rest⟩
    · simp[parse]at h
    · cases c0 with
      | v x0 =>
        cases x0 with
        | int k' z =>
          simp only[parse]at h
          by_cases hk:k'=k
          · rw[if_pos hk]at h
            cases h;subst hk
            obtain ⟨t,rfl,ht⟩:=is_v hi
            exact ⟨[_],t,rfl,.v rfl .nil,ht⟩
          · rw[if_neg hk]at h;cases h
        | _=>simp[parse]at h
      | _=>simp[parse]at h
  | bool =>
    intro cs x r us h hi
    rcases cs with _|⟨c0,rest⟩
    · simp[parse]at h
    · cases c0 with
      | v x0 =>
        cases x0 with
        | bool b =>
          simp only[parse]at h
          cases h
          obtain ⟨t,rfl,ht⟩:=is_v hi
          exact ⟨[_],t,rfl,.v rfl .nil,ht⟩
        | _=>simp[parse]at h
      | kb b =>
        simp only[parse]at h
        cases h
        cases hi with|kb ht=>exact ⟨[_],_,rfl,.v rfl .nil,ht⟩
      | _=>simp[parse]at h
  | str =>
    intro cs x r us h hi
    rcases cs with _|⟨c0,rest⟩
    · simp[parse]at h
    · cases c0 with
      | v x0 =>
        cases x0 with
        | string b =>
          simp only[parse]at h
          cases h
          obtain ⟨t,rfl,ht⟩:=is_v hi
          exact ⟨[_],t,rfl,.v rfl .nil,ht⟩
        | _=>simp[parse]at h
      | _=>simp[parse]at h
  | words =>
    intro cs x r us h hi
    rcases cs with _|⟨c0,rest⟩
    · simp[parse]at h
    · cases c0 with
      | w x0 =>
        simp only[parse]at h
        cases h
        cases hi with|w ht=>exact ⟨_,_,rfl,by have:=Is.w (w:=w) (R:=R) (σ:=[]) (x:=x) .nil;rw[List.append_nil]at this;exact this,ht⟩
      | _=>simp[parse]at h
  | unit =>
    intro cs x r us h hi
    simp only[parse]at h
    cases h
    exact ⟨[],us,rfl,.nil,hi⟩
  | pair a b iha ihb =>
    intro cs x r us h hi
    simp only[parse]at h
    split at h
    · rename_i x1 r1 h1
      split at h
      · rename_i y1 r2 h2
        cases h
        obtain ⟨ua,ub,rfl,i1,i2⟩:=iha cs x1 r1 us h1 hi
        obtain ⟨va,vb,rfl,j1,j2⟩:=ihb r1 y1 _ ub h2 i2
        exact ⟨ua++va,vb,by rw[List.append_assoc],i1.app j1,j2⟩
      · cases h
    · cases h
  | sl c ih =>
    intro cs x r us h hi
    rcases cs with _|⟨c0,rest⟩
    · simp[parse]at h
    · cases c0 with
      | ds c' xs =>
        simp only[parse]at h
        by_cases hc:c'=c
        · subst hc
          simp at h
          obtain ⟨rfl,rfl⟩:=h
          cases hi with
          | dn ht=>exact ⟨[_],_,rfl,.dn .nil,ht⟩
          | de a cap ht=>exact ⟨[_],_,rfl,.de a cap .nil,ht⟩
          | ds g h1 h2 h3 h4 h5 h6=>exact ⟨[_],_,rfl,.ds g h1 h2 h3 h4 h5 .nil,h6⟩
        · rw[dif_neg hc]at h;cases h
      | v x0 =>
        cases x0 with
        | slice p n k =>
          rcases p with _|p
          · rcases n with _|n
            · rcases k with _|k
              · simp only[parse]at h
                cases h
                obtain ⟨t,rfl,ht⟩:=is_v hi
                exact ⟨[_],t,rfl,.dn .nil,ht⟩
              · simp[parse]at h
            · simp[parse]at h
          · simp[parse]at h
        | _=>simp[parse]at h
      | _=>simp[parse]at h
  | ptr c ih =>
    intro cs x r us h hi
    rcases cs with _|⟨c0,rest⟩
    · simp[parse]at h
    · cases c0 with
      | pr l =>
        simp only[parse]at h
        split at h
        · rename_i x' hp
          cases h
          cases hi with
          | pr h1 h2 h3 h4 =>
            obtain ⟨ua,ub,rfl,i1,i2⟩:=ih l _ [] _ hp (h3.none σ)
            cases i2
            rw[List.append_nil]at h2
            exact ⟨[_],_,rfl,.pr h1 h2 i1 .nil,h4⟩
        · cases h
      | _=>simp[parse]at h
  | nls =>
    intro cs x r us h hi
    rcases cs with _|⟨c0,rest⟩
    · simp[parse]at h
    · cases c0 with
      | v x0 =>
        cases x0 with
        | slice p n k =>
          rcases p with _|p
          · rcases n with _|n
            · rcases k with _|k
              · simp only[parse]at h
                cases h
                obtain ⟨t,rfl,ht⟩:=is_v hi
                exact ⟨[_],t,rfl,.v rfl .nil,ht⟩
              · simp[parse]at h
            · simp[parse]at h
          · simp[parse]at h
        | _=>simp[parse]at h
      | _=>simp[parse]at h
theorem ck_len {w:World} {R:Nat→Prop} {σ:List Nat} : ∀ (c:Cd) (x:El c) (us:List Value),Is w R σ (ck c x) us→us.length=csz c:=by
  have key : ∀ (c:Cd) (x:El c),ckLen (ck c x)=csz c:=by
    intro c
    induction c with
    | pair a b iha ihb =>
      intro x
      have app : ∀ (l k:List Ck),ckLen (l++k)=ckLen l+ckLen k:=by
        intro l k
        induction l with
        | nil=>simp[ckLen]
        | cons c l ih=>simp[ckLen,ih];omega
      show ckLen (ck a x.1++ck b x.2)=csz a+csz b
      rw[app,iha,ihb]
    | _=>intro x;rfl
  intro c x us h
  rw[is_len _ h,key]
def decodes (c:Cd):List (Nat×Av)→Nat→Option (List (El c))
  | [],_=>some []
  | (i,av)::r,k=>if i=k then (match flat av with
      | some cs=>match parse c cs,decodes c r (k+1) with
        | some (x,[]),some xs=>some (x::xs)
        | _,_=>none
      | none=>none) else none
theorem cut_one {α:Type} (u L v:List α) (k:Nat):u++(L++v)=(u++L.take k)++((L.drop k).take 1++(L.drop (k+1)++v)):=by
  have g2:=List.take_append_drop 1 (L.drop k)
  rw[List.drop_drop]at g2
  rw[List.append_assoc,←List.append_assoc ((L.drop k).take 1),g2,←List.append_assoc (L.take k),List.take_append_drop]
def stA (a:Amt) (k:Nat) (z:Int):Amt:=if h:Pq.st a.1 k z.toNat<Pq.bp 32 then ⟨Pq.st a.1 k z.toNat,h⟩ else a
theorem st_lt {x k v:Nat} (hx:x<Pq.bp 32) (hk:k<32) (hv:v<4294967296):Pq.st x k v<Pq.bp 32:=by
  have e:Pq.bp 32=Pq.bp k*(4294967296*Pq.bp (31-k)):=by
    unfold Pq.bp
    rw[←Nat.pow_succ',←Nat.pow_add]
    congr 1;omega
  have e2:Pq.bp 32=Pq.bp (k+1)*Pq.bp (31-k):=by
    unfold Pq.bp
    rw[←Nat.pow_add]
    congr 1;omega
  have hq:x/Pq.bp (k+1)<Pq.bp (31-k):=Nat.div_lt_of_lt_mul (by rw[←e2];exact hx)
  have hl:Pq.lo x k<Pq.bp k:=Nat.mod_lt _ (Nat.pow_pos (by decide))
  unfold Pq.st
  rw[e]
  have h1:v+4294967296*(x/Pq.bp (k+1))+1≤4294967296*Pq.bp (31-k):=by
    have:4294967296*(x/Pq.bp (k+1)+1)≤4294967296*Pq.bp (31-k):=Nat.mul_le_mul_left _ hq
    omega
  have h2:=Nat.mul_le_mul_left (Pq.bp k) h1
  rw[Nat.mul_add,Nat.mul_one]at h2
  omega
theorem stA_val {a:Amt} {k:Nat} {z:Int} (hk:k<32) (h0:0≤z) (hz:z<4294967296):(stA a k z).1=Pq.st a.1 k z.toNat:=by
  unfold stA
  rw[dif_pos (st_lt a.2 hk (by omega))]
theorem row_put {w:World} {R:Nat→Prop} {σ:List Nat} {c:Cd} {xs:List (El c)} {cap k:Nat} {v:El c} {us vs:List Value} (h:Is w R σ [.row c xs cap] us) (hk:k<xs.length) (hv:Is w R [] (ck c v) vs) :
    ∃ ua um ub,us=ua++(um++ub)∧ua.length=k*csz c∧um.length=vs.length∧vs.length=csz c∧Is w R σ [.row c (xs.set k v) cap] (ua++(vs++ub)):=by
  obtain ⟨g,h1,h2,h3,h4,h5,h6,h7⟩:=is_row h
  have hvl:=ck_len c v vs hv
  have hle:(k+1)*csz c≤cap*csz c:=Nat.mul_le_mul_right _ (by omega)
  rw[Nat.succ_mul]at hle
  have hne : ∀ i j,i≠k→j<csz c→i*csz c+j<k*csz c∨k*csz c+csz c≤i*csz c+j:=fun i j hik hj=>by
    rcases Nat.lt_or_gt_of_ne hik with hlt|hgt
    · have:=Nat.mul_le_mul_right (csz c) (show i+1≤k from hlt)
      rw[Nat.succ_mul]at this
      exact .inl (by omega)
    · have:=Nat.mul_le_mul_right (csz c) (show k+1≤i from hgt)
      rw[Nat.succ_mul]at this
      exact .inr (by omega)
  refine ⟨us.take (k*csz c),(us.drop (k*csz c)).take (csz c),(us.drop (k*csz c)).drop (csz c),by rw[List.take_append_drop,List.take_append_drop],by rw[List.length_take];omega,by rw[List.length_take,List.length_drop];omega,hvl,?_⟩
  have hl1:(us.take (k*csz c)).length=k*csz c:=by rw[List.length_take];omega
  refine .row (us:=[]) (fun i=>if i=k then vs else g i) ?_ (by rw[List.length_set];exact h2) h3 (fun u hu=>?_) (fun i x hx=>?_) (fun i x hx=>?_) (fun i x hx j u hj=>?_) .nil (List.append_nil _).symm
  · rw[List.length_append,List.length_append,hl1,List.length_drop,List.length_drop];omega
  · rcases List.mem_append.1 hu with hu|hu
    · exact h4 u (List.mem_of_mem_take hu)
    · rcases List.mem_append.1 hu with hu|hu
      · exact hv.one u hu
      · exact h4 u (List.mem_of_mem_drop (List.mem_of_mem_drop hu))
  · by_cases e:i=k
    · rw[if_pos e];exact hvl
    · rw[if_neg e];rw[List.getElem?_set_ne (Ne.symm e)]at hx;exact h5 i x hx
  · by_cases e:i=k
    · subst e
      rw[if_pos rfl]
      rw[List.getElem?_set_self hk]at hx
      cases hx;exact hv
    · rw[if_neg e];rw[List.getElem?_set_ne (Ne.symm e)]at hx;exact h6 i x hx
  · by_cases e:i=k
    · subst e
      rw[if_pos rfl]at hj
      have hjl:j<vs.length:=(List.getElem?_eq_some_iff.1 hj).1
      rw[List.getElem?_append_right (by omega),hl1,Nat.add_sub_cancel_left,List.getElem?_append_left hjl]
      exact hj
    · rw[if_neg e]at hj
      rw[List.getElem?_set_ne (Ne.symm e)]at hx
      have hjl:j<csz c:=by
        have:=(List.getElem?_eq_some_iff.1 hj).1
        rw[h5 i x hx]at this;exact this
      have:=h7 i x hx j u hj
      rcases hne i j e hjl with hlt|hge
      · rw[List.getElem?_append_left (by omega),List.getElem?_take,if_pos hlt];exact this
      · rw[List.getElem?_append_right (by omega),hl1,List.getElem?_append_right (by omega),List.getElem?_drop,List.getElem?_drop]
        rw[←this]
        congr 1
        omega
def aStore (P:Program) (m:Mem) (t:TypeId) (x y:Av):T Ef:=
  match x with
  | .one (.pe i off sz k)=>optT m[i]? fun (ty,cs)=>optN (sizeP P t) fun n=>match decide (n=sz) with
    | true=>match wordsAt off cs with
      | some (l,a,r)=>match decide (sz=1),y with
        | true,.one (.v (.int .u32 z))=>.need (k<32∧0≤z∧z<4294967296) (.ret ⟨.nope,m.set i (ty,l++(.w (stA a k.toNat z)::r)),[i]⟩)
        | _,_=>.fail
      | none=>match off,cs with
        | 0,[.row c xs cap]=>match decide (sz=csz c) with
          | true=>optT (flat y) fun q=>match parse c q with
            | some (v,[])=>.need (k<xs.length) (.ret ⟨.nope,m.set i (ty,[.row c (xs.set k.toNat v) cap]),[i]⟩)
            | _=>.fail
          | false=>.fail
        | _,_=>.fail
    | false=>.fail
  | .one (.p i off)=>optT m[i]? fun (ty,cs)=>optN (sizeP P t) fun n=>optT (flat y) fun c=>if ckLen c=n then optT (cut off cs) fun (l,r)=>optT (cut n r) fun (_,k)=>.ret ⟨.nope,m.set i (ty,l++(c++k)),[i]⟩ else .fail
  | _=>.fail
def aNew (m:Mem) (t:TypeId) (x:Av):T Ef:=optT (flat x) fun c=>.ret ⟨.one (.p m.length 0),m++[(t,c)],[]⟩
def bytesP (P:Program) (t:TypeId):Option Nat:=match P.info? t with|some i=>some i.bytes|none=>none
def aApp (m:Mem) (e:TypeId) (c:Cd) (by':Nat) (x:Av) (ys:List (El c)):T Ef:=
  match x with
  | .one (.v (.slice none 0 0))=>.need (ys.length*by'≤140737488355328∧ys.length≤maxLen) (.up ys.length fun cap=>.ret ⟨.one (.os m.length ys.length cap),m++[(e,[.row c ys cap])],[]⟩)
  | .one (.os i n cap)=>optT m[i]? fun (ty,cs)=>match decide (ty=e),cs with
    | true,[.row c' xs cap']=>optT (castRow c' c xs) fun xs=>.need (n=xs.length∧cap'=cap∧(n+ys.length)*by'≤140737488355328∧n+ys.length≤maxLen)
        (.and (.ret ⟨.one (.os i (n+ys.length) cap),m.set i (e,[.row c (xs++ys) cap]),[i]⟩)
          (.up (n+ys.length) fun cap=>.ret ⟨.one (.os m.length (n+ys.length) cap),m++[(e,[.row c (xs++ys) cap])],[]⟩))
    | _,_=>.fail
  | _=>.fail
def parseN (c:Cd):Nat→List Ck→Option (List (El c)×List Ck)
  | 0,cs=>some ([],cs)
  | n+1,cs=>match parse c cs with
    | some (x,r)=>match parseN c n r with
      | some (xs,r')=>some (x::xs,r')
      | none=>none
    | none=>none
def ysOf (c:Cd) (m:Mem):Ck→Option (List (El c)×List Ck)
  | .os j n _=>match m[j]? with
    | some (_,cs)=>match parseN c n cs with
      | some (xs,_)=>some (xs,[])
      | none=>none
    | none=>none
  | yc=>parse (.sl c) [yc]
def aAppend {P:Program} (E:Env P) (m:Mem) (ts:List TypeId) (x y:Av):T Ef:=
  match ts with
  | [t,t']=>match decide (t'=t),P.underlying t with
    | true,some (.slice e)=>optT (E.cod.find? fun c=>c.ty==e) fun C=>optT (E.zero.find? fun z=>z.ty==e) fun Z=>optN (bytesP P e) fun by0=>match by0 with
      | 0=>.fail
      | b1+1=>let by':=b1+1;match decide (ckLen Z.cs=csz C.c)&&decide (0<csz C.c),y with
      | true,.one yc=>optT (ysOf C.c m yc) fun r=>match r with
        | (v::vs,[])=>aApp m e C.c by' x (v::vs)
        | _=>.fail
      | _,_=>.fail
    | _,_=>.fail
  | _=>.fail
def aMake {P:Program} (E:Env P) (m:Mem) (t:TypeId) (l k:Av):T Ef:=
  match P.underlying t with
  | some (.slice e)=>optT (E.cod.find? fun c=>c.ty==e) fun C=>optT (E.zero.find? fun z=>z.ty==e) fun Z=>optN (bytesP P e) fun by0=>match by0 with
    | 0=>.fail
    | b1+1=>let by':=b1+1;match decide (csz C.c=1),l,k with
    | true,.one (.v (.int _ z)),.one (.v (.int _ z'))=>optT (parse C.c Z.cs) fun r=>match r with
      | (v,[])=>.need (0≤z∧z'=z∧by'*z.toNat≤281474976710656∧z.toNat≤maxLen) (.ret ⟨.one (.os m.length z.toNat z.toNat),m++[(e,[.row C.c (List.replicate z.toNat v) z.toNat])],[]⟩)
      | _=>.fail
    | _,_,_=>.fail
  | _=>.fail
def calF (fr:List Av):Callee→Option FuncId
  | .value (.func f)=>some f
  | .value (.tmp t)=>match fr.getD t .any with
    | .one (.v (.func (.func f) x y))=>(match x.isEmpty&&y.isEmpty with
      | true=>some f
      | false=>none)
    | _=>none
  | _=>none
def ownB {P:Program} (E:Env P) (o:Oper):Bool:=match o.dst with
  | some d=>(E.frz 2000000).any fun s=>decide (s=d)
  | none=>false
def aE {P:Program} (E:Env P) (fr:List Av) (m:Mem) (o:Oper):T Ef:=
  match o.op with
  | .call { callee:=.builtin .append,args:=ars,argTypes:=ts }=>match ars.toList with
    | [x,y]=>aAppend E m ts.toList (operand fr x) (operand fr y)
    | _=>.fail
  | .makeSlice t l c=>aMake E m t (operand fr l) (operand fr c)
  | .alloc t=>optT (E.zero.find? fun z=>z.ty==t) fun z=>aNew m t (.agg z.cs)
  | .box t x=>aNew m t (operand fr x)
  | .store t x y=>aStore P m t (operand fr x) (operand fr y)
  | .call { callee:=.value (.func f),args:=ars,.. }=>optT (E.con.find? fun c=>c.f==f) fun c=>(c.run (ars.toList.map (operand fr)) m).bind fun (av,m')=>.ret ⟨av,m',wrOf c.pos (ars.toList.map (operand fr)) m⟩
  | .call { callee:=.value (.tmp t),args:=ars,.. }=>match calF fr (.value (.tmp t)) with
    | some f=>optT (E.con.find? fun c=>c.f==f) fun c=>(c.run (ars.toList.map (operand fr)) m).bind fun (av,m')=>.ret ⟨av,m',wrOf c.pos (ars.toList.map (operand fr)) m⟩
    | none=>.fail
  | .buildSlice t len parts=>match P.underlying t with
    | some (.slice e)=>optT (E.cod.find? fun c=>c.ty==e) fun C=>optN (decodes C.c (parts.toList.map fun p=>(p.1,operand fr p.2)) 0) fun xs=>match ownB E o with
      | true=>if xs.length=len∧len*csz C.c≤16777216∧0<csz C.c∧len≤1000000 then .ret ⟨.one (.os m.length len len),m++[(e,[.row C.c xs len])],[]⟩ else .fail
      | false=>if xs.length=len∧len*csz C.c≤16777216 then .ret ⟨.one (.ds C.c xs),m,[]⟩ else .fail
    | _=>.fail
  | _=>(aS P E.zero (fun _=>true) m fr o).bind fun av=>.ret ⟨av,m,[]⟩
def Post (w:World) (φ σ:List Nat) (a:Act) (d:Option Tmp) (Q:Ef→Prop) (a':Act) (w':World):Prop:=
  ∃ σ' e v,Q e∧Ext w σ σ'∧Keep w σ w'∧(∀ i b:Nat,σ[i]?=some b→i ∉ e.wr→w'.heap[b]?=w.heap[b]?)∧MemOk w' φ σ' e.mem∧AvIs w' (Ro w' φ σ') σ' e.av v∧a'=a.put d v
section
variable {P:Program} {E:Env P} {w:World} {φ σ:List Nat} {m:Mem} {fr:List Av} {a:Act} {o:Oper} {Q:Ef→Prop} {K:Act→World→Prop} {X:Exit→Act→World→Prop}
theorem memS_all (hm:MemOk w φ σ m):MemS w (Ro w φ σ) σ (fun _=>true) m:=⟨fun i h=>by rw[←hm.len];exact h,fun i t cs b _ h1 h2=>hm.blk i t cs b h1 h2⟩
theorem look_self (w:World) (R:Nat→Prop) (σ:List Nat) (ok:Nat→Bool):Look w R σ ok w:=⟨fun _ _=>rfl,fun _ _ _ _=>rfl⟩
theorem new_ok (hm:MemOk w φ σ m) {t:TypeId} {x:Av} {v:Value} (hx:AvIs w (Ro w φ σ) σ x v) (h:(aNew m t x).wp Q) (hK : ∀ a' w',Post w φ σ a o.dst Q a' w'→K a' w') :
    K (a.put o.dst (.pointer (some ⟨w.heap.size,0,none⟩))) (w.alloc (.cells v.cells t)):=by
  obtain ⟨c,hc,h⟩:=optT_wp h
  obtain ⟨us,e,his⟩:=flat_is hx hc
  rw[e]
  refine hK _ _ ⟨_,_,_,h,ext_new w σ,keep_alloc w σ _,fun i b hi _=>Below.heap_alloc w _ b (hm.lt (List.mem_of_getElem? hi)),hm.grow his,.one rfl (.p ?_ .nil),rfl⟩
  rw[List.getElem?_append_right (by rw[hm.len];exact Nat.le_refl _),hm.len,Nat.sub_self];rfl
theorem store_ok (hm:MemOk w φ σ m) (hf:FrOk w (Ro w φ σ) σ fr a) {t:TypeId} {x y:Operand} (ho:o.op=.store t x y) (h:(aStore P m t (operand fr x) (operand fr y)).wp Q) (hK : ∀ a' w',Post w φ σ a o.dst Q a' w'→K a' w'):o.wp P a w K X:=by
  have hx:=operand_is hf x
  have hy:=operand_is hf y
  have key : ∀ {i b:Nat} {ty:TypeId} {ua um ub vs:List Value} {cs':List Ck},σ[i]?=some b→(∀ cs,m[i]?=some (ty,cs)→True)→w.heap[b]?=some (.cells (ua++(um++ub)).toArray ty (0,0))→um.length=vs.length→a.eval x=.pointer (some ⟨b,ua.length,none⟩) →
      (a.eval y).cells=vs.toArray→(∀ u∈vs,u.oneCell'=true)→sizeP P t=some vs.length→Is w (Ro w φ σ) σ cs' (ua++(vs++ub))→Q ⟨.nope,m.set i (ty,cs'),[i]⟩→o.wp P a w K X:=by
    intro i b ty ua um ub vs cs' hb _ hbl hlen hxe hv h1 hn hi hQ
    obtain ⟨s1,s2,s3,s4,s5,s6⟩:=setCells_spec b ty vs ua um ub w hlen hbl
    have hrun:=run_put (P:=P) (ty:=t) hbl hlen hv h1 (sizeP_ok hn)
    have hkeep:Keep w σ (w.setCells b ua.length vs):=⟨s4,s5,s6,by omega,fun k _ hk=>s2 k (fun e=>hk (by subst e;exact List.mem_of_getElem? hb))⟩
    unfold Oper.wp execOp
    simp only[ho,hxe,Sem.run_bind,hrun,Result.andThen_ok]
    refine hK _ _ ⟨σ,_,undef,hQ,Ext.refl w σ,hkeep,fun j c' hj hnw=>s2 c' ?_,hm.put hkeep hb s2 s1 hi,.nope,rfl⟩
    rintro rfl
    apply hnw
    obtain ⟨l1,e1⟩:=List.getElem?_eq_some_iff.1 hb
    obtain ⟨l2,e2⟩:=List.getElem?_eq_some_iff.1 hj
    have:=(List.getElem_inj hm.nodup).1 (e1.trans e2.symm)
    simp[this]
  unfold aStore at h
  split at h
  · rename_i i off sz k hop
    rw[hop]at hx
    obtain ⟨b,hb,h0,hxe⟩:=is_one_pe hx
    obtain ⟨⟨ty,cs⟩,hmi,h1⟩:=optT_wp h
    obtain ⟨n,hn,h2⟩:=optN_wp h1
    obtain ⟨us,hbl,his⟩:=hm.blk i ty cs b hmi hb
    split at h2
    · rename_i hnz
      have hnz:=of_decide_eq_true hnz
      subst hnz
      split at h2
      · rename_i l a' r hw
        obtain ⟨ua,ub,rfl,e1,i1,i2⟩:=words_at his hw
        split at h2
        · rename_i z hs1 hopy
          have hs1:=of_decide_eq_true hs1
          subst hs1
          rw[hopy]at hy
          have hye:=val_of hy rfl
          obtain ⟨⟨hk,hz0,hz1⟩,hQ⟩:=h2
          have hk':k.toNat<32:=by omega
          have hcell:(Pq.am 32 a'.1).set k.toNat (.int .u32 z)=Pq.am 32 (stA a' k.toNat z).1:=by
            rw[stA_val hk' hz0 hz1,←Pq.am_set (by omega) hk',show ((z.toNat:Nat):Int)=z from by omega]
          have hl:=Pq.am_length 32 a'.1
          refine key (i:=i) (ty:=ty) (ua:=ua++(Pq.am 32 a'.1).take k.toNat) (um:=((Pq.am 32 a'.1).drop k.toNat).take 1) (ub:=(Pq.am 32 a'.1).drop (k.toNat+1)++ub) (vs:=[.int .u32 z]) hb (fun _ _=>trivial) ?_ ?_ ?_ ?_ (by simp[Value.oneCell']) hn ?_ hQ
          · rw[hbl,cut_one ua (Pq.am 32 a'.1) ub k.toNat]
          · rw[List.length_take,List.length_drop,hl];simp;omega
          · rw[hxe,List.length_append,List.length_take,hl,e1,Nat.mul_one,Nat.min_eq_left (by omega)]
          · rw[hye];rfl
          · have:ua++(Pq.am 32 a'.1).take k.toNat++([Value.int .u32 z]++((Pq.am 32 a'.1).drop (k.toNat+1)++ub))=ua++(Pq.am 32 (stA a' k.toNat z).1++ub):=by
              rw[←hcell,List.set_eq_take_append_cons_drop,if_pos (by omega)]
              simp
            rw[this]
            exact i1.app (.w i2)
        · exact h2.elim
      · split at h2
        · rename_i c xs cap _
          split at h2
          · rename_i hs1
            have hs1:=of_decide_eq_true hs1
            subst hs1
            obtain ⟨q,hq,h3⟩:=optT_wp h2
            split at h3
            · rename_i v hp
              obtain ⟨hk,hQ⟩:=h3
              obtain ⟨vs,hv,iv⟩:=flat_is hy hq
              obtain ⟨va,vb,rfl,j1,j2⟩:=parse_ok c q v [] vs hp iv
              cases j2
              rw[List.append_nil]at hv
              obtain ⟨ua,um,ub,rfl,e1,e2,e3,hi⟩:=row_put his (show k.toNat<xs.length from by omega) j1
              exact key (i:=i) (ty:=ty) hb (fun _ _=>trivial) hbl e2 (by rw[hxe,e1,Nat.zero_add]) hv j1.one (by rw[hn,e3]) hi hQ
            · exact h3.elim
          · exact h2.elim
        · exact h2.elim
    · exact h2.elim
  · rename_i i off hop
    rw[hop]at hx
    obtain ⟨b,hb,hxe⟩:=is_one_p hx
    obtain ⟨⟨ty,cs⟩,hmi,h1⟩:=optT_wp h
    obtain ⟨n,hn,h2⟩:=optN_wp h1
    obtain ⟨c,hc,h3⟩:=optT_wp h2
    by_cases hl:ckLen c=n
    · rw[if_pos hl]at h3
      obtain ⟨⟨l,r⟩,hc1,h4⟩:=optT_wp h3
      obtain ⟨⟨d,k⟩,hc2,h5⟩:=optT_wp h4
      obtain ⟨us,hbl,his⟩:=hm.blk i ty cs b hmi hb
      obtain ⟨ua,ur,rfl,e1,i1,i2,_⟩:=is_cut _ _ _ _ _ his hc1
      obtain ⟨um,ub,rfl,e2,_,i3,_⟩:=is_cut _ _ _ _ _ i2 hc2
      obtain ⟨vs,hv,iv⟩:=flat_is hy hc
      have hvl:=is_len _ iv
      have hlen:um.length=vs.length:=by omega
      obtain ⟨s1,s2,s3,s4,s5,s6⟩:=setCells_spec b ty vs ua um ub w hlen hbl
      have hrun:=run_put (P:=P) (ty:=t) hbl hlen hv iv.one (by rw[sizeP_ok hn];congr 1;omega)
      have hkeep:Keep w σ (w.setCells b ua.length vs):=⟨s4,s5,s6,by omega,fun k _ hk=>s2 k (fun e=>hk (by subst e;exact List.mem_of_getElem? hb))⟩
      unfold Oper.wp execOp
      subst e1
      simp only[ho,hxe,Sem.run_bind,hrun,Result.andThen_ok]
      refine hK _ _ ⟨σ,_,undef,h5,Ext.refl w σ,hkeep,fun j c' hj hnw=>s2 c' ?_,hm.put hkeep hb s2 s1 (i1.app (iv.app i3)),.nope,rfl⟩
      rintro rfl
      apply hnw
      obtain ⟨l1,e1⟩:=List.getElem?_eq_some_iff.1 hb
      obtain ⟨l2,e2⟩:=List.getElem?_eq_some_iff.1 hj
      have:=(List.getElem_inj hm.nodup).1 (e1.trans e2.symm)
      simp[this]
    · rw[if_neg hl]at h3;exact h3.elim
  · exact h.elim
theorem args_is (hf:FrOk w (Ro w φ σ) σ fr a) (ars:List Operand) : ∀ (i:Nat) (x:Av) (v:Value),(ars.map (operand fr))[i]?=some x→(ars.map a.eval)[i]?=some v→AvIs w (Ro w φ σ) σ x v:=by
  intro i x v h1 h2
  rw[List.getElem?_map]at h1 h2
  cases hq:ars[i]? with
  | none=>simp[hq]at h1
  | some y =>
    simp only[hq,Option.map_some,Option.some.injEq]at h1 h2
    subst h1;subst h2
    exact operand_is hf y
theorem call_ok (hm:MemOk w φ σ m) (hf:FrOk w (Ro w φ σ) σ fr a) {f:FuncId} {ars:Array Operand} {ts:Array TypeId} (ho:o.op=.call ⟨.value (.func f),ars,ts⟩) (c:Con P) (hc:c.f=f)
    (h:((c.run (ars.toList.map (operand fr)) m).bind fun (x:Av×Mem)=>T.ret (⟨x.1,x.2,wrOf c.pos (ars.toList.map (operand fr)) m⟩:Ef)).wp Q) (hK : ∀ a' w',Post w φ σ a o.dst Q a' w'→K a' w'):o.wp P a w K X:=by
  rw[T.wp_bind]at h
  have hcall:=c.ok w φ σ m (ars.toList.map (operand fr)) (ars.toList.map a.eval) _ hm (by simp) (args_is hf _) h
  subst hc
  unfold Oper.wp execOp
  have e:(resolve a.eval ⟨.value (.func c.f),ars,ts⟩ o.type).run P w=.ok { target:=.fn (.func c.f) #[],args:=(ars.toList.map a.eval).toArray } w:=by
    simp[resolve,Act.eval,Deferred.ofValue]
    rw[←Array.toList_map,Array.toArray_toList]
  simp only[ho,Sem.run_bind,e,Result.andThen_ok,invoke,Array.append_empty,c.cf]
  refine hcall.mono fun e' w' hR=>?_
  obtain ⟨v,av,m',σ',rfl,hQ,h1,h2,h3,h4,h5⟩:=hR
  exact hK _ _ ⟨σ',_,v,hQ,h1,h2,h3,h5,h4,rfl⟩
theorem tell_ok (hm:MemOk w φ σ m) (hf:FrOk w (Ro w φ σ) σ fr a) (h:((aS P E.zero (fun _=>true) m fr o).bind fun av=>T.ret (⟨av,m,[]⟩:Ef)).wp Q) (hK : ∀ a' w',Post w φ σ a o.dst Q a' w'→K a' w'):o.wp P a w K X:=by
  rw[T.wp_bind]at h
  obtain ⟨av,v,h1,h2,h3⟩:=aS_ok (memS_all hm) hf h
  unfold Oper.wp
  rw[h3 w (look_self _ _ _ _)]
  exact hK _ _ ⟨σ,_,v,h1,Ext.refl w σ,Keep.refl w σ,fun _ _ _ _=>rfl,hm,h2,rfl⟩
end
theorem fill_ok (sz:Nat) : ∀ (parts:List (Nat×Value)) (uss:List (List Value)) (ua rest:List Value) (k:Nat),parts.length=uss.length→ua.length=k*sz→rest.length=uss.length*sz →
    (∀ (i:Nat) p us,parts[i]?=some p→uss[i]?=some us→p.1=k+i∧p.2.cells=us.toArray∧us.length=sz) →
    Instr.fill (fun i=>some (i*sz,sz)) (ua++rest).toArray parts=some (ua++uss.flatten).toArray
  | [],uss,ua,rest,k,hl,_,hr,_=>by
    obtain rfl:uss=[]:=List.length_eq_zero_iff.1 (by simpa using hl.symm)
    obtain rfl:rest=[]:=List.length_eq_zero_iff.1 (by simpa using hr)
    rfl
  | (i,v)::parts,uss,ua,rest,k,hl,hk,hr,h=>by
    obtain ⟨us,uss,rfl⟩ : ∃ o r,uss=o::r:=by
      match uss,hl with
      | o::r,_=>exact ⟨o,r,rfl⟩
    obtain ⟨h1,h2,h3⟩:=h 0 (i,v) us rfl rfl
    simp only[Nat.add_zero]at h1 h2
    subst h1
    have hrl:rest.length=sz+uss.length*sz:=by rw[hr,List.length_cons,Nat.add_mul];omega
    obtain ⟨old,ub,rfl,ho⟩ : ∃ old ub,rest=old++ub∧old.length=sz:=⟨rest.take sz,rest.drop sz,(List.take_append_drop _ _).symm,by rw[List.length_take];omega⟩
    have hsz:v.cells.size=sz:=by rw[h2];simpa using h3
    unfold Instr.fill
    have hb:¬ (i*sz+v.cells.size>(ua++(old++ub)).toArray.size):=by simp[hsz,hk,ho]
    simp only[hsz,ne_eq,not_true_eq_false,decide_false,Bool.false_or]
    rw[if_neg (by simp only[hsz]at hb;simpa using hb)]
    have e:(v.cells.zipIdx.foldl (fun (cs:Array Value) (x:Value×Nat)=>cs.setIfInBounds (i*sz+x.2) x.1) (ua++(old++ub)).toArray)=(ua++(us++ub)).toArray:=by
      rw[h2,←Array.foldl_toList,Array.toList_zipIdx]
      exact overlay us ua old ub (i*sz) 0 (by omega) (by omega)
    have e2:=fill_ok sz parts uss (ua++us) ub (i+1) (by simpa using hl) (by rw[List.length_append,Nat.add_mul];omega) (by rw[List.length_append]at hrl;omega)
      (fun j p us' hp hu=>by
        have:=h (j+1) p us' (by simpa using hp) (by simpa using hu)
        exact ⟨by omega,this.2⟩)
    rw[List.append_assoc]at e2
    have e3:(v.cells.zipIdx.foldl (fun (cs:Array Value) (x:Value×Nat)=>match x with|(c,j)=>cs.setIfInBounds (i*sz+j) c) (ua++(old++ub)).toArray)=(ua++(us++ub)).toArray:=e
    rw[e3,e2]
    simp
section
variable {P:Program} {E:Env P} {w:World} {φ σ:List Nat} {m:Mem} {fr:List Av} {a:Act} {o:Oper} {Q:Ef→Prop} {K:Act→World→Prop} {X:Exit→Act→World→Prop}
theorem decodes_ok {c:Cd} {R:Nat→Prop} : ∀ (ps:List (Nat×Av)) (vs:List Value) (k:Nat) (xs:List (El c)),decodes c ps k=some xs→vs.length=ps.length →
    (∀ (i:Nat) p v,ps[i]?=some p→vs[i]?=some v→AvIs w R σ p.2 v) →
    xs.length=ps.length ∧ ∃ uss:List (List Value),uss.length=xs.length∧(∀ (i:Nat) (us:List Value),uss[i]?=some us→us.length=csz c) ∧
      (∀ (i:Nat) p v us,ps[i]?=some p→vs[i]?=some v→uss[i]?=some us→p.1=k+i∧v.cells=us.toArray)∧(∀ (i:Nat) x us,xs[i]?=some x→uss[i]?=some us→Is w R [] (ck c x) us)
  | [],vs,k,xs,h,hl,_=>by
    cases h
    exact ⟨rfl,[],rfl,by simp,by simp,by simp⟩
  | (i,av)::ps,vs,k,xs,h,hl,ha=>by
    obtain ⟨v,vs,rfl⟩ : ∃ o r,vs=o::r:=by
      match vs,hl with
      | o::r,_=>exact ⟨o,r,rfl⟩
    unfold decodes at h
    by_cases hik:i=k
    · rw[if_pos hik]at h
      cases hfl:flat av with
      | none=>simp[hfl]at h
      | some cs =>
        simp only[hfl]at h
        cases hof:parse c cs with
        | none=>simp[hof]at h
        | some xr =>
          obtain ⟨x,r⟩:=xr
          simp only[hof]at h
          cases hd:decodes c ps (k+1) with
          | none=>cases r <;> simp[hd]at h
          | some xs' =>
            cases r with
            | cons _ _=>simp[hd]at h
            | nil =>
            simp only[hd]at h
            cases h
            obtain ⟨us,e,his⟩:=flat_is (ha 0 _ v rfl rfl) hfl
            obtain ⟨us',ub,rfl,his',hnil⟩:=parse_ok c cs x [] us hof his
            cases hnil
            rw[List.append_nil]at e
            obtain ⟨g0,uss,g1,g2,g3,g4⟩:=decodes_ok ps vs (k+1) xs' hd (by simpa using hl) (fun j p v' hp hv=>ha (j+1) p v' (by simpa using hp) (by simpa using hv))
            refine ⟨by simp[g0],us'::uss,by simp[g1],?_,?_,?_⟩
            · intro j u hj
              rcases j with _|j
              · cases hj;exact ck_len c x us' his'
              · exact g2 j u (by simpa using hj)
            · intro j p v' u hp hv hu
              rcases j with _|j
              · cases hp;cases hv;cases hu;exact ⟨hik,e⟩
              · have:=g3 j p v' u (by simpa using hp) (by simpa using hv) (by simpa using hu)
                exact ⟨by omega,this.2⟩
            · intro j y u hy hu
              rcases j with _|j
              · cases hy;cases hu;exact his'
              · exact g4 j y u (by simpa using hy) (by simpa using hu)
    · rw[if_neg hik]at h;cases h
theorem range_flat {w:World} {b:Nat} {sz:Nat} : ∀ (uss:List (List Value)) (off:Nat),(∀ (i:Nat) (us:List Value),uss[i]?=some us→us.length=sz)→w.rangeAt b off uss.flatten → ∀ (i:Nat) (us:List Value),uss[i]?=some us→w.rangeAt b (off+i*sz) us
  | [],_,_,_,i,us,h=>by simp at h
  | u::uss,off,hl,hr,i,us,h=>by
    rw[List.flatten_cons]at hr
    obtain ⟨h1,h2⟩:=Pq.range_app hr
    rcases i with _|i
    · cases h;simpa using h1
    · have h0:=hl 0 u rfl
      have:=range_flat uss (off+u.length) (fun j v hj=>hl (j+1) v (by simpa using hj)) h2 i us (by simpa using h)
      rw[h0]at this
      rw[Nat.add_mul,Nat.one_mul,show off+(i*sz+sz)=off+sz+i*sz from by omega]
      exact this
theorem slice_run (hm:MemOk w φ σ m) (hf:FrOk w (Ro w φ σ) σ fr a) {t e:TypeId} {len:Nat} {parts:Array (Nat×Operand)} (ho:o.op=.buildSlice t len parts) (hu:P.underlying t=some (.slice e)) (C:Cod P) (hC:C.ty=e)
    {xs:List (El C.c)} (hd:decodes C.c (parts.toList.map fun p=>(p.1,operand fr p.2)) 0=some xs) (hl:xs.length=len) (hb:len*csz C.c≤16777216)
    : ∃ uss:List (List Value),uss.length=xs.length∧(∀ (i:Nat) us,uss[i]?=some us→us.length=csz C.c)∧(∀ (i:Nat) x us,xs[i]?=some x→uss[i]?=some us→Is w (Ro w φ σ) [] (ck C.c x) us)∧uss.flatten.length=len*csz C.c ∧
      (K (a.put o.dst (.slice (some ⟨w.heap.size,0,none⟩) len len)) (w.alloc (.cells uss.flatten.toArray C.ty))→o.wp P a w K X):=by
  subst hC
  obtain ⟨g0,uss,g1,g2,g3,g4⟩:=decodes_ok (w:=w) (σ:=σ) (R:=Ro w φ σ) _ (parts.toList.map fun p=>a.eval p.2) 0 xs hd (by simp) (fun i p v hp hv=>by
    rw[List.getElem?_map]at hp hv
    cases hq:parts.toList[i]? with
    | none=>rw[hq]at hp;simp at hp
    | some y =>
      rw[hq]at hp hv
      simp only[Option.map_some,Option.some.injEq]at hp hv
      subst hp;subst hv
      exact operand_is hf y.2)
  obtain ⟨z,hz⟩:=C.zero
  have hflat:uss.flatten.length=len*csz C.c:=by
    have : ∀ (l:List (List Value)),(∀ us∈l,us.length=csz C.c)→l.flatten.length=l.length*csz C.c:=by
      intro l
      induction l with
      | nil=>intro _;simp
      | cons u l ih =>
        intro h
        rw[List.flatten_cons,List.length_append,ih (fun us hu=>h us (by simp[hu])),h u (by simp),List.length_cons,Nat.add_mul];omega
    rw[this uss (fun us hu=>by
      obtain ⟨i,hi,rfl⟩:=List.getElem_of_mem hu
      exact g2 i _ (List.getElem?_eq_getElem hi)),g1,hl]
  have hfill : ∀ rest:List Value,rest.length=len*csz C.c→Instr.fill (fun i=>some (i*csz C.c,csz C.c)) rest.toArray (parts.toList.map fun p=>(p.1,a.eval p.2))=some uss.flatten.toArray:=by
    intro rest hr
    have:=fill_ok (csz C.c) (parts.toList.map fun p=>(p.1,a.eval p.2)) uss [] rest 0 (by rw[g1,g0];simp) (by simp) (by rw[hr,g1,hl]) (fun i p us hp hu=>by
      rw[List.getElem?_map]at hp
      cases hq:parts.toList[i]? with
      | none=>rw[hq]at hp;simp at hp
      | some y =>
        rw[hq]at hp
        simp only[Option.map_some,Option.some.injEq]at hp
        subst hp
        have:=g3 i (y.1,operand fr y.2) (a.eval y.2) us (by rw[List.getElem?_map,hq];rfl) (by rw[List.getElem?_map,hq];rfl) hu
        exact ⟨this.1,this.2,g2 i us hu⟩)
    simpa using this
  have hbu:(Instr.buildSlice t len (parts.map fun (i,x)=>(i,a.eval x))).run P w=.ok (.slice (some ⟨w.heap.size,0,none⟩) len len) (w.alloc (.cells uss.flatten.toArray C.ty)):=by
    unfold Instr.buildSlice
    have hle:¬ (len*csz C.c>2^24):=by omega
    simp only[Sem.run_bind,run_underlying hu,Result.andThen_ok,run_size C.size,if_neg hle,Sem.run_pure]
    have hp:(parts.map fun (i,x)=>(i,a.eval x)).toList=parts.toList.map fun p=>(p.1,a.eval p.2):=by simp[Array.toList_map]
    by_cases h0:len*csz C.c=0
    · have:=hfill [] (by simp[h0])
      have e:(Array.map (fun x=>(#[]:Array Value)[x%(#[]:Array Value).size]!) (Array.range 0))=([]:List Value).toArray:=by simp
      simp only[h0,if_true,Sem.run_pure,Result.andThen_ok,hp,Sem.run_bind,e,this]
      simp only[newRow,Sem.run_bind,run_newObj,Sem.run_pure,Result.andThen_ok]
      rfl
    · simp only[h0,if_false,Sem.run_bind,hz,Result.andThen_ok,Sem.run_pure,hp]
      have e : ∀ zc:Array Value,(Array.map (fun x=>zc[x%zc.size]!) (Array.range (len*csz C.c)))=((Array.map (fun x=>zc[x%zc.size]!) (Array.range (len*csz C.c))).toList).toArray:=fun zc=>Array.toArray_toList.symm
      rw[e,hfill _ (by simp)]
      simp only[newRow,Sem.run_bind,run_newObj,Sem.run_pure,Result.andThen_ok]
      rfl
  refine ⟨uss,by omega,g2,g4,hflat,fun hK=>?_⟩
  unfold Oper.wp execOp
  simp only[ho,Sem.run_bind,hbu,Result.andThen_ok]
  exact hK
theorem slice_ok (hm:MemOk w φ σ m) (hf:FrOk w (Ro w φ σ) σ fr a) {t e:TypeId} {len:Nat} {parts:Array (Nat×Operand)} (ho:o.op=.buildSlice t len parts) (hu:P.underlying t=some (.slice e)) (C:Cod P) (hC:C.ty=e)
    {xs:List (El C.c)} (hd:decodes C.c (parts.toList.map fun p=>(p.1,operand fr p.2)) 0=some xs) (hl:xs.length=len) (hb:len*csz C.c≤16777216)
    (hQ:Q ⟨.one (.ds C.c xs),m,[]⟩) (hK : ∀ a' w',Post w φ σ a o.dst Q a' w'→K a' w'):o.wp P a w K X:=by
  subst hC
  obtain ⟨uss,g1,g2,g4,hflat,hgo⟩:=slice_run (K:=K) (X:=X) hm hf ho hu C rfl hd hl hb
  refine hgo ?_
  have hk:=keep_alloc w σ (.cells uss.flatten.toArray C.ty)
  have ho' : ∀ i b:Nat,σ[i]?=some b→(w.alloc (.cells uss.flatten.toArray C.ty)).heap[b]?=w.heap[b]?:=fun i b hi=>Below.heap_alloc w _ b (hm.lt (List.mem_of_getElem? hi))
  have hro:=hk.ro (φ:=φ) (Ext.refl w σ)
  refine hK _ _ ⟨σ,_,_,hQ,Ext.refl w σ,hk,fun i b hi _=>ho' i b hi,hm.stay hk (Ext.refl w σ) rfl ho',?_,rfl⟩
  have hnew:(w.alloc (.cells uss.flatten.toArray C.ty)).rangeAt w.heap.size 0 uss.flatten:=Pq.range_block (heap_alloc_new w _)
  have hgi : ∀ (i:Nat) x,xs[i]?=some x → ∃ us,uss[i]?=some us:=fun i x hx=>by
    have:=(List.getElem?_eq_some_iff.1 hx).1
    exact ⟨uss[i],List.getElem?_eq_getElem (by omega)⟩
  refine .one rfl ?_
  rw[←hl]
  refine .ds (fun i=>uss.getD i []) (Nat.le_refl _) ⟨by simp,fun h=>by have:=hm.fo _ h;omega,fun h=>by have:=hm.lt h;omega⟩ (fun i x hx=>?_) (fun i x hx=>?_) (fun i x hx=>?_) .nil
  all_goals
    obtain ⟨us,hus⟩:=hgi i x hx
    simp only[List.getD_eq_getElem?_getD,hus,Option.getD_some]
  · exact g2 i us hus
  · exact (g4 i x us hx hus).mono hro (fun _ _ h=>h)
  · exact range_flat uss 0 g2 hnew i us hus
theorem flat_get {s:Nat} (hs:0<s) : ∀ (uss:List (List Value)) (_ : ∀ us∈uss,us.length=s) (j:Nat),uss.flatten[j]?=(uss[j/s]?).bind fun us=>us[j%s]?
  | [],_,j=>by simp
  | us::r,h,j=>by
    have hu:=h us (by simp)
    rw[List.flatten_cons]
    rcases Nat.lt_or_ge j s with hlt|hge
    · rw[List.getElem?_append_left (by omega),Nat.div_eq_of_lt hlt,Nat.mod_eq_of_lt hlt];rfl
    · rw[List.getElem?_append_right (by omega),flat_get hs r (fun x hx=>h x (by simp[hx])) (j-us.length),hu]
      have h1:j/s=(j-s)/s+1:=by rw[Nat.div_eq_sub_div hs hge]
      have h2:j%s=(j-s)%s:=Nat.mod_eq_sub_mod hge
      rw[h1,h2,List.getElem?_cons_succ]
theorem flat_at {s:Nat} (hs:0<s) {uss:List (List Value)} (h : ∀ us∈uss,us.length=s) {i j:Nat} {us:List Value} (hi:uss[i]?=some us) {u:Value} (hj:us[j]?=some u):uss.flatten[i*s+j]?=some u:=by
  have hjl:j<s:=by
    have:=(List.getElem?_eq_some_iff.1 hj).1
    rw[h us (List.mem_of_getElem? hi)]at this;exact this
  rw[flat_get hs uss h,show (i*s+j)/s=i from by rw[Nat.mul_comm,Nat.mul_add_div hs,Nat.div_eq_of_lt hjl,Nat.add_zero],hi,show (i*s+j)%s=j from by rw[Nat.mul_comm,Nat.mul_add_mod,Nat.mod_eq_of_lt hjl]]
  exact hj
theorem flat_len {s:Nat} : ∀ (uss:List (List Value)) (_ : ∀ us∈uss,us.length=s),uss.flatten.length=uss.length*s
  | [],_=>by simp
  | u::l,h=>by rw[List.flatten_cons,List.length_append,flat_len l (fun us hu=>h us (by simp[hu])),h u (by simp),List.length_cons,Nat.add_mul];omega
theorem slice_own (hm:MemOk w φ σ m) (hf:FrOk w (Ro w φ σ) σ fr a) {t e:TypeId} {len:Nat} {parts:Array (Nat×Operand)} (ho:o.op=.buildSlice t len parts) (hu:P.underlying t=some (.slice e)) (C:Cod P) (hC:C.ty=e)
    {xs:List (El C.c)} (hd:decodes C.c (parts.toList.map fun p=>(p.1,operand fr p.2)) 0=some xs) (hl:xs.length=len) (hb:len*csz C.c≤16777216)
    (h0:0<csz C.c) (hlen:len≤1000000)
    (hQ:Q ⟨.one (.os m.length len len),m++[(e,[.row C.c xs len])],[]⟩) (hK : ∀ a' w',Post w φ σ a o.dst Q a' w'→K a' w'):o.wp P a w K X:=by
  subst hC
  obtain ⟨uss,g1,g2,g4,hflat,hgo⟩:=slice_run (K:=K) (X:=X) hm hf ho hu C rfl hd hl hb
  refine hgo ?_
  have hgi : ∀ (i:Nat) x,xs[i]?=some x → ∃ us,uss[i]?=some us:=fun i x hx=>by
    have:=(List.getElem?_eq_some_iff.1 hx).1
    exact ⟨uss[i],List.getElem?_eq_getElem (by omega)⟩
  have hg2 : ∀ us∈uss,us.length=csz C.c:=fun us hu=>by
    obtain ⟨i,hi,rfl⟩:=List.getElem_of_mem hu
    exact g2 i _ (List.getElem?_eq_getElem hi)
  have hM:maxLen=9223372036854775807:=rfl
  have his:Is w (Ro w φ σ) σ [.row C.c xs len] uss.flatten:=by
    refine .row (us:=[]) (fun i=>uss.getD i []) hflat (by omega) (by omega) (fun u hu=>?_) (fun i x hx=>?_) (fun i x hx=>?_) (fun i x hx j u hj=>?_) .nil (List.append_nil _).symm
    · obtain ⟨us,hus,huu⟩:=List.mem_flatten.1 hu
      obtain ⟨i,hi,rfl⟩:=List.getElem_of_mem hus
      have hx:xs[i]?=some (xs[i]'(by omega)):=List.getElem?_eq_getElem _
      exact (g4 i _ _ hx (List.getElem?_eq_getElem hi)).one u huu
    all_goals obtain ⟨us,hus⟩:=hgi i x hx
    · simp only[List.getD_eq_getElem?_getD,hus,Option.getD_some]
      exact g2 i us hus
    · simp only[List.getD_eq_getElem?_getD,hus,Option.getD_some]
      exact g4 i x us hx hus
    · simp only[List.getD_eq_getElem?_getD,hus,Option.getD_some]at hj
      exact flat_at h0 hg2 hus hj
  refine hK _ _ ⟨_,_,_,hQ,ext_new w σ,keep_alloc w σ _,fun i b hi _=>Below.heap_alloc w _ b (hm.lt (List.mem_of_getElem? hi)),hm.grow his,.one rfl (.os ?_ (Nat.le_refl _) .nil),rfl⟩
  rw[List.getElem?_append_right (by rw[hm.len];exact Nat.le_refl _),hm.len,Nat.sub_self];rfl
structure Els' (w:World) (R:Nat→Prop) (c:Cd) (xs:List (El c)) (us:List Value) (g:Nat→List Value):Prop where
  len:us.length=xs.length*csz c
  one : ∀ u∈us,u.oneCell'=true
  sz : ∀ i x,xs[i]?=some x→(g i).length=csz c
  is : ∀ i x,xs[i]?=some x→Is w R [] (ck c x) (g i)
  at_ : ∀ i x,xs[i]?=some x → ∀ j u,(g i)[j]?=some u→us[i*csz c+j]?=some u
theorem Els'.mono {w':World} {R R':Nat→Prop} {c:Cd} {xs:List (El c)} {us:List Value} {g:Nat→List Value} (h:Els' w R c xs us g) (hR : ∀ b,R b→R' b∧w'.heap[b]?=w.heap[b]?):Els' w' R' c xs us g:=
  ⟨h.len,h.one,h.sz,fun i x hx=>(h.is i x hx).mono hR (fun _ _ h=>h),h.at_⟩
theorem Els'.app {R:Nat→Prop} {c:Cd} {xs ys:List (El c)} {us vs:List Value} {g k:Nat→List Value} (h:Els' w R c xs us g) (h':Els' w R c ys vs k) :
    Els' w R c (xs++ys) (us++vs) (fun i=>if i<xs.length then g i else k (i-xs.length)):=by
  have split : ∀ i x,(xs++ys)[i]?=some x→(i<xs.length∧xs[i]?=some x)∨(xs.length≤i∧ys[i-xs.length]?=some x):=fun i x hx=>by
    rcases Nat.lt_or_ge i xs.length with hlt|hge
    · rw[List.getElem?_append_left hlt]at hx;exact .inl ⟨hlt,hx⟩
    · rw[List.getElem?_append_right hge]at hx;exact .inr ⟨hge,hx⟩
  refine ⟨by rw[List.length_append,List.length_append,h.len,h'.len,Nat.add_mul],fun u hu=>?_,fun i x hx=>?_,fun i x hx=>?_,fun i x hx j u hj=>?_⟩
  · rcases List.mem_append.1 hu with hu|hu
    · exact h.one u hu
    · exact h'.one u hu
  · rcases split i x hx with ⟨h1,h2⟩|⟨h1,h2⟩
    · rw[if_pos h1];exact h.sz i x h2
    · rw[if_neg (by omega)];exact h'.sz _ x h2
  · rcases split i x hx with ⟨h1,h2⟩|⟨h1,h2⟩
    · rw[if_pos h1];exact h.is i x h2
    · rw[if_neg (by omega)];exact h'.is _ x h2
  · rcases split i x hx with ⟨h1,h2⟩|⟨h1,h2⟩
    · rw[if_pos h1]at hj
      have:=h.at_ i x h2 j u hj
      rw[List.getElem?_append_left (List.getElem?_eq_some_iff.1 this).1];exact this
    · rw[if_neg (by omega)]at hj
      have:=h'.at_ _ x h2 j u hj
      have e:i*csz c+j=us.length+((i-xs.length)*csz c+j):=by
        rw[h.len,←Nat.add_assoc,←Nat.add_mul];congr 2;omega
      rw[e,List.getElem?_append_right (by omega),Nat.add_sub_cancel_left];exact this
theorem Els'.row {R:Nat→Prop} {c:Cd} {xs:List (El c)} {us tail:List Value} {g:Nat→List Value} {cap:Nat} (h:Els' w R c xs us g) (hl:(us++tail).length=cap*csz c) (hc:xs.length≤cap) (hm:cap≤maxLen) (h1 : ∀ u∈tail,u.oneCell'=true) (σ:List Nat) :
    Is w R σ [.row c xs cap] (us++tail):=by
  refine .row (us:=[]) g hl hc hm (fun u hu=>?_) h.sz h.is (fun i x hx j u hj=>?_) .nil (List.append_nil _).symm
  · rcases List.mem_append.1 hu with hu|hu
    · exact h.one u hu
    · exact h1 u hu
  · have:=h.at_ i x hx j u hj
    rw[List.getElem?_append_left (List.getElem?_eq_some_iff.1 this).1];exact this
theorem row_els {R:Nat→Prop} {c:Cd} {xs:List (El c)} {us:List Value} {cap:Nat} (h:Is w R σ [.row c xs cap] us):us.length=cap*csz c∧xs.length≤cap∧cap≤maxLen∧(∀ u∈us,u.oneCell'=true) ∧ ∃ g,Els' w R c xs (us.take (xs.length*csz c)) g:=by
  obtain ⟨g,h1,h2,h3,h4,h5,h6,h7⟩:=is_row h
  have hle:=Nat.mul_le_mul_right (csz c) h2
  refine ⟨h1,h2,h3,h4,g,by rw[List.length_take];omega,fun u hu=>h4 u (List.mem_of_mem_take hu),h5,h6,fun i x hx j u hj=>?_⟩
  have hi:=(List.getElem?_eq_some_iff.1 hx).1
  have hj2:=(List.getElem?_eq_some_iff.1 hj).1
  rw[h5 i x hx]at hj2
  have hb:=Nat.mul_le_mul_right (csz c) (show i+1≤xs.length from hi)
  rw[Nat.succ_mul]at hb
  rw[List.getElem?_take,if_pos (by omega)]
  exact h7 i x hx j u hj
theorem els_nil (w:World) (R:Nat→Prop) (c:Cd):Els' w R c [] [] (fun _=>[]):=⟨by simp,by simp,by simp,by simp,by simp⟩
theorem ds_news {R:Nat→Prop} {c:Cd} {yc:Ck} {ys:List (El c)} {u:Value} (hs:0<csz c) (h:AvIs w R σ (.one yc) u) (hp:parse (.sl c) [yc]=some (ys,[])) (hne:ys≠[]) :
    ∃ (ad:Addr) (k:Nat) (news:List Value) (g:Nat→List Value),u=.slice (some ad) ys.length k∧(∀ j v,news[j]?=some v→w.cell? (ad.add j)=some v)∧Els' w R c ys news g∧R ad.block:=by
  cases h with
  | one h1 h2 =>
    obtain ⟨ua,ub,e,i1,i2⟩:=parse_ok (.sl c) [yc] ys [] [u] hp h2
    cases i2
    rw[List.append_nil]at e
    subst e
    rcases is_ds (.one rfl i1:AvIs w R [] (.one (.ds c ys)) u) with ⟨rfl,_⟩|⟨rfl,_⟩|⟨b,of,cap,g,hxe,hc,hR,g1,g2,g3⟩
    · exact absurd rfl hne
    · exact absurd rfl hne
    · have hall : ∀ us∈(List.range ys.length).map g,us.length=csz c:=fun us hu=>by
        obtain ⟨i,hi,rfl⟩:=List.mem_map.1 hu
        exact g1 i (ys[i]'(List.mem_range.1 hi)) (List.getElem?_eq_getElem _)
      have hat : ∀ i,i<ys.length→((List.range ys.length).map g)[i]?=some (g i):=fun i hi=>by simp[hi]
      refine ⟨⟨b,of,none⟩,cap,((List.range ys.length).map g).flatten,g,hxe,fun j v hj=>?_,⟨by rw[flat_len _ hall];simp,fun v hv=>?_,g1,g2,fun i x hx j v hj=>flat_at hs hall (hat i (List.getElem?_eq_some_iff.1 hx).1) hj⟩,hR⟩
      · rw[flat_get hs _ hall]at hj
        rcases Nat.lt_or_ge (j/csz c) ys.length with hlt|hge
        · rw[hat _ hlt]at hj
          have:=g3 (j/csz c) ys[j/csz c] (List.getElem?_eq_getElem _) (j%csz c) v hj
          have e:of+j/csz c*csz c+j%csz c=of+j:=by
            have:=Nat.div_add_mod j (csz c)
            rw[Nat.mul_comm]at this;omega
          rw[e]at this
          rw[Addr.add_mid];exact this
        · rw[List.getElem?_eq_none (by simpa using hge)]at hj;cases hj
      · obtain ⟨us,hus,hv⟩:=List.mem_flatten.1 hv
        obtain ⟨i,hi,rfl⟩:=List.mem_map.1 hus
        exact (g2 i (ys[i]'(List.mem_range.1 hi)) (List.getElem?_eq_getElem _)).one v hv
theorem parseN_els {R:Nat→Prop} {c:Cd} : ∀ (n:Nat) (cs:List Ck) (xs:List (El c)) (r:List Ck) (us:List Value),parseN c n cs=some (xs,r)→Is w R σ cs us → ∃ ua ub g,us=ua++ub∧xs.length=n∧Els' w R c xs ua g∧Is w R σ r ub
  | 0,cs,xs,r,us,h,hi=>by
    cases h
    exact ⟨[],us,_,rfl,rfl,els_nil w R c,hi⟩
  | n+1,cs,xs,r,us,h,hi=>by
    unfold parseN at h
    split at h
    · rename_i x r1 hp
      split at h
      · rename_i ys r2 hq
        cases h
        obtain ⟨ua,ub,rfl,i1,i2⟩:=parse_ok c cs x r1 us hp hi
        obtain ⟨va,vb,g,rfl,hn,i3,i4⟩:=parseN_els n r1 ys r ub hq i2
        have hl:ua.length=csz c:=ck_len c x ua i1
        have h1:Els' w R c [x] ua (fun _=>ua):=⟨by rw[hl];simp,i1.one,fun i y hy=>hl,fun i y hy=>by
          rcases i with _|i
          · cases hy;exact i1
          · simp at hy,fun i y hy j u hj=>by
          rcases i with _|i
          · simpa using hj
          · simp at hy⟩
        exact ⟨ua++va,vb,_,(List.append_assoc _ _ _).symm,by simp[hn],h1.app i3,i4⟩
      · cases h
    · cases h
theorem ys_news (hm:MemOk w φ σ m) {c:Cd} {yc:Ck} {ys:List (El c)} {u:Value} (hs:0<csz c) (h:AvIs w (Ro w φ σ) σ (.one yc) u) (hp:ysOf c m yc=some (ys,[])) (hne:ys≠[]) :
    ∃ (ad:Addr) (k:Nat) (news:List Value) (g:Nat→List Value),u=.slice (some ad) ys.length k∧(∀ j v,news[j]?=some v→w.cell? (ad.add j)=some v)∧Els' w (Ro w φ σ) c ys news g:=by
  unfold ysOf at hp
  split at hp
  · rename_i j n cap
    split at hp
    · rename_i t cs hmj
      split at hp
      · rename_i xs r hq
        cases hp
        obtain ⟨b,hb,hcap,rfl⟩:=is_one_os h
        obtain ⟨us,hbl,his⟩:=hm.blk j t cs b hmj hb
        obtain ⟨ua,ub,g,rfl,hn,i1,_⟩:=parseN_els n cs ys r us hq his
        refine ⟨⟨b,0,none⟩,cap,ua,g,by rw[hn],fun k v hk=>?_,i1⟩
        have h1:(ua++ub)[k]?=some v:=by
          rw[List.getElem?_append_left (List.getElem?_eq_some_iff.1 hk).1];exact hk
        have:=range_of_block hbl k v h1
        rw[Addr.add_mid];exact this
      · cases hp
    · cases hp
  · obtain ⟨ad,k,news,g,h1,h2,h3,_⟩:=ds_news hs h hp hne
    exact ⟨ad,k,news,g,h1,h2,h3⟩
theorem app_arr (l:List Value) (z:Array Value):l.toArray++z=(l++z.toList).toArray:=by cases z;simp
theorem app_arr2 (l k:List Value) (z:Array Value):l.toArray++k.toArray++z=(l++k++z.toList).toArray:=by cases z;simp
theorem zero_len (z:Array Value) (n:Nat):(Builtin.zeroCells z n).toList.length=n*z.size:=by rw[Array.length_toList,size_zeroCells]
theorem zero_ones {z:Array Value} (h : ∀ u∈z.toList,u.oneCell'=true) (n:Nat) : ∀ u∈(Builtin.zeroCells z n).toList,u.oneCell'=true:=by
  intro u hu
  unfold Builtin.zeroCells at hu
  rw[Array.toList_map,List.mem_map]at hu
  obtain ⟨i,hi,rfl⟩:=hu
  have hi:i<n*z.size:=by simpa using hi
  have hz:0<z.size:=by
    rcases Nat.eq_zero_or_pos z.size with h0|h0
    · rw[h0]at hi;simp at hi
    · exact h0
  have:=Nat.mod_lt i hz
  rw[getElem!_pos z (i%z.size) this]
  exact h _ (by simp)
theorem new_row (hm:MemOk w φ σ m) {c:Cd} {xs:List (El c)} {cap n:Nat} {us:List Value} {e:TypeId} {d:Option Tmp} (hi:Is w (Ro w φ σ) σ [.row c xs cap] us) (hn:n≤cap) (w1:World) (hk:Keep w σ w1) (hh:w1.heap=w.heap)
    (hQ:Q ⟨.one (.os m.length n cap),m++[(e,[.row c xs cap])],[]⟩):Post w φ σ a d Q (a.put d (.slice (some ⟨w.heap.size,0,none⟩) n cap)) (w1.alloc (.cells us.toArray e)):=by
  have hm1:=hm.stay hk (Ext.refl w σ) rfl (fun _ _ _=>by rw[hh])
  have hi1:=hi.mono (hk.ro (φ:=φ) (Ext.refl w σ)) (fun _ _ h=>h)
  have hg:=hm1.grow (t:=e) hi1
  have hsz:w1.heap.size=w.heap.size:=by rw[hh]
  rw[hsz]at hg
  refine ⟨_,_,_,hQ,ext_new w σ,hk.trans (Ext.refl w σ) (keep_alloc w1 σ _),fun i b hb _=>(Below.heap_alloc w1 _ b (by rw[hsz];exact hm.lt (List.mem_of_getElem? hb))).trans (by rw[hh]),hg,.one rfl (.os ?_ hn .nil),rfl⟩
  rw[List.getElem?_append_right (by rw[hm.len];exact Nat.le_refl _),hm.len,Nat.sub_self];rfl
theorem append_ok (hm:MemOk w φ σ m) (hf:FrOk w (Ro w φ σ) σ fr a) {ars:Array Operand} {ts:Array TypeId} {x y:Operand} (has:ars.toList=[x,y]) (ho:o.op=.call { callee:=.builtin .append,args:=ars,argTypes:=ts })
    (h:(aAppend E m ts.toList (operand fr x) (operand fr y)).wp Q) (hK : ∀ a' w',Post w φ σ a o.dst Q a' w'→K a' w'):o.wp P a w K X:=by
  have hx:=operand_is hf x
  have hy:=operand_is hf y
  unfold aAppend at h
  split at h
  · rename_i t t' hts
    split at h
    · rename_i e ht' hu
      have ht':=of_decide_eq_true ht'
      subst ht'
      obtain ⟨C,hC,h_⟩:=optT_wp h;clear h;have h:=h_;clear h_
      obtain ⟨Z,hZ,h_⟩:=optT_wp h;clear h;have h:=h_;clear h_
      obtain ⟨by',hby,h_⟩:=optN_wp h;clear h;have h:=h_;clear h_
      rcases by' with _|by'
      · exact h.elim
      dsimp only at h
      split at h
      · rename_i yc hcc hyc
        simp only[Bool.and_eq_true,decide_eq_true_eq]at hcc
        obtain ⟨hzl,hs⟩:=hcc
        rw[hyc]at hy
        obtain ⟨r,hr,h_⟩:=optT_wp h;clear h;have h:=h_;clear h_
        split at h
        · rename_i v vs
          have hCt:C.ty=e:=by simpa using List.find?_some hC
          have hZt:Z.ty=e:=by simpa using List.find?_some hZ
          have hsize:=C.size
          obtain ⟨it,z,hi,hz,hzc⟩:=zero_at Z
          rw[hZt]at hi
          rw[hCt,hi]at hsize
          have hsize:it.size=csz C.c:=by simpa using hsize
          have hbytes:it.bytes=by'+1:=by
            unfold bytesP at hby
            rw[hi]at hby
            simpa using hby
          have hzsz:z.cells.size=csz C.c:=by
            rw[hzc,←hzl]
            have:=is_len _ (Z.is w (fun _=>True) [])
            simpa using this
          have hz1 : ∀ u∈z.cells.toList,u.oneCell'=true:=by rw[hzc];exact (Z.is w (fun _=>True) []).one
          generalize C.c=c at *
          generalize hys:v::vs=ys at *
          have hne:ys≠[]:=by rw[←hys];simp
          have hpos:0<ys.length:=List.length_pos_iff.2 hne
          obtain ⟨ad,k,news,gy,hye,hnews,hny⟩:=ys_news hm hs hy hr hne
          have hts':ts = #[t',t']:=by rw[←Array.toArray_toList (xs:=ts),hts]
          have has':ars.map a.eval = #[a.eval x,a.eval y]:=by rw[←Array.toArray_toList (xs:=ars),has];simp
          have hzt : ∀ n,∀ u∈(Builtin.zeroCells z.cells n).toList,u.oneCell'=true:=zero_ones hz1
          have hop : ∀ v' w',(Builtin.append_ #[t',t'] o.type #[a.eval x,a.eval y]).run P w=.ok v' w'→K (a.put o.dst v') w'→o.wp P a w K X:=fun v' w' hrun hk=>by
            unfold Oper.wp execOp
            simp only[ho,resolve,invoke,builtin,Sem.run_bind,Sem.run_pure,Result.andThen_ok,has',hts',hrun]
            exact hk
          unfold aApp at h
          split at h
          · rename_i hxv
            rw[hxv]at hx
            have hxe:=val_of hx rfl
            obtain ⟨⟨hb1,hb2⟩,hQ⟩:=h
            have hrun:=run_append_nil (P:=P) w t' o.type e it z hu hi hz ad ys.length k news (by rw[hny.len,hsize]) hnews hpos (by simp only[maxLen]at hb2;omega) (by rw[hbytes];omega)
            rw[←hxe,←hye]at hrun
            refine hop _ _ hrun (hK _ _ ?_)
            have hge:=grownCap_ge w ys.length 0 e
            have hcm:=grownCap_le_maxLen w ys.length 0 e hb2
            have hi:=hny.row (tail:=(Builtin.zeroCells z.cells (grownCap w ys.length 0 e-ys.length)).toList) (cap:=grownCap w ys.length 0 e)
              (by rw[List.length_append,hny.len,zero_len,hzsz,←Nat.add_mul];congr 1;omega) hge hcm (hzt _) σ
            have:=new_row (a:=a) (d:=o.dst) (e:=e) (n:=ys.length) (Q:=Q) hm hi hge w.drew (Keep.drew w σ) rfl (hQ _ hge)
            rw[app_arr];exact this
          · rename_i i n cap hxo
            rw[hxo]at hx
            obtain ⟨b,hb,hncap,hxe⟩:=is_one_os hx
            obtain ⟨⟨ty,cs⟩,hmi,h_⟩:=optT_wp h;clear h;have h:=h_;clear h_
            dsimp only at h
            split at h
            · rename_i c' xs cap' hty
              have hty:=of_decide_eq_true hty
              subst hty
              obtain ⟨xs',hcast,h_⟩:=optT_wp h;clear h;have h:=h_;clear h_
              unfold castRow at hcast
              split at hcast
              · rename_i hcc
                subst hcc
                cases hcast
                obtain ⟨⟨hn,hcap,hb1,hb2⟩,hA,hB⟩:=h
                subst hn
                subst hcap
                obtain ⟨us,hbl,his⟩:=hm.blk i _ _ b hmi hb
                obtain ⟨r1,r2,r3,r4,gx,hex⟩:=row_els his
                have hboth:=hex.app hny
                have hlx:=hex.len
                by_cases hroom:xs.length+ys.length≤cap'
                · have hfit:xs.length*it.size+news.length≤us.toArray.size:=by
                    rw[hny.len,hsize,List.size_toArray,r1,←Nat.add_mul];exact Nat.mul_le_mul_right _ hroom
                  have hrun:=run_append_room (P:=P) w t' o.type ty it hu hi b xs.length cap' us.toArray hbl ad ys.length k news (by rw[hny.len,hsize]) hnews hny.one hroom hfit
                  rw[←hxe,←hye]at hrun
                  refine hop _ _ hrun (hK _ _ ?_)
                  have hl2:(us.take (xs.length*csz c')++news).length=xs.length*csz c'+news.length:=by rw[List.length_append,hlx]
                  have hfit':xs.length*csz c'+news.length≤us.length:=by rw[hsize,List.size_toArray]at hfit;exact hfit
                  have hir:=hboth.row (tail:=us.drop (xs.length*csz c'+news.length)) (cap:=cap') (by rw[List.length_append,hl2,List.length_drop,←r1];omega) (by rw[List.length_append];exact hroom) r3 (fun u hu=>r4 u (List.mem_of_mem_drop hu)) σ
                  have hsr:=setRow_heap w b _ (us.take (xs.length*csz c')++news++us.drop (xs.length*csz c'+news.length)).toArray _ (0,0) hbl
                  have hoth : ∀ q:Nat,q≠b→(w.setRow b (us.take (xs.length*csz c')++news++us.drop (xs.length*csz c'+news.length)).toArray).heap[q]?=w.heap[q]?:=fun q hq=>setRow_other w b q _ hq
                  have hkeep:Keep w σ (w.setRow b (us.take (xs.length*csz c')++news++us.drop (xs.length*csz c'+news.length)).toArray):=⟨rfl,rfl,rfl,by simp[World.setRow],fun q _ hq=>hoth q (fun e=>hq (by subst e;exact List.mem_of_getElem? hb))⟩
                  have hput:=hm.put hkeep hb hoth hsr hir
                  rw[hsize]
                  refine ⟨σ,_,_,hA,Ext.refl w σ,hkeep,fun j q hj hnw=>hoth q ?_,hput,.one rfl (.os hb hroom .nil),rfl⟩
                  rintro rfl
                  apply hnw
                  obtain ⟨l1,e1⟩:=List.getElem?_eq_some_iff.1 hb
                  obtain ⟨l2,e2⟩:=List.getElem?_eq_some_iff.1 hj
                  have:=(List.getElem_inj hm.nodup).1 (e1.trans e2.symm)
                  simp[this]
                · have hrun := run_append_grow (P := P) w t' o.type ty it z hu hi hz ⟨b, 0, none⟩ xs.length cap' (us.take (xs.length * csz c')) (by rw [hlx, hsize]) (fun j v hj => by
                      rw[List.getElem?_take]at hj
                      split at hj
                      · rw[Addr.add_mid];exact range_of_block (w:=w) hbl j v hj
                      · cases hj) ad ys.length k news (by rw[hny.len,hsize]) hnews (by omega) (by simp only[maxLen]at hb2;omega) (growslice_fits (by omega) (by rw[hbytes];exact hb1))
                  rw[←hxe,←hye]at hrun
                  refine hop _ _ hrun (hK _ _ ?_)
                  have hge:=grownCap_ge w (xs.length+ys.length) cap' ty
                  have hcm:=grownCap_le_maxLen w (xs.length+ys.length) cap' ty hb2
                  have hi2:=hboth.row (tail:=(Builtin.zeroCells z.cells (grownCap w (xs.length+ys.length) cap' ty-(xs.length+ys.length))).toList) (cap:=grownCap w (xs.length+ys.length) cap' ty)
                    (by rw[List.length_append,List.length_append,hlx,hny.len,zero_len,hzsz,←Nat.add_mul,←Nat.add_mul];congr 1;omega) (by rw[List.length_append];exact hge) hcm (hzt _) σ
                  have:=new_row (a:=a) (d:=o.dst) (e:=ty) (n:=xs.length+ys.length) (Q:=Q) hm hi2 hge w.drew (Keep.drew w σ) rfl (hB _ hge)
                  rw[app_arr2];exact this
              · cases hcast
            · exact h.elim
          · exact h.elim
        · exact h.elim
      · exact h.elim
    · exact h.elim
  · exact h.elim
theorem make_ok (hm:MemOk w φ σ m) (hf:FrOk w (Ro w φ σ) σ fr a) {t:TypeId} {l k:Operand} (ho:o.op=.makeSlice t l k) (h:(aMake E m t (operand fr l) (operand fr k)).wp Q) (hK : ∀ a' w',Post w φ σ a o.dst Q a' w'→K a' w'):o.wp P a w K X:=by
  have hl:=operand_is hf l
  have hk:=operand_is hf k
  unfold aMake at h
  split at h
  · rename_i e hu
    obtain ⟨C,hC,h_⟩:=optT_wp h;clear h;have h:=h_;clear h_
    obtain ⟨Z,hZ,h_⟩:=optT_wp h;clear h;have h:=h_;clear h_
    obtain ⟨by',hby,h_⟩:=optN_wp h;clear h;have h:=h_;clear h_
    rcases by' with _|by'
    · exact h.elim
    dsimp only at h
    split at h
    · rename_i kl z kc z' hs hol hok
      have hs:=of_decide_eq_true hs
      rw[hol]at hl
      rw[hok]at hk
      have hle:=val_of hl rfl
      have hke:=val_of hk rfl
      obtain ⟨r,hr,h_⟩:=optT_wp h;clear h;have h:=h_;clear h_
      split at h
      · rename_i v
        obtain ⟨⟨h0,hzz,hb1,hb2⟩,hQ⟩:=h
        subst hzz
        have hCt:C.ty=e:=by simpa using List.find?_some hC
        have hZt:Z.ty=e:=by simpa using List.find?_some hZ
        have hsize:=C.size
        obtain ⟨it,zv,hi,hz,hzc⟩:=zero_at Z
        rw[hZt]at hi
        rw[hCt,hi]at hsize
        have hsize:it.size=1:=by rw[hs]at hsize;simpa using hsize
        have hbytes:it.bytes=by'+1:=by
          unfold bytesP at hby
          rw[hi]at hby
          simpa using hby
        obtain ⟨ua,ub,e1,j1,j2⟩:=parse_ok C.c Z.cs v [] Z.us hr (Z.is w (Ro w φ σ) σ)
        cases j2
        rw[List.append_nil]at e1
        have hul:=ck_len _ _ _ j1
        rw[hs]at hul
        obtain ⟨u,rfl⟩ : ∃ u,ua=[u]:=by
          match ua,hul with
          | [u],_=>exact ⟨u,rfl⟩
        have hu1:=j1.one u (by simp)
        have hzu:zv.cells = #[u]:=by rw[hzc,e1]
        have hrun:=run_make (P:=P) w t e it zv hu hi hz kl kc z' z' h0 (Int.le_refl _) (by
          have hq:(((by'+1)*z'.toNat:Nat):Int)≤281474976710656:=by omega
          rw[Int.natCast_mul,Int.toNat_of_nonneg h0]at hq
          rw[hbytes];exact hq) (by simp only[maxLen]at hb2;omega)
        rw[hzu,hsize,Nat.mul_one]at hrun
        have hcells:madeCells #[u] z'.toNat=(List.replicate z'.toNat u).toArray:=by
          unfold madeCells
          apply Array.ext
          · simp
          · intro i h1 h2
            simp[Nat.mod_one]
        rw[hcells]at hrun
        have his:Is w (Ro w φ σ) σ [.row C.c (List.replicate z'.toNat v) z'.toNat] (List.replicate z'.toNat u):=by
          refine .row (us:=[]) (fun _=>[u]) (by simp[hs]) (by simp) hb2 (fun q hq=>by rw[List.eq_of_mem_replicate hq];exact hu1) (fun i x hx=>by simp[hs]) (fun i x hx=>?_) (fun i x hx j q hj=>?_) .nil (List.append_nil _).symm
          · have hlt:=(List.getElem?_eq_some_iff.1 hx).1
            rw[List.getElem?_replicate]at hx
            split at hx
            · cases hx;exact j1.mono (fun b hb=>⟨hb,rfl⟩) (fun _ _ h=>h)
            · cases hx
          · have hlt:=(List.getElem?_eq_some_iff.1 hx).1
            match j,hj with
            | 0,hj =>
              cases hj
              rw[hs,Nat.mul_one,Nat.add_zero,List.getElem?_replicate]
              rw[List.length_replicate]at hlt
              rw[if_pos hlt]
        have:=new_row (a:=a) (d:=o.dst) (e:=e) (n:=z'.toNat) (Q:=Q) hm his (Nat.le_refl _) w (Keep.refl w σ) rfl hQ
        unfold Oper.wp execOp
        simp only[ho,Sem.run_bind,hle,hke,hrun,Result.andThen_ok]
        exact hK _ _ this
      · exact h.elim
    · exact h.elim
  · exact h.elim
theorem aE_ok (hm:MemOk w φ σ m) (hf:FrOk w (Ro w φ σ) σ fr a) (h:(aE E fr m o).wp Q) (hK : ∀ a' w',Post w φ σ a o.dst Q a' w'→K a' w'):o.wp P a w K X:=by
  unfold aE at h
  split at h
  · rename_i ars ts ho
    split at h
    · rename_i x y has
      exact append_ok hm hf has ho h hK
    · exact h.elim
  · rename_i t l k ho
    exact make_ok hm hf ho h hK
  · rename_i t ho
    obtain ⟨z,hz,h1⟩:=optT_wp h
    have hty:z.ty=t:=by simpa using List.find?_some hz
    subst hty
    have:=new_ok hm (.agg (z.is w (Ro w φ σ) σ)) h1 hK
    unfold Oper.wp execOp
    simp only[ho,Sem.run_bind,run_alloc z,Result.andThen_ok]
    exact this
  · rename_i t x ho
    have:=new_ok hm (operand_is hf x) h hK
    unfold Oper.wp execOp
    simp only[ho,Sem.run_bind,Instr.box,newVar,newRow,run_newObj,Sem.run_pure,Result.andThen_ok]
    exact this
  · rename_i t x y ho;exact store_ok hm hf ho h hK
  · rename_i f ars ts ho
    obtain ⟨c,hc,h1⟩:=optT_wp h
    exact call_ok hm hf ho c (by simpa using List.find?_some hc) h1 hK
  · rename_i t ars ts ho
    split at h
    · rename_i f hfr
      obtain ⟨c,hc,h1⟩:=optT_wp h
      have ht:fr.getD t .any=.one (.v (.func (.func f) #[] #[])):=by
        have hfr:(match fr.getD t .any with
          | .one (.v (.func (.func f) x y))=>(match x.isEmpty&&y.isEmpty with
            | true=>some f
            | false=>none)
          | _=>none)=some f:=hfr
        split at hfr
        · rename_i f' x y hx
          split at hfr
          · rename_i hxy
            simp only[Bool.and_eq_true,Array.isEmpty_iff]at hxy
            cases hfr
            rw[hx,hxy.1,hxy.2]
          · cases hfr
        · cases hfr
      have he:a.eval (.tmp t)=.func (.func f) #[] #[]:=by
        have:AvIs w (Ro w φ σ) σ (fr.getD t .any) (a.eval (.tmp t)):=operand_is hf (.tmp t)
        rw[ht]at this
        exact val_of this rfl
      have hx:execOp a.eval o=execOp a.eval { o with op:=.call ⟨.value (.func f),ars,ts⟩ }:=by
        unfold execOp
        simp only[ho]
        unfold resolve
        simp only[he]
        rfl
      have:=call_ok (P:=P) (X:=X) (o:={ o with op:=.call ⟨.value (.func f),ars,ts⟩ }) hm hf rfl c (by simpa using List.find?_some hc) h1 hK
      unfold Oper.wp at this ⊢
      rw[hx]
      exact this
    · exact h.elim
  · rename_i t len parts ho
    split at h
    · rename_i e hu
      obtain ⟨C,hC,h1⟩:=optT_wp h
      obtain ⟨xs,hd,h2⟩:=optN_wp h1
      split at h2
      · by_cases hc:xs.length=len∧len*csz C.c≤16777216∧0<csz C.c∧len≤1000000
        · rw[if_pos hc]at h2
          exact slice_own hm hf ho hu C (by simpa using List.find?_some hC) hd hc.1 hc.2.1 hc.2.2.1 hc.2.2.2 h2 hK
        · rw[if_neg hc]at h2;exact h2.elim
      · by_cases hc:xs.length=len∧len*csz C.c≤16777216
        · rw[if_pos hc]at h2
          exact slice_ok hm hf ho hu C (by simpa using List.find?_some hC) hd hc.1 hc.2 h2 hK
        · rw[if_neg hc]at h2;exact h2.elim
    · exact h.elim
  · exact tell_ok hm hf h hK
end
def gSlot (ops:Array Oper) (j:Nat):Option Tmp:=(ops[j]?).bind (·.dst)
def know (st:St) (d:Tmp) (b:Bool):St:=⟨st.fr.set d (.one (.kb b)),st.mem⟩
def bsel {α:Type} (b want:Bool) (x y:T α):T α:=match b,want with
  | true,true=>x
  | false,false=>x
  | _,_=>y
def guarded {α:Type} (sure:Bool) (ops:Array Oper) (o:Oper) (st:St) (yes no:St→T α):T α:=
  match o.guard with
  | none=>yes st
  | some (j,want)=>match gSlot ops j with
    | some d=>match st.fr[d]? with
      | some (.one (.kb b))=>bsel b want (yes st) (no st)
      | some (.one (.v (.bool b)))=>match sure&&want with
        | true=>.need (b=true) (yes (know st d true))
        | false=>.ite b (bsel true want (yes (know st d true)) (no (know st d true))) (bsel false want (yes (know st d false)) (no (know st d false)))
      | some .nope=>no st
      | _=>.fail
    | none=>.fail
structure Sat (w0:World) (φ σ0 σ:List Nat) (st:St) (a:Act) (w:World):Prop where
  fr:FrOk w (Ro w φ σ) σ st.fr a
  mem:MemOk w φ σ st.mem
  ext:Ext w0 σ0 σ
  keep:Keep w0 σ0 w
  df:a.defers=[]
section
variable {P:Program} {E:Env P} {w0 w:World} {φ σ0 σ:List Nat} {st:St} {a:Act} {o:Oper} {ops:Array Oper}
theorem bsel_wp {α:Type} {b want:Bool} {x y:T α} {Q:α→Prop} (h:(bsel b want x y).wp Q):(b=want∧x.wp Q)∨(b≠want∧y.wp Q):=by
  cases b <;> cases want <;> simp[bsel]at h ⊢ <;> exact h
theorem tmps_at {w:World} {R:Nat→Prop} {fr:List Av} (hf:FrOk w R σ fr a) {d:Nat} {av:Av} (h:fr[d]?=some av) : ∃ u,a.tmps[d]?=some u∧AvIs w R σ av u:=by
  have h1:=hf.at_ d av h
  have h2:d<a.tmps.size:=hf.len ▸ (List.getElem?_eq_some_iff.1 h).1
  refine ⟨a.tmps[d],by simp[h2],?_⟩
  simpa [h2] using h1
theorem know_ok {w:World} {R:Nat→Prop} {st:St} (hf:FrOk w R σ st.fr a) {d:Nat} {b:Bool} (h:st.fr[d]?=some (.one (.v (.bool b)))):FrOk w R σ (know st d b).fr a:=by
  refine ⟨by simp[know,hf.len],fun t av ht=>?_⟩
  simp only[know,List.getElem?_set]at ht
  by_cases e:d=t
  · subst e
    rw[if_pos rfl]at ht
    have hlt:d<st.fr.length:=(List.getElem?_eq_some_iff.1 h).1
    rw[if_pos hlt]at ht
    cases ht
    have:=hf.at_ d _ h
    rw[val_of this rfl]
    exact .one rfl (.kb .nil)
  · rw[if_neg e]at ht;exact hf.at_ t av ht
theorem yielded_slot {j:Nat} {d:Tmp} {tmps:Array Value} (hs:gSlot ops j=some d):yielded ops tmps j=match tmps[d]? with|some (.bool b)=>some b|_=>none:=by
  unfold yielded gSlot at *
  rw[hs]
  rfl
def Hid (st st':St):Prop := ∀ t:Nat,st.fr[t]?=some .any→st'.fr[t]?=some .any
theorem know_hid {st:St} {d:Nat} {av:Av} {b:Bool} (h:st.fr[d]?=some (.one (.v (.bool b)))) (c:Bool):Hid st (know st d c):=fun t ht=>by
  simp only[know,List.getElem?_set]
  by_cases e:d=t
  · subst e;rw[h]at ht;cases ht
  · rw[if_neg e];exact ht
theorem guarded_hid {α:Type} {sure:Bool} {yes no:St→T α} {Q:α→Prop} (hS:Sat w0 φ σ0 σ st a w) (h:(guarded sure ops o st yes no).wp Q) :
    (Region.wanted o (yielded ops a.tmps)=true ∧ ∃ st',Sat w0 φ σ0 σ st' a w∧(yes st').wp Q∧Hid st st')∨(Region.wanted o (yielded ops a.tmps)=false ∧ ∃ st',Sat w0 φ σ0 σ st' a w∧(no st').wp Q∧Hid st st'):=by
  unfold guarded at h
  split at h
  · rename_i hg
    exact .inl ⟨by simp[Region.wanted,hg],st,hS,h,fun _ h=>h⟩
  · rename_i j want hg
    split at h
    · rename_i d hs
      have hwant:Region.wanted o (yielded ops a.tmps)=(yielded ops a.tmps j==some want):=by simp[Region.wanted,hg]
      have hy:=yielded_slot (tmps:=a.tmps) hs
      split at h
      · rename_i b hfr
        obtain ⟨u,hu,hav⟩:=tmps_at hS.fr hfr
        rw[val_of hav rfl]at hu
        rw[hu]at hy
        rw[hwant,hy]
        rcases bsel_wp h with ⟨e,h1⟩|⟨e,h1⟩
        · exact .inl ⟨by simp[e],st,hS,h1,fun _ h=>h⟩
        · exact .inr ⟨by simp[e],st,hS,h1,fun _ h=>h⟩
      · rename_i b hfr
        obtain ⟨u,hu,hav⟩:=tmps_at hS.fr hfr
        rw[val_of hav rfl]at hu
        rw[hu]at hy
        rw[hwant,hy]
        have hk:Sat w0 φ σ0 σ (know st d b) a w:=⟨know_ok hS.fr hfr,hS.mem,hS.ext,hS.keep,hS.df⟩
        split at h
        · rename_i hsw
          obtain ⟨rfl,h⟩:=h
          obtain rfl:want=true:=by cases want <;> simp at hsw ⊢
          exact .inl ⟨by simp,_,hk,h,know_hid (av:=.any) hfr _⟩
        cases b with
        | true =>
          rcases bsel_wp (h.1 rfl) with ⟨e,h1⟩|⟨e,h1⟩
          · exact .inl ⟨by simp[←e],_,hk,h1,know_hid (av:=.any) hfr _⟩
          · exact .inr ⟨by cases want <;> simp at e ⊢,_,hk,h1,know_hid (av:=.any) hfr _⟩
        | false =>
          rcases bsel_wp (h.2 rfl) with ⟨e,h1⟩|⟨e,h1⟩
          · exact .inl ⟨by simp[←e],_,hk,h1,know_hid (av:=.any) hfr _⟩
          · exact .inr ⟨by cases want <;> simp at e ⊢,_,hk,h1,know_hid (av:=.any) hfr _⟩
      · rename_i hfr
        obtain ⟨u,hu,hav⟩:=tmps_at hS.fr hfr
        cases hav
        rw[hu]at hy
        rw[hwant,hy]
        exact .inr ⟨by simp[undef],st,hS,h,fun _ h=>h⟩
      · exact h.elim
    · exact h.elim
theorem guarded_ok {α:Type} {sure:Bool} {yes no:St→T α} {Q:α→Prop} (hS:Sat w0 φ σ0 σ st a w) (h:(guarded sure ops o st yes no).wp Q) :
    (Region.wanted o (yielded ops a.tmps)=true ∧ ∃ st',Sat w0 φ σ0 σ st' a w∧(yes st').wp Q)∨(Region.wanted o (yielded ops a.tmps)=false ∧ ∃ st',Sat w0 φ σ0 σ st' a w∧(no st').wp Q):=
  (guarded_hid hS h).imp (fun ⟨h1,st',h2,h3,_⟩=>⟨h1,st',h2,h3⟩) (fun ⟨h1,st',h2,h3,_⟩=>⟨h1,st',h2,h3⟩)
theorem put_defers (a:Act) (d:Option Tmp) (v:Value):(a.put d v).defers=a.defers:=by cases d <;> rfl
theorem Sat.next (hS:Sat w0 φ σ0 σ st a w) {Q:Ef→Prop} {d:Option Tmp} {a':Act} {w':World} (h:Post w φ σ a d Q a' w') :
    ∃ σ' e,Q e∧Sat w0 φ σ0 σ' ⟨putFr st.fr d e.av,e.mem⟩ a' w'∧Ext w σ σ'∧Keep w σ w'∧(∀ i b:Nat,σ[i]?=some b→i ∉ e.wr→w'.heap[b]?=w.heap[b]?):=by
  obtain ⟨σ',e,v,h1,h2,h3,h4,h5,h6,rfl⟩:=h
  exact ⟨σ',e,h1,⟨(hS.fr.mono (h3.ro h2) (fun i b hi=>h2.get hi)).put h6,h5,hS.ext.trans hS.keep.size h2,hS.keep.trans hS.ext h3,by rw[put_defers];exact hS.df⟩,h2,h3,h4⟩
theorem Sat.skip (hS:Sat w0 φ σ0 σ st a w) (d:Option Tmp):Sat w0 φ σ0 σ ⟨putFr st.fr d .nope,st.mem⟩ (a.put d undef) w:=
  ⟨hS.fr.put .nope,hS.mem,hS.ext,hS.keep,by rw[put_defers];exact hS.df⟩
theorem Sat.tell (hS:Sat w0 φ σ0 σ st a w) (d:Option Tmp) {av:Av} {v:Value} (h:AvIs w (Ro w φ σ) σ av v):Sat w0 φ σ0 σ ⟨putFr st.fr d av,st.mem⟩ (a.put d v) w:=
  ⟨hS.fr.put h,hS.mem,hS.ext,hS.keep,by rw[put_defers];exact hS.df⟩
end
def runOps {P:Program} (E:Env P) (ops:Array Oper):List Oper→St→T St
  | [],st=>.ret st
  | o::r,st=>guarded (E.sure 0) ops o st (fun st=>(aE E st.fr st.mem o).bind fun e=>runOps E ops r ⟨putFr st.fr o.dst e.av,e.mem⟩) (fun st=>runOps E ops r ⟨putFr st.fr o.dst .nope,st.mem⟩)
section
variable {P:Program} {E:Env P} {w0:World} {φ σ0:List Nat} {ops:Array Oper} {Q:St→Prop} {X:Exit→Act→World→Prop}
theorem runOps_ok (hX : ∀ st σ a w,Q st→Sat w0 φ σ0 σ st a w→X .normal a w) :
    ∀ (l:List Oper) (st:St) (σ:List Nat) (a:Act) (w:World),Sat w0 φ σ0 σ st a w→(runOps E ops l st).wp Q→wpList P ops X l a w
  | [],st,σ,a,w,hS,h=>hX st σ a w h hS
  | o::r,st,σ,a,w,hS,h=>by
    rcases guarded_ok hS h with ⟨hw,st',hS',h'⟩|⟨hw,st',hS',h'⟩
    · refine Pq.wpL_run hw fun K hK=>?_
      rw[T.wp_bind]at h'
      refine aE_ok hS'.mem hS'.fr h' fun a' w' hp=>hK _ _ ?_
      obtain ⟨σ',e,hq,hS2,_⟩:=hS'.next hp
      exact runOps_ok hX r _ σ' a' w' hS2 hq
    · exact Pq.wpL_skip hw (runOps_ok hX r _ σ _ w (hS'.skip o.dst) h')
end
def steady:Op→Bool
  | .move _|.assign _|.pick .. | .extract .. | .field .. | .load .. | .fieldAddr .. | .nilCheck _|.indexAddr .. | .index .. | .slice .. | .binOp .. | .unOp .. | .convert .. | .build .. => true
  | .call { callee:=.builtin .len,.. }=>true
  | _=>false
def baseOf (ops:List Oper) (fr:List Av):Nat→Operand→Option Nat
  | n+1,.tmp t=>match ops.find? fun o=>o.dst==some t with
    | some o=>match o.op with
      | .fieldAddr _ x _|.nilCheck x|.move x|.indexAddr _ x _=>baseOf ops fr n x
      | _=>none
    | none=>match fr[t]? with
      | some (.one (.p i _))=>some i
      | some (.one (.os i _ _))=>some i
      | _=>none
  | _,_=>none
def writes {P:Program} (E:Env P) (ops:List Oper) (fr:List Av):List Nat:=
  ops.flatMap fun o=>match o.op with
    | .store _ x _=>(baseOf ops fr ops.length x).toList
    | .call { callee:=.value (.func f),args:=ars,.. }=>match E.con.find? fun c=>c.f==f with
      | some c=>c.pos.filterMap fun k=>(ars[k]?).bind fun x=>baseOf ops fr ops.length x
      | none=>[]
    | _=>[]
def loadsOf (ops:List Oper) (fr:List Av) (W:List Nat) (o:Oper):Bool:=
  match o.op with
  | .load _ x=>match baseOf ops fr ops.length x with
    | some i=>W.contains i
    | none=>false
  | _=>false
def branch {α:Type} (f:Nat→T α):List Nat→T α
  | []=>.fail
  | [i]=>f i
  | i::r=>.and (f i) (branch f r)
theorem branch_wp {α:Type} {f:Nat→T α} {Q:α→Prop} : ∀ {rs:List Nat},(branch f rs).wp Q → ∀ i∈rs,(f i).wp Q
  | [],h,i,hi=>by cases hi
  | [j],h,i,hi=>by rw[List.mem_singleton]at hi;subst hi;exact h
  | j::k::r,h,i,hi=>by
    rcases List.mem_cons.1 hi with rfl|hi
    · exact h.1
    · exact branch_wp (rs:=k::r) h.2 i hi
def early {P:Program} (E:Env P) (ops:Array Oper) (n i:Nat):Bool:=match ops[i]? with
  | some o=>match o.op with
    | .alloc t=>match o.guard,o.dst with
      | none,some d=>decide (d<n)&&o.after.all (fun e => !Region.binds .any e)&&(E.zero.any fun z=>z.ty==t)&&(List.range ops.size).all fun j=>j==i||((ops[j]?).bind (·.dst)) != some d
      | _,_=>false
    | _=>false
  | none=>false
structure Early {P:Program} (E:Env P) (ops:Array Oper) (n i:Nat) (d:Tmp) (t:TypeId) (z:Zero P) (o:Oper):Prop where
  at_:ops[i]?=some o
  op:o.op=.alloc t
  guard:o.guard=none
  dst:o.dst=some d
  lt:d<n
  after : ∀ e∈o.after,Region.binds .any e=false
  zero:E.zero.find? (fun z=>z.ty==t)=some z
  own : ∀ (j:Nat) (p:Oper),ops[j]?=some p→j≠i→p.dst≠some d
theorem early_spec {P:Program} {E:Env P} {ops:Array Oper} {n i:Nat} (h:early E ops n i=true) : ∃ d t z o,Early E ops n i d t z o:=by
  unfold early at h
  split at h
  · rename_i o ho
    split at h
    · rename_i t hop
      split at h
      · rename_i d hg hd
        simp only[Bool.and_eq_true,decide_eq_true_eq]at h
        obtain ⟨⟨⟨h1,h2⟩,h3⟩,h4⟩:=h
        have:(E.zero.find? fun z=>z.ty==t).isSome=true:=by
          rw[List.find?_isSome]
          obtain ⟨z,hz,e⟩:=List.any_eq_true.1 h3
          exact ⟨z,hz,e⟩
        obtain ⟨z,hz⟩:=Option.isSome_iff_exists.1 this
        refine ⟨d,t,z,o,ho,hop,hg,hd,h1,fun e he=>?_,hz,fun j p hj hne hpd=>?_⟩
        · have:=Array.all_eq_true_iff_forall_mem.1 h2 e he
          simpa using this
        · have:=List.all_eq_true.1 h4 j (List.mem_range.2 (Array.getElem?_eq_some_iff.1 hj).1)
          simp[hne,hj,hpd]at this
      · cases h
    · cases h
  · cases h
def later (ops:Array Oper) (ps:List Nat) (listed:Array Bool):List Nat:=
  (List.range ops.size).filter fun j => !listed.getD j true && !ps.contains j&&match ops[j]? with
    | some o=>o.after.all fun e => !Region.binds .any e||listed.getD e.on false||ps.contains e.on
    | none=>false
def waits (ops:Array Oper) (i j:Nat):Bool:=match ops[j]? with
  | some o=>o.after.any fun e=>Region.binds .any e&&e.on==i
  | none=>true
def runAny {P:Program} (E:Env P) (ops:Array Oper) (sd ok:Nat→Bool) (ps:List Nat):Nat→Array Bool→St→T St
  | 0,listed,st=>match Region.ready .any ops listed with
    | []=>.ret st
    | _=>.fail
  | n+1,listed,st =>
    match (Region.ready .any ops listed).find? fun i=>sd i && !ps.contains i&&Region.free .any ops listed i with
    | some i=>match ops[i]? with
      | none=>.fail
      | some o=>guarded (E.sure 0) ops o st (fun st=>(aS P E.zero ok st.mem st.fr o).bind fun av=>runAny E ops sd ok ps n (listed.setIfInBounds i true) ⟨putFr st.fr o.dst av,st.mem⟩)
          (fun st=>runAny E ops sd ok ps n (listed.setIfInBounds i true) ⟨putFr st.fr o.dst .nope,st.mem⟩)
    | none=>match (Region.ready .any ops listed).filter fun i => !ps.contains i with
      | []=>match Region.ready .any ops listed with
        | []=>.ret st
        | i::_=>match (later ops ps listed).all (waits ops i),ops[i]? with
          | true,some o=>match o.op with
            | .alloc t=>optT (E.zero.find? fun z=>z.ty==t) fun z=>runAny E ops sd ok ps n (listed.setIfInBounds i true) ⟨putFr st.fr o.dst (.one (.p st.mem.length 0)),st.mem++[(t,z.cs)]⟩
            | _=>.fail
          | _,_=>.fail
      | r::rs=>match (later ops ps listed).all fun j=>(r::rs).contains j with
        | false=>.fail
        | true=>branch (fun i=>match ops[i]? with
          | none=>.fail
          | some o=>guarded (E.sure 0) ops o st
            (fun st=>(aE E st.fr st.mem o).bind fun e=>match e.wr.all fun i => !ok i with
              | true=>runAny E ops sd ok ps n (listed.setIfInBounds i true) ⟨putFr st.fr o.dst e.av,e.mem⟩
              | false=>.fail)
            (fun st=>runAny E ops sd ok ps n (listed.setIfInBounds i true) ⟨putFr st.fr o.dst .nope,st.mem⟩)) (r::rs)
def hide (ops:Array Oper):List Nat→List Av→List Av
  | [],fr=>fr
  | i::r,fr=>hide ops r (putFr fr ((ops[i]?).bind (·.dst)) .any)
def reaches {P:Program} (E:Env P) (o:Oper):Bool:=match o.op with
  | .call { callee:=.builtin .append,.. }=>true
  | .call { callee:=.value (.func f),.. }=>match E.con.find? fun c=>c.f==f with
    | some c => !c.pos.isEmpty
    | none=>false
  | _=>false
def rowsIn (m:Mem):List Nat:=(List.range m.length).filter fun i=>match m[i]? with
  | some (_,[.row _ _ _])=>true
  | _=>false
def runDraw {P:Program} (E:Env P) (ops:Array Oper) (st:St):T St:=
  let W:=writes E ops.toList st.fr++(match ops.toList.any (reaches E) with
    | true=>rowsIn st.mem
    | false=>[])
  let ps:=(List.range ops.size).filter (early E ops st.fr.length)
  match Region.noSelect ops with
  | true=>runAny E ops (fun i=>match ops[i]? with|some o=>steady o.op && !loadsOf ops.toList st.fr W o|none=>false) (fun i=>decide (i<st.mem.length) && !W.contains i) ps ops.size (Array.replicate ops.size false) ⟨hide ops ps st.fr,st.mem⟩
  | false=>.fail
section
variable {P:Program} {E:Env P} {w0:World} {φ σ0:List Nat} {ops:Array Oper} {Q:St→Prop} {X:Exit→Act→World→Prop}
theorem anyH_mono {S S':World→Prop} (h : ∀ x,S' x→S x) : ∀ (n:Nat) (listed:Array Bool) (a:Act) (w:World),wpAnyH P .any ops X S' n listed a w→wpAnyH P .any ops X S n listed a w
  | 0,_,_,_,hh=>hh
  | n+1,_,_,_,hh=>⟨hh.1,fun i hi=>wpOp_mono (fun a' w' h'=>⟨h _ h'.1,anyH_mono h n _ a' w' h'.2⟩) (hh.2 i hi)⟩
theorem FrOk.tell {w:World} {R:Nat→Prop} {σ:List Nat} {fr:List Av} {a:Act} (hf:FrOk w R σ fr a) {d:Nat} {av:Av} (h:d<fr.length→AvIs w R σ av (a.tmps.getD d undef)):FrOk w R σ (fr.set d av) a:=by
  refine ⟨by simp[hf.len],fun t b ht=>?_⟩
  rw[List.getElem?_set]at ht
  by_cases e:d=t
  · subst e
    rw[if_pos rfl]at ht
    split at ht
    · rename_i hlt;cases ht;exact h hlt
    · cases ht
  · rw[if_neg e]at ht;exact hf.at_ t b ht
theorem hide_ok {w:World} {R:Nat→Prop} {σ:List Nat} {a:Act} : ∀ (ps:List Nat) (fr:List Av),FrOk w R σ fr a→FrOk w R σ (hide ops ps fr) a
  | [],_,h=>h
  | i::r,fr,h=>by
    rw[hide]
    refine hide_ok r _ ?_
    cases (ops[i]?).bind (·.dst) with
    | none=>exact h
    | some d=>exact h.tell fun _=>.any
theorem hide_keep : ∀ (ps:List Nat) (fr:List Av) (d:Nat),fr[d]?=some .any→(hide ops ps fr)[d]?=some .any
  | [],_,_,h=>h
  | i::r,fr,d,h=>by
    rw[hide]
    refine hide_keep r _ d ?_
    cases (ops[i]?).bind (·.dst) with
    | none=>exact h
    | some t =>
      simp only[putFr,List.getElem?_set]
      by_cases e:t=d
      · subst e;rw[if_pos rfl,if_pos (List.getElem?_eq_some_iff.1 h).1]
      · rw[if_neg e];exact h
theorem hide_at {i d:Nat} {o:Oper} (ho:ops[i]?=some o) (hd:o.dst=some d) : ∀ (ps:List Nat) (fr:List Av),i∈ps→d<fr.length→(hide ops ps fr)[d]?=some .any:=by
  intro ps
  induction ps with
  | nil=>intro fr hi;cases hi
  | cons j r ih =>
    intro fr hi hlt
    rw[hide]
    rcases List.mem_cons.1 hi with rfl|hi
    · refine hide_keep r _ d ?_
      rw[ho,Option.bind_some,hd,putFr,List.getElem?_set,if_pos rfl,if_pos hlt]
    · refine ih _ hi ?_
      cases (ops[j]?).bind (·.dst) with
      | none=>exact hlt
      | some s=>rw[putFr,List.length_set];exact hlt
structure Ahead (E:Env P) (ops:Array Oper) (N:Nat) (ps:List Nat) (lc lr:Array Bool) (A:List (Nat×Nat)) (w0:World) (φ σ0 σ:List Nat) (st:St) (a:Act) (w:World):Prop where
  sat:Sat w0 (φ++A.map (·.2)) σ0 σ st a w
  size:lc.size=lr.size
  lst : ∀ i:Nat,lr[i]?=some true↔lc[i]?=some true∨i∈A.map (·.1)
  un : ∀ i b:Nat,(i,b)∈A→i∈ps∧lc[i]?=some false
  hid : ∀ i∈ps,lc[i]?=some false → ∀ d t z o,Early E ops N i d t z o→st.fr[d]?=some .any
  nd:(A.map (·.1)).Nodup
  bn:(A.map (·.2)).Nodup
  blk : ∀ i b:Nat,(i,b)∈A→b ∉ σ∧w0.heap.size≤b ∧ ∃ d t z o,Early E ops N i d t z o∧w.heap[b]?=some (.cells z.us.toArray t (0,0))∧a.tmps.getD d undef=.pointer (some ⟨b,0,none⟩)
theorem off_iff {l:Array Bool} {i:Nat}:l.getD i true=false↔l[i]?=some false:=by
  rw[Array.getD_eq_getD_getElem?]
  cases l[i]? with
  | none=>simp
  | some b=>simp
theorem on_iff {l:Array Bool} {i:Nat}:l.getD i false=true↔l[i]?=some true:=by
  rw[Array.getD_eq_getD_getElem?]
  cases l[i]? with
  | none=>simp
  | some b=>simp
section
variable {N:Nat} {ps:List Nat} {lc lr:Array Bool} {A:List (Nat×Nat)} {σ:List Nat} {st:St} {a:Act} {w:World}
theorem Ahead.off (h:Ahead E ops N ps lc lr A w0 φ σ0 σ st a w) {i:Nat}:lr[i]?=some false↔lc[i]?=some false∧i ∉ A.map (·.1):=by
  have hl:=h.lst i
  have hs:=h.size
  by_cases hi:i<lr.size
  · have hi':i<lc.size:=hs ▸ hi
    rw[Array.getElem?_eq_getElem hi,Array.getElem?_eq_getElem hi']at *
    cases hr:lr[i] <;> cases hc:lc[i] <;> simp[hr,hc]at hl ⊢ <;> first|exact hl|simpa using hl
  · simp only[Array.getElem?_eq_none (Nat.le_of_not_lt hi),Array.getElem?_eq_none (Nat.le_of_not_lt (hs ▸ hi))]
    simp
theorem Ahead.ready (h:Ahead E ops N ps lc lr A w0 φ σ0 σ st a w) {i:Nat} (hi:i∈Region.ready .any ops lc) (hn:i ∉ A.map (·.1)):i∈Region.ready .any ops lr:=by
  rw[mem_ready]at *
  obtain ⟨h1,o,ho,h2⟩:=hi
  exact ⟨off_iff.2 (h.off.2 ⟨off_iff.1 h1,hn⟩),o,ho,fun e he hb=>on_iff.2 ((h.lst _).2 (.inl (on_iff.1 (h2 e he hb))))⟩
theorem Ahead.free (h:Ahead E ops N ps lc lr A w0 φ σ0 σ st a w) {i:Nat} (hi:Region.free .any ops lc i=true):Region.free .any ops lr i=true:=by
  unfold Region.free at *
  split at hi
  · cases hi
  · rename_i o ho
    rw[List.all_eq_true]at *
    intro j hj
    have:=hi j hj
    simp only[Bool.or_eq_true]at this ⊢
    refine this.imp (Or.imp id fun h0=>?_) id
    by_cases hf:lr.getD j true=true
    · exact hf
    · exfalso
      have h1:=(h.off.1 (off_iff.1 (by simpa using hf))).1
      rw[←off_iff]at h1
      rw[h1]at h0;cases h0
theorem Ahead.later (h:Ahead E ops N ps lc lr A w0 φ σ0 σ st a w) {j:Nat} (hj:j∈Region.ready .any ops lr) (hp:j ∉ ps):j∈later ops ps lc:=by
  rw[mem_ready]at hj
  obtain ⟨h1,o,ho,h2⟩:=hj
  unfold Ax.later
  rw[List.mem_filter]
  refine ⟨List.mem_range.2 (Array.getElem?_eq_some_iff.1 ho).1,?_⟩
  have h3:=off_iff.2 (h.off.1 (off_iff.1 h1)).1
  simp only[h3,ho,Bool.not_false,Bool.true_and,Bool.and_eq_true]
  refine ⟨by simpa using hp,Array.all_eq_true_iff_forall_mem.2 fun e he=>?_⟩
  cases hb:Region.binds .any e with
  | false=>simp
  | true =>
    rcases (h.lst _).1 (on_iff.1 (h2 e he hb)) with h4|h4
    · simp[on_iff.2 h4]
    · obtain ⟨⟨i,b⟩,hi,e1⟩:=List.mem_map.1 h4
      have:=(h.un i b hi).1
      simp only at e1
      rw[←e1]
      simp[this]
theorem set_on {l:Array Bool} {i k:Nat} (hi:i<l.size):(l.setIfInBounds i true)[k]?=some true↔l[k]?=some true∨k=i:=by
  by_cases e:i=k
  · subst e;simp[hi]
  · rw[Array.getElem?_setIfInBounds_ne e];simp[Ne.symm e]
theorem set_off {l:Array Bool} {i k:Nat}:(l.setIfInBounds i true)[k]?=some false↔l[k]?=some false∧k≠i:=by
  by_cases e:i=k
  · subst e
    by_cases hi:i<l.size
    · simp[hi]
    · rw[Array.getElem?_eq_none (by simpa using hi)];simp
  · rw[Array.getElem?_setIfInBounds_ne e];simp[Ne.symm e]
theorem lt_of_off {l:Array Bool} {i:Nat} {b:Bool} (h:l[i]?=some b):i<l.size:=(Array.getElem?_eq_some_iff.1 h).1
theorem Ahead.step (h:Ahead E ops N ps lc lr A w0 φ σ0 σ st a w) {st0:St} {i:Nat} {o:Oper} {av:Av} {v:Value} {m':Mem} {σ':List Nat} {w':World} (hh:Hid st st0) (ho:ops[i]?=some o) (hi:i ∉ ps) (hl:lr[i]?=some false)
    (hS:Sat w0 (φ++A.map (·.2)) σ0 σ' ⟨putFr st0.fr o.dst av,m'⟩ (a.put o.dst v) w') (he:Ext w σ σ') (hk:Keep w σ w') :
    Ahead E ops N ps (lc.setIfInBounds i true) (lr.setIfInBounds i true) A w0 φ σ0 σ' ⟨putFr st0.fr o.dst av,m'⟩ (a.put o.dst v) w':=by
  have hne : ∀ j b,(j,b)∈A→j≠i:=fun j b hj e=>hi (e ▸ (h.un j b hj).1)
  refine ⟨hS,by simp[h.size],fun k=>?_,fun j b hj=>⟨(h.un j b hj).1,set_off.2 ⟨(h.un j b hj).2,hne j b hj⟩⟩,fun j hj hf d t z p hE=>?_,h.nd,h.bn,fun j b hj=>?_⟩
  · rw[set_on (lt_of_off hl),set_on (h.size ▸ lt_of_off hl),h.lst k]
    constructor
    · rintro ((h1|h1)|h1)
      · exact .inl (.inl h1)
      · exact .inr h1
      · exact .inl (.inr h1)
    · rintro ((h1|h1)|h1)
      · exact .inl (.inl h1)
      · exact .inr h1
      · exact .inl (.inr h1)
  · obtain ⟨h1,h2⟩:=set_off.1 hf
    have h3:=hh d (h.hid j hj h1 d t z p hE)
    have h4:=hE.own i o ho (Ne.symm h2)
    cases hd:o.dst with
    | none=>simpa [putFr,hd] using h3
    | some s =>
      have:s≠d:=fun e=>h4 (by rw[hd,e])
      simp only[putFr,List.getElem?_set,if_neg this]
      exact h3
  · obtain ⟨h1,h2,d,t,z,p,hE,h3,h4⟩:=h.blk j b hj
    have hb:b<w.heap.size:=h.sat.mem.fo b (List.mem_append.2 (.inr (List.mem_map.2 ⟨_,hj,rfl⟩)))
    refine ⟨he.not_mem hb h1,h2,d,t,z,p,hE,(hk.block b hb h1).trans h3,?_⟩
    have h5:=hE.own i o ho (Ne.symm (hne j b hj))
    cases hd:o.dst with
    | none=>simpa [Act.put,hd] using h4
    | some s =>
      have:s≠d:=fun e=>h5 (by rw[hd,e])
      have e2:(a.put (some s) v).tmps.getD d undef=a.tmps.getD d undef:=by
        simp[Act.put,Array.getElem?_setIfInBounds_ne this]
      rw[e2];exact h4
theorem Ahead.early (h:Ahead E ops N ps lc lr A w0 φ σ0 σ st a w) {i:Nat} {o:Oper} {d:Tmp} {t:TypeId} {z:Zero P} (hE:Early E ops N i d t z o) (hi:i∈ps) (hl:lr[i]?=some false) (hN:st.fr.length=N) :
    Ahead E ops N ps lc (lr.setIfInBounds i true) (A++[(i,w.heap.size)]) w0 φ σ0 σ st (a.put (some d) (.pointer (some ⟨w.heap.size,0,none⟩))) (w.alloc (.cells z.us.toArray t)):=by
  obtain ⟨hc,hn⟩:=h.off.1 hl
  have hany:=h.hid i hi hc d t z o hE
  have hlen:=h.sat.fr.len
  have hk:=keep_alloc w σ (.cells z.us.toArray t)
  have hold : ∀ b:Nat,b<w.heap.size→(w.alloc (.cells z.us.toArray t)).heap[b]?=w.heap[b]?:=fun b hb=>Below.heap_alloc w _ b hb
  have hB : ∀ j b,(j,b)∈A→b<w.heap.size:=fun j b hj=>h.sat.mem.fo b (List.mem_append.2 (.inr (List.mem_map.2 ⟨_,hj,rfl⟩)))
  have hro : ∀ b,Ro w (φ++A.map (·.2)) σ b→Ro (w.alloc (.cells z.us.toArray t)) (φ++(A++[(i,w.heap.size)]).map (·.2)) σ b∧(w.alloc (.cells z.us.toArray t)).heap[b]?=w.heap[b]?:=fun b hb=>by
    refine ⟨⟨Nat.lt_of_lt_of_le hb.1 hk.size,fun hm=>?_,hb.2.2⟩,hold b hb.1⟩
    rw[List.map_append,←List.append_assoc,List.mem_append]at hm
    rcases hm with hm|hm
    · exact hb.2.1 hm
    · have:b=w.heap.size:=by simpa using hm
      have:=hb.1;omega
  have hid:putFr st.fr (some d) .any=st.fr:=by
    simp only[putFr]
    apply List.ext_getElem?
    intro k
    rw[List.getElem?_set]
    by_cases e:d=k
    · subst e;rw[if_pos rfl,if_pos (List.getElem?_eq_some_iff.1 hany).1];exact hany.symm
    · rw[if_neg e]
  refine ⟨⟨?_,⟨h.sat.mem.len,h.sat.mem.nodup,fun b hb=>?_,h.sat.mem.gl.mono hro,fun k t' cs b hk1 hk2=>?_⟩,h.sat.ext,h.sat.keep.trans h.sat.ext hk,by rw[put_defers];exact h.sat.df⟩,by simp[h.size],fun k=>?_,fun j b hj=>?_,h.hid,?_,?_,fun j b hj=>?_⟩
  · have:=(h.sat.fr.mono hro (fun _ _ h=>h)).put (d:=some d) (v:=.pointer (some ⟨w.heap.size,0,none⟩)) .any
    rw[hid]at this
    exact this
  · rw[List.map_append,←List.append_assoc,List.mem_append]at hb
    rcases hb with hb|hb
    · exact Nat.lt_of_lt_of_le (h.sat.mem.fo b hb) hk.size
    · have:b=w.heap.size:=by simpa using hb
      subst this;simp
  · obtain ⟨us,h1,h2⟩:=h.sat.mem.blk k t' cs b hk1 hk2
    exact ⟨us,(hold b (Array.getElem?_eq_some_iff.1 h1).1).trans h1,h2.mono hro (fun _ _ h=>h)⟩
  · rw[set_on (lt_of_off hl),h.lst k]
    simp only[List.map_append,List.map_cons,List.map_nil,List.mem_append,List.mem_singleton]
    exact or_assoc
  · rcases List.mem_append.1 hj with hj|hj
    · exact h.un j b hj
    · cases List.mem_singleton.1 hj
      exact ⟨hi,hc⟩
  · rw[List.map_append,List.nodup_append]
    exact ⟨h.nd,by simp,fun x hx y hy e=>hn (by
      have:y=i:=by simpa using hy
      rw[←this,←e];exact hx)⟩
  · rw[List.map_append,List.nodup_append]
    exact ⟨h.bn,by simp,fun x hx y hy e=>by
      have:y=w.heap.size:=by simpa using hy
      obtain ⟨⟨j,b⟩,hj,e1⟩:=List.mem_map.1 hx
      have:=hB j b hj
      simp only at e1
      omega⟩
  · rcases List.mem_append.1 hj with hj'|hj'
    · obtain ⟨h1,h2,d',t',z',p,hE',h3,h4⟩:=h.blk j b hj'
      refine ⟨h1,h2,d',t',z',p,hE',(hold b (hB j b hj')).trans h3,?_⟩
      have hne:i≠j:=fun e=>hn (e ▸ List.mem_map.2 ⟨_,hj',rfl⟩)
      have hdd:d≠d':=fun e=>hE'.own i o hE.at_ hne (by rw[hE.dst,e])
      have e2:(a.put (some d) (.pointer (some ⟨w.heap.size,0,none⟩))).tmps.getD d' undef=a.tmps.getD d' undef:=by
        simp[Act.put,Array.getElem?_setIfInBounds_ne hdd]
      rw[e2];exact h4
    · cases List.mem_singleton.1 hj'
      refine ⟨fun hm=>Nat.lt_irrefl _ (h.sat.mem.lt hm),h.sat.keep.size,d,t,z,o,hE,heap_alloc_new w _,?_⟩
      have:d<a.tmps.size:=Nat.lt_of_lt_of_eq hE.lt (hN.symm.trans hlen)
      simp[Act.put,this]
theorem Ahead.settle {A1 A2:List (Nat×Nat)} {i b:Nat} (h:Ahead E ops N ps lc lr (A1++(i,b)::A2) w0 φ σ0 σ st a w) {o:Oper} {d:Tmp} {t:TypeId} {z:Zero P} (hE:Early E ops N i d t z o) :
    Ahead E ops N ps (lc.setIfInBounds i true) lr (A1++A2) w0 φ σ0 (σ++[b]) ⟨putFr st.fr o.dst (.one (.p st.mem.length 0)),st.mem++[(t,z.cs)]⟩ a w ∧
    (∀ x,Ro w (φ++(A1++(i,b)::A2).map (·.2)) σ x→Ro w (φ++(A1++A2).map (·.2)) (σ++[b]) x):=by
  have hm:(i,b)∈A1++(i,b)::A2:=by simp
  obtain ⟨hi,hc⟩:=h.un i b hm
  obtain ⟨hbσ,hbw,d',t',z',o',hE',hcell,hptr⟩:=h.blk i b hm
  obtain rfl:o=o':=Option.some.inj (hE.at_.symm.trans hE'.at_)
  obtain rfl:d=d':=Option.some.inj (hE.dst.symm.trans hE'.dst)
  obtain rfl:t=t':=Op.alloc.inj (hE.op.symm.trans hE'.op)
  obtain rfl:z=z':=Option.some.inj (hE.zero.symm.trans hE'.zero)
  have hro : ∀ x,Ro w (φ++(A1++(i,b)::A2).map (·.2)) σ x→Ro w (φ++(A1++A2).map (·.2)) (σ++[b]) x:=fun x hx=>by
    simp only[Ro,List.map_append,List.map_cons,List.mem_append,List.mem_cons,List.mem_singleton,not_or]at hx ⊢
    exact ⟨hx.1,⟨hx.2.1.1,hx.2.1.2.1,hx.2.1.2.2.2⟩,hx.2.2,hx.2.1.2.2.1,by simp⟩
  have hro' : ∀ x,Ro w (φ++(A1++(i,b)::A2).map (·.2)) σ x→Ro w (φ++(A1++A2).map (·.2)) (σ++[b]) x∧w.heap[x]?=w.heap[x]?:=fun x hx=>⟨hro x hx,rfl⟩
  have hg : ∀ k c:Nat,σ[k]?=some c→(σ++[b])[k]?=some c:=fun k c hk=>by
    rw[List.getElem?_append_left (List.getElem?_eq_some_iff.1 hk).1];exact hk
  have hsub : ∀ p,p∈A1++A2→p∈A1++(i,b)::A2:=fun p hp=>by
    rcases List.mem_append.1 hp with hp|hp
    · exact List.mem_append.2 (.inl hp)
    · exact List.mem_append.2 (.inr (List.mem_cons_of_mem _ hp))
  have hnd:=h.nd
  have hbn:=h.bn
  rw[List.map_append,List.map_cons]at hnd hbn
  have hni:i ∉ (A1++A2).map (·.1):=by
    rw[List.map_append]
    rw[List.nodup_append,List.nodup_cons]at hnd
    intro hm
    rcases List.mem_append.1 hm with hm|hm
    · exact hnd.2.2 _ hm i (by simp) rfl
    · exact hnd.2.1.1 hm
  have hnb:b ∉ (A1++A2).map (·.2):=by
    rw[List.map_append]
    rw[List.nodup_append,List.nodup_cons]at hbn
    intro hm
    rcases List.mem_append.1 hm with hm|hm
    · exact hbn.2.2 _ hm b (by simp) rfl
    · exact hbn.2.1.1 hm
  have hlenσ:=h.sat.mem.len
  refine ⟨⟨⟨?_,⟨by simp[hlenσ],?_,fun c hc'=>?_,h.sat.mem.gl.mono hro',fun k t' cs c hk1 hk2=>?_⟩,?_,h.sat.keep,h.sat.df⟩,by simp[h.size],fun k=>?_,fun j c hj=>?_,fun j hj hf e t' z' p hP=>?_,?_,?_,fun j c hj=>?_⟩,hro⟩
  · rw[hE.dst]
    refine (h.sat.fr.mono hro' hg).tell fun _=>?_
    rw[hptr]
    exact .one rfl (.p (by simp[hlenσ]) .nil)
  · rw[List.nodup_append]
    exact ⟨h.sat.mem.nodup,by simp,fun x hx y hy e=>hbσ (by
      have:y=b:=by simpa using hy
      rw[←this,←e];exact hx)⟩
  · refine h.sat.mem.fo c ?_
    rcases List.mem_append.1 hc' with h1|h1
    · exact List.mem_append.2 (.inl h1)
    · obtain ⟨p,hp,e⟩:=List.mem_map.1 h1
      exact List.mem_append.2 (.inr (List.mem_map.2 ⟨p,hsub p hp,e⟩))
  · rcases Nat.lt_or_ge k st.mem.length with hlt|hge
    · rw[List.getElem?_append_left hlt]at hk1
      rw[List.getElem?_append_left (by rw[←hlenσ];exact hlt)]at hk2
      obtain ⟨us,h1,h2⟩:=h.sat.mem.blk k t' cs c hk1 hk2
      exact ⟨us,h1,h2.mono hro' hg⟩
    · rw[List.getElem?_append_right hge]at hk1
      rw[List.getElem?_append_right (by rw[←hlenσ];exact hge),←hlenσ]at hk2
      rcases hk:k-st.mem.length with _|q
      · rw[hk]at hk1 hk2
        cases hk1;cases hk2
        exact ⟨z.us,hcell,z.is _ _ _⟩
      · rw[hk]at hk1;simp at hk1
  · obtain ⟨τ,e,ht⟩:=h.sat.ext.pre
    refine ⟨τ++[b],by rw[e,List.append_assoc],fun x hx=>?_⟩
    rcases List.mem_append.1 hx with h1|h1
    · exact ht x h1
    · rw[List.mem_singleton.1 h1];exact hbw
  · rw[set_on (lt_of_off hc),h.lst k]
    simp only[List.map_append,List.map_cons,List.mem_append,List.mem_cons]
    constructor
    · rintro (h1|h1|h1|h1)
      · exact .inl (.inl h1)
      · exact .inr (.inl h1)
      · exact .inl (.inr h1)
      · exact .inr (.inr h1)
    · rintro ((h1|h1)|h1|h1)
      · exact .inl h1
      · exact .inr (.inr (.inl h1))
      · exact .inr (.inl h1)
      · exact .inr (.inr (.inr h1))
  · have h1:=h.un j c (hsub _ hj)
    exact ⟨h1.1,set_off.2 ⟨h1.2,fun e=>hni (e ▸ List.mem_map.2 ⟨_,hj,rfl⟩)⟩⟩
  · obtain ⟨h1,h2⟩:=set_off.1 hf
    have h3:=h.hid j hj h1 e t' z' p hP
    have h4:d≠e:=fun x=>hP.own i o hE.at_ (Ne.symm h2) (by rw[hE.dst,x])
    simp only[hE.dst,putFr,List.getElem?_set,if_neg h4]
    exact h3
  · rw[List.map_append]
    exact (List.nodup_append.2 ⟨(List.nodup_append.1 hnd).1,(List.nodup_cons.1 (List.nodup_append.1 hnd).2.1).2,fun x hx y hy=>(List.nodup_append.1 hnd).2.2 x hx y (List.mem_cons_of_mem _ hy)⟩)
  · rw[List.map_append]
    exact (List.nodup_append.2 ⟨(List.nodup_append.1 hbn).1,(List.nodup_cons.1 (List.nodup_append.1 hbn).2.1).2,fun x hx y hy=>(List.nodup_append.1 hbn).2.2 x hx y (List.mem_cons_of_mem _ hy)⟩)
  · obtain ⟨h1,h2,h3⟩:=h.blk j c (hsub _ hj)
    refine ⟨fun hmem=>?_,h2,h3⟩
    rcases List.mem_append.1 hmem with h4|h4
    · exact h1 h4
    · exact hnb (List.mem_singleton.1 h4 ▸ List.mem_map.2 ⟨_,hj,rfl⟩)
end
def left (ops:Array Oper) (l:Array Bool):Nat:=((List.range ops.size).filter fun i => !l.getD i true).length
theorem left_set {l:Array Bool} {i m:Nat} (hi:i∈Region.ready .any ops l) (hm:left ops l≤m) : ∃ k,m=k+1∧left ops (l.setIfInBounds i true)≤k:=by
  obtain ⟨h1,o,ho,_⟩:=mem_ready.1 hi
  have hlt:=(Array.getElem?_eq_some_iff.1 ho).1
  have key : ∀ L:List Nat,L.Nodup→((L.filter fun k => !(l.setIfInBounds i true).getD k true).length+(if i∈L then 1 else 0)=(L.filter fun k => !l.getD k true).length):=by
    intro L
    induction L with
    | nil=>intro _;rfl
    | cons x L ih =>
      intro hn
      rw[List.nodup_cons]at hn
      have:=ih hn.2
      by_cases e:x=i
      · subst e
        rw[if_neg hn.1]at this
        have h2:(l.setIfInBounds x true).getD x true=true:=by
          by_cases hx:x<l.size <;> simp[hx]
        rw[List.filter_cons,List.filter_cons,h2,h1]
        simp at this ⊢
        exact this
      · have h2:(l.setIfInBounds i true).getD x true=l.getD x true:=getD_set_ne true (Ne.symm e)
        have h3:(if i∈x::L then 1 else 0)=(if i∈L then 1 else 0):=by simp[List.mem_cons,Ne.symm e]
        rw[List.filter_cons,List.filter_cons,h2,h3]
        cases l.getD x true <;> simp only[Bool.not_true,Bool.not_false,if_true,if_false,Bool.false_eq_true,List.length_cons] <;> omega
  have:=key (List.range ops.size) List.nodup_range
  rw[if_pos (List.mem_range.2 hlt)]at this
  unfold left at *
  exact ⟨m-1,by omega,by omega⟩
theorem runAny_ok (hX : ∀ st σ a w,Q st→Sat w0 φ σ0 σ st a w→X .normal a w) (hs:Region.noSelect ops=true) (hP : ∀ c a d v w,X (.panic c) (Act.put a d v) w→X (.panic c) a w) (sd ok:Nat→Bool)
    (N:Nat) (ps:List Nat) (hps : ∀ i∈ps,∃ d t z o,Early E ops N i d t z o) :
    ∀ (k n m:Nat) (lc lr:Array Bool) (A:List (Nat×Nat)) (st:St) (σ:List Nat) (a:Act) (w:World),n+m≤k→left ops lr≤m→a.tmps.size=N→Ahead E ops N ps lc lr A w0 φ σ0 σ st a w→(runAny E ops sd ok ps n lc st).wp Q →
      wpAnyH P .any ops X (Look w (Ro w (φ++A.map (·.2)) σ) σ ok) m lr a w:=by
  have hsz : ∀ (a:Act) d v,(a.put d v).tmps.size=a.tmps.size:=fun a d v=>by cases d <;> simp[Act.put]
  have ahead : ∀ {lc lr A st σ a w},Ahead E ops N ps lc lr A w0 φ σ0 σ st a w→a.tmps.size=N → ∀ {j},j∈Region.ready .any ops lr→j∈ps → ∀ {K:Act→World→Prop},
      (∀ a' w' A',a'.tmps.size=N→Ahead E ops N ps lc (lr.setIfInBounds j true) A' w0 φ σ0 σ st a' w'→Look w (Ro w (φ++A.map (·.2)) σ) σ ok w'∧(∀ x,Ro w (φ++A.map (·.2)) σ x→Ro w' (φ++A'.map (·.2)) σ x∧w'.heap[x]?=w.heap[x]?)∧(∀ i b:Nat,σ[i]?=some b→w'.heap[b]?=w.heap[b]?)→K a' w')→wpOp P ops X j K a w:=by
    intro lc lr A st σ a w h hN j hj hp K hK
    obtain ⟨d,t,z,o,hE⟩:=hps j hp
    have hl:=off_iff.1 (mem_ready.1 hj).1
    have h2:=h.early hE hp hl (h.sat.fr.len.trans hN)
    have hty:z.ty=t:=by simpa using List.find?_some hE.zero
    have hold : ∀ b:Nat,b<w.heap.size→(w.alloc (.cells z.us.toArray t)).heap[b]?=w.heap[b]?:=fun b hb=>Below.heap_alloc w _ b hb
    have hown : ∀ i b:Nat,σ[i]?=some b→(w.alloc (.cells z.us.toArray t)).heap[b]?=w.heap[b]?:=fun i b hb=>hold b (h.sat.mem.lt (List.mem_of_getElem? hb))
    unfold wpOp
    simp only[hE.at_]
    rw[if_pos (by simp[Region.wanted,hE.guard])]
    refine .inl ?_
    unfold Oper.wp execOp
    subst hty
    simp only[hE.op,Sem.run_bind,run_alloc z,Result.andThen_ok]
    rw[←hE.dst]at h2
    refine hK _ _ _ (by rw[hsz];exact hN) h2 ⟨⟨fun b hb=>hold b hb.1,fun i b _ hb=>hown i b hb⟩,fun x hx=>⟨⟨Nat.lt_of_lt_of_le hx.1 (keep_alloc w σ _).size,fun hm=>?_,hx.2.2⟩,hold x hx.1⟩,hown⟩
    rw[List.map_append,←List.append_assoc,List.mem_append]at hm
    rcases hm with hm|hm
    · exact hx.2.1 hm
    · have:x=w.heap.size:=by simpa using hm
      have:=hx.1;omega
  have done : ∀ {m lc lr A st σ a w},Ahead E ops N ps lc lr A w0 φ σ0 σ st a w→Region.ready .any ops lc=[]→Q st→wpAnyH P .any ops X (Look w (Ro w (φ++A.map (·.2)) σ) σ ok) m lr a w:=by
    intro m lc lr A st σ a w h hr hq
    have hA:A=[]:=by
      cases A with
      | nil=>rfl
      | cons p A =>
        exfalso
        obtain ⟨h1,h2⟩:=h.un p.1 p.2 (by simp)
        obtain ⟨d,t,z,o,hE⟩:=hps _ h1
        have:p.1∈Region.ready .any ops lc:=mem_ready.2 ⟨off_iff.2 h2,o,hE.at_,fun e he hb=>by rw[hE.after e he]at hb;cases hb⟩
        rw[hr]at this;cases this
    subst hA
    refine wpAnyH_done ?_ (hX st σ a w hq (by simpa using h.sat)) _
    apply List.eq_nil_iff_forall_not_mem.2
    intro j hj
    have:j∈Region.ready .any ops lc:=by
      rw[mem_ready]at hj ⊢
      obtain ⟨h1,o,ho,h2⟩:=hj
      refine ⟨off_iff.2 (h.off.1 (off_iff.1 h1)).1,o,ho,fun e he hb=>?_⟩
      have:=(h.lst _).1 (on_iff.1 (h2 e he hb))
      simp only[List.map_nil,List.not_mem_nil,or_false]at this
      exact on_iff.2 this
    rw[hr]at this;cases this
  intro k
  induction k with
  | zero =>
    intro n m lc lr A st σ a w hk hleft hN hA h
    obtain rfl:n=0:=by omega
    unfold runAny at h
    split at h
    · rename_i hr;exact done hA hr h
    · exact h.elim
  | succ k ih =>
    intro n m lc lr A st σ a w hk hleft hN hA h
    rcases n with _|n
    · unfold runAny at h
      split at h
      · rename_i hr;exact done hA hr h
      · exact h.elim
    have hfull:=h
    unfold runAny at h
    have noA : ∀ j,j ∉ ps→j ∉ A.map (·.1):=fun j hj hm=>by
      obtain ⟨⟨i,b⟩,hi,e⟩:=List.mem_map.1 hm
      exact hj (e ▸ (hA.un i b hi).1)
    split at h
    · rename_i i hi
      have hB1:=List.find?_some hi
      have hB2:=List.mem_of_find?_eq_some hi
      simp only[Bool.and_eq_true]at hB1
      have hip:i ∉ ps:=by simpa using hB1.1.2
      have hrdy:=hA.ready hB2 (noA i hip)
      have hcon:(Region.ready .any ops lr).contains i=true:=by simpa using hrdy
      obtain ⟨m,rfl,hleft'⟩:=left_set hrdy hleft
      have hl:=off_iff.1 (mem_ready.1 hrdy).1
      split at h
      · exact h.elim
      · rename_i o ho
        rcases guarded_hid hA.sat h with ⟨hw,st',hS',h',hh⟩|⟨hw,st',hS',h',hh⟩
        · rw[T.wp_bind]at h'
          obtain ⟨av,v,hK,hav,hrun⟩:=aS_ok (m:=st'.mem) (ok:=ok) ⟨fun i hi=>by rw[←hS'.mem.len];exact hi,fun i t cs b _ h1 h2=>hS'.mem.blk i t cs b h1 h2⟩ hS'.fr h'
          exact wpAnyH_take ho hs (hA.free hB1.2) hcon (fun c a w=>hP c a o.dst v w) (.inl ⟨hw,hrun⟩) (look_self _ _ _ _) (ih n m _ _ A _ σ _ w (by omega) hleft' (by rw[hsz];exact hN) (hA.step hh ho hip hl (hS'.tell o.dst hav) (Ext.refl w σ) (Keep.refl w σ)) hK)
        · exact wpAnyH_take ho hs (hA.free hB1.2) hcon (fun c a w=>hP c a o.dst undef w) (.inr ⟨hw,rfl⟩) (look_self _ _ _ _) (ih n m _ _ A _ σ _ w (by omega) hleft' (by rw[hsz];exact hN) (hA.step hh ho hip hl (hS'.skip o.dst) (Ext.refl w σ) (Keep.refl w σ)) h')
    · split at h
      · rename_i hnone
        split at h
        · rename_i hr;exact done hA hr h
        · rename_i i rest hr
          have hi:i∈Region.ready .any ops lc:=by rw[hr];simp
          have hip:i∈ps:=by
            by_cases e:i∈ps
            · exact e
            · exfalso
              have:i∈(Region.ready .any ops lc).filter fun i => !ps.contains i:=List.mem_filter.2 ⟨hi,by simpa using e⟩
              rw[hnone]at this;cases this
          obtain ⟨d,t,z,o,hE⟩:=hps i hip
          split at h
          · rename_i o' hw ho
            obtain rfl:o=o':=Option.some.inj (hE.at_.symm.trans ho)
            simp only[hE.op]at h
            obtain ⟨z',hz,h⟩:=optT_wp h
            obtain rfl:z=z':=Option.some.inj (hE.zero.symm.trans hz)
            by_cases hiA:i∈A.map (·.1)
            · obtain ⟨⟨i',b⟩,hib,e⟩:=List.mem_map.1 hiA
              obtain rfl:i'=i:=e
              obtain ⟨A1,A2,rfl⟩:=List.append_of_mem hib
              obtain ⟨h1,h2⟩:=hA.settle hE
              refine anyH_mono (fun x hx=>?_) _ _ _ _ (ih n m _ _ _ _ _ a w (by omega) hleft hN h1 h)
              exact ⟨fun c hc=>hx.ro c (h2 c hc),fun q c hq hc=>hx.own q c hq (by rw[List.getElem?_append_left (List.getElem?_eq_some_iff.1 hc).1];exact hc)⟩
            · have hrdy:=hA.ready hi hiA
              have hne:Region.ready .any ops lr≠[]:=fun e=>by rw[e]at hrdy;cases hrdy
              have hm : ∃ q,m=q+1:=(left_set hrdy hleft).imp fun q hq=>hq.1
              obtain ⟨m,rfl⟩:=hm
              refine wpAnyH_all rfl hne fun j hj=>?_
              have hjp:j∈ps:=by
                by_cases e:j∈ps
                · exact e
                · exfalso
                  have h1:=List.all_eq_true.1 hw j (hA.later hj e)
                  obtain ⟨_,oj,hoj,h2⟩:=mem_ready.1 hj
                  unfold waits at h1
                  simp only[hoj]at h1
                  obtain ⟨x,hx,h3⟩:=Array.any_eq_true'.1 h1
                  simp only[Bool.and_eq_true,beq_iff_eq]at h3
                  have h4:=on_iff.1 (h2 x hx h3.1)
                  rw[h3.2]at h4
                  rcases (hA.lst i).1 h4 with h5|h5
                  · have h6:=off_iff.1 (mem_ready.1 hi).1
                    rw[h5]at h6;cases h6
                  · exact hiA h5
              refine ahead hA hN hj hjp fun a' w' A' hN' hA' hlook=>⟨hlook.1,?_⟩
              obtain ⟨m',e,hl'⟩:=left_set hj hleft
              obtain rfl:m'=m:=by omega
              refine anyH_mono (fun x hx=>?_) _ _ _ _ (ih (n+1) m' _ _ A' _ σ a' w' (by omega) hl' hN' hA' hfull)
              exact ⟨fun c hc=>(hx.ro c (hlook.2.1 c hc).1).trans (hlook.2.1 c hc).2,fun q c hq hc=>(hx.own q c hq hc).trans (hlook.2.2 q c hc)⟩
          · exact h.elim
      · rename_i r rs hrs
        split at h
        · exact h.elim
        · rename_i hlater
          have hr:r∈Region.ready .any ops lc∧r ∉ ps:=by
            have:r∈(Region.ready .any ops lc).filter fun i => !ps.contains i:=by rw[hrs];simp
            rw[List.mem_filter]at this
            exact ⟨this.1,by simpa using this.2⟩
          have hrdy:=hA.ready hr.1 (noA r hr.2)
          have hne:Region.ready .any ops lr≠[]:=fun e=>by rw[e]at hrdy;cases hrdy
          have hm : ∃ q,m=q+1:=(left_set hrdy hleft).imp fun q hq=>hq.1
          obtain ⟨m,rfl⟩:=hm
          refine wpAnyH_all rfl hne fun j hj=>?_
          obtain ⟨m',e,hl'⟩:=left_set hj hleft
          obtain rfl:m'=m:=by omega
          by_cases hjp:j∈ps
          · refine ahead hA hN hj hjp fun a' w' A' hN' hA' hlook=>⟨hlook.1,?_⟩
            refine anyH_mono (fun x hx=>?_) _ _ _ _ (ih (n+1) m' _ _ A' _ σ a' w' (by omega) hl' hN' hA' hfull)
            exact ⟨fun c hc=>(hx.ro c (hlook.2.1 c hc).1).trans (hlook.2.1 c hc).2,fun q c hq hc=>(hx.own q c hq hc).trans (hlook.2.2 q c hc)⟩
          · have hjr:j∈r::rs:=by simpa using List.all_eq_true.1 hlater j (hA.later hj hjp)
            have h:=branch_wp h j hjr
            have hl:=off_iff.1 (mem_ready.1 hj).1
            unfold wpOp
            split at h
            · exact h.elim
            · rename_i o ho
              simp only[ho]
              rcases guarded_hid hA.sat h with ⟨hw,st',hS',h',hh⟩|⟨hw,st',hS',h',hh⟩
              · simp only[hw,if_true]
                rw[T.wp_bind]at h'
                refine .inl (aE_ok hS'.mem hS'.fr h' fun a' w' hp=>?_)
                have hput : ∃ v,a'=a.put o.dst v:=by
                  obtain ⟨_,_,v,_,_,_,_,_,_,e⟩:=hp
                  exact ⟨v,e⟩
                obtain ⟨v,rfl⟩:=hput
                obtain ⟨σ',e,hq,hS2,hext,hkeep,hown⟩:=hS'.next hp
                split at hq
                · rename_i hwr
                  have hlook:Look w (Ro w (φ++A.map (·.2)) σ) σ ok w':=⟨fun b hb=>(hkeep.ro hext b hb).2,fun i b hi hb=>hown i b hb (fun hm=>by
                    have:=List.all_eq_true.1 hwr i hm
                    simp[hi]at this)⟩
                  refine ⟨hlook,anyH_mono (fun x hx=>?_) _ _ _ _ (ih n m' _ _ A _ σ' _ w' (by omega) hl' (by rw[hsz];exact hN) (hA.step hh ho hjp hl hS2 hext hkeep) hq)⟩
                  exact ⟨fun b hb=>(hx.ro b (hkeep.ro hext b hb).1).trans (hlook.ro b hb),fun i b hi hb=>(hx.own i b hi (hext.get hb)).trans (hlook.own i b hi hb)⟩
                · exact hq.elim
              · simp only[hw]
                exact ⟨look_self _ _ _ _,ih n m' _ _ A _ σ _ w (by omega) hl' (by rw[hsz];exact hN) (hA.step hh ho hjp hl (hS'.skip o.dst) (Ext.refl w σ) (Keep.refl w σ)) h'⟩
theorem Sat.drew {st:St} {σ:List Nat} {a:Act} {w:World} (hS:Sat w0 φ σ0 σ st a w):Sat w0 φ σ0 σ st a w.drew:=by
  have hro : ∀ b,Ro w φ σ b→Ro w.drew φ σ b∧w.drew.heap[b]?=w.heap[b]?:=fun b hb=>⟨hb,rfl⟩
  exact ⟨hS.fr.mono hro (fun _ _ h=>h),hS.mem.stay (Keep.drew w σ) (Ext.refl w σ) rfl (fun _ _ _=>rfl),hS.ext,hS.keep.trans hS.ext (Keep.drew w σ),hS.df⟩
theorem runDraw_ok {id:Nat} (hm:P.follows .mixedOrders=true) (hX : ∀ st σ a w,Q st→Sat w0 φ σ0 σ st a w→X .normal a w)
    (hP : ∀ c a d v w,X (.panic c) (Act.put a d v) w→X (.panic c) a w) {st:St} {σ:List Nat} {a:Act} {w:World} (hS:Sat w0 φ σ0 σ st a w) (h:(runDraw E ops st).wp Q):(Code.region id ops true).wp P X a w:=by
  unfold runDraw at h
  simp only at h
  split at h
  · rename_i hc
    refine wp_region_held hm (runAny_ok (lc:=Array.replicate ops.size false) (A:=[]) (σ:=σ) hX hc hP _ _ st.fr.length _ (fun i hi=>early_spec (List.mem_filter.1 hi).2) _ _ _ _ _ _ _ (Nat.le_refl _) (Nat.le_trans (List.length_filter_le _ _) (by simp)) hS.fr.len.symm ?_ h)
    have hd:=hS.drew
    refine ⟨⟨hide_ok _ _ (by simpa using hd.fr),by simpa using hd.mem,hd.ext,hd.keep,hd.df⟩,rfl,fun i=>by simp,fun i b hi=>(by cases hi),fun i hi _ d t z o hE=>hide_at hE.at_ hE.dst _ _ hi hE.lt,by simp,by simp,fun i b hi=>(by cases hi)⟩
  · exact h.elim
end
def fNat {β:Type _} (n:Nat) (k:Nat→β):β:=match n with
  | 0=>k 0
  | m+1=>k (m+1)
theorem fNat_eq {β:Type _} (n:Nat) (k:Nat→β):fNat n k=k n:=by cases n <;> rfl
def fNats {β:Type _}:List Nat→(List Nat→β)→β
  | [],k=>k []
  | n::r,k=>fNat n fun n=>fNats r fun r=>k (n::r)
theorem fNats_eq {β:Type _} : ∀ (l:List Nat) (k:List Nat→β),fNats l k=k l
  | [],_=>rfl
  | n::r,k=>by rw[fNats,fNat_eq,fNats_eq r]
def fCk {β:Type _} (c:Ck) (k:Ck→β):β:=match c with
  | .p i off=>fNat i fun i=>fNat off fun off=>k (.p i off)
  | .pe i off sz z=>fNat i fun i=>fNat off fun off=>fNat sz fun sz=>k (.pe i off sz z)
  | .os i n cap=>fNat i fun i=>k (.os i n cap)
  | .v x=>k (.v x)
  | .kb b=>k (.kb b)
  | .w x=>k (.w x)
  | .ds c xs=>k (.ds c xs)
  | .pr cs=>k (.pr cs)
  | .row c xs cap=>k (.row c xs cap)
  | .ni=>k .ni
  | .any=>k .any
theorem fCk_eq {β:Type _} (c:Ck) (k:Ck→β):fCk c k=k c:=by
  cases c <;> simp only[fCk,fNat_eq]
def fCks {β:Type _}:List Ck→(List Ck→β)→β
  | [],k=>k []
  | c::r,k=>fCk c fun c=>fCks r fun r=>k (c::r)
theorem fCks_eq {β:Type _} : ∀ (l:List Ck) (k:List Ck→β),fCks l k=k l
  | [],_=>rfl
  | c::r,k=>by rw[fCks,fCk_eq,fCks_eq r]
def fAv1 {β:Type _} (a:Av) (k:Av→β):β:=match a with
  | .one c=>fCk c fun c=>k (.one c)
  | .agg l=>fCks l fun l=>k (.agg l)
  | .tup l=>k (.tup l)
  | .nope=>k .nope
  | .any=>k .any
theorem fAv1_eq {β:Type _} (a:Av) (k:Av→β):fAv1 a k=k a:=by
  cases a <;> simp only[fAv1,fCk_eq,fCks_eq]
def fAv1s {β:Type _}:List Av→(List Av→β)→β
  | [],k=>k []
  | c::r,k=>fAv1 c fun c=>fAv1s r fun r=>k (c::r)
theorem fAv1s_eq {β:Type _} : ∀ (l:List Av) (k:List Av→β),fAv1s l k=k l
  | [],_=>rfl
  | c::r,k=>by rw[fAv1s,fAv1_eq,fAv1s_eq r]
def fAv {β:Type _} (a:Av) (k:Av→β):β:=match a with
  | .tup l=>fAv1s l fun l=>k (.tup l)
  | .one c=>fCk c fun c=>k (.one c)
  | .agg l=>fCks l fun l=>k (.agg l)
  | .nope=>k .nope
  | .any=>k .any
theorem fAv_eq {β:Type _} (a:Av) (k:Av→β):fAv a k=k a:=by
  cases a <;> simp only[fAv,fCk_eq,fCks_eq,fAv1s_eq]
def fAvs {β:Type _}:List Av→(List Av→β)→β
  | [],k=>k []
  | c::r,k=>fAv c fun c=>fAvs r fun r=>k (c::r)
theorem fAvs_eq {β:Type _} : ∀ (l:List Av) (k:List Av→β),fAvs l k=k l
  | [],_=>rfl
  | c::r,k=>by rw[fAvs,fAv_eq,fAvs_eq r]
def fMem {β:Type _}:Mem→(Mem→β)→β
  | [],k=>k []
  | (t,cs)::r,k=>fNat t fun t=>fCks cs fun cs=>fMem r fun r=>k ((t,cs)::r)
theorem fMem_eq {β:Type _} : ∀ (l:Mem) (k:Mem→β),fMem l k=k l
  | [],_=>rfl
  | (t,cs)::r,k=>by rw[fMem,fNat_eq,fCks_eq,fMem_eq r]
def fSt {β:Type _} (st:St) (k:St→β):β:=fAvs st.fr fun fr=>fMem st.mem fun m=>k ⟨fr,m⟩
theorem fSt_eq {β:Type _} (st:St) (k:St→β):fSt st k=k st:=by rw[fSt,fAvs_eq,fMem_eq]
theorem is_row_ds {w:World} {R R':Nat→Prop} {σ:List Nat} {c:Cd} {xs:List (El c)} {cap n cap2 b:Nat} {t:TypeId} {us:List Value} (hR : ∀ b,R b→R' b) (hb:R' b) (hbl:w.heap[b]?=some (.cells us.toArray t (0,0)))
    (h:Is w R σ [.row c xs cap] us) (hn:n≤xs.length) (hc:n≤cap2) (σ':List Nat):Is w R' σ' [.ds c (xs.take n)] [.slice (some ⟨b,0,none⟩) n cap2]:=by
  obtain ⟨g,h1,h2,h3,h4,h5,h6,h7⟩:=is_row h
  have hlen:(xs.take n).length=n:=by rw[List.length_take];omega
  have get : ∀ (i:Nat) x,(xs.take n)[i]?=some x→xs[i]?=some x:=fun i x hx=>by
    rw[List.getElem?_take]at hx
    split at hx
    · exact hx
    · cases hx
  have:Is w R' σ' [.ds c (xs.take n)] [.slice (some ⟨b,0,none⟩) (xs.take n).length cap2]:=
    .ds g (by rw[hlen];exact hc) hb (fun i x hx=>h5 i x (get i x hx)) (fun i x hx=>(h6 i x (get i x hx)).mono (fun z hz=>⟨hR z hz,rfl⟩) (fun _ _ h=>h)) (fun i x hx j u hj=>by
      have h8:=h7 i x (get i x hx) j u hj
      have:=Pq.range_block hbl (i*csz c+j) u h8
      rw[Nat.zero_add]at this ⊢
      exact this) .nil
  rw[hlen]at this
  exact this
def reC (f:Nat→Option Nat) (fz:Nat→Nat→Option Ck):Ck→Ck
  | .p i off=>match f i with
    | some j=>.p j off
    | none=>.any
  | .pe i off sz k=>match f i with
    | some j=>.pe j off sz k
    | none=>.any
  | .os i n cap=>match f i with
    | some j=>.os j n cap
    | none=>match fz i n with
      | some c=>c
      | none=>.any
  | c=>c
def re1 (f:Nat→Option Nat) (fz:Nat→Nat→Option Ck):Av→Av
  | .one c=>.one (reC f fz c)
  | .agg l=>.agg (l.map (reC f fz))
  | .tup _=>.any
  | a=>a
def reA (f:Nat→Option Nat) (fz:Nat→Nat→Option Ck):Av→Av
  | .tup l=>.tup (l.map (re1 f fz))
  | a=>re1 f fz a
def FzOk (w:World) (R':Nat→Prop) (σ σ':List Nat) (f:Nat→Option Nat) (fz:Nat→Nat→Option Ck) (i n:Nat):Prop:=
  ∀ b cap c,σ[i]?=some b→n≤cap→f i=none→fz i n=some c→Is w R' σ' [c] [.slice (some ⟨b,0,none⟩) n cap]
theorem Is.re' {w:World} {R R':Nat→Prop} {σ:List Nat} {f:Nat→Option Nat} {fz:Nat→Nat→Option Ck} (hR : ∀ b,R b→R' b)
    {l:List Ck} {us:List Value} (h:Is w R σ l us) : ∀ {σ':List Nat},(∀ i b j:Nat,σ[i]?=some b→f i=some j→σ'[j]?=some b)→(∀ i n cap,Ck.os i n cap∈l→FzOk w R' σ σ' f fz i n)→Is w R' σ' (l.map (reC f fz)) us:=by
  induction h with
  | nil=>intro σ' _ _;exact .nil
  | v h _ ih=>intro σ' hf hz;exact .v h (ih hf fun i n cap hm=>hz i n cap (List.mem_cons_of_mem _ hm))
  | kb _ ih=>intro σ' hf hz;exact .kb (ih hf fun i n cap hm=>hz i n cap (List.mem_cons_of_mem _ hm))
  | w _ ih=>intro σ' hf hz;exact .w (ih hf fun i n cap hm=>hz i n cap (List.mem_cons_of_mem _ hm))
  | p h _ ih =>
    intro σ' hf hz
    have ih:=ih hf fun i n cap hm=>hz i n cap (List.mem_cons_of_mem _ hm)
    rw[List.map_cons,reC]
    split
    · rename_i j hj;exact .p (hf _ _ _ h hj) ih
    · exact .any rfl ih
  | dn _ ih=>intro σ' hf hz;exact .dn (ih hf fun i n cap hm=>hz i n cap (List.mem_cons_of_mem _ hm))
  | de a cap _ ih=>intro σ' hf hz;exact .de a cap (ih hf fun i n cap hm=>hz i n cap (List.mem_cons_of_mem _ hm))
  | ni t v _ ih=>intro σ' hf hz;exact .ni t v (ih hf fun i n cap hm=>hz i n cap (List.mem_cons_of_mem _ hm))
  | ds g h1 h2 h3 h4 h5 _ ih4 ih=>intro σ' hf hz;exact .ds g h1 (hR _ h2) h3 (fun i x hx=>(h4 i x hx).mono (fun z hz=>⟨hR z hz,rfl⟩) (fun _ _ h=>h)) h5 (ih hf fun i n cap hm=>hz i n cap (List.mem_cons_of_mem _ hm))
  | pr h1 h2 h3 _ ih3 ih=>intro σ' hf hz;exact .pr (hR _ h1) h2 (h3.mono (fun z hz=>⟨hR z hz,rfl⟩) (fun _ _ h=>h)) (ih hf fun i n cap hm=>hz i n cap (List.mem_cons_of_mem _ hm))
  | pe h h2 _ ih =>
    intro σ' hf hz
    have ih:=ih hf fun i n cap hm=>hz i n cap (List.mem_cons_of_mem _ hm)
    rw[List.map_cons,reC]
    split
    · rename_i j hj;exact .pe (hf _ _ _ h hj) h2 ih
    · exact .any rfl ih
  | os h h2 _ ih =>
    intro σ' hf hz
    have hz0:=hz _ _ _ (List.mem_cons_self ..)
    have ih:=ih hf fun i n cap hm=>hz i n cap (List.mem_cons_of_mem _ hm)
    rw[List.map_cons,reC]
    split
    · rename_i j hj;exact .os (hf _ _ _ h hj) h2 ih
    · rename_i hj
      split
      · rename_i c hc
        exact (hz0 _ _ c h h2 hj hc).app ih
      · exact .any rfl ih
  | row g h1 h2 h3 h4 h5 h6 h7 _ h9 ih6 ih=>intro σ' hf hz;exact .row g h1 h2 h3 h4 h5 (fun i x hx=>(h6 i x hx).mono (fun z hz=>⟨hR z hz,rfl⟩) (fun _ _ h=>h)) h7 (ih hf fun i n cap hm=>hz i n cap (List.mem_cons_of_mem _ hm)) h9
  | any h _ ih=>intro σ' hf hz;exact .any h (ih hf fun i n cap hm=>hz i n cap (List.mem_cons_of_mem _ hm))
theorem Is.re {w:World} {R R':Nat→Prop} {σ σ':List Nat} {f:Nat→Option Nat} {fz:Nat→Nat→Option Ck} (hR : ∀ b,R b→R' b) (hf : ∀ i b j:Nat,σ[i]?=some b→f i=some j→σ'[j]?=some b)
    {l:List Ck} {us:List Value} (h:Is w R σ l us) (hz : ∀ i n cap,Ck.os i n cap∈l→FzOk w R' σ σ' f fz i n):Is w R' σ' (l.map (reC f fz)) us:=h.re' hR hf hz
theorem AvIs.re1 {w:World} {R R':Nat→Prop} {σ σ':List Nat} {f:Nat→Option Nat} {fz:Nat→Nat→Option Ck} (hR : ∀ b,R b→R' b) (hf : ∀ i b j:Nat,σ[i]?=some b→f i=some j→σ'[j]?=some b)
    {a:Av} {v:Value} (h:AvIs w R σ a v) (hz : ∀ l,(a=.agg l ∨ ∃ c,a=.one c∧l=[c]) → ∀ i n cap,Ck.os i n cap∈l→FzOk w R' σ σ' f fz i n):AvIs w R' σ' (re1 f fz a) v:=by
  cases h with
  | one h1 h2 =>
    rename_i c
    have h3:=h2.re hR hf (hz [c] (.inr ⟨c,rfl,rfl⟩))
    refine .one ?_ h3
    have:=is_len _ h3
    simpa [ckLen] using this.symm
  | agg h=>exact .agg (h.re hR hf (hz _ (.inl rfl)))
  | tup=>exact .any
  | nope=>exact .nope
  | any=>exact .any
def osIn:Av→List Ck
  | .one c=>[c]
  | .agg l=>l
  | .tup l=>l.flatMap fun
    | .one c=>[c]
    | .agg l=>l
    | _=>[]
  | _=>[]
theorem AvIs.re {w:World} {R R':Nat→Prop} {σ σ':List Nat} {f:Nat→Option Nat} {fz:Nat→Nat→Option Ck} (hR : ∀ b,R b→R' b) (hf : ∀ i b j:Nat,σ[i]?=some b→f i=some j→σ'[j]?=some b)
    {a:Av} {v:Value} (h:AvIs w R σ a v) (hz : ∀ i n cap,Ck.os i n cap∈osIn a→FzOk w R' σ σ' f fz i n):AvIs w R' σ' (reA f fz a) v:=by
  cases h with
  | one h1 h2=>exact AvIs.re1 hR hf (.one h1 h2) fun l hl i n cap hm=>hz i n cap (by
      rcases hl with h|⟨c,h,rfl⟩
      · cases h
      · cases h;exact hm)
  | agg h=>exact AvIs.re1 hR hf (.agg h) fun l hl i n cap hm=>hz i n cap (by
      rcases hl with h|⟨c,h,rfl⟩
      · cases h;exact hm
      · cases h)
  | tup us hl hi =>
    rename_i l
    refine .tup us (by rw[List.length_map];exact hl) fun i x u hx hu=>?_
    rw[List.getElem?_map]at hx
    cases hq:l[i]? with
    | none=>rw[hq]at hx;simp at hx
    | some y =>
      rw[hq]at hx
      simp only[Option.map_some,Option.some.injEq]at hx
      subst hx
      refine AvIs.re1 hR hf (hi i y u hq hu) fun l' hl' j n cap hm=>hz j n cap ?_
      show _∈List.flatMap _ l
      refine List.mem_flatMap.2 ⟨y,List.mem_of_getElem? hq,?_⟩
      rcases hl' with rfl|⟨c,rfl,rfl⟩
      · exact hm
      · exact hm
  | nope=>exact .nope
  | any=>exact .any
def rowDs (m:Mem) (i n:Nat):Option Ck:=match m[i]? with
  | some (_,[.row c xs _])=>some (.ds c (xs.take n))
  | _=>none
def rowLen (m:Mem) (i n:Nat):Prop:=match m[i]? with
  | some (_,[.row c xs _])=>n≤xs.length
  | _=>True
def owed (f:Nat→Option Nat) (m:Mem):List Ck→List Prop
  | []=>[]
  | .os i n _::r=>match f i with
    | some _=>owed f m r
    | none=>rowLen m i n::owed f m r
  | _::r=>owed f m r
theorem owed_ok {f:Nat→Option Nat} {m:Mem} : ∀ {l:List Ck},(∀ p∈owed f m l,p) → ∀ i n cap,Ck.os i n cap∈l→f i=none→rowLen m i n
  | [],_,i,n,cap,h,_=>by cases h
  | c::r,hp,i,n,cap,h,hf=>by
    rcases List.mem_cons.1 h with rfl|h
    · apply hp
      unfold owed
      rw[hf]
      exact List.mem_cons_self ..
    · refine owed_ok (l:=r) (fun p hpr=>hp p ?_) i n cap h hf
      cases c with
      | os j n' cap' =>
        unfold owed
        split
        · exact hpr
        · exact List.mem_cons_of_mem _ hpr
      | _=>exact hpr
def needAll {α:Type}:List Prop→T α→T α
  | [],t=>t
  | p::r,t=>.need p (needAll r t)
theorem needAll_wp {α:Type} {Q:α→Prop} {t:T α} : ∀ {l:List Prop},(needAll l t).wp Q→(∀ p∈l,p)∧t.wp Q
  | [],h=>⟨fun _ h=>(by cases h),h⟩
  | p::r,h=>by
    obtain ⟨h1,h2⟩:=h
    obtain ⟨h3,h4⟩:=needAll_wp h2
    refine ⟨fun q hq=>?_,h4⟩
    rcases List.mem_cons.1 hq with rfl|hq
    · exact h1
    · exact h3 q hq
def posOf:List Nat→Nat→Option Nat
  | [],_=>none
  | j::r,i=>if i=j then some 0 else (posOf r i).map (· + 1)
theorem posOf_get : ∀ {I:List Nat} {i j:Nat},posOf I i=some j→I[j]?=some i
  | [],i,j,h=>by cases h
  | k::r,i,j,h=>by
    unfold posOf at h
    split at h
    · rename_i e;cases h;rw[e];rfl
    · obtain ⟨j',h1,rfl⟩:=Option.map_eq_some_iff.1 h
      have:=posOf_get h1
      simpa using this
theorem posOf_none : ∀ {I:List Nat} {i:Nat},posOf I i=none→i ∉ I
  | [],i,_=>by simp
  | k::r,i,h=>by
    unfold posOf at h
    split at h
    · cases h
    · rename_i e
      rw[Option.map_eq_none_iff]at h
      simp[e,posOf_none h]
def nodB:List Nat→Bool
  | []=>true
  | i::r => !(r.any fun j=>decide (j=i))&&nodB r
theorem nodB_ok : ∀ {I:List Nat},nodB I=true→I.Nodup
  | [],_=>List.nodup_nil
  | i::r,h=>by
    unfold nodB at h
    rw[Bool.and_eq_true,Bool.not_eq_true',List.any_eq_false]at h
    refine List.nodup_cons.2 ⟨fun hm=>?_,nodB_ok h.2⟩
    have:=h.1 i hm
    simp at this
def okI (base n:Nat) (I:List Nat):Bool:=decide (I.take base=List.range base)&&(I.all fun i=>decide (i<n))&&nodB I
def gcMem (I:List Nat) (m:Mem):Mem:=I.map fun i=>match m[i]? with
  | some e=>(e.1,e.2.map (reC (posOf I) (rowDs m)))
  | none=>(0,[])
def gcCells (I:List Nat) (st:St):List Ck:=st.fr.flatMap osIn++I.flatMap fun i=>match st.mem[i]? with
  | some e=>e.2
  | none=>[]
def gcT (I:List Nat) (st:St):T St:=needAll (owed (posOf I) st.mem (gcCells I st)) (.ret ⟨st.fr.map (reA (posOf I) (rowDs st.mem)),gcMem I st.mem⟩)
theorem gc_ok {w0 w:World} {φ σ0 σ:List Nat} {st:St} {a:Act} {base:Nat} {I:List Nat} {Q:St→Prop} (hφ : ∀ b∈φ,b<w0.heap.size) (h0:σ0.length≤base) (hI:okI base st.mem.length I=true) (hS:Sat w0 φ σ0 σ st a w) (h:(gcT I st).wp Q) :
    ∃ st' σ',Q st'∧Sat w0 φ σ0 σ' st' a w:=by
  unfold okI at hI
  simp only[Bool.and_eq_true,decide_eq_true_eq]at hI
  obtain ⟨⟨hI1,hI2⟩,hI3⟩:=hI
  have hnd:=nodB_ok hI3
  have hlt : ∀ i∈I,i<σ.length:=fun i hi=>by
    have:=List.all_eq_true.1 hI2 i hi
    rw[←hS.mem.len]
    exact of_decide_eq_true this
  obtain ⟨how,hQ⟩:=needAll_wp h
  have hrow:=owed_ok how
  obtain ⟨τ,eτ,hτ⟩:=hS.ext.pre
  have hlow : ∀ j,j<σ0.length→I[j]?=some j:=fun j hj=>by
    have:(I.take base)[j]?=some j:=by rw[hI1,List.getElem?_range (by omega)]
    rwa [List.getElem?_take,if_pos (by omega)]at this
  refine ⟨_,I.map fun i=>σ.getD i 0,hQ,?_⟩
  have get : ∀ i,i<σ.length → ∃ b,σ[i]?=some b∧σ.getD i 0=b:=fun i hi=>⟨σ[i],List.getElem?_eq_getElem hi,by simp[hi]⟩
  have hmem : ∀ b,b∈(I.map fun i=>σ.getD i 0) → ∃ i∈I,σ[i]?=some b:=fun b hb=>by
    obtain ⟨i,hi,rfl⟩:=List.mem_map.1 hb
    obtain ⟨b,h1,h2⟩:=get i (hlt i hi)
    exact ⟨i,hi,by rw[h2];exact h1⟩
  have hsub : ∀ b,b∈(I.map fun i=>σ.getD i 0)→b∈σ:=fun b hb=>by
    obtain ⟨i,_,h1⟩:=hmem b hb
    exact List.mem_of_getElem? h1
  have hro : ∀ b,Ro w φ σ b→Ro w φ (I.map fun i=>σ.getD i 0) b:=fun b hb=>⟨hb.1,hb.2.1,fun h=>hb.2.2 (hsub b h)⟩
  have hf : ∀ i b j:Nat,σ[i]?=some b→posOf I i=some j→(I.map fun i=>σ.getD i 0)[j]?=some b:=fun i b j hb hj=>by
    rw[List.getElem?_map,posOf_get hj,Option.map_some]
    obtain ⟨b',h1,h2⟩:=get i (List.getElem?_eq_some_iff.1 hb).1
    rw[h2]
    rw[hb]at h1
    exact h1.symm
  have inj : ∀ i j b,σ[i]?=some b→σ[j]?=some b→i=j:=fun i j b h1 h2=>by
    obtain ⟨l1,e1⟩:=List.getElem?_eq_some_iff.1 h1
    obtain ⟨l2,e2⟩:=List.getElem?_eq_some_iff.1 h2
    exact (List.getElem_inj hS.mem.nodup).1 (e1.trans e2.symm)
  have hfz : ∀ i n,rowLen st.mem i n→FzOk w (Ro w φ (I.map fun i=>σ.getD i 0)) σ (I.map fun i=>σ.getD i 0) (posOf I) (rowDs st.mem) i n:=fun i n hlen b cap c hb hn hi hc=>by
    unfold rowDs at hc
    unfold rowLen at hlen
    split at hc
    · rename_i t c' xs cap' hm
      rw[hm]at hlen
      cases hc
      obtain ⟨us,hbl,his⟩:=hS.mem.blk i _ _ b hm hb
      have hni:=posOf_none hi
      have hge:σ0.length≤i:=Nat.not_lt.1 fun hlt=>hni (List.mem_of_getElem? (hlow i hlt))
      have hbτ:b∈τ:=by
        rw[eτ,List.getElem?_append_right hge]at hb
        exact List.mem_of_getElem? hb
      refine is_row_ds hro ⟨hS.mem.lt (List.mem_of_getElem? hb),fun hbφ=>?_,fun hbI=>?_⟩ hbl his hlen hn _
      · have h1:=hφ b hbφ
        have h2:=hτ b hbτ
        omega
      · obtain ⟨i',hi',hb'⟩:=hmem b hbI
        exact hni (inj i i' b hb hb' ▸ hi')
    · cases hc
  refine ⟨⟨by rw[List.length_map];exact hS.fr.len,fun t av ht=>?_⟩,⟨by simp[gcMem],?_,hS.mem.fo,hS.mem.gl.mono fun z hz=>⟨hro z hz,rfl⟩,fun j t cs b hj hb=>?_⟩,?_,hS.keep,hS.df⟩
  · simp only[List.getElem?_map]at ht
    cases hq:st.fr[t]? with
    | none=>rw[hq]at ht;simp at ht
    | some av0 =>
      rw[hq]at ht
      simp only[Option.map_some,Option.some.injEq]at ht
      subst ht
      refine (hS.fr.at_ t av0 hq).re hro hf fun i n cap hm b cap' c h1 h2 h3 h4=>hfz i n ?_ b cap' c h1 h2 h3 h4
      exact hrow i n cap (List.mem_append_left _ (List.mem_flatMap.2 ⟨av0,List.mem_of_getElem? hq,hm⟩)) h3
  · unfold List.Nodup
    rw[List.pairwise_map]
    refine hnd.imp_of_mem fun {i j} hi hj hne e=>hne ?_
    obtain ⟨b,h1,h2⟩:=get i (hlt i hi)
    obtain ⟨b',h3,h4⟩:=get j (hlt j hj)
    rw[h2,h4]at e
    subst e
    exact inj i j b h1 h3
  · rw[List.getElem?_map]at hb
    unfold gcMem at hj
    rw[List.getElem?_map]at hj
    cases hq:I[j]? with
    | none=>rw[hq]at hb;simp at hb
    | some i =>
      rw[hq]at hb hj
      simp only[Option.map_some,Option.some.injEq]at hb hj
      have hi:=List.mem_of_getElem? hq
      obtain ⟨b',h1,h2⟩:=get i (hlt i hi)
      rw[h2]at hb
      subst hb
      cases hm:st.mem[i]? with
      | none =>
        have:=List.getElem?_eq_none_iff.1 hm
        have:=hlt i hi
        rw[←hS.mem.len]at this
        omega
      | some e =>
        obtain ⟨t0,cs0⟩:=e
        rw[hm]at hj
        cases hj
        obtain ⟨us,h3,h4⟩:=hS.mem.blk i t0 cs0 b' hm h1
        refine ⟨us,h3,h4.re hro hf fun i' n cap hmm b cap' c g1 g2 g3 g4=>hfz i' n ?_ b cap' c g1 g2 g3 g4⟩
        refine hrow i' n cap (List.mem_append_right _ (List.mem_flatMap.2 ⟨i,hi,?_⟩)) g3
        rw[hm];exact hmm
  · have hlen:σ0.length≤I.length:=by
      rcases Nat.lt_or_ge I.length σ0.length with hl|hl
      · have:=hlow I.length hl
        simp at this
      · exact hl
    refine ⟨(I.drop σ0.length).map fun i=>σ.getD i 0,?_,fun b hb=>?_⟩
    · have e1:I.take σ0.length=List.range σ0.length:=by
        apply List.ext_getElem?
        intro j
        rw[List.getElem?_take]
        by_cases hj:j<σ0.length
        · rw[if_pos hj,hlow j hj,List.getElem?_range hj]
        · rw[if_neg hj,List.getElem?_eq_none (by simp;omega)]
      have e2:(List.range σ0.length).map (fun i=>σ.getD i 0)=σ0:=by
        apply List.ext_getElem?
        intro j
        rw[List.getElem?_map]
        by_cases hj:j<σ0.length
        · rw[List.getElem?_range hj,Option.map_some]
          obtain ⟨b,h1,h2⟩:=get j (by rw[eτ];simp;omega)
          rw[h2,←h1,eτ,List.getElem?_append_left hj]
        · rw[List.getElem?_eq_none (by simp;omega),List.getElem?_eq_none (by omega)];rfl
      rw[←List.take_append_drop σ0.length I,List.map_append,e1,e2]
      simp[hlen]
    · obtain ⟨i,hi,rfl⟩:=List.mem_map.1 hb
      obtain ⟨j,hj⟩:=List.mem_iff_getElem?.1 hi
      rw[List.getElem?_drop]at hj
      have hmi:i∈I:=List.mem_of_getElem? hj
      have hge:σ0.length≤i:=by
        rcases Nat.lt_or_ge i σ0.length with hl|hl
        · have h1:=hlow i hl
          obtain ⟨l1,e1⟩:=List.getElem?_eq_some_iff.1 h1
          obtain ⟨l2,e2⟩:=List.getElem?_eq_some_iff.1 hj
          have:=(List.getElem_inj hnd).1 (e1.trans e2.symm)
          omega
        · exact hl
      obtain ⟨b',h1,h2⟩:=get i (hlt i hmi)
      rw[h2]
      rw[eτ,List.getElem?_append_right hge]at h1
      exact hτ b' (List.mem_of_getElem? h1)
def keepI (base:Nat) (m:Mem):List Nat:=(List.range m.length).filter fun i=>decide (i<base)||(match m[i]? with
  | some (_,[.row _ _ _])=>false
  | _=>true)
def frzAll (base:Nat) (st:St):T St:=match okI base st.mem.length (keepI base st.mem) with
  | true=>gcT (keepI base st.mem) st
  | false=>.fail
theorem frzAll_ok {w0 w:World} {φ σ0 σ:List Nat} {st:St} {a:Act} {base:Nat} {Q:St→Prop} (hφ : ∀ b∈φ,b<w0.heap.size) (h0:σ0.length≤base) (hS:Sat w0 φ σ0 σ st a w) (h:(frzAll base st).wp Q) :
    ∃ st' σ',Q st'∧Sat w0 φ σ0 σ' st' a w:=by
  unfold frzAll at h
  split at h
  · rename_i hI;exact gc_ok hφ h0 hI hS h
  · exact h.elim
def blankF (live:List Nat) (fr:List Av):List Av:=(List.range fr.length).map fun t=>match live.any fun s=>decide (s=t) with
  | true=>fr.getD t .any
  | false=>.any
theorem blank_ok {w0 w:World} {φ σ0 σ:List Nat} {st:St} {a:Act} (live:List Nat) (hS:Sat w0 φ σ0 σ st a w):Sat w0 φ σ0 σ ⟨blankF live st.fr,st.mem⟩ a w:=by
  refine ⟨⟨by simp[blankF];exact hS.fr.len,fun t av ht=>?_⟩,hS.mem,hS.ext,hS.keep,hS.df⟩
  simp only[blankF]at ht
  rw[List.getElem?_map]at ht
  cases hq:(List.range st.fr.length)[t]? with
  | none=>rw[hq]at ht;simp at ht
  | some t' =>
    rw[hq]at ht
    simp only[Option.map_some,Option.some.injEq]at ht
    obtain ⟨hlt,e⟩:=List.getElem?_eq_some_iff.1 hq
    rw[List.getElem_range]at e
    subst e
    rw[List.length_range]at hlt
    split at ht
    · subst ht
      refine hS.fr.at_ t _ ?_
      rw[List.getElem?_eq_getElem hlt];simp[hlt]
    · subst ht;exact .any
def Code.first:Code→Nat
  | .region id _ _=>id
  | .seq a b=>match Code.first a with|0=>Code.first b|n+1=>n+1
  | .cond _ a b=>match Code.first a with|0=>Code.first b|n+1=>n+1
  | .block _ a=>Code.first a
  | .loop a=>Code.first a
  | .rangeFunc _ _ a b=>match Code.first a with|0=>Code.first b|n+1=>n+1
  | .scope a=>Code.first a
  | _=>0
def keepsC (i:Nat):Ck→Bool
  | .p j _=>decide (j<i)
  | .pe j _ _ _=>decide (j<i)
  | .os j _ _=>decide (j<i)
  | _=>true
def keepsA (i:Nat):Av→Bool
  | .one c=>keepsC i c
  | .agg l=>l.all (keepsC i)
  | .tup _=>false
  | _=>true
def dropA (i:Nat) (av:Av):Av:=match keepsA i av with|true=>av|false=>.any
def frzT (base:Nat) (t:Tmp) (st:St):T St:=
  match st.fr[t]? with
  | some (.one (.os i n _))=>match st.mem[i]? with
    | some (_,[.row c xs _])=>match decide (base≤i)&&(st.mem.take i).all (fun e=>e.2.all (keepsC i)) with
      | true=>.need (n≤xs.length) (.ret ⟨(st.fr.map (dropA i)).set t (.one (.ds c (xs.take n))),st.mem.take i⟩)
      | false=>.fail
    | _=>.fail
  | _=>.ret st
def frzL (base:Nat):List Tmp→St→T St
  | [],st=>.ret st
  | t::r,st=>match decide (t=1000000) with
    | true=>frzAll base ⟨blankF r st.fr,st.mem⟩
    | false=>(frzT base t st).bind (frzL base r)
theorem take_low {σ:List Nat} {i j b:Nat} (h:σ[j]?=some b) (hj:decide (j<i)=true):(σ.take i)[j]?=some b:=by
  rw[List.getElem?_take,if_pos (of_decide_eq_true hj)];exact h
theorem Is.keep {w:World} {R R':Nat→Prop} {σ:List Nat} {i:Nat} (hR : ∀ b,R b→R' b) {l:List Ck} {us:List Value} (h:Is w R σ l us):l.all (keepsC i)=true→Is w R' (σ.take i) l us:=by
  induction h with
  | nil=>intro _;exact .nil
  | v h _ ih=>intro hk;simp only[List.all_cons,Bool.and_eq_true]at hk;exact .v h (ih hk.2)
  | kb _ ih=>intro hk;simp only[List.all_cons,Bool.and_eq_true]at hk;exact .kb (ih hk.2)
  | w _ ih=>intro hk;simp only[List.all_cons,Bool.and_eq_true]at hk;exact .w (ih hk.2)
  | p h _ ih=>intro hk;simp only[List.all_cons,Bool.and_eq_true,keepsC]at hk;exact .p (take_low h hk.1) (ih hk.2)
  | dn _ ih=>intro hk;simp only[List.all_cons,Bool.and_eq_true]at hk;exact .dn (ih hk.2)
  | de a cap _ ih=>intro hk;simp only[List.all_cons,Bool.and_eq_true]at hk;exact .de a cap (ih hk.2)
  | ni t v _ ih=>intro hk;simp only[List.all_cons,Bool.and_eq_true]at hk;exact .ni t v (ih hk.2)
  | ds g h1 h2 h3 h4 h5 _ ih4 ih=>intro hk;simp only[List.all_cons,Bool.and_eq_true]at hk;exact .ds g h1 (hR _ h2) h3 (fun i x hx=>(h4 i x hx).mono (fun z hz=>⟨hR z hz,rfl⟩) (fun _ _ h=>h)) h5 (ih hk.2)
  | pr h1 h2 h3 _ _ ih=>intro hk;simp only[List.all_cons,Bool.and_eq_true]at hk;exact .pr (hR _ h1) h2 (h3.mono (fun z hz=>⟨hR z hz,rfl⟩) (fun _ _ h=>h)) (ih hk.2)
  | pe h h2 _ ih=>intro hk;simp only[List.all_cons,Bool.and_eq_true,keepsC]at hk;exact .pe (take_low h hk.1) h2 (ih hk.2)
  | os h h2 _ ih=>intro hk;simp only[List.all_cons,Bool.and_eq_true,keepsC]at hk;exact .os (take_low h hk.1) h2 (ih hk.2)
  | row g h1 h2 h3 h4 h5 h6 h7 _ h9 _ ih=>intro hk;simp only[List.all_cons,Bool.and_eq_true]at hk;exact .row g h1 h2 h3 h4 h5 (fun i x hx=>(h6 i x hx).mono (fun z hz=>⟨hR z hz,rfl⟩) (fun _ _ h=>h)) h7 (ih hk.2) h9
  | any h _ ih=>intro hk;simp only[List.all_cons,Bool.and_eq_true]at hk;exact .any h (ih hk.2)
theorem drop_is {w:World} {R R':Nat→Prop} {σ:List Nat} {i:Nat} (hR : ∀ b,R b→R' b) {av:Av} {v:Value} (h:AvIs w R σ av v):AvIs w R' (σ.take i) (dropA i av) v:=by
  unfold dropA
  split
  · rename_i hk
    cases h with
    | one h1 h2=>exact .one h1 (h2.keep hR (by simpa [keepsA] using hk))
    | agg h=>exact .agg (h.keep hR hk)
    | tup=>simp[keepsA]at hk
    | nope=>exact .nope
    | any=>exact .any
  · exact .any
theorem frzT_ok {w0 w:World} {φ σ0 σ:List Nat} {st:St} {a:Act} {base:Nat} {t:Tmp} {Q:St→Prop} (hφ : ∀ b∈φ,b<w0.heap.size) (h0:σ0.length≤base) (hS:Sat w0 φ σ0 σ st a w) (h:(frzT base t st).wp Q) :
    ∃ st' σ',Q st'∧Sat w0 φ σ0 σ' st' a w:=by
  unfold frzT at h
  split at h
  · rename_i i n cap hfr
    split at h
    · rename_i ty c xs cap' hmi
      split at h
      · rename_i hk
        simp only[Bool.and_eq_true,decide_eq_true_eq]at hk
        obtain ⟨hbi,hkeep⟩:=hk
        obtain ⟨hn,hQ⟩:=h
        refine ⟨_,σ.take i,hQ,?_⟩
        have hro : ∀ b,Ro w φ σ b→Ro w φ (σ.take i) b:=fun b hb=>⟨hb.1,hb.2.1,fun h=>hb.2.2 (List.mem_of_mem_take h)⟩
        obtain ⟨b,hb,hncap,hve⟩:=is_one_os (hS.fr.at_ _ _ hfr)
        obtain ⟨us,hbl,his⟩:=hS.mem.blk i _ _ b hmi hb
        have hil:i<σ.length:=(List.getElem?_eq_some_iff.1 hb).1
        have hml:st.mem.length=σ.length:=hS.mem.len
        obtain ⟨τ,eτ,hτ⟩:=hS.ext.pre
        have hbτ:b∈τ:=by
          rw[eτ,List.getElem?_append_right (by omega)]at hb
          exact List.mem_of_getElem? hb
        have hnot:b ∉ σ.take i:=fun hm=>by
          obtain ⟨j,hj,e⟩:=List.getElem_of_mem hm
          rw[List.getElem_take]at e
          obtain ⟨l2,e2⟩:=List.getElem?_eq_some_iff.1 hb
          rw[List.length_take]at hj
          have:=(List.getElem_inj hS.mem.nodup).1 (e.trans e2.symm)
          omega
        have hRb:Ro w φ (σ.take i) b:=⟨hS.mem.lt (List.mem_of_getElem? hb),fun hm=>by
          have h1:=hφ b hm
          have h2:=hτ b hbτ
          omega,hnot⟩
        refine ⟨⟨by simp[hS.fr.len],fun s av hs=>?_⟩,⟨by simp;omega,hS.mem.nodup.sublist (List.take_sublist _ _),hS.mem.fo,hS.mem.gl.mono fun z hz=>⟨hro z hz,rfl⟩,fun j t' cs b' hj hb'=>?_⟩,?_,hS.keep,hS.df⟩
        · simp only[List.getElem?_set]at hs
          by_cases e:t=s
          · subst e
            rw[if_pos rfl]at hs
            split at hs
            · cases hs
              rw[hve]
              exact .one rfl (is_row_ds hro hRb hbl his hn hncap _)
            · cases hs
          · rw[if_neg e,List.getElem?_map]at hs
            cases hq:st.fr[s]? with
            | none=>rw[hq]at hs;simp at hs
            | some av0 =>
              rw[hq]at hs
              simp only[Option.map_some,Option.some.injEq]at hs
              subst hs
              exact drop_is hro (hS.fr.at_ s av0 hq)
        · have hj2:j<i∧st.mem[j]?=some (t',cs):=by
            simp only[List.getElem?_take]at hj
            split at hj
            · exact ⟨by assumption,hj⟩
            · cases hj
          have hb2:σ[j]?=some b':=by
            rw[List.getElem?_take,if_pos hj2.1]at hb';exact hb'
          obtain ⟨us',h3,h4⟩:=hS.mem.blk j t' cs b' hj2.2 hb2
          refine ⟨us',h3,h4.keep hro ?_⟩
          have hm:(t',cs)∈st.mem.take i:=List.mem_of_getElem? (i:=j) (by rw[List.getElem?_take,if_pos hj2.1];exact hj2.2)
          exact List.all_eq_true.1 hkeep _ hm
        · refine ⟨τ.take (i-σ0.length),?_,fun z hz=>hτ z (List.mem_of_mem_take hz)⟩
          rw[eτ,List.take_append,List.take_of_length_le (by omega)]
      · exact h.elim
    · exact h.elim
  · exact ⟨st,σ,h,hS⟩
theorem frzL_ok {w0 w:World} {φ σ0:List Nat} {a:Act} {base:Nat} (hφ : ∀ b∈φ,b<w0.heap.size) (h0:σ0.length≤base) : ∀ (l:List Tmp) (st:St) (σ:List Nat) (Q:St→Prop),Sat w0 φ σ0 σ st a w→(frzL base l st).wp Q →
    ∃ st' σ',Q st'∧Sat w0 φ σ0 σ' st' a w
  | [],st,σ,Q,hS,h=>⟨st,σ,h,hS⟩
  | t::r,st,σ,Q,hS,h=>by
    unfold frzL at h
    split at h
    · exact frzAll_ok hφ h0 (blank_ok r hS) h
    · rw[T.wp_bind]at h
      obtain ⟨st',σ',h1,hS'⟩:=frzT_ok hφ h0 hS h
      exact frzL_ok hφ h0 r st' σ' Q hS' h1
abbrev Loops:=Nat→Option (St→T (Exit×St))
def exitBlock (id:Nat):Exit→Exit
  | .exit id'=>if id'=id then .normal else .exit id'
  | e=>e
def code {P:Program} (E:Env P) (L:Loops):Code→St→T (Exit×St)
  | .skip,st=>.ret (.normal,st)
  | .label _,st=>.ret (.normal,st)
  | .region id ops false,st=>(frzL E.base (E.frz id) st).bind fun st=>(runOps (E.sel id) ops ops.toList st).bind fun st=>.ret (.normal,st)
  | .region id ops true,st=>(frzL E.base (E.frz id) st).bind fun st=>(runDraw (E.sel id) ops st).bind fun st=>.ret (.normal,st)
  | .seq x y,st=>(code E L x st).bind fun r=>match r.1 with
    | .normal=>code E L y r.2
    | e=>.ret (e,r.2)
  | .cond (.tmp t) x y,st=>match st.fr[t]? with
    | some (.one (.kb b))=>bsel b true (code E L x st) (code E L y st)
    | some (.one (.v (.bool b)))=>.ite b (code E L x (know st t true)) (code E L y (know st t false))
    | _=>.fail
  | .cond (.const (.bool b)) x y,st=>bsel b true (code E L x st) (code E L y st)
  | .block id c,st=>(code E L c st).bind fun r=>.ret (exitBlock id r.1,r.2)
  | .loop c,st=>match L (Code.first c) with
    | some run=>run st
    | none=>.fail
  | .exit id,st=>.ret (.exit id,st)
  | .ret,st=>.ret (.ret,st)
  | _,_=>.fail
def quiet:Exit→Bool
  | .panic _|.outgrown=>false
  | _=>true
def Res (w0:World) (φ σ0:List Nat) (Q:Exit×St→Prop) (e:Exit) (a:Act) (w:World):Prop:=quiet e=true ∧ ∃ st σ,Q (e,st)∧Sat w0 φ σ0 σ st a w
def LoopOk (P:Program) (k:Nat) (body:Code) (run:St→T (Exit×St)):Prop:=
  ∀ (w0:World) (φ σ0 σ:List Nat) (st:St) (a:Act) (w:World) (Q:Exit×St→Prop),σ0.length≤k→(∀ b∈φ,b<w0.heap.size)→Sat w0 φ σ0 σ st a w→(run st).wp Q→(Code.loop body).wp P (Res w0 φ σ0 Q) a w
def AllLoops (p:Nat→Code→Prop):Code→Prop
  | .seq a b=>AllLoops p a∧AllLoops p b
  | .cond _ a b=>AllLoops p a∧AllLoops p b
  | .block _ a=>AllLoops p a
  | .loop a=>p (Code.first a) a
  | _=>True
def LoopsOk (P:Program) (n:Nat) (L:Loops) (c:Code):Prop:=AllLoops (fun k body => ∀ run,L k=some run→LoopOk P n body run) c
theorem loops_none (P:Program) (n:Nat) : ∀ c:Code,LoopsOk P n (fun _=>none) c:=by
  intro c
  unfold LoopsOk
  induction c with
  | seq a b iha ihb=>exact ⟨iha,ihb⟩
  | cond _ a b iha ihb=>exact ⟨iha,ihb⟩
  | block _ a ih=>exact ih
  | loop a _=>intro run h;cases h
  | _=>trivial
section
variable {P:Program} {E:Env P} {L:Loops} {w0:World} {φ σ0:List Nat}
theorem res_hP (Q:Exit×St→Prop) : ∀ c a d v w,Res w0 φ σ0 Q (.panic c) (Act.put a d v) w→Res w0 φ σ0 Q (.panic c) a w:=fun c a d v w h=>by simp[Res,quiet]at h
theorem code_ok (hm:P.follows .mixedOrders=true) {n:Nat} (hn:σ0.length≤n) (hbase:σ0.length≤E.base) (hφ : ∀ b∈φ,b<w0.heap.size) : ∀ (c:Code) (st:St) (σ:List Nat) (a:Act) (w:World) (Q:Exit×St→Prop),LoopsOk P n L c→Sat w0 φ σ0 σ st a w→(code E L c st).wp Q→c.wp P (Res w0 φ σ0 Q) a w:=by
  intro c
  induction c with
  | skip=>intro st σ a w Q _ hS h;exact wp_skip ⟨rfl,st,σ,h,hS⟩
  | label l=>intro st σ a w Q _ hS h;exact wp_label ⟨rfl,st,σ,h,hS⟩
  | exit id=>intro st σ a w Q _ hS h;exact wp_exit ⟨rfl,st,σ,h,hS⟩
  | ret=>intro st σ a w Q _ hS h;exact wp_ret ⟨rfl,st,σ,h,hS⟩
  | region id ops d =>
    intro st σ a w Q _ hS h
    cases d with
    | false =>
      unfold code at h
      rw[T.wp_bind]at h
      obtain ⟨st,σ,h,hS⟩:=frzL_ok hφ hbase _ _ _ _ hS h
      rw[T.wp_bind]at h
      exact wp_region_list (runOps_ok (X:=Res w0 φ σ0 Q) (fun st σ a w hq hs=>⟨rfl,st,σ,hq,hs⟩) _ st σ a w hS h)
    | true =>
      unfold code at h
      rw[T.wp_bind]at h
      obtain ⟨st,σ,h,hS⟩:=frzL_ok hφ hbase _ _ _ _ hS h
      rw[T.wp_bind]at h
      exact runDraw_ok hm (fun st σ a w hq hs=>⟨rfl,st,σ,hq,hs⟩) (res_hP Q) hS h
  | seq x y ihx ihy =>
    intro st σ a w Q hL hS h
    unfold code at h
    rw[T.wp_bind]at h
    refine wp_seq (wp_mono (ihx st σ a w _ hL.1 hS h) fun e a' w' hr=>?_)
    obtain ⟨h1,st',σ',h2,h3⟩:=hr
    cases e with
    | normal=>exact ihy st' σ' a' w' Q hL.2 h3 h2
    | panic _=>cases h1
    | outgrown=>cases h1
    | exit id=>exact ⟨rfl,st',σ',h2,h3⟩
    | goto l=>exact ⟨rfl,st',σ',h2,h3⟩
    | ret=>exact ⟨rfl,st',σ',h2,h3⟩
  | cond c x y ihx ihy =>
    intro st σ a w Q hL hS h
    cases c with
    | tmp t =>
      unfold code at h
      split at h
      · rename_i b hfr
        obtain ⟨u,hu,hav⟩:=tmps_at hS.fr hfr
        rw[val_of hav rfl]at hu
        have he:a.eval (.tmp t)=.bool b:=by simp[Act.eval,hu]
        rcases bsel_wp h with ⟨rfl,h1⟩|⟨e,h1⟩
        · exact wp_cond_true he (ihx st σ a w Q hL.1 hS h1)
        · have:b=false:=by cases b <;> simp at e ⊢
          subst this
          exact wp_cond_false he (ihy st σ a w Q hL.2 hS h1)
      · rename_i b hfr
        obtain ⟨u,hu,hav⟩:=tmps_at hS.fr hfr
        rw[val_of hav rfl]at hu
        have he:a.eval (.tmp t)=.bool b:=by simp[Act.eval,hu]
        have hk:Sat w0 φ σ0 σ (know st t b) a w:=⟨know_ok hS.fr hfr,hS.mem,hS.ext,hS.keep,hS.df⟩
        cases b with
        | true=>exact wp_cond_true he (ihx _ σ a w Q hL.1 hk (h.1 rfl))
        | false=>exact wp_cond_false he (ihy _ σ a w Q hL.2 hk (h.2 rfl))
      · exact h.elim
    | const v =>
      cases v with
      | bool b =>
        unfold code at h
        rcases bsel_wp h with ⟨rfl,h1⟩|⟨e,h1⟩
        · exact wp_cond_true rfl (ihx st σ a w Q hL.1 hS h1)
        · have:b=false:=by cases b <;> simp at e ⊢
          subst this
          exact wp_cond_false rfl (ihy st σ a w Q hL.2 hS h1)
      | _=>exact h.elim
    | global g=>exact h.elim
    | func f=>exact h.elim
  | block id x ihx =>
    intro st σ a w Q hL hS h
    unfold code at h
    rw[T.wp_bind]at h
    refine wp_block (wp_mono (ihx st σ a w _ hL hS h) fun e a' w' hr=>?_)
    obtain ⟨h1,st',σ',h2,h3⟩:=hr
    cases e with
    | exit id' =>
      simp only[Exit.inBlock]
      simp only[exitBlock,T.wp]at h2
      by_cases he:id'=id
      · rw[if_pos he]at h2 ⊢;exact ⟨rfl,st',σ',h2,h3⟩
      · rw[if_neg he]at h2 ⊢;exact ⟨rfl,st',σ',h2,h3⟩
    | normal=>exact ⟨rfl,st',σ',h2,h3⟩
    | panic _=>cases h1
    | outgrown=>cases h1
    | goto l=>exact ⟨rfl,st',σ',h2,h3⟩
    | ret=>exact ⟨rfl,st',σ',h2,h3⟩
  | loop x ihx =>
    intro st σ a w Q hL hS h
    unfold code at h
    split at h
    · rename_i run hrun
      exact hL run hrun w0 φ σ0 σ st a w Q hn hφ hS h
    · exact h.elim
  | goto l=>intro st σ a w Q _ hS h;exact h.elim
  | refuse r=>intro st σ a w Q _ hS h;exact h.elim
  | scope x _=>intro st σ a w Q _ hS h;exact h.elim
  | rangeFunc f ps x y _ _=>intro st σ a w Q _ hS h;exact h.elim
end
def resT (P:Program) (st:St):List ResultVar→T (List Av)
  | []=>.ret []
  | .tmp t::r=>optT st.fr[t]? fun av=>(resT P st r).bind fun l=>.ret (av::l)
  | .cell t ty::r=>(aLoad P (fun _=>true) st.mem ty (st.fr.getD t .any)).bind fun av=>(resT P st r).bind fun l=>.ret (av::l)
def resF (tmps:Array Value):ResultVar→Sem Value
  | .tmp t=>pure (tmps.getD t undef)
  | .cell t ty=>do loadVar ty (←asAddr (tmps.getD t undef))
theorem results_eq (fn:Func) (tmps:Array Value):results fn tmps=(do let vs ←fn.results.mapM (resF tmps);pure (if h:vs.size=1 then vs[0] else .tuple vs)):=by
  unfold results
  congr 1
def resAv (l:List Av):Av:=match l with|[x]=>x|l=>.tup l
def ownOs (base:Nat) (av:Av):Bool:=(osIn av).any fun
  | .os i _ _=>decide (base≤i)
  | _=>false
def resSlots:List ResultVar→List Nat
  | []=>[]
  | .tmp t::r=>t::resSlots r
  | .cell t _::r=>t::resSlots r
def finRun (P:Program) (base:Nat) (rs:List ResultVar) (st:St):T (Av×Mem):=(resT P st rs).bind fun l=>match l.any (ownOs base) with
  | true=>(frzAll base ⟨blankF (resSlots rs) st.fr,st.mem⟩).bind fun st=>(resT P st rs).bind fun l=>.ret (resAv l,st.mem)
  | false=>.ret (resAv l,st.mem)
def fnRun {P:Program} (E:Env P) (L:Loops) (fn:Func) (args:List Av) (m:Mem):T (Av×Mem):=
  match fn.body with
  | some c=>(code (E.at_ m.length) L c ⟨args++List.replicate (fn.ntmps-args.length) .nope,m⟩).bind fun r=>match r.1 with
    | .ret|.normal=>finRun P m.length fn.results.toList r.2
    | _=>.fail
  | none=>.fail
section
variable {P:Program} {E:Env P} {L:Loops} {w0 w:World} {φ σ0 σ:List Nat} {st:St} {a:Act}
theorem resT_ok (hS:Sat w0 φ σ0 σ st a w) : ∀ (l:List ResultVar) (Q:List Av→Prop),(resT P st l).wp Q → ∃ avs vs,Q avs∧vs.length=avs.length∧(∀ (i:Nat) x v,avs[i]?=some x→vs[i]?=some v→AvIs w (Ro w φ σ) σ x v) ∧
    (l.mapM (resF a.tmps)).run P w=.ok vs w
  | [],Q,h=>⟨[],[],h,rfl,by simp,rfl⟩
  | .tmp t::r,Q,h=>by
    obtain ⟨av,hav,h1⟩:=optT_wp h
    rw[T.wp_bind]at h1
    obtain ⟨avs,vs,h2,h3,h4,h5⟩:=resT_ok hS r _ h1
    refine ⟨av::avs,a.tmps.getD t undef::vs,h2,by simp[h3],?_,?_⟩
    · intro i x v hx hv
      rcases i with _|i
      · cases hx;cases hv;exact hS.fr.at_ t _ hav
      · exact h4 i x v (by simpa using hx) (by simpa using hv)
    · rw[List.mapM_cons]
      simp only[Sem.run_bind,resF,Sem.run_pure,Result.andThen_ok,h5]
  | .cell t ty::r,Q,h=>by
    unfold resT at h
    rw[T.wp_bind]at h
    let o:Oper:={ dst:=none,op:=.load ty (.tmp t),type:=0,pos := "",after := #[],guard:=none }
    have hx:operand st.fr (.tmp t)=st.fr.getD t .any:=rfl
    obtain ⟨av,v,h1,h2,h3⟩:=tells_load (P:=P) (o:=o) (memS_all hS.mem) hS.fr rfl (by rw[hx];exact h)
    have h3':=h3 w (look_self _ _ _ _)
    rw[T.wp_bind]at h1
    obtain ⟨avs,vs,h4,h5,h6,h7⟩:=resT_ok hS r _ h1
    refine ⟨av::avs,v::vs,h4,by simp[h5],?_,?_⟩
    · intro i x u hx hu
      rcases i with _|i
      · cases hx;cases hu;exact h2
      · exact h6 i x u (by simpa using hx) (by simpa using hu)
    · have hl:(do loadVar ty (←asAddr (a.tmps.getD t undef)):Sem Value).run P w=.ok v w:=by
        unfold execOp at h3'
        simp only[o,Instr.loadAt,Act.eval,Sem.run_bind]at h3' ⊢
        generalize a.tmps.getD t undef=u at *
        cases u <;> simp[Instr.sureAddr,asAddr]at h3' ⊢
        rename_i p
        rcases p with _|p
        · simp[Instr.sureAddr]at h3'
        · simp only[Instr.sureAddr,Sem.run_pure,Result.andThen_ok]at h3' ⊢
          cases hq:(loadVar ty p).run P w with
          | ok u w'=>rw[hq]at h3';simpa using h3'
          | halt x w'=>rw[hq]at h3';simp at h3'
      rw[List.mapM_cons]
      have hl':(resF a.tmps (.cell t ty)).run P w=.ok v w:=hl
      simp only[Sem.run_bind,Sem.run_pure,Result.andThen_ok,hl',h7]
end
section
variable {P:Program} {E:Env P} {L:Loops} {w0 w:World} {φ σ0 σ:List Nat} {st:St} {a:Act}
theorem is_res {R:Nat→Prop} {avs:List Av} {vs:List Value} (hl:vs.length=avs.length) (h : ∀ (i:Nat) x v,avs[i]?=some x→vs[i]?=some v→AvIs w R σ x v) :
    AvIs w R σ (resAv avs) (if h:vs.toArray.size=1 then vs.toArray[0] else .tuple vs.toArray):=by
  unfold resAv
  split
  · rename_i x
    obtain ⟨v,rfl⟩ : ∃ v,vs=[v]:=by
      match vs,hl with
      | [v],_=>exact ⟨v,rfl⟩
    exact h 0 x v rfl rfl
  · rename_i hne
    have:¬ (vs.toArray.size=1):=by
      intro h1
      match avs,hl,h1,hne with
      | [x],_,_,hne=>exact hne x rfl
      | [],hl,h1,_=>simp at hl;subst hl;simp at h1
      | _::_::_,hl,h1,_=>simp at hl h1;omega
    rw[dif_neg this]
    exact .tup vs hl h
theorem fn_ok {f:FuncId} {fn:Func} (hm:P.follows .mixedOrders=true) (hf:P.funcs[f]?=some fn) {n:Nat} (hL : ∀ c,fn.body=some c→LoopsOk P n L c) {m:Mem} (hn:m.length≤n) {args:List Av} {vs:List Value} {Q:Av×Mem→Prop}
    (hmem:MemOk w φ σ m) (hlen:vs.length=args.length) (hargs : ∀ (i:Nat) x v,args[i]?=some x→vs[i]?=some v→AvIs w (Ro w φ σ) σ x v) (h:(fnRun E L fn args m).wp Q) :
    Calls P f vs.toArray w fun e w' => ∃ v av m' σ',e=.returned v∧Q (av,m')∧Ext w σ σ'∧Keep w σ w'∧AvIs w' (Ro w' φ σ') σ' av v∧MemOk w' φ σ' m':=by
  unfold fnRun at h
  split at h
  · rename_i c hb
    rw[T.wp_bind]at h
    have hS:Sat w φ σ σ ⟨args++List.replicate (fn.ntmps-args.length) .nope,m⟩ { tmps:=vs.toArray++Array.replicate (fn.ntmps-vs.toArray.size) undef,defers:=[] } w:=by
      refine ⟨⟨by simp[hlen],fun t av ht=>?_⟩,hmem,Ext.refl _ _,Keep.refl _ _,rfl⟩
      simp only[]at ht ⊢
      rcases Nat.lt_or_ge t args.length with hlt|hge
      · rw[List.getElem?_append_left hlt]at ht
        have hv:vs[t]?=some (vs[t]'(by rw[hlen];exact hlt)):=List.getElem?_eq_getElem _
        have:=hargs t av _ ht hv
        have e:(vs.toArray++Array.replicate (fn.ntmps-vs.toArray.size) undef).getD t undef=vs[t]'(by rw[hlen];exact hlt):=by
          simp[Array.getElem?_append,hlen,hlt]
        rw[e];exact this
      · rw[List.getElem?_append_right hge]at ht
        have:av=.nope:=by
          have:=List.mem_of_getElem? ht
          exact List.eq_of_mem_replicate this
        subst this
        have e:(vs.toArray++Array.replicate (fn.ntmps-vs.toArray.size) undef).getD t undef=undef:=by
          simp[Array.getElem?_append,hlen,Nat.not_lt.2 hge,Array.getElem?_replicate]
          split <;> rfl
        rw[e];exact .nope
    refine calls_of_wp hf hb (wp_mono (code_ok (E:=E.at_ m.length) hm (by rw[←hmem.len];exact hn) (by show σ.length≤m.length;rw[hmem.len];exact Nat.le_refl _) hmem.fo c _ σ _ w _ (hL c hb) hS h) fun e a' w' hr=>?_)
    obtain ⟨h1,st',σ',h2,h3⟩:=hr
    have fin:(finRun P m.length fn.results.toList st').wp Q→bodyPost P fn (fun e w' => ∃ v av m' σ',e=.returned v∧Q (av,m')∧Ext w σ σ'∧Keep w σ w'∧AvIs w' (Ro w' φ σ') σ' av v∧MemOk w' φ σ' m') .ret a' w':=by
      intro h4
      have last : ∀ (st':St) (σ':List Nat),Sat w φ σ σ' st' a' w'→((resT P st' fn.results.toList).wp fun l=>Q (resAv l,st'.mem))→bodyPost P fn (fun e w' => ∃ v av m' σ',e=.returned v∧Q (av,m')∧Ext w σ σ'∧Keep w σ w'∧AvIs w' (Ro w' φ σ') σ' av v∧MemOk w' φ σ' m') .ret a' w':=by
        intro st' σ' h3 h4
        obtain ⟨avs,vs',g1,g2,g3,g4⟩:=resT_ok h3 _ _ h4
        refine ⟨h3.df,_,?_,_,resAv avs,st'.mem,σ',rfl,g1,h3.ext,h3.keep,is_res g2 g3,h3.mem⟩
        rw[results_eq,Array.mapM_eq_mapM_toList]
        simp only[Sem.run_bind,Sem.run_map,Sem.run_pure,g4,Result.andThen_ok]
      unfold finRun at h4
      rw[T.wp_bind]at h4
      obtain ⟨avs,vs',g1,g2,g3,g4⟩:=resT_ok h3 _ _ h4
      split at g1
      · rw[T.wp_bind]at g1
        obtain ⟨st2,σ2,h5,h6⟩:=frzAll_ok hmem.fo (by rw[←hmem.len];exact Nat.le_refl _) (blank_ok _ h3) g1
        rw[T.wp_bind]at h5
        exact last st2 σ2 h6 h5
      · refine ⟨h3.df,_,?_,_,resAv avs,st'.mem,σ',rfl,g1,h3.ext,h3.keep,is_res g2 g3,h3.mem⟩
        rw[results_eq,Array.mapM_eq_mapM_toList]
        simp only[Sem.run_bind,Sem.run_map,Sem.run_pure,g4,Result.andThen_ok]
    cases e with
    | normal=>exact fin h2
    | ret=>exact fin h2
    | panic _=>cases h1
    | outgrown=>cases h1
    | exit _=>exact h2.elim
    | goto _=>exact h2.elim
  · exact h.elim
end
def noC:Ck→Bool
  | .p .. => false
  | .pe .. => false
  | .os .. => false
  | .row .. => false
  | _=>true
def no1:Av→Bool
  | .one c=>noC c
  | .agg l=>l.all noC
  | .tup _=>false
  | _=>true
def noA:Av→Bool
  | .one c=>noC c
  | .agg l=>l.all noC
  | .tup l=>l.all no1
  | _=>true
theorem is_no {w:World} {R:Nat→Prop} {σ:List Nat} {l:List Ck} {us:List Value} (h:Is w R σ l us):l.all noC=true→Is w R [] l us:=by
  induction h with
  | nil=>intro _;exact .nil
  | v h _ ih=>intro hn;exact .v h (ih (by simpa [noC] using hn))
  | kb _ ih=>intro hn;exact .kb (ih (by simpa [noC] using hn))
  | w _ ih=>intro hn;exact .w (ih (by simpa [noC] using hn))
  | p _ _ _=>intro hn;simp[noC]at hn
  | dn _ ih=>intro hn;exact .dn (ih (by simpa [noC] using hn))
  | de a cap _ ih=>intro hn;exact .de a cap (ih (by simpa [noC] using hn))
  | ni t v _ ih=>intro hn;exact .ni t v (ih (by simpa [noC] using hn))
  | ds g h1 h2 h3 h4 h5 _ _ ih=>intro hn;exact .ds g h1 h2 h3 h4 h5 (ih (by simpa [noC] using hn))
  | pr h1 h2 h3 _ _ ih=>intro hn;exact .pr h1 h2 h3 (ih (by simpa [noC] using hn))
  | pe _ _ _ _=>intro hn;simp[noC]at hn
  | os _ _ _ _=>intro hn;simp[noC]at hn
  | row=>intro hn;simp[noC]at hn
  | any h _ ih=>intro hn;exact .any h (ih (by simpa [noC] using hn))
theorem av_no1 {w:World} {R:Nat→Prop} {σ:List Nat} {a:Av} {v:Value} (h:AvIs w R σ a v) (hn:no1 a=true):AvIs w R [] a v:=by
  cases h with
  | one h1 h2=>exact .one h1 (is_no h2 (by simpa [no1] using hn))
  | agg h=>exact .agg (is_no h hn)
  | tup=>simp[no1]at hn
  | nope=>exact .nope
  | any=>exact .any
theorem av_no {w:World} {R:Nat→Prop} {σ:List Nat} {a:Av} {v:Value} (h:AvIs w R σ a v) (hn:noA a=true):AvIs w R [] a v:=by
  cases h with
  | one h1 h2=>exact .one h1 (is_no h2 (by simpa [noA] using hn))
  | agg h=>exact .agg (is_no h hn)
  | tup us hl hi =>
    refine .tup us hl fun i x u hx hu=>av_no1 (hi i x u hx hu) ?_
    have:=List.all_eq_true.1 hn x (List.mem_of_getElem? hx)
    exact this
  | nope=>exact .nope
  | any=>exact .any
theorem AvIs.ro {w:World} {R R':Nat→Prop} {a:Av} {v:Value} (h:AvIs w R [] a v) (hR : ∀ b,R b→R' b) (σ':List Nat):AvIs w R' σ' a v:=h.mono (fun b hb=>⟨hR b hb,rfl⟩) (fun i b hi=>by simp at hi)
abbrev Els:List (Bool×Cd)→Type
  | []=>Unit
  | t::ts=>El t.2×Els ts
def encA (row:Bool) (c:Cd) (x:El c):Av:=match row with
  | true=>.agg (ck c x)
  | false=>match ck c x with
    | [k]=>.one k
    | _=>.any
def decA (row:Bool) (c:Cd) (av:Av):Option (El c):=match row,av with
  | true,.agg cs=>(match parse c cs with|some (x,[])=>some x|_=>none)
  | false,.one k=>(match parse c [k] with|some (x,[])=>some x|_=>none)
  | _,_=>none
def encs:(ts:List (Bool×Cd))→Els ts→List Av
  | [],_=>[]
  | t::ts,x=>encA t.1 t.2 x.1::encs ts x.2
def decs:(ts:List (Bool×Cd))→List Av→Option (Els ts)
  | [],[]=>some ()
  | t::ts,a::r=>match decA t.1 t.2 a,decs ts r with
    | some x,some xs=>some (x,xs)
    | _,_=>none
  | _,_=>none
theorem decA_ok {w:World} {R:Nat→Prop} {σ:List Nat} {row:Bool} {c:Cd} {av:Av} {x:El c} {v:Value} (hd:decA row c av=some x) (h:AvIs w R σ av v):AvIs w R [] (encA row c x) v:=by
  unfold decA at hd
  split at hd
  · rename_i cs
    split at hd
    · rename_i y hp
      cases hd
      cases h with
      | agg h =>
        obtain ⟨ua,ub,rfl,i1,i2⟩:=parse_ok c cs x [] _ hp h
        cases i2
        rw[List.append_nil]
        exact .agg i1
    · cases hd
  · rename_i k
    split at hd
    · rename_i y hp
      cases hd
      cases h with
      | one h1 h2 =>
        obtain ⟨ua,ub,e,i1,i2⟩:=parse_ok c [k] x [] _ hp h2
        cases i2
        rw[List.append_nil]at e
        subst e
        show AvIs w R [] (match ck c x with|[k]=>.one k|_=>.any) v
        split
        · rename_i k' hk
          rw[hk]at i1
          have:=is_len _ i1
          refine .one ?_ i1
          simpa [ckLen] using this.symm
        · exact .any
    · cases hd
  · cases hd
theorem decs_ok {w:World} {R:Nat→Prop} {σ:List Nat} : ∀ (ts:List (Bool×Cd)) (args:List Av) (x:Els ts) (vs:List Value),decs ts args=some x→vs.length=args.length →
    (∀ (i:Nat) a v,args[i]?=some a→vs[i]?=some v→AvIs w R σ a v)→vs.length=(encs ts x).length ∧ ∀ (i:Nat) a v,(encs ts x)[i]?=some a→vs[i]?=some v→AvIs w R [] a v
  | [],[],x,vs,_,hl,_=>⟨by simpa [encs] using hl,by simp[encs]⟩
  | [],_::_,x,vs,h,_,_=>by simp[decs]at h
  | t::ts,[],x,vs,h,_,_=>by simp[decs]at h
  | t::ts,a::r,x,vs,h,hl,ha=>by
    obtain ⟨v,vs,rfl⟩ : ∃ o r,vs=o::r:=by
      match vs,hl with
      | o::r,_=>exact ⟨o,r,rfl⟩
    unfold decs at h
    split at h
    · rename_i y ys hy hys
      cases h
      have ih:=decs_ok ts r ys vs hys (by simpa using hl) (fun i a v h1 h2=>ha (i+1) a v (by simpa using h1) (by simpa using h2))
      refine ⟨by simp[encs,ih.1],fun i b u hb hu=>?_⟩
      rcases i with _|i
      · cases hb;cases hu;exact decA_ok hy (ha 0 a v rfl rfl)
      · exact ih.2 i b u (by simpa [encs] using hb) (by simpa using hu)
    · cases h
def pureRun' (ts:List (Bool×Cd)) (sp:Els ts→T Av) (args:List Av) (m:Mem):T (Av×Mem):=
  match decs ts args with
  | some x=>(sp x).bind fun av=>.ret (av,m)
  | none=>.fail
theorem pure_ok {P:Program} {E:Env P} {L:Loops} {f:FuncId} {fn:Func} (hm:P.follows .mixedOrders=true) (hf:P.funcs[f]?=some fn) (hL : ∀ c,fn.body=some c→LoopsOk P 0 L c) (ts:List (Bool×Cd)) (sp:Els ts→T Av)
    (h : ∀ x Q,(sp x).wp Q→(fnRun E L fn (encs ts x) []).wp fun r=>Q r.1∧noA r.1=true):ConOk P f [] (pureRun' ts sp):=by
  intro w φ σ m args vs Q hmem hlen hargs hrun
  unfold pureRun' at hrun
  split at hrun
  · rename_i x hx
    rw[T.wp_bind]at hrun
    obtain ⟨hl,ha⟩:=decs_ok ts args x vs hx hlen hargs
    have hro : ∀ b,Ro w φ σ b→Ro w (φ++σ) [] b:=fun b hb=>⟨hb.1,by simp[hb.2.1,hb.2.2],by simp⟩
    have hmem0:MemOk w (φ++σ) [] []:=⟨rfl,by simp,fun b hb=>by
      rcases List.mem_append.1 hb with h1|h1
      · exact hmem.fo b h1
      · exact hmem.lt h1,hmem.gl.mono fun z hz=>⟨hro z hz,rfl⟩,fun i t cs b h1 h2=>by simp at h1⟩
    refine (fn_ok (E:=E) (L:=L) hm hf hL (Nat.zero_le _) hmem0 hl (fun i a v h1 h2=>(ha i a v h1 h2).ro hro []) (h x _ hrun)).mono fun e w' hr=>?_
    obtain ⟨v,av,m',σ',rfl,⟨hQ,hno⟩,hext,hkeep,hav,hmem'⟩:=hr
    have hk:Keep w σ w':=⟨hkeep.os,hkeep.tape,hkeep.output,hkeep.size,fun k hk _=>hkeep.block k hk (by simp)⟩
    have hown : ∀ i b:Nat,σ[i]?=some b→w'.heap[b]?=w.heap[b]?:=fun i b hi=>hkeep.block b (hmem.lt (List.mem_of_getElem? hi)) (by simp)
    refine ⟨v,av,m,σ,rfl,hQ,Ext.refl _ _,hk,fun i b hi _=>hown i b hi,(av_no hav hno).ro (fun b hb=>⟨hb.1,?_,?_⟩) σ,hmem.stay hk (Ext.refl _ _) rfl hown⟩
    · exact fun hb'=>hb.2.1 (by simp[hb'])
    · exact fun hb'=>hb.2.1 (by simp[hb'])
  · exact hrun.elim
def nC:Ck→Ck
  | .kb b=>.v (.bool b)
  | c=>c
def n1:Av→Av
  | .one c=>.one (nC c)
  | .agg l=>.agg (l.map nC)
  | a=>a
def nA:Av→Av
  | .tup l=>.tup (l.map n1)
  | a=>n1 a
theorem is_nC {w:World} {R:Nat→Prop} {σ:List Nat} {l:List Ck} {us:List Value} (h:Is w R σ l us):Is w R σ (l.map nC) us:=by
  induction h with
  | nil=>exact .nil
  | v h _ ih=>exact .v h ih
  | kb _ ih=>exact .v rfl ih
  | w _ ih=>exact .w ih
  | p h _ ih=>exact .p h ih
  | dn _ ih=>exact .dn ih
  | de a cap _ ih=>exact .de a cap ih
  | ni t v _ ih=>exact .ni t v ih
  | ds g h1 h2 h3 h4 h5 _ _ ih=>exact .ds g h1 h2 h3 h4 h5 ih
  | pr h1 h2 h3 _ _ ih=>exact .pr h1 h2 h3 ih
  | pe h h2 _ ih=>exact .pe h h2 ih
  | os h h2 _ ih=>exact .os h h2 ih
  | row g h1 h2 h3 h4 h5 h6 h7 _ h9 _ ih=>exact .row g h1 h2 h3 h4 h5 h6 h7 ih h9
  | any h _ ih=>exact .any h ih
theorem nC_size (c:Ck):(nC c).size=c.size:=by cases c <;> rfl
theorem n1_is {w:World} {R:Nat→Prop} {σ:List Nat} {a:Av} {v:Value} (h:AvIs w R σ a v):AvIs w R σ (n1 a) v:=by
  cases h with
  | one h1 h2=>exact .one (by rw[nC_size];exact h1) (is_nC h2)
  | agg h=>exact .agg (is_nC h)
  | tup us hl hi=>exact .tup us hl hi
  | nope=>exact .nope
  | any=>exact .any
theorem nA_is {w:World} {R:Nat→Prop} {σ:List Nat} {a:Av} {v:Value} (h:AvIs w R σ a v):AvIs w R σ (nA a) v:=by
  cases h with
  | tup us hl hi =>
    refine .tup us (by simpa using hl) fun i x u hx hu=>?_
    rw[List.getElem?_map]at hx
    rename_i l
    cases hq:l[i]? with
    | none=>rw[hq]at hx;simp at hx
    | some y =>
      rw[hq]at hx
      simp only[Option.map_some,Option.some.injEq]at hx
      subst hx
      exact n1_is (hi i y u hq hu)
  | one h1 h2=>exact n1_is (.one h1 h2)
  | agg h=>exact n1_is (.agg h)
  | nope=>exact .nope
  | any=>exact .any
def fnP {P:Program} (E:Env P) (L:Loops) (fn:Func) (args:List Av):T Av:=
  (fnRun E L fn args []).bind fun r=>match noA r.1 with
    | true=>.ret (nA r.1)
    | false=>.fail
theorem fnP_wp {P:Program} {E:Env P} {L:Loops} {fn:Func} {args:List Av} {Q:Av→Prop} (h:(fnP E L fn args).wp Q):(fnRun E L fn args []).wp fun r=>Q (nA r.1)∧noA r.1=true:=by
  unfold fnP at h
  rw[T.wp_bind]at h
  refine T.wp_mono (fun r hr=>?_) h
  split at hr
  · rename_i hn;exact ⟨hr,hn⟩
  · exact hr.elim
theorem con_ok {P:Program} {E:Env P} {L:Loops} {f:FuncId} {fn:Func} (hm:P.follows .mixedOrders=true) (hf:P.funcs[f]?=some fn) (hL : ∀ c,fn.body=some c→LoopsOk P 0 L c) (ts:List (Bool×Cd)) (sp:Els ts→T Av)
    (h : ∀ x Q,(sp x).wp Q→(fnP E L fn (encs ts x)).wp Q):ConOk P f [] (pureRun' ts sp):=by
  intro w φ σ m args vs Q hmem hlen hargs hrun
  unfold pureRun' at hrun
  split at hrun
  · rename_i x hx
    rw[T.wp_bind]at hrun
    have hq:=fnP_wp (h x _ hrun)
    have:=pure_ok (E:=E) (L:=L) hm hf hL ts (fun x=>(fnRun E L fn (encs ts x) []).bind fun r=>match noA r.1 with|true=>.ret r.1|false=>.fail) (fun x Q hq=>by
      rw[T.wp_bind]at hq
      refine T.wp_mono (fun r hr=>?_) hq
      split at hr
      · rename_i hn;exact ⟨hr,hn⟩
      · exact hr.elim) w φ σ m args vs (fun r=>Q (nA r.1,r.2)) hmem hlen hargs (by
      unfold pureRun'
      rw[hx]
      simp only[T.wp_bind]
      refine T.wp_mono (fun r hr=>?_) hq
      rw[hr.2]
      exact hr.1)
    refine this.mono fun e w' hr=>?_
    obtain ⟨v,av,m',σ',he,hQ,h1,h2,h3,h4,h5⟩:=hr
    exact ⟨v,nA av,m',σ',he,hQ,h1,h2,h3,nA_is h4,h5⟩
  · exact hrun.elim
def ptr1 {P:Program} (E:Env P) (L:Loops) (fn:Func) (k:Nat) (ty:TypeId) (c:Cd) (x:El c) (args:List Av):T (Av×El c):=
  (fnRun E L fn (args.take k++.one (.p 0 0)::args.drop k) [(ty,ck c x)]).bind fun r=>match noA r.1,r.2[0]? with
    | true,some (ty',cs)=>if ty'=ty then (match parse c cs with
      | some (y,[])=>.ret (nA r.1,y)
      | _=>.fail) else .fail
    | _,_=>.fail
def ptr1Run (k:Nat) (ty:TypeId) (c:Cd) (ts:List (Bool×Cd)) (sp:El c→Els ts→T (Av×El c)) (args:List Av) (m:Mem):T (Av×Mem):=
  match args[k]? with
  | some (.one (.p i 0))=>match m[i]? with
    | some (ty',cs)=>if ty'=ty then (match parse c cs,decs ts (args.take k++args.drop (k+1)) with
      | some (x,[]),some xs=>(sp x xs).bind fun r=>.ret (r.1,m.set i (ty,ck c r.2))
      | _,_=>.fail) else .fail
    | none=>.fail
  | _=>.fail
theorem ptr1_ok {P:Program} {E:Env P} {L:Loops} {f:FuncId} {fn:Func} (hm:P.follows .mixedOrders=true) (hf:P.funcs[f]?=some fn) (hL : ∀ c,fn.body=some c→LoopsOk P 1 L c) (k:Nat) (ty:TypeId) (c:Cd) (ts:List (Bool×Cd)) (sp:El c→Els ts→T (Av×El c))
    (h : ∀ x xs Q,(sp x xs).wp Q→(ptr1 E L fn k ty c x (encs ts xs)).wp Q):ConOk P f [k] (ptr1Run k ty c ts sp):=by
  intro w φ σ m args vs Q hmem hlen hargs hrun
  unfold ptr1Run at hrun
  split at hrun
  · rename_i i hk
    split at hrun
    · rename_i ty' cs hmi
      by_cases hty:ty'=ty
      · rw[if_pos hty]at hrun
        subst hty
        split at hrun
        · rename_i x xs hp hd
          rw[T.wp_bind]at hrun
          have hrun:=h x xs _ hrun
          unfold ptr1 at hrun
          rw[T.wp_bind]at hrun
          have hkl:k<args.length:=(List.getElem?_eq_some_iff.1 hk).1
          have hvk:vs[k]?=some (vs[k]'(by omega)):=List.getElem?_eq_getElem _
          obtain ⟨b,hb,hve⟩:=is_one_p (hargs k _ _ hk hvk)
          have hbm:b∈σ:=List.mem_of_getElem? hb
          have hblt:=hmem.lt hbm
          obtain ⟨us,hbl,his⟩:=hmem.blk i _ cs b hmi hb
          obtain ⟨ua,ub,rfl,i1,i2⟩:=parse_ok c cs x [] us hp his
          cases i2
          rw[List.append_nil]at hbl
          have hro : ∀ z,Ro w φ σ z→Ro w (φ++σ.erase b) [b] z:=fun z hz=>⟨hz.1,by
            intro hm
            rcases List.mem_append.1 hm with h1|h1
            · exact hz.2.1 h1
            · exact hz.2.2 (List.mem_of_mem_erase h1),by
            intro hm
            rw[List.mem_singleton]at hm
            subst hm
            exact hz.2.2 hbm⟩
          have hmem0:MemOk w (φ++σ.erase b) [b] [(ty',ck c x)]:=⟨rfl,by simp,fun z hz=>by
              rcases List.mem_append.1 hz with h1|h1
              · exact hmem.fo z h1
              · exact hmem.lt (List.mem_of_mem_erase h1),hmem.gl.mono fun z hz=>⟨hro z hz,rfl⟩,fun j t cs' b' hj hb'=>by
              rcases j with _|j
              · simp only[List.getElem?_cons_zero,Option.some.injEq]at hj hb'
                cases hj;subst hb'
                exact ⟨ua,hbl,(i1.mono (fun z hz=>⟨hro z hz,rfl⟩) (fun _ _ h=>by simp at h))⟩
              · simp at hj⟩
          have hsplit:vs=vs.take k++vs[k]'(by omega)::vs.drop (k+1):=by simp
          have hl1:(vs.take k++vs.drop (k+1)).length=(args.take k++args.drop (k+1)).length:=by simp[hlen]
          obtain ⟨hle,hae⟩:=decs_ok (w:=w) (R:=Ro w φ σ) (σ:=σ) ts _ xs (vs.take k++vs.drop (k+1)) hd hl1 (fun j a v ha hv=>by
            rcases Nat.lt_or_ge j k with hj|hj
            · rw[List.getElem?_append_left (by simp;omega),List.getElem?_take,if_pos hj]at ha
              rw[List.getElem?_append_left (by simp;omega),List.getElem?_take,if_pos hj]at hv
              exact hargs j a v ha hv
            · rw[List.getElem?_append_right (by simp;omega),List.getElem?_drop]at ha
              rw[List.getElem?_append_right (by simp;omega),List.getElem?_drop]at hv
              have e1:(args.take k).length=k:=by simp;omega
              have e2:(vs.take k).length=k:=by simp;omega
              rw[e1]at ha
              rw[e2]at hv
              exact hargs _ a v ha hv)
          have hek:k≤(encs ts xs).length:=by rw[←hle];simp;omega
          have hlen2:vs.length=((encs ts xs).take k++.one (.p 0 0)::(encs ts xs).drop k).length:=by
            have:=hle
            simp at this ⊢
            omega
          have hargs2 : ∀ (j:Nat) a v,((encs ts xs).take k++.one (.p 0 0)::(encs ts xs).drop k)[j]?=some a→vs[j]?=some v→AvIs w (Ro w (φ++σ.erase b) [b]) [b] a v:=by
            intro j a v ha hv
            have e1:((encs ts xs).take k).length=k:=by simp;omega
            rcases Nat.lt_trichotomy j k with hj|hj|hj
            · rw[List.getElem?_append_left (by omega),List.getElem?_take,if_pos hj]at ha
              have hv2:(vs.take k++vs.drop (k+1))[j]?=some v:=by
                rw[List.getElem?_append_left (by simp;omega),List.getElem?_take,if_pos hj];exact hv
              exact (hae j a v ha hv2).ro hro [b]
            · subst hj
              rw[List.getElem?_append_right (by omega),e1,Nat.sub_self,List.getElem?_cons_zero]at ha
              cases ha
              have:v=.pointer (some ⟨b,0,none⟩):=by
                rw[hvk]at hv
                cases hv;exact hve
              subst this
              exact .one rfl (.p rfl .nil)
            · rw[List.getElem?_append_right (by omega),e1]at ha
              obtain ⟨d,rfl⟩ : ∃ d,j=k+1+d:=⟨j-k-1,by omega⟩
              rw[show k+1+d-k=d+1 from by omega,List.getElem?_cons_succ,List.getElem?_drop]at ha
              have hv2:(vs.take k++vs.drop (k+1))[k+d]?=some v:=by
                rw[List.getElem?_append_right (by simp;omega),List.getElem?_drop]
                have e2:(vs.take k).length=k:=by simp;omega
                rw[e2,show k+1+(k+d-k)=k+1+d from by omega];exact hv
              exact (hae (k+d) a v ha hv2).ro hro [b]
          refine (fn_ok (E:=E) (L:=L) hm hf hL (Nat.le_refl _) hmem0 hlen2 hargs2 hrun).mono fun e w' hr=>?_
          obtain ⟨v,av,m',σ',rfl,hQ,hext,hkeep,hav,hmem'⟩:=hr
          split at hQ
          · rename_i ty2 cs2 hno hm0
            by_cases hty2:ty2=ty'
            · rw[if_pos hty2]at hQ
              subst hty2
              split at hQ
              · rename_i y hp2
                have hb0:σ'[0]?=some b:=hext.get rfl
                obtain ⟨us2,hbl2,his2⟩:=hmem'.blk 0 ty2 cs2 b hm0 hb0
                obtain ⟨va,vb,rfl,j1,j2⟩:=parse_ok c cs2 y [] us2 hp2 his2
                cases j2
                rw[List.append_nil]at hbl2
                have hkeep2:Keep w σ w':=⟨hkeep.os,hkeep.tape,hkeep.output,hkeep.size,fun z hz hn=>hkeep.block z hz (fun h=>by
                  rw[List.mem_singleton]at h
                  subst h
                  exact hn hbm)⟩
                have hro2 : ∀ z,Ro w' (φ++σ.erase b) σ' z→Ro w' φ σ z:=fun z hz=>⟨hz.1,fun h=>hz.2.1 (by simp[h]),fun h=>by
                  by_cases hzb:z=b
                  · subst hzb;exact hz.2.2 (List.mem_of_getElem? hb0)
                  · exact hz.2.1 (List.mem_append.2 (.inr ((List.mem_erase_of_ne hzb).2 h)))⟩
                have hoth : ∀ z:Nat,z≠b→z<w.heap.size→w'.heap[z]?=w.heap[z]?:=fun z hz hlt=>hkeep.block z hlt (by simpa using hz)
                refine ⟨v,nA av,m.set i (ty2,ck c y),σ,rfl,hQ,Ext.refl _ _,hkeep2,fun j b' hj hn=>?_,(nA_is (av_no hav hno)).ro hro2 σ,?_⟩
                · refine hoth b' (fun e=>?_) (hmem.lt (List.mem_of_getElem? hj))
                  subst e
                  apply hn
                  obtain ⟨l1,e1⟩:=List.getElem?_eq_some_iff.1 hb
                  obtain ⟨l2,e2⟩:=List.getElem?_eq_some_iff.1 hj
                  have:=(List.getElem_inj hmem.nodup).1 (e1.trans e2.symm)
                  subst this
                  refine mem_wrOf ?_
                  unfold wrDirect
                  simp[hk]
                · refine ⟨by simp[hmem.len],hmem.nodup,fun z hz=>Nat.lt_of_lt_of_le (hmem.fo z hz) hkeep.size,hmem'.gl.mono fun z hz=>⟨hro2 z hz,rfl⟩,fun j t cs' b' hj hb'=>?_⟩
                  rw[List.getElem?_set]at hj
                  by_cases e:i=j
                  · subst e
                    rw[if_pos rfl]at hj
                    split at hj
                    · cases hj
                      rw[hb]at hb'
                      cases hb'
                      exact ⟨va,hbl2,j1.mono (fun z hz=>⟨hro2 z hz,rfl⟩) (fun _ _ h=>by simp at h)⟩
                    · cases hj
                  · rw[if_neg e]at hj
                    obtain ⟨us3,g1,g2⟩:=hmem.blk j t cs' b' hj hb'
                    have hne:b'≠b:=by
                      rintro rfl
                      obtain ⟨l1,e1⟩:=List.getElem?_eq_some_iff.1 hb
                      obtain ⟨l2,e2⟩:=List.getElem?_eq_some_iff.1 hb'
                      exact e ((List.getElem_inj hmem.nodup).1 (e1.trans e2.symm))
                    exact ⟨us3,(hoth b' hne (hmem.lt (List.mem_of_getElem? hb'))).trans g1,g2.mono (hkeep2.ro (Ext.refl _ _)) (fun _ _ h=>h)⟩
              · exact hQ.elim
            · rw[if_neg hty2]at hQ;exact hQ.elim
          · exact hQ.elim
        · exact hrun.elim
      · rw[if_neg hty]at hrun;exact hrun.elim
    · exact hrun.elim
  · exact hrun.elim
def row1 {P:Program} (E:Env P) (L:Loops) (fn:Func) (ty:TypeId) (c:Cd) (xs:List (El c)) (n cap:Nat):T (Av×List (El c)):=
  (fnRun E L fn [.one (.os 0 n cap)] [(ty,[.row c xs cap])]).bind fun (r:Av×Mem)=>match noA r.1,r.2[0]? with
    | true,some (ty',[Ck.row c' ys cap'])=>if ty'=ty then optT (castRow c' c ys) fun ys=>.need (cap'=cap) (.ret (nA r.1,ys)) else .fail
    | _,_=>.fail
def row1Run (ty:TypeId) (c:Cd) (sp:List (El c)→Nat→Nat→T (Av×List (El c))) (args:List Av) (m:Mem):T (Av×Mem):=
  match args with
  | [.one (.os i n cap)]=>match m[i]? with
    | some (ty',[.row c' xs cap'])=>if ty'=ty then optT (castRow c' c xs) fun xs=>.need (cap'=cap) ((sp xs n cap).bind fun r=>.ret (r.1,m.set i (ty,[.row c r.2 cap]))) else .fail
    | _=>.fail
  | _=>.fail
theorem castRow_is {w:World} {R:Nat→Prop} {σ:List Nat} {c c':Cd} {xs:List (El c)} {ys:List (El c')} {cap:Nat} {us:List Value} (h:castRow c c' xs=some ys) (hi:Is w R σ [.row c xs cap] us):Is w R σ [.row c' ys cap] us:=by
  unfold castRow at h
  split at h
  · rename_i e;subst e;cases h;exact hi
  · cases h
theorem row_none {w:World} {R:Nat→Prop} {σ:List Nat} {c:Cd} {xs:List (El c)} {cap:Nat} {us:List Value} (h:Is w R σ [.row c xs cap] us) (σ':List Nat):Is w R σ' [.row c xs cap] us:=by
  obtain ⟨g,h1,h2,h3,h4,h5,h6,h7⟩:=is_row h
  exact .row g h1 h2 h3 h4 h5 h6 h7 .nil (List.append_nil _).symm
theorem row1_ok {P:Program} {E:Env P} {L:Loops} {f:FuncId} {fn:Func} (hm:P.follows .mixedOrders=true) (hf:P.funcs[f]?=some fn) (hL : ∀ c,fn.body=some c→LoopsOk P 1 L c) (ty:TypeId) (c:Cd) (sp:List (El c)→Nat→Nat→T (Av×List (El c)))
    (h : ∀ xs n cap Q,(sp xs n cap).wp Q→(row1 E L fn ty c xs n cap).wp Q):ConOk P f [0] (row1Run ty c sp):=by
  intro w φ σ m args vs Q hmem hlen hargs hrun
  unfold row1Run at hrun
  split at hrun
  · rename_i i n cap
    split at hrun
    · rename_i ty' c' xs cap' hmi
      by_cases hty:ty'=ty
      · rw[if_pos hty]at hrun
        subst hty
        obtain ⟨xs',hcast,hcap,hrun⟩:=optT_wp hrun
        subst hcap
        rw[T.wp_bind]at hrun
        have hrun:=h xs' n cap' _ hrun
        unfold row1 at hrun
        rw[T.wp_bind]at hrun
        obtain ⟨v0,rfl⟩ : ∃ v,vs=[v]:=by
          match vs,hlen with
          | [v],_=>exact ⟨v,rfl⟩
        obtain ⟨b,hb,hncap,hve⟩:=is_one_os (hargs 0 _ _ rfl rfl)
        have hbm:b∈σ:=List.mem_of_getElem? hb
        have hblt:=hmem.lt hbm
        obtain ⟨us,hbl,his⟩:=hmem.blk i _ _ b hmi hb
        have his:=castRow_is hcast his
        have hro : ∀ z,Ro w φ σ z→Ro w (φ++σ.erase b) [b] z:=fun z hz=>⟨hz.1,by
          intro hm
          rcases List.mem_append.1 hm with h1|h1
          · exact hz.2.1 h1
          · exact hz.2.2 (List.mem_of_mem_erase h1),by
          intro hm
          rw[List.mem_singleton]at hm
          subst hm
          exact hz.2.2 hbm⟩
        have hmem0:MemOk w (φ++σ.erase b) [b] [(ty',[.row c xs' cap'])]:=⟨rfl,by simp,fun z hz=>by
            rcases List.mem_append.1 hz with h1|h1
            · exact hmem.fo z h1
            · exact hmem.lt (List.mem_of_mem_erase h1),hmem.gl.mono fun z hz=>⟨hro z hz,rfl⟩,fun j t cs' b' hj hb'=>by
            rcases j with _|j
            · simp only[List.getElem?_cons_zero,Option.some.injEq]at hj hb'
              cases hj;subst hb'
              exact ⟨us,hbl,(row_none his []).mono (fun z hz=>⟨hro z hz,rfl⟩) (fun _ _ h=>by simp at h)⟩
            · simp at hj⟩
        have hargs2 : ∀ (j:Nat) a v,([.one (.os 0 n cap')]:List Av)[j]?=some a→[v0][j]?=some v→AvIs w (Ro w (φ++σ.erase b) [b]) [b] a v:=by
          intro j a v ha hv
          rcases j with _|j
          · cases ha;cases hv
            rw[hve]
            exact .one rfl (.os rfl hncap .nil)
          · simp at ha
        refine (fn_ok (E:=E) (L:=L) hm hf hL (Nat.le_refl _) hmem0 rfl hargs2 hrun).mono fun e w' hr=>?_
        obtain ⟨v,av,m',σ',rfl,hQ,hext,hkeep,hav,hmem'⟩:=hr
        split at hQ
        · rename_i ty2 c2 ys cap2 hno hm0
          by_cases hty2:ty2=ty'
          · rw[if_pos hty2]at hQ
            subst hty2
            obtain ⟨ys',hcast2,hcap2,hQ⟩:=optT_wp hQ
            subst hcap2
            have hb0:σ'[0]?=some b:=hext.get rfl
            obtain ⟨us2,hbl2,his2⟩:=hmem'.blk 0 ty2 _ b hm0 hb0
            have his2:=castRow_is hcast2 his2
            have hkeep2:Keep w σ w':=⟨hkeep.os,hkeep.tape,hkeep.output,hkeep.size,fun z hz hn=>hkeep.block z hz (fun h=>by
              rw[List.mem_singleton]at h
              subst h
              exact hn hbm)⟩
            have hro2 : ∀ z,Ro w' (φ++σ.erase b) σ' z→Ro w' φ σ z:=fun z hz=>⟨hz.1,fun h=>hz.2.1 (by simp[h]),fun h=>by
              by_cases hzb:z=b
              · subst hzb;exact hz.2.2 (List.mem_of_getElem? hb0)
              · exact hz.2.1 (List.mem_append.2 (.inr ((List.mem_erase_of_ne hzb).2 h)))⟩
            have hoth : ∀ z:Nat,z≠b→z<w.heap.size→w'.heap[z]?=w.heap[z]?:=fun z hz hlt=>hkeep.block z hlt (by simpa using hz)
            refine ⟨v,nA av,m.set i (ty2,[.row c ys' cap2]),σ,rfl,hQ,Ext.refl _ _,hkeep2,fun j b' hj hn=>?_,(nA_is (av_no hav hno)).ro hro2 σ,?_⟩
            · refine hoth b' (fun e=>?_) (hmem.lt (List.mem_of_getElem? hj))
              subst e
              apply hn
              obtain ⟨l1,e1⟩:=List.getElem?_eq_some_iff.1 hb
              obtain ⟨l2,e2⟩:=List.getElem?_eq_some_iff.1 hj
              have:=(List.getElem_inj hmem.nodup).1 (e1.trans e2.symm)
              subst this
              exact mem_wrOf (by simp[wrDirect])
            · refine ⟨by simp[hmem.len],hmem.nodup,fun z hz=>Nat.lt_of_lt_of_le (hmem.fo z hz) hkeep.size,hmem'.gl.mono fun z hz=>⟨hro2 z hz,rfl⟩,fun j t cs' b' hj hb'=>?_⟩
              rw[List.getElem?_set]at hj
              by_cases e:i=j
              · subst e
                rw[if_pos rfl]at hj
                split at hj
                · cases hj
                  rw[hb]at hb'
                  cases hb'
                  exact ⟨us2,hbl2,(row_none his2 []).mono (fun z hz=>⟨hro2 z hz,rfl⟩) (fun _ _ h=>by simp at h)⟩
                · cases hj
              · rw[if_neg e]at hj
                obtain ⟨us3,g1,g2⟩:=hmem.blk j t cs' b' hj hb'
                have hne:b'≠b:=by
                  rintro rfl
                  obtain ⟨l1,e1⟩:=List.getElem?_eq_some_iff.1 hb
                  obtain ⟨l2,e2⟩:=List.getElem?_eq_some_iff.1 hb'
                  exact e ((List.getElem_inj hmem.nodup).1 (e1.trans e2.symm))
                exact ⟨us3,(hoth b' hne (hmem.lt (List.mem_of_getElem? hb'))).trans g1,g2.mono (hkeep2.ro (Ext.refl _ _)) (fun _ _ h=>h)⟩
          · rw[if_neg hty2]at hQ;exact hQ.elim
        · exact hQ.elim
      · rw[if_neg hty]at hrun;exact hrun.elim
    · exact hrun.elim
  · exact hrun.elim
structure LSpec where
  n:Nat
  vs:List (Nat×Bool×Cd)
  ps:List (Nat×Nat×Nat)
  bs:List (TypeId×Cd)
  ex:Exit→List Nat
def bts (bs:List (TypeId×Cd)):List (Bool×Cd):=bs.map fun b=>(true,b.2)
def vts (vs:List (Nat×Bool×Cd)):List (Bool×Cd):=vs.map (·.2)
abbrev LSpec.X (sp:LSpec):Type:=Els (vts sp.vs)
abbrev LSpec.Y (sp:LSpec):Type:=Els (bts sp.bs)
def look:List (Nat×Av)→Nat→Av
  | [],_=>.any
  | (i,a)::r,t=>if i=t then a else look r t
def mkFr (n:Nat) (l:List (Nat×Av)):List Av:=(List.range n).map (look l)
def mkMem:(bs:List (TypeId×Cd))→Els (bts bs)→Mem
  | [],_=>[]
  | b::r,y=>(b.1,ck b.2 y.1)::mkMem r y.2
def decMem:(bs:List (TypeId×Cd))→Mem→Option (Els (bts bs))
  | [],_=>some ()
  | b::r,(t,cs)::m=>if t=b.1 then (match parse b.2 cs,decMem r m with
    | some (x,[]),some y=>some (x,y)
    | _,_=>none) else none
  | _::_,[]=>none
def pList (ps:List (Nat×Nat×Nat)):List (Nat×Av):=ps.map fun p=>(p.1,.one (.p p.2.1 p.2.2))
def LSpec.head (sp:LSpec) (x:sp.X) (y:sp.Y):St:=⟨mkFr sp.n ((sp.vs.map (·.1)).zip (encs (vts sp.vs) x)++pList sp.ps),mkMem sp.bs y⟩
def LSpec.exitSt (sp:LSpec) (e:Exit) (avs:List Av) (y:sp.Y):St:=⟨mkFr sp.n ((sp.ex e).zip avs++pList sp.ps),mkMem sp.bs y⟩
def ptrsOk (k:Nat) (fr:List Av):List (Nat×Nat×Nat)→Bool
  | []=>true
  | (s,i,o)::r=>(match fr[s]? with
    | some (.one (.p i' o'))=>decide (i'=i)&&decide (o'=o)&&decide (i<k)
    | _=>false)&&ptrsOk k fr r
def getsA (fr:List Av):List Nat→Option (List Av)
  | []=>some []
  | s::r=>match fr[s]?,getsA fr r with
    | some a,some l=>some (a::l)
    | _,_=>none
def LSpec.dec (sp:LSpec) (st:St):Option (sp.X×sp.Y):=
  match decide (st.fr.length=sp.n)&&ptrsOk sp.bs.length st.fr sp.ps with
  | true=>match getsA st.fr (sp.vs.map (·.1)) with
    | some l=>match decs (vts sp.vs) l,decMem sp.bs st.mem with
      | some x,some y=>some (x,y)
      | _,_=>none
    | none=>none
  | false=>none
def LSpec.decE (sp:LSpec) (e:Exit) (st:St):Option (List Av×sp.Y):=
  match decide (st.fr.length=sp.n)&&ptrsOk sp.bs.length st.fr sp.ps with
  | true=>match getsA st.fr (sp.ex e) with
    | some l=>match l.all noA,decMem sp.bs st.mem with
      | true,some y=>some (l.map nA,y)
      | _,_=>none
    | none=>none
  | false=>none
section
variable {P:Program} {E:Env P} {L:Loops} {w0 w:World} {φ σ0 σ:List Nat} {st:St} {a:Act}
theorem look_in {l:List (Nat×Av)} {t:Nat}:look l t=.any ∨ ∃ p∈l,p.1=t∧look l t=p.2:=by
  induction l with
  | nil=>exact .inl rfl
  | cons p l ih =>
    obtain ⟨i,b⟩:=p
    unfold look
    by_cases h:i=t
    · rw[if_pos h];exact .inr ⟨(i,b),by simp,h,rfl⟩
    · rw[if_neg h]
      rcases ih with h1|⟨q,h1,h2,h3⟩
      · exact .inl h1
      · exact .inr ⟨q,by simp[h1],h2,h3⟩
theorem gets_ok : ∀ (ss:List Nat) (l:List Av) (fr:List Av),getsA fr ss=some l→l.length=ss.length ∧ ∀ (j s:Nat) (b:Av),ss[j]?=some s→l[j]?=some b→fr[s]?=some b
  | [],l,fr,h=>by cases h;exact ⟨rfl,by simp⟩
  | s::r,l,fr,h=>by
    unfold getsA at h
    split at h
    · rename_i b l' h1 h2
      cases h
      obtain ⟨g1,g2⟩:=gets_ok r l' fr h2
      refine ⟨by simp[g1],fun j t c hj hc=>?_⟩
      rcases j with _|j
      · cases hj;cases hc;exact h1
      · exact g2 j t c (by simpa using hj) (by simpa using hc)
    · cases h
theorem ptrs_ok {k:Nat} {fr:List Av} : ∀ (ps:List (Nat×Nat×Nat)),ptrsOk k fr ps=true → ∀ p∈ps,fr[p.1]?=some (.one (.p p.2.1 p.2.2))∧p.2.1<k
  | [],_,p,hp=>by cases hp
  | (s,i,o)::r,h,p,hp=>by
    simp only[ptrsOk,Bool.and_eq_true]at h
    rcases List.mem_cons.1 hp with rfl|hp
    · have h1:=h.1
      split at h1
      · rename_i i' o' hf
        simp only[Bool.and_eq_true,decide_eq_true_eq]at h1
        obtain ⟨⟨rfl,rfl⟩,h3⟩:=h1
        exact ⟨hf,h3⟩
      · cases h1
    · exact ptrs_ok r h.2 p hp
theorem decMem_ok : ∀ (bs:List (TypeId×Cd)) (m:Mem) (y:Els (bts bs)),decMem bs m=some y→bs.length≤m.length∧(mkMem bs y).length=bs.length ∧
    ∀ (i:Nat) t cs,(mkMem bs y)[i]?=some (t,cs) → ∃ cs',m[i]?=some (t,cs') ∧ ∀ w R σ us,Is w R σ cs' us→Is w R [] cs us
  | [],m,y,_=>⟨Nat.zero_le _,rfl,by simp[mkMem]⟩
  | b::r,[],y,h=>by simp[decMem]at h
  | b::r,(t,cs)::m,y,h=>by
    unfold decMem at h
    by_cases ht:t=b.1
    · rw[if_pos ht]at h
      split at h
      · rename_i x y' hp hy
        cases h
        obtain ⟨g1,g2,g3⟩:=decMem_ok r m y' hy
        refine ⟨by simp;omega,by simp[mkMem,g2],fun i t' cs' hi=>?_⟩
        rcases i with _|i
        · simp only[mkMem,List.getElem?_cons_zero,Option.some.injEq,Prod.mk.injEq]at hi
          obtain ⟨rfl,rfl⟩:=hi
          refine ⟨cs,by simp[ht],fun w R σ us hi=>?_⟩
          obtain ⟨ua,ub,rfl,i1,i2⟩:=parse_ok b.2 cs x [] us hp hi
          cases i2
          rw[List.append_nil];exact i1
        · simp only[mkMem,List.getElem?_cons_succ]at hi ⊢
          exact g3 i t' cs' hi
      · cases h
    · rw[if_neg ht]at h;cases h
theorem take_sat (k:Nat) {fr':List Av} {m':Mem} (hS:Sat w0 φ σ0 σ st a w) (h0:σ0.length≤k) (hk:k≤st.mem.length) (hlen:fr'.length=st.fr.length) (hfr : ∀ (t:Nat) av,fr'[t]?=some av→AvIs w (Ro w φ (σ.take k)) (σ.take k) av (a.tmps.getD t undef))
    (hml:m'.length=k) (hm : ∀ (i:Nat) t cs,m'[i]?=some (t,cs) → ∃ cs',st.mem[i]?=some (t,cs') ∧ ∀ w R σ us,Is w R σ cs' us→Is w R [] cs us):Sat w0 φ σ0 (σ.take k) ⟨fr',m'⟩ a w:=by
  have hsl:=hS.mem.len
  have hro : ∀ b,Ro w φ σ b→Ro w φ (σ.take k) b:=fun b hb=>⟨hb.1,hb.2.1,fun h=>hb.2.2 (List.mem_of_mem_take h)⟩
  refine ⟨⟨by rw[hlen];exact hS.fr.len,hfr⟩,⟨by rw[hml];simp;omega,hS.mem.nodup.sublist (List.take_sublist _ _),hS.mem.fo,hS.mem.gl.mono fun z hz=>⟨hro z hz,rfl⟩,fun i t cs b hi hb=>?_⟩,?_,hS.keep,hS.df⟩
  · have hb':σ[i]?=some b:=by
      rw[List.getElem?_take]at hb
      split at hb
      · exact hb
      · cases hb
    obtain ⟨cs',h1,h2⟩:=hm i t cs hi
    obtain ⟨us,h3,h4⟩:=hS.mem.blk i t cs' b h1 hb'
    exact ⟨us,h3,(h2 _ _ _ _ h4).mono (fun z hz=>⟨hro z hz,rfl⟩) (fun _ _ h=>by simp at h)⟩
  · obtain ⟨τ,e,ht⟩:=hS.ext.pre
    refine ⟨⟨τ.take (k-σ0.length),?_,fun b hb=>ht b (List.mem_of_mem_take hb)⟩⟩
    rw[e,List.take_append,List.take_of_length_le h0]
theorem fr_len (n:Nat) (l:List (Nat×Av)):(mkFr n l).length=n:=by simp[mkFr]
theorem fr_at {n:Nat} {l:List (Nat×Av)} {t:Nat} {av:Av} (h:(mkFr n l)[t]?=some av):av=.any ∨ ∃ p∈l,p.1=t∧av=p.2:=by
  unfold mkFr at h
  rw[List.getElem?_map]at h
  cases hr:(List.range n)[t]? with
  | none=>rw[hr]at h;simp at h
  | some s =>
    rw[hr]at h
    simp only[Option.map_some,Option.some.injEq]at h
    have hs:s=t:=by
      have:=List.getElem?_eq_some_iff.1 hr
      obtain ⟨h1,h2⟩:=this
      simp at h2;exact h2.symm
    subst hs
    subst h
    exact look_in
theorem head_ok (sp:LSpec) {x:sp.X} {y:sp.Y} (hS:Sat w0 φ σ0 σ st a w) (h0:σ0.length≤sp.bs.length) (h:sp.dec st=some (x,y)):Sat w0 φ σ0 (σ.take sp.bs.length) (sp.head x y) a w:=by
  unfold LSpec.dec at h
  split at h
  · rename_i hc
    simp only[Bool.and_eq_true,decide_eq_true_eq]at hc
    split at h
    · rename_i l hl
      split at h
      · rename_i x' y' hd hy
        cases h
        obtain ⟨g1,g2,g3⟩:=decMem_ok sp.bs st.mem y hy
        obtain ⟨k1,k2⟩:=gets_ok _ _ _ hl
        have hro : ∀ b,Ro w φ σ b→Ro w φ (σ.take sp.bs.length) b:=fun b hb=>⟨hb.1,hb.2.1,fun h=>hb.2.2 (List.mem_of_mem_take h)⟩
        obtain ⟨d1,d2⟩:=decs_ok (w:=w) (R:=Ro w φ σ) (σ:=σ) (vts sp.vs) l x ((sp.vs.map (·.1)).map fun s=>a.tmps.getD s undef) hd (by simp at k1 ⊢;omega) (fun i b v hb hv=>by
          rw[List.getElem?_map]at hv
          cases hq:(sp.vs.map (·.1))[i]? with
          | none=>rw[hq]at hv;simp at hv
          | some s =>
            rw[hq]at hv
            simp only[Option.map_some,Option.some.injEq]at hv
            subst hv
            exact hS.fr.at_ s b (k2 i s b hq hb))
        refine take_sat _ hS h0 g1 ((fr_len _ _).trans hc.1.symm) (fun t av ht=>?_) g2 g3
        rcases fr_at ht with rfl|⟨p,hp,rfl,rfl⟩
        · exact .any
        · rcases List.mem_append.1 hp with hp|hp
          · obtain ⟨i,hi,e⟩:=List.getElem_of_mem hp
            have hz:((sp.vs.map (·.1)).zip (encs (vts sp.vs) x))[i]?=some p:=by rw[List.getElem?_eq_getElem hi,e]
            rw[List.getElem?_zip_eq_some]at hz
            have hv:((sp.vs.map (·.1)).map fun s=>a.tmps.getD s undef)[i]?=some (a.tmps.getD p.1 undef):=by rw[List.getElem?_map,hz.1];rfl
            exact (d2 i _ _ hz.2 hv).ro hro _
          · unfold pList at hp
            obtain ⟨q,hq,rfl⟩:=List.mem_map.1 hp
            obtain ⟨hf,hlt⟩:=ptrs_ok sp.ps hc.2 q hq
            have:=hS.fr.at_ _ _ hf
            obtain ⟨b,hb,e⟩:=is_one_p this
            simp only at e ⊢
            rw[e]
            exact .one rfl (.p (by rw[List.getElem?_take,if_pos hlt];exact hb) .nil)
      · cases h
    · cases h
  · cases h
theorem exit_ok (sp:LSpec) {e:Exit} {avs:List Av} {y:sp.Y} (hS:Sat w0 φ σ0 σ st a w) (h0:σ0.length≤sp.bs.length) (h:sp.decE e st=some (avs,y)):Sat w0 φ σ0 (σ.take sp.bs.length) (sp.exitSt e avs y) a w:=by
  unfold LSpec.decE at h
  split at h
  · rename_i hc
    simp only[Bool.and_eq_true,decide_eq_true_eq]at hc
    split at h
    · rename_i l hl
      split at h
      · rename_i y' hno hy
        cases h
        obtain ⟨g1,g2,g3⟩:=decMem_ok sp.bs st.mem y hy
        obtain ⟨k1,k2⟩:=gets_ok _ _ _ hl
        have hro : ∀ b,Ro w φ σ b→Ro w φ (σ.take sp.bs.length) b:=fun b hb=>⟨hb.1,hb.2.1,fun h=>hb.2.2 (List.mem_of_mem_take h)⟩
        refine take_sat _ hS h0 g1 ((fr_len _ _).trans hc.1.symm) (fun t av ht=>?_) g2 g3
        rcases fr_at ht with rfl|⟨p,hp,rfl,rfl⟩
        · exact .any
        · rcases List.mem_append.1 hp with hp|hp
          · obtain ⟨i,hi,e1⟩:=List.getElem_of_mem hp
            have hz:((sp.ex e).zip (l.map nA))[i]?=some p:=by rw[List.getElem?_eq_getElem hi,e1]
            rw[List.getElem?_zip_eq_some]at hz
            have hz2:=hz.2
            rw[List.getElem?_map]at hz2
            cases hq:l[i]? with
            | none=>rw[hq]at hz2;simp at hz2
            | some b =>
              rw[hq]at hz2
              simp only[Option.map_some,Option.some.injEq]at hz2
              rw[←hz2]
              have hb:=hS.fr.at_ _ _ (k2 i _ b hz.1 hq)
              have hn:=List.all_eq_true.1 hno b (List.mem_of_getElem? hq)
              exact (nA_is (av_no hb hn)).ro hro _
          · unfold pList at hp
            obtain ⟨q,hq,rfl⟩:=List.mem_map.1 hp
            obtain ⟨hf,hlt⟩:=ptrs_ok sp.ps hc.2 q hq
            have:=hS.fr.at_ _ _ hf
            obtain ⟨b,hb,e⟩:=is_one_p this
            simp only at e ⊢
            rw[e]
            exact .one rfl (.p (by rw[List.getElem?_take,if_pos hlt];exact hb) .nil)
      · cases h
    · cases h
  · cases h
inductive Rd (sp:LSpec):Type
  | again (x:sp.X) (y:sp.Y)
  | out (e:Exit) (avs:List Av) (y:sp.Y)
def LSpec.round {P:Program} (sp:LSpec) (E:Env P) (L:Loops) (body:Code) (x:sp.X) (y:sp.Y):T (Rd sp):=
  (code (E.at_ sp.bs.length) L body (sp.head x y)).bind fun r=>match r.1 with
    | .normal=>match sp.dec r.2 with
      | some (x',y')=>.ret (.again x' y')
      | none=>.fail
    | e=>match sp.decE e r.2 with
      | some (avs,y')=>.ret (.out e avs y')
      | none=>.fail
def LSpec.run (sp:LSpec) (out:sp.X→sp.Y→T (Exit×List Av×sp.Y)) (st:St):T (Exit×St):=
  match sp.dec st with
  | some (x,y)=>(out x y).bind fun r=>.ret (r.1,sp.exitSt r.1 r.2.1 r.2.2)
  | none=>.fail
theorem loop_ok (hm:P.follows .mixedOrders=true) (k:Nat) {body:Code} (hL:LoopsOk P k L body) (sp:LSpec) (hk:k≤sp.bs.length) (out:sp.X→sp.Y→T (Exit×List Av×sp.Y)) (μ:sp.X→sp.Y→Nat)
    (hb : ∀ x y Q,(out x y).wp Q→(sp.round E L body x y).wp fun r=>match r with
      | .again x' y'=>μ x' y'<μ x y∧(out x' y').wp Q
      | .out e avs y'=>Q (e,avs,y')):LoopOk P k body (sp.run out):=by
  intro w0 φ σ0 σ st a w Q hσ hφ hS hrun
  unfold LSpec.run at hrun
  split at hrun
  · rename_i x y hd
    rw[T.wp_bind]at hrun
    have h0:=head_ok sp hS (by omega) hd
    refine wp_loop_ghost (fun n a w => ∃ x y σ,n=μ x y∧Sat w0 φ σ0 σ (sp.head x y) a w∧(out x y).wp fun r=>(T.ret (r.1,sp.exitSt r.1 r.2.1 r.2.2)).wp Q) _ ⟨x,y,_,rfl,h0,hrun⟩ fun n a w hI=>?_
    obtain ⟨x,y,σ,rfl,hS,hout⟩:=hI
    have h1:=hb x y _ hout
    unfold LSpec.round at h1
    rw[T.wp_bind]at h1
    refine wp_mono (code_ok (E:=E.at_ sp.bs.length) hm hσ (by show σ0.length≤sp.bs.length;omega) hφ body _ σ a w _ hL hS h1) fun e a' w' hr=>?_
    obtain ⟨hq,st',σ',h2,h3⟩:=hr
    cases e with
    | normal =>
      simp only[Exit.then]
      simp only at h2
      split at h2
      · rename_i x' y' hd'
        exact ⟨_,h2.1,x',y',_,rfl,head_ok sp h3 (by omega) hd',h2.2⟩
      · exact h2.elim
    | panic _=>cases hq
    | outgrown=>cases hq
    | exit id =>
      simp only[Exit.then]
      simp only at h2
      split at h2
      · rename_i avs y' hd'
        exact ⟨rfl,_,_,h2,exit_ok sp h3 (by omega) hd'⟩
      · exact h2.elim
    | ret =>
      simp only[Exit.then]
      simp only at h2
      split at h2
      · rename_i avs y' hd'
        exact ⟨rfl,_,_,h2,exit_ok sp h3 (by omega) hd'⟩
      · exact h2.elim
    | goto l =>
      simp only[Exit.then]
      simp only at h2
      split at h2
      · rename_i avs y' hd'
        exact ⟨rfl,_,_,h2,exit_ok sp h3 (by omega) hd'⟩
      · exact h2.elim
  · exact hrun.elim
end
def loopsOf:Code→List Code
  | .seq a b=>loopsOf a++loopsOf b
  | .cond _ a b=>loopsOf a++loopsOf b
  | .block _ a=>loopsOf a
  | .loop a=>[a]
  | _=>[]
theorem loops_of {P:Program} {n:Nat} {L:Loops} : ∀ {c:Code},(∀ b∈loopsOf c,∀ run,L (Code.first b)=some run→LoopOk P n b run)→LoopsOk P n L c:=by
  intro c
  unfold LoopsOk
  induction c with
  | seq a b iha ihb=>intro h;exact ⟨iha fun x hx=>h x (by simp[loopsOf,hx]),ihb fun x hx=>h x (by simp[loopsOf,hx])⟩
  | cond _ a b iha ihb=>intro h;exact ⟨iha fun x hx=>h x (by simp[loopsOf,hx]),ihb fun x hx=>h x (by simp[loopsOf,hx])⟩
  | block _ a ih=>intro h;exact ih fun x hx=>h x (by simpa [loopsOf] using hx)
  | loop a _=>intro h;exact h a (by simp[loopsOf])
  | _=>intro _;trivial
def bodyOf (fn:Func) (i:Nat):Code:=match fn.body with
  | some c=>(loopsOf c).getD i .skip
  | none=>.skip
def oneL (key:Nat) (run:St→T (Exit×St)):Loops:=fun k=>if k=key then some run else none
theorem one_loop {P:Program} {n key:Nat} {run:St→T (Exit×St)} {fn:Func} (h:LoopOk P n (bodyOf fn 0) run) (hl:(match fn.body with|some c=>(loopsOf c).length|none=>1)=1) : ∀ c,fn.body=some c→LoopsOk P n (oneL key run) c:=by
  intro c hc
  rw[hc]at hl
  refine loops_of fun b hb r hr=>?_
  have:b=bodyOf fn 0:=by
    unfold bodyOf
    rw[hc]
    simp only at hl ⊢
    match hq:loopsOf c,hl with
    | [x],_ =>
      rw[hq]at hb
      simpa using hb
  subst this
  unfold oneL at hr
  split at hr
  · cases hr;exact h
  · cases hr
theorem no_loops {P:Program} {n:Nat} {fn:Func} : ∀ c,fn.body=some c→LoopsOk P n (fun _=>none) c:=fun c _=>loops_none P n c
theorem val_con {P:Program} {E:Env P} {L:Loops} {f:FuncId} {fn:Func} (hm:P.follows .mixedOrders=true) (hf:P.funcs[f]?=some fn) (hL : ∀ c,fn.body=some c→LoopsOk P 0 L c) (ts:List (Bool×Cd)) (pre:Els ts→Prop) (F:Els ts→Av)
    (h : ∀ x,pre x→(fnP E L fn (encs ts x)).wp (· = F x)):ConOk P f [] (pureRun' ts fun x=>.need (pre x) (.ret (F x))):=
  con_ok hm hf hL ts _ fun x Q hq=>T.wp_mono (fun a ha=>by rw[ha];exact hq.2) (h x hq.1)
theorem tot_con {P:Program} {E:Env P} {L:Loops} {f:FuncId} {fn:Func} (hm:P.follows .mixedOrders=true) (hf:P.funcs[f]?=some fn) (hL : ∀ c,fn.body=some c→LoopsOk P 0 L c) (ts:List (Bool×Cd)) (F:Els ts→Av)
    (h : ∀ x,(fnP E L fn (encs ts x)).wp (· = F x)):ConOk P f [] (pureRun' ts fun x=>.ret (F x)):=
  con_ok hm hf hL ts _ fun x Q hq=>T.wp_mono (fun a ha=>by rw[ha];exact hq) (h x)
theorem con_weaken {P:Program} {f:FuncId} {pos:List Nat} {r0 r1:List Av→Mem→T (Av×Mem)} (h0:ConOk P f pos r0)
    (h : ∀ args m Q,(r1 args m).wp Q→(r0 args m).wp fun r => ∃ a',Q (a',r.2) ∧ ∀ w R σ v,AvIs w R σ r.1 v→AvIs w R σ a' v):ConOk P f pos r1:=by
  intro w φ σ m args vs Q hmem hlen hargs hrun
  refine (h0 w φ σ m args vs _ hmem hlen hargs (h args m Q hrun)).mono fun e w' hr=>?_
  obtain ⟨v,av,m',σ',he,⟨a',hQ,ha⟩,h1,h2,h3,h4,h5⟩:=hr
  exact ⟨v,a',m',σ',he,hQ,h1,h2,h3,ha _ _ _ _ h4,h5⟩
def ansA (row:Bool) (c:Cd) (b:Bool) (f d:El c):Av:=.tup [encA row c (if b=true then f else d),.one (.v (.bool b))]
def ansT (row:Bool) (c:Cd) (b:Bool) (f d:El c):T Av:=.ite b (.lt f fun g=>.ret (.tup [encA row c g,.one (.kb true)])) (.ret (.tup [encA row c d,.one (.kb false)]))
theorem kb_av {w:World} {R:Nat→Prop} {σ:List Nat} {a:Av} {b:Bool} {v:Value} (h:AvIs w R σ (.tup [a,.one (.v (.bool b))]) v):AvIs w R σ (.tup [a,.one (.kb b)]) v:=by
  cases h with
  | tup us hl hi =>
    refine .tup us hl fun i x u hx hu=>?_
    match i,hx with
    | 0,rfl=>exact hi 0 _ u rfl hu
    | 1,rfl =>
      have:=hi 1 _ u rfl hu
      rw[val_of this rfl]
      exact .one rfl (.kb .nil)
theorem ans_weaken {row:Bool} {c:Cd} {b:Bool} {f d:El c} {Q:Av→Prop} (h:(ansT row c b f d).wp Q) : ∃ a',Q a' ∧ ∀ w R σ v,AvIs w R σ (ansA row c b f d) v→AvIs w R σ a' v:=by
  unfold ansT at h
  cases b with
  | true=>exact ⟨_,h.1 rfl,fun w R σ v hv=>kb_av hv⟩
  | false=>exact ⟨_,h.2 rfl,fun w R σ v hv=>kb_av hv⟩
theorem ans_con {P:Program} {E:Env P} {L:Loops} {f:FuncId} {fn:Func} (hm:P.follows .mixedOrders=true) (hf:P.funcs[f]?=some fn) (hL : ∀ c,fn.body=some c→LoopsOk P 0 L c) (ts:List (Bool×Cd)) (pre:Els ts→Prop) (row:Bool) (c:Cd) (b:Els ts→Bool) (F d:Els ts→El c)
    (h : ∀ x,pre x→(fnP E L fn (encs ts x)).wp (· = ansA row c (b x) (F x) (d x))):ConOk P f [] (pureRun' ts fun x=>.need (pre x) (ansT row c (b x) (F x) (d x))):=by
  refine con_weaken (val_con (E:=E) (L:=L) hm hf hL ts pre (fun x=>ansA row c (b x) (F x) (d x)) h) fun args m Q hq=>?_
  unfold pureRun' at hq ⊢
  split at hq
  · rw[T.wp_bind]at hq ⊢
    obtain ⟨a',h1,h2⟩:=ans_weaken hq.2
    exact ⟨hq.1,a',h1,h2⟩
  · exact hq.elim
theorem ans_con0 {P:Program} {E:Env P} {L:Loops} {f:FuncId} {fn:Func} (hm:P.follows .mixedOrders=true) (hf:P.funcs[f]?=some fn) (hL : ∀ c,fn.body=some c→LoopsOk P 0 L c) (ts:List (Bool×Cd)) (row:Bool) (c:Cd) (b:Els ts→Bool) (F d:Els ts→El c)
    (h : ∀ x,(fnP E L fn (encs ts x)).wp (· = ansA row c (b x) (F x) (d x))):ConOk P f [] (pureRun' ts fun x=>ansT row c (b x) (F x) (d x)):=by
  refine con_weaken (tot_con (E:=E) (L:=L) hm hf hL ts (fun x=>ansA row c (b x) (F x) (d x)) h) fun args m Q hq=>?_
  unfold pureRun' at hq ⊢
  split at hq
  · rw[T.wp_bind]at hq ⊢
    exact ans_weaken hq
  · exact hq.elim
def lenOk (n:Nat):Prop:=(n:Int)≤4611686018427387904
theorem drop_at {α:Type} {l:List α} {i:Int} {x:α} (h0:0≤i) (h:l[i.toNat]?=some x):l.drop i.toNat=x::l.drop (i+1).toNat:=by
  obtain ⟨hlt,rfl⟩:=List.getElem?_eq_some_iff.1 h
  rw[show (i+1).toNat=i.toNat+1 from by omega,List.drop_eq_getElem_cons hlt]
theorem elem_at {α:Type} {l:List α} {i:Int} (h0:0≤i) (h:i<l.length) : ∃ x,l[i.toNat]?=some x:=⟨l[i.toNat]'(by omega),List.getElem?_eq_getElem _⟩
theorem drop_end {α:Type} {l:List α} {i:Int} (h:(l.length:Int)≤i):l.drop i.toNat=[]:=List.drop_eq_nil_of_le (by omega)
end Ax
