import Derived.Test.YtbkfakkkikmcbaaGreatDoorProg
import Derived.WalkKit
import Derived.WalkSpells
import Derived.WalkLawsBesides
import Derived.Outline
import Derived.Lib.Hide
import Derived.Deep.QuietTactic
import Derived.BigQuiet
import Derived.Deep.RegionWith
import Derived.Deep.RegionHeld3
import Derived.Deep.DeepFit
import Derived.Deep.LoopGhost
import Derived.Deep.MidRow
import Derived.Laws.MakeOwn
import Derived.IntWalk
import Derived.Laws.BitsAllLaws
import Derived.Shelf.Strings.Builder1
import Derived.Shelf.Strings.Builder2
import Derived.Shelf.Strings.OnBuilder
import Derived.Shelf.Small.Bits
import Derived.Shelf.Strings.BuilderF
import Derived.Shelf.Strings.BuilderK
import Derived.Shelf.Utf8.RuneCount
import Derived.Shelf.Strings.Builder2Cap
import Derived.Shelf.Strconv.Atoi
import Derived.Shelf.Strconv.Itoa0
import Derived.Shelf.Strconv.Itoa1
import Derived.Shelf.LaysM
import Derived.Shelf.Strconv.Itoa2
import Derived.Shelf.Strconv.Itoa3
import Derived.Shelf.Strconv.AtoiErrFast
import Derived.Shelf.Strconv.ParseIntEmpty
import Derived.Shelf.Strconv.AtoiFail
import Derived.Shelf.Strconv.Clone
import Derived.Shelf.Strconv.SyntaxError
import Derived.Shelf.LaysC
import Derived.Shelf.Strconv.ToError
import Derived.Shelf.Strconv.AtoiErr
import Derived.Shelf.Strconv.ErrVar
import Derived.Shelf.Strconv.Lower
import Derived.Shelf.Strconv.ParseUint10
import Derived.Shelf.Strconv.ParseUint10Empty
import Derived.Shelf.Strconv.ParseUint10Any
import Derived.Shelf.Strconv.ParseInt10
import Derived.Shelf.Strconv.AtoiLong
import Derived.Shelf.Strconv.AtoiInnerAll
import Derived.Shelf.Strconv.RangeError
import Derived.Shelf.Strconv.ToErrorRange
import Derived.Shelf.Strconv.AtoiAll
import Derived.Shelf.Strconv.ErrVarAll
import Derived.Shelf.Strconv.ParseUintEmpty
import Derived.Shelf.Strconv.ParseUint10b64
import Derived.Shelf.Strconv.ParseUint10b32
import Derived.Shelf.Strconv.ParseUint10b16
import Derived.Shelf.Strconv.ParseUint10b8
import Derived.Shelf.Strconv.ParseUint10At
import Derived.Shelf.Strconv.ParseInt10At64
import Derived.Shelf.Strconv.ParseInt10At32
import Derived.Shelf.Strconv.ParseInt10At16
import Derived.Shelf.Strconv.ParseInt10At8
import Derived.Shelf.Strconv.ParseInt10All
import Derived.Shelf.Strings.Search1
import Derived.Shelf.Strings.Search2
import Derived.Shelf.Strings.Search3
import Derived.Shelf.Strings.Cut
import Derived.Shelf.Strings.Count
import Derived.Shelf.Strings.Shaped
import Derived.Shelf.Strings.Prefix
import Derived.Shelf.Strings.Split
import Derived.Shelf.Strings.SplitShaped
import Derived.Shelf.Unicode.Decode
import Derived.Shelf.Strings.RuneCount
import Derived.Shelf.Strings.Explode
import Derived.Shelf.Unicode.DecodeSlow
import Derived.Shelf.Unicode.DecodeAny
import Derived.Shelf.Strings.FieldsFuncAny
import Derived.Shelf.Strings.FieldsFuncGrows
import Derived.Shelf.Strings.BuilderCap
import Derived.Test.YtbkfakkkikmcbaaGreatDoorK2
set_option linter.unusedSimpArgs false
set_option linter.unusedVariables false
namespace Ax
open Go Go.RowKit
structure RSpec where
  n:Nat
  vs:List (Nat×Bool×Cd)
  ps:List (Nat×Nat×Nat)
  bs:List (TypeId×Cd)
  ex:Exit→List Nat
  slot:Nat
  ty:TypeId
  c:Cd
  fixed:Bool
  sl:Exit→Nat
abbrev RSpec.X (sp:RSpec):Type:=Els (vts sp.vs)
abbrev RSpec.Y (sp:RSpec):Type:=Els (bts sp.bs)
abbrev RSpec.G (sp:RSpec):Type:=Option (List (El sp.c)×Nat)
def RSpec.rowFr (sp:RSpec):sp.G→Av
  | none=>.one (.v (.slice none 0 0))
  | some r=>.one (.os sp.bs.length r.1.length r.2)
def RSpec.rowMem (sp:RSpec):sp.G→Mem
  | none=>[]
  | some r=>[(sp.ty,[.row sp.c r.1 r.2])]
def RSpec.head (sp:RSpec) (x:sp.X) (y:sp.Y) (g:sp.G):St:=⟨mkFr sp.n ((sp.slot,sp.rowFr g)::((sp.vs.map (·.1)).zip (encs (vts sp.vs) x)++pList sp.ps)),mkMem sp.bs y++sp.rowMem g⟩
def RSpec.exitSt (sp:RSpec) (e:Exit) (avs:List Av) (y:sp.Y) (g:sp.G):St:=⟨mkFr sp.n ((sp.sl e,sp.rowFr g)::((sp.ex e).zip avs++pList sp.ps)),mkMem sp.bs y++sp.rowMem g⟩
def RSpec.decR (sp:RSpec) (sl:Nat) (st:St):Option (sp.G×Nat×Prop):=
  match st.fr[sl]? with
  | some (.one (.v (.slice none 0 0)))=>match sp.fixed with
    | true=>none
    | false=>some (none,0,True)
  | some (.one (.os j n cap))=>match decide (sp.bs.length≤j)&&(!sp.fixed||decide (j=sp.bs.length)),st.mem[j]? with
    | true,some (ty,[.row c xs cap'])=>match decide (ty=sp.ty),castRow c sp.c xs with
      | true,some ys=>some (some (ys,cap),j,n=ys.length∧cap'=cap)
      | _,_=>none
    | _,_=>none
  | _=>none
def RSpec.dec (sp:RSpec) (st:St):Option (sp.X×sp.Y×sp.G×Prop):=
  match decide (st.fr.length=sp.n)&&ptrsOk sp.bs.length st.fr sp.ps with
  | true=>match getsA st.fr (sp.vs.map (·.1)),sp.decR sp.slot st with
    | some l,some (g,_,p)=>match decs (vts sp.vs) l,decMem sp.bs st.mem with
      | some x,some y=>some (x,y,g,p)
      | _,_=>none
    | _,_=>none
  | false=>none
def RSpec.decE (sp:RSpec) (e:Exit) (st:St):Option (List Av×sp.Y×sp.G×Prop):=
  match decide (st.fr.length=sp.n)&&ptrsOk sp.bs.length st.fr sp.ps with
  | true=>match getsA st.fr (sp.ex e),sp.decR (sp.sl e) st with
    | some l,some (g,_,p)=>match l.all noA,decMem sp.bs st.mem with
      | true,some y=>some (l.map nA,y,g,p)
      | _,_=>none
    | _,_=>none
  | false=>none
section
variable {P:Program} {E:Env P} {L:Loops} {w0 w:World} {φ σ0 σ:List Nat} {st:St} {a:Act}
theorem row_view (sp:RSpec) {sl:Nat} {y:sp.Y} {g:sp.G} {j:Nat} {p:Prop} (hS:Sat w0 φ σ0 σ st a w) (h0:σ0.length≤sp.bs.length+(if sp.fixed then 1 else 0)) (hlen:st.fr.length=sp.n) (hps:ptrsOk sp.bs.length st.fr sp.ps=true)
    (hy:decMem sp.bs st.mem=some y) (hr:sp.decR sl st=some (g,j,p)) (hp:p) (l:List (Nat×Av)) (hl : ∀ q∈l,AvIs w (Ro w φ σ) [] q.2 (a.tmps.getD q.1 undef)) :
    ∃ σ',Sat w0 φ σ0 σ' ⟨mkFr sp.n ((sl,sp.rowFr g)::(l++pList sp.ps)),mkMem sp.bs y++sp.rowMem g⟩ a w:=by
  obtain ⟨g1,g2,g3⟩:=decMem_ok sp.bs st.mem y hy
  have hsl:=hS.mem.len
  have hk:sp.bs.length≤σ.length:=by omega
  obtain ⟨τ,eτ,hτ⟩:=hS.ext.pre
  have core : ∀ (σ':List Nat) (rest:List Nat),σ'=σ.take sp.bs.length++rest→rest.length=(sp.rowMem g).length→σ'.Nodup→(∀ b∈σ',b∈σ)→Ext w0 σ0 σ' →
      (∀ (i:Nat) t cs b,(sp.rowMem g)[i]?=some (t,cs)→rest[i]?=some b → ∃ us:List Value,w.heap[b]?=some (.cells us.toArray t (0,0))∧Is w (Ro w φ σ) [] cs us) →
      AvIs w (Ro w φ σ') σ' (sp.rowFr g) (a.tmps.getD sl undef)→Sat w0 φ σ0 σ' ⟨mkFr sp.n ((sl,sp.rowFr g)::(l++pList sp.ps)),mkMem sp.bs y++sp.rowMem g⟩ a w:=by
    intro σ' rest e hrl hnd hsub hext hrow hslot
    have hro : ∀ b,Ro w φ σ b→Ro w φ σ' b:=fun b hb=>⟨hb.1,hb.2.1,fun h=>hb.2.2 (hsub b h)⟩
    have htl:(σ.take sp.bs.length).length=sp.bs.length:=by rw[List.length_take];omega
    refine ⟨⟨(fr_len _ _).trans (hlen.symm.trans hS.fr.len),fun t av ht=>?_⟩,⟨by rw[List.length_append,g2,e,List.length_append,htl,hrl],hnd,hS.mem.fo,hS.mem.gl.mono fun z hz=>⟨hro z hz,rfl⟩,fun i t cs b hi hb=>?_⟩,hext,hS.keep,hS.df⟩
    · rcases fr_at ht with rfl|⟨q,hq,rfl,rfl⟩
      · exact .any
      · rcases List.mem_cons.1 hq with rfl|hq
        · exact hslot
        · rcases List.mem_append.1 hq with hq|hq
          · exact (hl q hq).ro hro _
          · unfold pList at hq
            obtain ⟨r,hr,rfl⟩:=List.mem_map.1 hq
            obtain ⟨hf,hlt⟩:=ptrs_ok sp.ps hps r hr
            have:=hS.fr.at_ _ _ hf
            obtain ⟨b,hb,e1⟩:=is_one_p this
            simp only at e1 ⊢
            rw[e1]
            exact .one rfl (.p (by rw[e,List.getElem?_append_left (by omega),List.getElem?_take,if_pos hlt];exact hb) .nil)
    · rcases Nat.lt_or_ge i sp.bs.length with hlt|hge
      · rw[List.getElem?_append_left (by omega)]at hi
        rw[e,List.getElem?_append_left (by omega),List.getElem?_take,if_pos hlt]at hb
        obtain ⟨cs',h1,h2⟩:=g3 i t cs hi
        obtain ⟨us,h3,h4⟩:=hS.mem.blk i t cs' b h1 hb
        exact ⟨us,h3,(h2 _ _ _ _ h4).mono (fun z hz=>⟨hro z hz,rfl⟩) (fun _ _ h=>by simp at h)⟩
      · rw[List.getElem?_append_right (by omega),g2]at hi
        rw[e,List.getElem?_append_right (by omega),htl]at hb
        obtain ⟨us,h3,h4⟩:=hrow _ t cs b hi hb
        exact ⟨us,h3,h4.mono (fun z hz=>⟨hro z hz,rfl⟩) (fun _ _ h=>by simp at h)⟩
  unfold RSpec.decR at hr
  split at hr
  · rename_i hfr
    split at hr
    · cases hr
    · rename_i hfx
      cases hr
      rw[if_neg (by rw[hfx];simp),Nat.add_zero]at h0
      refine ⟨σ.take sp.bs.length++[],core _ [] rfl rfl ?_ ?_ ?_ (fun i t cs b hi _=>by simp[RSpec.rowMem]at hi) ?_⟩
      · rw[List.append_nil];exact hS.mem.nodup.sublist (List.take_sublist _ _)
      · intro b hb;rw[List.append_nil]at hb;exact List.mem_of_mem_take hb
      · refine ⟨τ.take (sp.bs.length-σ0.length),?_,fun b hb=>hτ b (List.mem_of_mem_take hb)⟩
        rw[List.append_nil,eτ,List.take_append,List.take_of_length_le h0]
      · have:=hS.fr.at_ _ _ hfr
        rw[val_of this rfl]
        exact .val rfl
  · rename_i j' n cap hfr
    split at hr
    · rename_i ty c xs cap' hc hmj
      split at hr
      · rename_i ys hty hcast
        cases hr
        have hty:=of_decide_eq_true hty
        subst hty
        obtain ⟨hn,hcap⟩:=hp
        subst hn
        subst hcap
        simp only[Bool.and_eq_true,decide_eq_true_eq]at hc
        obtain ⟨b,hb,hncap,hve⟩:=is_one_os (hS.fr.at_ _ _ hfr)
        obtain ⟨us,hbl,his⟩:=hS.mem.blk j _ _ b hmj hb
        have his:=castRow_is hcast his
        have hjl:j<σ.length:=(List.getElem?_eq_some_iff.1 hb).1
        have hnot:b ∉ σ.take sp.bs.length:=fun hm=>by
          obtain ⟨i,hi,e⟩:=List.getElem_of_mem hm
          rw[List.getElem_take]at e
          obtain ⟨l2,e2⟩:=List.getElem?_eq_some_iff.1 hb
          rw[List.length_take]at hi
          have:=(List.getElem_inj hS.mem.nodup).1 (e.trans e2.symm)
          omega
        refine ⟨σ.take sp.bs.length++[b],core _ [b] rfl rfl ?_ ?_ ?_ (fun i t cs b' hi hb'=>?_) ?_⟩
        · rw[List.nodup_append]
          exact ⟨hS.mem.nodup.sublist (List.take_sublist _ _),by simp,fun x hx z hz e=>hnot (by
            rw[List.mem_singleton]at hz
            rw[←hz,←e];exact hx)⟩
        · intro z hz
          rcases List.mem_append.1 hz with h1|h1
          · exact List.mem_of_mem_take h1
          · rw[List.mem_singleton.1 h1];exact List.mem_of_getElem? hb
        · by_cases hcase:σ0.length≤sp.bs.length
          · refine ⟨τ.take (sp.bs.length-σ0.length)++[b],?_,fun z hz=>?_⟩
            · rw[eτ,List.take_append,List.take_of_length_le hcase,List.append_assoc]
            · rcases List.mem_append.1 hz with h1|h1
              · exact hτ z (List.mem_of_mem_take h1)
              · rw[List.mem_singleton.1 h1]
                refine hτ b ?_
                rw[eτ,List.getElem?_append_right (by omega)]at hb
                exact List.mem_of_getElem? hb
          · have hfx:sp.fixed=true:=by
              cases hq:sp.fixed with
              | true=>rfl
              | false=>rw[hq]at h0;simp at h0;omega
            have hj:j=sp.bs.length:=by
              have h2:=hc.2
              rw[hfx]at h2
              simpa using h2
            rw[hfx]at h0
            simp at h0
            have h0':σ0.length=sp.bs.length+1:=by omega
            have e2:σ.take sp.bs.length++[b]=σ0:=by
              have:σ.take (sp.bs.length+1)=σ.take sp.bs.length++[b]:=by
                rw[List.take_add_one,←hj,hb];rfl
              rw[←this,eτ,←h0',List.take_left']
              rfl
            rw[e2]
            exact Ext.refl _ _
        · rcases i with _|i
          · simp only[RSpec.rowMem,List.getElem?_cons_zero,Option.some.injEq,Prod.mk.injEq]at hi hb'
            obtain ⟨rfl,rfl⟩:=hi
            subst hb'
            exact ⟨us,hbl,row_none his []⟩
          · simp[RSpec.rowMem]at hi
        · rw[hve]
          refine .one rfl (.os ?_ hncap .nil)
          have htl:(σ.take sp.bs.length).length=sp.bs.length:=by rw[List.length_take];omega
          rw[List.getElem?_append_right (by omega),htl,Nat.sub_self];rfl
      · cases hr
    · cases hr
  · cases hr
theorem headR_ok (sp:RSpec) {x:sp.X} {y:sp.Y} {g:sp.G} {p:Prop} (hS:Sat w0 φ σ0 σ st a w) (h0:σ0.length≤sp.bs.length+(if sp.fixed then 1 else 0)) (h:sp.dec st=some (x,y,g,p)) (hp:p) : ∃ σ',Sat w0 φ σ0 σ' (sp.head x y g) a w:=by
  unfold RSpec.dec at h
  split at h
  · rename_i hc
    simp only[Bool.and_eq_true,decide_eq_true_eq]at hc
    split at h
    · rename_i l g' j p' hl hr
      split at h
      · rename_i x' y' hd hy
        cases h
        obtain ⟨k1,k2⟩:=gets_ok _ _ _ hl
        obtain ⟨d1,d2⟩:=decs_ok (w:=w) (R:=Ro w φ σ) (σ:=σ) (vts sp.vs) l x ((sp.vs.map (·.1)).map fun s=>a.tmps.getD s undef) hd (by simp at k1 ⊢;omega) (fun i b v hb hv=>by
          rw[List.getElem?_map]at hv
          cases hq:(sp.vs.map (·.1))[i]? with
          | none=>rw[hq]at hv;simp at hv
          | some s =>
            rw[hq]at hv
            simp only[Option.map_some,Option.some.injEq]at hv
            subst hv
            exact hS.fr.at_ s b (k2 i s b hq hb))
        refine row_view sp hS h0 hc.1 hc.2 hy hr hp _ fun q hq=>?_
        obtain ⟨i,hi,e⟩:=List.getElem_of_mem hq
        have hz:((sp.vs.map (·.1)).zip (encs (vts sp.vs) x))[i]?=some q:=by rw[List.getElem?_eq_getElem hi,e]
        rw[List.getElem?_zip_eq_some]at hz
        have hv:((sp.vs.map (·.1)).map fun s=>a.tmps.getD s undef)[i]?=some (a.tmps.getD q.1 undef):=by rw[List.getElem?_map,hz.1];rfl
        exact d2 i _ _ hz.2 hv
      · cases h
    · cases h
  · cases h
theorem exitR_ok (sp:RSpec) {e:Exit} {avs:List Av} {y:sp.Y} {g:sp.G} {p:Prop} (hS:Sat w0 φ σ0 σ st a w) (h0:σ0.length≤sp.bs.length+(if sp.fixed then 1 else 0)) (h:sp.decE e st=some (avs,y,g,p)) (hp:p) : ∃ σ',Sat w0 φ σ0 σ' (sp.exitSt e avs y g) a w:=by
  unfold RSpec.decE at h
  split at h
  · rename_i hc
    simp only[Bool.and_eq_true,decide_eq_true_eq]at hc
    split at h
    · rename_i l g' j p' hl hr
      split at h
      · rename_i y' hno hy
        cases h
        obtain ⟨k1,k2⟩:=gets_ok _ _ _ hl
        refine row_view sp hS h0 hc.1 hc.2 hy hr hp _ fun q hq=>?_
        obtain ⟨i,hi,e1⟩:=List.getElem_of_mem hq
        have hz:((sp.ex e).zip (l.map nA))[i]?=some q:=by rw[List.getElem?_eq_getElem hi,e1]
        rw[List.getElem?_zip_eq_some]at hz
        have hz2:=hz.2
        rw[List.getElem?_map]at hz2
        cases hq:l[i]? with
        | none=>rw[hq]at hz2;simp at hz2
        | some b =>
          rw[hq]at hz2
          simp only[Option.map_some,Option.some.injEq]at hz2
          rw[←hz2]
          have hb:=hS.fr.at_ _ _ (k2 i _ b hz.1 hq)
          have hn:=List.all_eq_true.1 hno b (List.mem_of_getElem? hq)
          exact nA_is (av_no hb hn)
      · cases h
    · cases h
  · cases h
inductive RRd (sp:RSpec):Type
  | again (x:sp.X) (y:sp.Y) (g:sp.G)
  | out (e:Exit) (avs:List Av) (y:sp.Y) (g:sp.G)
def RSpec.round {P:Program} (sp:RSpec) (E:Env P) (L:Loops) (body:Code) (x:sp.X) (y:sp.Y) (g:sp.G):T (RRd sp):=
  (code (E.at_ (sp.bs.length+(if sp.fixed then 1 else 0))) L body (sp.head x y g)).bind fun r=>match r.1 with
    | .normal=>match sp.dec r.2 with
      | some (x',y',g',p)=>.need p (.ret (.again x' y' g'))
      | none=>.fail
    | e=>match sp.decE e r.2 with
      | some (avs,y',g',p)=>.need p (.ret (.out e avs y' g'))
      | none=>.fail
def RSpec.run (sp:RSpec) (out:sp.X→sp.Y→sp.G→T (Exit×List Av×sp.Y×sp.G)) (st:St):T (Exit×St):=
  match sp.dec st with
  | some (x,y,g,p)=>.need p ((out x y g).bind fun r=>.ret (r.1,sp.exitSt r.1 r.2.1 r.2.2.1 r.2.2.2))
  | none=>.fail
theorem loopR_ok (hm:P.follows .mixedOrders=true) (k:Nat) {body:Code} (hL:LoopsOk P k L body) (sp:RSpec) (hk:k≤sp.bs.length+(if sp.fixed then 1 else 0)) (out:sp.X→sp.Y→sp.G→T (Exit×List Av×sp.Y×sp.G)) (μ:sp.X→sp.Y→sp.G→Nat)
    (hb : ∀ x y g Q,(out x y g).wp Q→(sp.round E L body x y g).wp fun r=>match r with
      | .again x' y' g'=>μ x' y' g'<μ x y g∧(out x' y' g').wp Q
      | .out e avs y' g'=>Q (e,avs,y',g')):LoopOk P k body (sp.run out):=by
  intro w0 φ σ0 σ st a w Q hσ hφ hS hrun
  unfold RSpec.run at hrun
  split at hrun
  · rename_i x y g p hd
    obtain ⟨hp,hrun⟩:=hrun
    rw[T.wp_bind]at hrun
    obtain ⟨σ1,h0⟩:=headR_ok sp hS (by omega) hd hp
    refine wp_loop_ghost (fun n a w => ∃ x y g σ,n=μ x y g∧Sat w0 φ σ0 σ (sp.head x y g) a w∧(out x y g).wp fun r=>(T.ret (r.1,sp.exitSt r.1 r.2.1 r.2.2.1 r.2.2.2)).wp Q) _ ⟨x,y,g,_,rfl,h0,hrun⟩ fun n a w hI=>?_
    obtain ⟨x,y,g,σ,rfl,hS,hout⟩:=hI
    have h1:=hb x y g _ hout
    unfold RSpec.round at h1
    rw[T.wp_bind]at h1
    refine wp_mono (code_ok (E:=E.at_ (sp.bs.length+(if sp.fixed then 1 else 0))) hm hσ (by show σ0.length≤sp.bs.length+_;omega) hφ body _ σ a w _ hL hS h1) fun e a' w' hr=>?_
    obtain ⟨hq,st',σ',h2,h3⟩:=hr
    cases e with
    | normal =>
      simp only[Exit.then]
      simp only at h2
      split at h2
      · rename_i x' y' g' p' hd'
        obtain ⟨hp',h2⟩:=h2
        obtain ⟨σ2,h4⟩:=headR_ok sp h3 (by omega) hd' hp'
        exact ⟨_,h2.1,x',y',g',_,rfl,h4,h2.2⟩
      · exact h2.elim
    | panic _=>cases hq
    | outgrown=>cases hq
    | exit id =>
      simp only[Exit.then]
      simp only at h2
      split at h2
      · rename_i avs y' g' p' hd'
        obtain ⟨hp',h2⟩:=h2
        obtain ⟨σ2,h4⟩:=exitR_ok sp h3 (by omega) hd' hp'
        exact ⟨rfl,_,_,h2,h4⟩
      · exact h2.elim
    | ret =>
      simp only[Exit.then]
      simp only at h2
      split at h2
      · rename_i avs y' g' p' hd'
        obtain ⟨hp',h2⟩:=h2
        obtain ⟨σ2,h4⟩:=exitR_ok sp h3 (by omega) hd' hp'
        exact ⟨rfl,_,_,h2,h4⟩
      · exact h2.elim
    | goto l =>
      simp only[Exit.then]
      simp only at h2
      split at h2
      · rename_i avs y' g' p' hd'
        obtain ⟨hp',h2⟩:=h2
        obtain ⟨σ2,h4⟩:=exitR_ok sp h3 (by omega) hd' hp'
        exact ⟨rfl,_,_,h2,h4⟩
      · exact h2.elim
  · exact hrun.elim
end
end Ax
namespace Go.Proofs.YtbkfakkkikmcbaaGreatDoor
open Go.RowKit
theorem u_am:Tryz.prog.underlying 202=some (.array 32 36):=by kernel_rfl
theorem u_arr:Tryz.prog.underlying 37=some (.array 32 36):=by kernel_rfl
theorem s_am (x:Nat):(Tryz.prog.info? 202).map (·.size)=some (Pq.am 32 x).length:=by rw[Pq.am_length];kernel_rfl
theorem s_arr (x:Nat):(Tryz.prog.info? 37).map (·.size)=some (Pq.am 32 x).length:=by rw[Pq.am_length];kernel_rfl
theorem u_wide:Tryz.prog.underlying 39=some (.struct ((match Tryz.prog.underlying 39 with|some (.struct fs)=>fs|_ => #[]))):=by kernel_rfl
theorem s_wide (n:Bool) (x:Nat):(Tryz.prog.info? 39).map (·.size)=some (Pq.wl n x).length:=by rw[Pq.wl_length];kernel_rfl
theorem s_widea (n:Bool) (x:Nat):(Tryz.prog.info? 39).map (·.size)=some (Pq.wc n x).size:=by rw[Pq.wc_size];kernel_rfl
theorem built_wide (n:Bool) (x:Nat):Tryz.prog.built 39 [(0,.bool n),(1,.agg (Pq.am 32 x).toArray)]=some (Pq.wc n x):=by kernel_rfl
theorem al_wide (w:World):(Instr.alloc 39 true (.tuple #[])).run Tryz.prog w=.ok (.pointer (some ⟨w.heap.size,0,none⟩)) (w.alloc (.cells (Pq.wc false 0) 39)):=by kernel_rfl
theorem al_am (w:World):(Instr.alloc 202 true (.tuple #[])).run Tryz.prog w=.ok (.pointer (some ⟨w.heap.size,0,none⟩)) (w.alloc (.cells (Pq.am 32 0).toArray 202)):=by kernel_rfl
theorem u_u32:Tryz.prog.underlying 36=some (.int .u32):=by kernel_rfl
theorem u_bool:Tryz.prog.underlying 4=some .bool:=by kernel_rfl
theorem built_none:Tryz.prog.built 39 []=some (Pq.wc false 0):=by kernel_rfl
theorem bx_wide (n:Bool) (x:Nat) (w:World):(Instr.box 39 (.agg (Pq.wc n x))).run Tryz.prog w=.ok (.pointer (some ⟨w.heap.size,0,none⟩)) (w.alloc (.cells (Pq.wc n x) 39)):=by kernel_rfl
theorem built_am2 {a b:Nat} (ha:a<4294967296) (hb:b<4294967296):Tryz.prog.built 202 [(0,.int .u32 (a:Int)),(1,.int .u32 (b:Int))]=some (Pq.am 32 (a+Pq.bp 1*b)).toArray:=by
  rw[Pq.am_two ha hb];kernel_rfl
theorem built_am1' {a:Nat}:Tryz.prog.built 202 [(0,.int .u32 (a:Int))]=some ((Value.int .u32 (a:Int)::Value.int .u32 ((0:Nat):Int)::List.replicate 30 (Value.int .u32 0)).toArray):=by kernel_rfl
theorem built_am1 {a:Nat} (ha:a<4294967296):Tryz.prog.built 202 [(0,.int .u32 (a:Int))]=some (Pq.am 32 a).toArray:=by
  have h:=Pq.am_two ha (show 0<4294967296 by decide)
  rw[Nat.mul_zero,Nat.add_zero]at h
  rw[h];exact built_am1'
theorem built_am0:Tryz.prog.built 202 []=some (Pq.am 32 0).toArray:=by kernel_rfl
theorem bx_am (x:Nat) (w:World):(Instr.box 202 (.agg (Pq.am 32 x).toArray)).run Tryz.prog w=.ok (.pointer (some ⟨w.heap.size,0,none⟩)) (w.alloc (.cells (Pq.am 32 x).toArray 202)):=by kernel_rfl
theorem made_zero (n:Nat):madeCells #[Value.int .u32 0] (n*1)=(Pq.am n 0).toArray:=by
  apply Array.ext (by simp[madeCells,Pq.am_length])
  intro i h1 h2
  have hi:i<n:=by simpa [Pq.am_length] using h2
  have e:(Pq.am n 0)[i]?=some (.int .u32 0):=by rw[Pq.am_get hi,Pq.wd_zero];rfl
  have e2:(Pq.am n 0).toArray[i]=.int .u32 0:=by
    have:=(List.getElem?_eq_some_iff.1 e).2;simpa using this
  rw[e2]
  simp only[madeCells,Array.getElem_map]
  simp[Nat.mod_one]
theorem mk_u32 (n:Nat) (hn:n≤1000000) (w:World):(Instr.makeSlice 96 (.int .i64 (n:Int)) (.int .i64 (n:Int))).run Tryz.prog w=.ok (.slice (some ⟨w.heap.size,0,none⟩) n n) (w.alloc (.cells (Pq.am n 0).toArray 36)):=by
  have hinfo:(Tryz.prog.info? 36).map (fun i=>(i.zero,i.size,i.bytes))=some (some (.int .u32 0),1,4):=by kernel_rfl
  obtain ⟨i,hi,hz0,hz1,hz2⟩:=info_parts hinfo
  have:=run_make (P:=Tryz.prog) w 96 36 i (.int .u32 0) (by kernel_rfl) hi hz0 .i64 .i64 (n:Int) (n:Int) (by omega) (by omega) (by rw[hz2];omega) (by omega)
  rw[hz1,Int.toNat_natCast]at this
  rw[this,←made_zero]
  rfl
theorem cf_size (xs:Array Value) (w:World):(callFunc 121 xs).run Tryz.prog w=.ok (.enter 121 xs) w:=by kernel_rfl
theorem cf_of (xs:Array Value) (w:World):(callFunc 120 xs).run Tryz.prog w=.ok (.enter 120 xs) w:=by kernel_rfl
set_option maxHeartbeats 400000 in
theorem size_any (b o:Nat) (x s:Nat) (hs:s=Pq.szn 32 x) (w:World) (hc:w.rangeAt b o (Pq.am 32 x)) :
    Calls Tryz.prog 121 #[.pointer (some ⟨b,o,none⟩)] w fun e w'=>e=.returned (.int .i64 s)∧w=w':=by
  subst hs
  have HC:=Lib.hid hc;clear hc
  go_enter Tryz.func121,Tryz.ntmps121
  go_wp2
  go_loop [3] (fun n => ∃ k:Nat,n=.int .i64 k∧k≤32∧Hid (Pq.szn 32 x=Pq.szn k x)) (fun n=>(intOf n).toNat)
  case atStart=>exact ⟨32,rfl,by omega,Lib.hid rfl⟩
  case round =>
    obtain ⟨k,rfl,hk,hz⟩:=hrel
    rcases k with _|k
    · go_wp2
      go_ret
      exact ⟨by rw[hz.out];rfl,rfl⟩
    · have hcell:=HC.out k _ (Pq.am_get (x:=x) (show k<32 by omega))
      by_cases hz0:Pq.wd x k=0
      · have hb:(((Pq.wd x k:Nat):Int)==0)=true:=by rw[hz0];rfl
        go_wp2
        exact ⟨⟨k,rfl,by omega,Lib.hid (by rw[hz.out,Pq.szn,if_pos hz0])⟩,by simp[intOf]⟩
      · have hb:(((Pq.wd x k:Nat):Int)==0)=false:=by simp;omega
        go_wp2
        go_ret
        exact ⟨by rw[hz.out,Pq.szn,if_neg hz0];rfl,rfl⟩
set_option maxHeartbeats 400000 in
theorem of_any (n:Bool) (x:Nat) (w:World) :
    Calls Tryz.prog 120 #[.agg (Pq.wc n x)] w fun e w'=>e=.returned (.pointer (some ⟨w.heap.size+1,0,none⟩))∧(w.alloc (.cells (Pq.wc n x) 39)).alloc (.cells (Pq.am 32 x).toArray 202)=w':=by
  go_enter Tryz.func120,Tryz.ntmps120
  have hr:(w.alloc (.cells (Pq.wc n x) 39)).rangeAt w.heap.size 1 (Pq.am 32 x):=(Pq.range_cons (Pq.range_block (heap_alloc_new _ _))).2
  have HR:=Lib.hid hr;clear hr
  go_wp2_with (first|(refine wpList_load_mid rfl 37 _ rfl _ _ rfl _ _ HR.out u_arr rfl (s_arr x) ?_)|(refine Pq.wpList_store_new rfl 202 _ _ rfl _ (Pq.am 32 x).toArray _ _ rfl ?_ rfl ?_ ?_ (Pq.am_one _ _) ?_;(simp);(simp only[List.size_toArray];exact s_am x);(simp[Pq.am_length])))
  go_ret
  exact ⟨rfl,rfl⟩
set_option maxRecDepth 100000 in
set_option maxHeartbeats 400000 in
theorem told_any (n:Bool) (b o:Nat) (x:Nat) (w:World) (hx:x<Pq.bp 32) (hc:w.rangeAt b o (Pq.am 32 x)) (hb:b<w.heap.size) :
    Calls Tryz.prog 133 #[.bool n,.pointer (some ⟨b,o,none⟩)] w (Pq.Ret w (.agg (Pq.wc (Pq.ng n x) x))):=by
  have HC:=Lib.hid hc;clear hc
  have HX:=Lib.hid hx;clear hx
  have hbl:Below w.heap.size w (w.alloc (.cells (Pq.wc false 0) 39)):=(Below.refl _ _).alloc (Nat.le_refl _) _
  have HR:=Lib.hid (Pq.range_in HC.out hbl)
  have HB:=Lib.hid hbl;clear hbl
  have HG:Hid ((w.alloc (.cells (Pq.wc false 0) 39)).heap[w.heap.size]?=some (.cells (Pq.wc false 0) 39)):=Lib.hid (heap_alloc_new _ _)
  by_cases h0:n=true∧x≠0
  · obtain ⟨rfl,h0⟩:=h0
    obtain ⟨s,hs⟩ : ∃ s,s=Pq.szn 32 x:=⟨_,rfl⟩
    have hp:decide (0<s)=true:=by have:=(Pq.szn_pos HX.out).2 h0;rw[←hs]at this;simpa using this
    have HS:=Lib.hid hs;clear hs
    go_enter Tryz.func133,Tryz.ntmps133
    go_wp2_with (refine Pq.wpList_alloc rfl _ rfl (Pq.wc false 0) al_wide ?_;try simp only[Pq.size_alloc])
    refine Pq.wp_region_grown (some w.heap.size) [(0,true),(1,true),(2,true),(6,true),(7,true),(8,true),(3,false),(4,true),(5,true),(9,true),(10,false)] (by kernel_rfl) (by kernel_rfl) (fun _ _ d _ _ h=>by cases d <;> exact h) (fun hS=>?_)
    simp only[Pq.pick,List.filterMap_cons,List.filterMap_nil,List.getElem?_cons_zero,List.getElem?_cons_succ,Option.map_some]
    iterate 5
      refine Pq.wpO_step (by rfl) ?_
      apply Exists.intro
      refine ⟨fun w' hw'=>?_,?_⟩
      · go_simp;first|done|with_reducible rfl|exact ⟨rfl,rfl⟩
      simp only[Pq.zz]
    refine Pq.wpO_load b o (Pq.am 32 x) HR.out (by simp;omega) (by rfl) _ _ rfl rfl _ u_am rfl (s_am x) ?_
    simp only[Pq.zz]
    refine Pq.wpO_call (by rfl) cf_size (size_any b o x s HS.out _ (Pq.range_by HR.out hS (by simp;omega))) rfl rfl ?_;rintro e w1 ⟨rfl,rfl⟩;refine ⟨_,rfl,hS,?_⟩
    simp only[Pq.zz]
    iterate 2
      refine Pq.wpO_step (by rfl) ?_
      apply Exists.intro
      refine ⟨fun w' hw'=>?_,?_⟩
      · go_simp;first|done|with_reducible rfl|exact ⟨rfl,rfl⟩
      simp only[Pq.zz]
    refine Pq.wpO_build (by rfl) _ _ rfl [(0,.bool true),(1,.agg (Pq.am 32 x).toArray)] rfl _ (built_wide _ _) ?_
    simp only[Pq.zz]
    refine Pq.wpO_store (by rfl) 39 _ _ rfl w.heap.size (Pq.wc _ _) rfl rfl 39 (Pq.wc false 0) HG.out (s_widea _ _) (by simp only[Pq.wc_size]) (Pq.wc_one _ _) (Pq.grown_setRow hS) ?_
    try simp only[Pq.zz]
    refine Pq.wpO_nil ?_
    go_wp2
    refine Pq.ret_cell rfl _ _ _ _ _ rfl (Pq.setRow_at HG.out) u_wide rfl (s_widea _ _) rfl ⟨?_,Pq.below_setRow (Pq.below_drew HB.out) (Nat.le_refl _)⟩
    rw[show Pq.ng true x=true from by simp[Pq.ng,h0]]
  · have hf:Pq.ng n x=false:=by
      unfold Pq.ng
      cases n
      · rfl
      · simp at h0;simp[h0]
    cases n
    · go_enter Tryz.func133,Tryz.ntmps133
      go_wp2_with (refine Pq.wpList_alloc rfl _ rfl (Pq.wc false 0) al_wide ?_;try simp only[Pq.size_alloc])
      refine Pq.wp_region_grown (some w.heap.size) [(0,true),(1,true),(2,true),(6,true),(7,true),(8,true),(3,false),(4,true),(5,true),(9,true),(10,false)] (by kernel_rfl) (by kernel_rfl) (fun _ _ d _ _ h=>by cases d <;> exact h) (fun hS=>?_)
      simp only[Pq.pick,List.filterMap_cons,List.filterMap_nil,List.getElem?_cons_zero,List.getElem?_cons_succ,Option.map_some]
      iterate 2
        refine Pq.wpO_step (by rfl) ?_
        apply Exists.intro
        refine ⟨fun w' hw'=>?_,?_⟩
        · go_simp;first|done|with_reducible rfl|exact ⟨rfl,rfl⟩
        simp only[Pq.zz]
      refine Pq.wpO_skip (by kernel_rfl) ?_
      simp only[Pq.zz]
      iterate 2
        refine Pq.wpO_step (by rfl) ?_
        apply Exists.intro
        refine ⟨fun w' hw'=>?_,?_⟩
        · go_simp;first|done|with_reducible rfl|exact ⟨rfl,rfl⟩
        simp only[Pq.zz]
      refine Pq.wpO_load b o (Pq.am 32 x) HR.out (by simp;omega) (by rfl) _ _ rfl rfl _ u_am rfl (s_am x) ?_
      simp only[Pq.zz]
      refine Pq.wpO_skip (by kernel_rfl) ?_
      simp only[Pq.zz]
      refine Pq.wpO_skip (by kernel_rfl) ?_
      simp only[Pq.zz]
      refine Pq.wpO_step (by rfl) ?_
      apply Exists.intro
      refine ⟨fun w' hw'=>?_,?_⟩
      · go_simp;first|done|with_reducible rfl|exact ⟨rfl,rfl⟩
      simp only[Pq.zz]
      refine Pq.wpO_build (by rfl) _ _ rfl [(0,.bool false),(1,.agg (Pq.am 32 x).toArray)] rfl _ (built_wide _ _) ?_
      simp only[Pq.zz]
      refine Pq.wpO_store (by rfl) 39 _ _ rfl w.heap.size (Pq.wc _ _) rfl rfl 39 (Pq.wc false 0) HG.out (s_widea _ _) (by simp only[Pq.wc_size]) (Pq.wc_one _ _) (Pq.grown_setRow hS) ?_
      try simp only[Pq.zz]
      refine Pq.wpO_nil ?_
      go_wp2
      refine Pq.ret_cell rfl _ _ _ _ _ rfl (Pq.setRow_at HG.out) u_wide rfl (s_widea _ _) rfl ⟨?_,Pq.below_setRow (Pq.below_drew HB.out) (Nat.le_refl _)⟩
      rw[hf]
    · obtain rfl:x=0:=by simpa using h0
      go_enter Tryz.func133,Tryz.ntmps133
      go_wp2_with (refine Pq.wpList_alloc rfl _ rfl (Pq.wc false 0) al_wide ?_;try simp only[Pq.size_alloc])
      refine Pq.wp_region_grown (some w.heap.size) [(0,true),(1,true),(2,true),(6,true),(7,true),(8,true),(3,false),(4,true),(5,true),(9,true),(10,false)] (by kernel_rfl) (by kernel_rfl) (fun _ _ d _ _ h=>by cases d <;> exact h) (fun hS=>?_)
      simp only[Pq.pick,List.filterMap_cons,List.filterMap_nil,List.getElem?_cons_zero,List.getElem?_cons_succ,Option.map_some]
      iterate 5
        refine Pq.wpO_step (by rfl) ?_
        apply Exists.intro
        refine ⟨fun w' hw'=>?_,?_⟩
        · go_simp;first|done|with_reducible rfl|exact ⟨rfl,rfl⟩
        simp only[Pq.zz]
      refine Pq.wpO_load b o (Pq.am 32 0) HR.out (by simp;omega) (by rfl) _ _ rfl rfl _ u_am rfl (s_am 0) ?_
      simp only[Pq.zz]
      refine Pq.wpO_call (by rfl) cf_size (size_any b o 0 0 (by decide +kernel) _ (Pq.range_by HR.out hS (by simp;omega))) rfl rfl ?_;rintro e w1 ⟨rfl,rfl⟩;refine ⟨_,rfl,hS,?_⟩
      simp only[Pq.zz]
      iterate 2
        refine Pq.wpO_step (by rfl) ?_
        apply Exists.intro
        refine ⟨fun w' hw'=>?_,?_⟩
        · go_simp;first|done|with_reducible rfl|exact ⟨rfl,rfl⟩
        simp only[Pq.zz]
      refine Pq.wpO_build (by rfl) _ _ rfl [(0,.bool false),(1,.agg (Pq.am 32 0).toArray)] rfl _ (built_wide _ _) ?_
      simp only[Pq.zz]
      refine Pq.wpO_store (by rfl) 39 _ _ rfl w.heap.size (Pq.wc _ _) rfl rfl 39 (Pq.wc false 0) HG.out (s_widea _ _) (by simp only[Pq.wc_size]) (Pq.wc_one _ _) (Pq.grown_setRow hS) ?_
      try simp only[Pq.zz]
      refine Pq.wpO_nil ?_
      go_wp2
      refine Pq.ret_cell rfl _ _ _ _ _ rfl (Pq.setRow_at HG.out) u_wide rfl (s_widea _ _) rfl ⟨?_,Pq.below_setRow (Pq.below_drew HB.out) (Nat.le_refl _)⟩
      rw[hf]
theorem cf_told (xs:Array Value) (w:World):(callFunc 133 xs).run Tryz.prog w=.ok (.enter 133 xs) w:=by kernel_rfl
theorem cf_below (xs:Array Value) (w:World):(callFunc 134 xs).run Tryz.prog w=.ok (.enter 134 xs) w:=by kernel_rfl
set_option maxRecDepth 100000 in
set_option maxHeartbeats 400000 in
theorem below_any (n:Bool) (x:Nat) (w:World) (hx:x<Pq.bp 32) :
    Calls Tryz.prog 134 #[.agg (Pq.wc n x)] w (Pq.Ret w (.bool (Pq.ng n x))):=by
  have HX:=Lib.hid hx;clear hx
  have hb1:Below w.heap.size w (w.alloc (.cells (Pq.wc n x) 39)):=(Below.refl _ _).alloc (Nat.le_refl _) _
  have HR:=Lib.hid (Pq.range_block (heap_alloc_new w (.cells (Pq.wl n x).toArray 39)))
  have HB:=Lib.hid hb1;clear hb1
  have h0:=Pq.wc_zero n x
  cases n
  · go_enter Tryz.func134,Tryz.ntmps134
    go_wp2
    go_ret
    exact ⟨rfl,HB.out⟩
  · obtain ⟨s,hs⟩ : ∃ s,s=Pq.szn 32 x:=⟨_,rfl⟩
    have hp:decide (0<s)=Pq.ng true x:=by
      have:=Pq.szn_pos HX.out;rw[←hs]at this
      rw[Bool.eq_iff_iff];simp[Pq.ng];omega
    have HS:=Lib.hid hs;clear hs
    have HP:=Lib.hid hp;clear hp
    go_enter Tryz.func134,Tryz.ntmps134
    go_upto_region 1 with fail
    apply wp_region_lit
    iterate 3
      refine Pq.wpL_step (by rfl) ?_
      apply Exists.intro
      apply Exists.intro
      refine ⟨?_,?_⟩
      · go_simp;first|done|with_reducible rfl|exact ⟨rfl,rfl⟩
      simp only[Pq.zz]
    refine Pq.wpL_load w.heap.size 0 (Pq.wl true x) HR.out (by rfl) _ _ rfl rfl _ u_wide rfl (s_wide _ _) ?_
    simp only[Pq.zz]
    refine Pq.wpL_call (by rfl) cf_of (of_any true x _) rfl rfl ?_;rintro e w1 ⟨rfl,rfl⟩;refine ⟨_,rfl,?_⟩
    simp only[Pq.zz]
    refine Pq.wpL_call (by rfl) cf_size (size_any _ 0 x s HS.out _ (Pq.range_block (heap_alloc2_new _ _ _))) rfl rfl ?_;rintro e w1 ⟨rfl,rfl⟩;refine ⟨_,rfl,?_⟩
    simp only[Pq.zz]
    iterate 3
      refine Pq.wpL_step (by rfl) ?_
      apply Exists.intro
      apply Exists.intro
      refine ⟨?_,?_⟩
      · go_simp;first|done|with_reducible rfl|exact ⟨rfl,rfl⟩
      simp only[Pq.zz]
    refine Pq.wpL_nil ?_
    go_wp2
    go_ret
    exact ⟨by rw[HP.out];rfl,Pq.below_alloc (Pq.below_alloc HB.out (Nat.le_refl _) _) (Nat.le_refl _) _⟩
theorem of_ptr (n:Bool) (x:Nat) (w:World):Calls Tryz.prog 120 #[.agg (Pq.wc n x)] w (Pq.Ptr w x):=
  (of_any n x w).mono fun e w' ⟨he,hw⟩=>by
    subst hw
    exact ⟨_,he,Pq.range_block (heap_alloc2_new _ _ _),((Below.refl _ _).alloc (Nat.le_refl _) _).alloc (by simp) _,by omega,by simp⟩
set_option maxRecDepth 100000 in
set_option maxHeartbeats 400000 in
theorem is_any (n:Bool) (x:Nat) (w:World) (hx:x<Pq.bp 32) :
    Calls Tryz.prog 118 #[.agg (Pq.wc n x)] w (Pq.Ret w (.bool (!n || !(x==0)))):=by
  have HX:=Lib.hid hx;clear hx
  have hb1:Below w.heap.size w (w.alloc (.cells (Pq.wc n x) 39)):=(Below.refl _ _).alloc (Nat.le_refl _) _
  have HR:=Lib.hid (Pq.range_block (heap_alloc_new w (.cells (Pq.wl n x).toArray 39)))
  have HB:=Lib.hid hb1;clear hb1
  have h0:=Pq.wc_zero n x
  cases n
  · go_enter Tryz.func118,Tryz.ntmps118
    go_wp2
    go_ret
    exact ⟨rfl,HB.out⟩
  · obtain ⟨s,hs⟩ : ∃ s,s=Pq.szn 32 x:=⟨_,rfl⟩
    have hp:decide (0<s)=(!true || !(x==0)):=by
      have:=Pq.szn_pos HX.out;rw[←hs]at this
      rw[Bool.eq_iff_iff];simp;omega
    have HS:=Lib.hid hs;clear hs
    have HP:=Lib.hid hp;clear hp
    go_enter Tryz.func118,Tryz.ntmps118
    go_upto_region 1 with fail
    apply wp_region_lit
    iterate 4
      refine Pq.wpL_step (by rfl) ?_
      apply Exists.intro
      apply Exists.intro
      refine ⟨?_,?_⟩
      · go_simp;first|done|with_reducible rfl|exact ⟨rfl,rfl⟩
      simp only[Pq.zz]
    refine Pq.wpL_load w.heap.size 0 (Pq.wl true x) HR.out (by rfl) _ _ rfl rfl _ u_wide rfl (s_wide _ _) ?_
    simp only[Pq.zz]
    refine Pq.wpL_call (by rfl) cf_of (of_any true x _) rfl rfl ?_;rintro e w1 ⟨rfl,rfl⟩;refine ⟨_,rfl,?_⟩
    simp only[Pq.zz]
    refine Pq.wpL_call (by rfl) cf_size (size_any _ 0 x s HS.out _ (Pq.range_block (heap_alloc2_new _ _ _))) rfl rfl ?_;rintro e w1 ⟨rfl,rfl⟩;refine ⟨_,rfl,?_⟩
    simp only[Pq.zz]
    iterate 3
      refine Pq.wpL_step (by rfl) ?_
      apply Exists.intro
      apply Exists.intro
      refine ⟨?_,?_⟩
      · go_simp;first|done|with_reducible rfl|exact ⟨rfl,rfl⟩
      simp only[Pq.zz]
    refine Pq.wpL_nil ?_
    go_wp2
    go_ret
    exact ⟨by rw[HP.out];rfl,Pq.below_alloc (Pq.below_alloc HB.out (Nat.le_refl _) _) (Nat.le_refl _) _⟩
set_option maxRecDepth 100000 in
set_option maxHeartbeats 400000 in
theorem neg_any (n:Bool) (x:Nat) (w:World) (hx:x<Pq.bp 32) :
    Calls Tryz.prog 160 #[.agg (Pq.wc n x)] w (Pq.Ret w (.agg (Pq.wz (-(Pq.zv n x))))):=by
  have HX:=Lib.hid hx;clear hx
  have HR:=Lib.hid (Pq.range_in (Pq.range_block (heap_alloc_new w (.cells (Pq.wl n x).toArray 39))) (Pq.below_alloc (Below.refl _ _) (Nat.le_refl _) (.cells (Pq.wc false 0) 39)))
  have HG:=Lib.hid (heap_alloc2_new w (.cells (Pq.wc n x) 39) (.cells (Pq.wc false 0) 39))
  have HB:=Lib.hid (Pq.below_alloc (Pq.below_alloc (Below.refl _ w) (Nat.le_refl _) (.cells (Pq.wc n x) 39)) (Nat.le_refl _) (.cells (Pq.wc false 0) 39))
  obtain ⟨m,hm⟩ : ∃ m,m=Pq.ng n x:=⟨_,rfl⟩
  have HM:=Lib.hid hm;clear hm
  go_enter Tryz.func160,Tryz.ntmps160
  go_upto_region 0 with fail
  apply wp_region_lit
  refine Pq.wpL_step (by rfl) ?_
  apply Exists.intro
  apply Exists.intro
  refine ⟨?_,?_⟩
  · go_simp;first|done|with_reducible rfl|exact ⟨rfl,rfl⟩
  simp only[Pq.zz]
  refine Pq.wpL_alloc (w.heap.size+1) (by simp) (by rfl) _ rfl (Pq.wc false 0) al_wide ?_
  simp only[Pq.zz]
  refine Pq.wpL_nil ?_
  go_upto_region 1 with fail
  refine Pq.wp_region_grown (some (w.heap.size+1)) [(0,true),(3,true),(1,false),(2,true),(4,false),(5,false),(6,false)] (by kernel_rfl) (by kernel_rfl) (fun _ _ d _ _ h=>by cases d <;> exact h) (fun hS=>?_)
  simp only[Pq.pick,List.filterMap_cons,List.filterMap_nil,List.getElem?_cons_zero,List.getElem?_cons_succ,Option.map_some]
  refine Pq.wpO_load w.heap.size 0 (Pq.wl n x) HR.out (by simp) (by rfl) _ _ rfl rfl _ u_wide rfl (s_wide _ _) ?_
  simp only[Pq.zz]
  refine Pq.wpO_load w.heap.size 0 (Pq.wl n x) HR.out (by simp) (by rfl) _ _ rfl rfl _ u_wide rfl (s_wide _ _) ?_
  simp only[Pq.zz]
  refine Pq.wpO_ret (by rfl) cf_below (below_any n x _ HX.out) rfl rfl hS ?_;intro w1 hb1 hS1;rw[←HM.out]
  simp only[Pq.zz]
  refine Pq.wpO_step (by rfl) ?_
  apply Exists.intro
  refine ⟨fun w' hw'=>?_,?_⟩
  · go_simp;first|done|with_reducible rfl|exact ⟨rfl,rfl⟩
  simp only[Pq.zz]
  refine Pq.wpO_call (by rfl) cf_of (of_ptr n x _) rfl rfl ?_;rintro e w2 ⟨b,rfl,hr,hb2,_,hlt⟩;have HR2:=Lib.hid hr;clear hr;have hS2:=Pq.grown_then hS1 hb2;refine ⟨_,rfl,hS2,?_⟩
  simp only[Pq.zz]
  refine Pq.wpO_ret (by rfl) cf_told (told_any (!m) b 0 x _ HX.out HR2.out hlt) rfl rfl hS2 ?_;intro w3 hb3 hS3
  simp only[Pq.zz]
  refine Pq.wpO_store (by rfl) 39 _ _ rfl (w.heap.size+1) (Pq.wc _ _) rfl rfl 39 (Pq.wc _ _) ((hb3.block _ (Nat.lt_of_lt_of_le (by simp) (Nat.le_trans hb1.size hb2.size))).trans ((hb2.block _ (Nat.lt_of_lt_of_le (by simp) hb1.size)).trans ((hb1.block _ (by simp)).trans HG.out))) (s_widea _ _) (by simp only[Pq.wc_size]) (Pq.wc_one _ _) (Pq.grown_setRow hS3) ?_
  try simp only[Pq.zz]
  refine Pq.wpO_nil ?_
  go_wp2
  refine Pq.ret_cell rfl _ _ _ _ _ rfl (Pq.setRow_at ((hb3.block _ (Nat.lt_of_lt_of_le (by simp) (Nat.le_trans hb1.size hb2.size))).trans ((hb2.block _ (Nat.lt_of_lt_of_le (by simp) hb1.size)).trans ((hb1.block _ (by simp)).trans HG.out)))) u_wide rfl (s_widea _ _) rfl ⟨?_,Pq.below_setRow (Pq.below_next (Pq.below_next (Pq.below_next (Pq.below_drew HB.out) (Nat.le_refl _) hb1) (Nat.le_refl _) hb2) (Nat.le_refl _) hb3) (by omega)⟩
  rw[HM.out,Pq.wc_not]
set_option maxRecDepth 100000 in
set_option maxHeartbeats 400000 in
theorem acmp_any (b o c q:Nat) (x y:Nat) (w:World) (hx:x<Pq.bp 32) (hy:y<Pq.bp 32) (hb:w.rangeAt b o (Pq.am 32 x)) (hc:w.rangeAt c q (Pq.am 32 y)) :
    Calls Tryz.prog 131 #[.pointer (some ⟨b,o,none⟩),.pointer (some ⟨c,q,none⟩)] w (Pq.Ret w (.int .i64 (Pq.cm x y))):=by
  have HBx:=Lib.hid hb;clear hb
  have HCy:=Lib.hid hc;clear hc
  have HX:=Lib.hid hx;clear hx
  have HY:=Lib.hid hy;clear hy
  go_enter Tryz.func131,Tryz.ntmps131
  go_wp2
  go_loopw [5] (fun i wr => ∃ (k:Nat) (z:Int),i=.int .i64 z∧Hid (z+1=k)∧k≤32∧Hid (∀ j,k≤j→j<32→Pq.wd x j=Pq.wd y j)∧Below w.heap.size w wr) (fun i _=>(intOf i+1).toNat)
  case atStart=>exact ⟨32,31,rfl,Lib.hid rfl,by omega,Lib.hid (fun j h1 h2=>by omega),Below.refl _ _⟩
  case round =>
    obtain ⟨k,z,rfl,hz,hk,he,hbl⟩:=hrel
    rcases k with _|k
    · obtain rfl:z = -1:=by have:=hz.out;omega
      clear hz
      go_wp2
      go_ret
      have:x=y:=Pq.eq_of_wd HX.out HY.out (fun j hj=>he.out j (by omega) hj)
      subst this
      exact ⟨by rw[Pq.cm_eq];rfl,hbl⟩
    · obtain rfl:z=(k:Int):=by have:=hz.out;omega
      clear hz
      have c1:=Pq.range_in HBx.out hbl k _ (Pq.am_get (x:=x) (show k<32 by omega))
      have c2:=Pq.range_in HCy.out hbl k _ (Pq.am_get (x:=y) (show k<32 by omega))
      have C1:=Lib.hid c1;clear c1
      have hk2:(k:Int)<32:=by omega
      have C2:=Lib.hid c2;clear c2
      rcases Nat.lt_trichotomy (Pq.wd x k) (Pq.wd y k) with hlt|heq|hgt
      · have hd:decide (Pq.wd x k<Pq.wd y k)=true:=by simpa using hlt
        have hres:=Lib.hid (Pq.lt_of_wd HX.out HY.out he.out hlt)
        go_upto_region 4 with fail
        refine Pq.wp_region_grown none [(0,true),(1,true),(2,true),(3,true),(4,true),(5,true),(6,true),(7,true),(8,true),(9,true),(10,true),(11,true)] (by kernel_rfl) (by kernel_rfl) (fun _ _ d _ _ h=>by cases d <;> exact h) (fun hS=>?_)
        simp only[Pq.pick,List.filterMap_cons,List.filterMap_nil,List.getElem?_cons_zero,List.getElem?_cons_succ,Option.map_some]
        iterate 4
          refine Pq.wpO_step (by rfl) ?_
          apply Exists.intro
          refine ⟨fun w' hw'=>?_,?_⟩
          · go_simp;first|done|with_reducible rfl|exact ⟨rfl,rfl⟩
          simp only[Pq.zz]
        refine Pq.wpO_cell ⟨b,o+k,none⟩ _ C1.out (by simp) (by rfl) _ _ rfl rfl _ u_u32 rfl ?_
        simp only[Pq.zz]
        iterate 4
          refine Pq.wpO_step (by rfl) ?_
          apply Exists.intro
          refine ⟨fun w' hw'=>?_,?_⟩
          · go_simp;first|done|with_reducible rfl|exact ⟨rfl,rfl⟩
          simp only[Pq.zz]
        refine Pq.wpO_cell ⟨c,q+k,none⟩ _ C2.out (by simp) (by rfl) _ _ rfl rfl _ u_u32 rfl ?_
        simp only[Pq.zz]
        iterate 2
          refine Pq.wpO_step (by rfl) ?_
          apply Exists.intro
          refine ⟨fun w' hw'=>?_,?_⟩
          · go_simp;first|done|with_reducible rfl|exact ⟨rfl,rfl⟩
          simp only[Pq.zz]
        refine Pq.wpO_nil ?_
        go_wp2
        go_ret
        exact ⟨by rw[Pq.cm_lt hres.out];rfl,Pq.below_drew hbl⟩
      · have hd:decide (Pq.wd x k<Pq.wd y k)=false:=by simpa using Nat.le_of_eq heq.symm
        have hd2:decide (Pq.wd y k<Pq.wd x k)=false:=by simpa using Nat.le_of_eq heq
        have HE:=Lib.hid heq;clear heq
        go_upto_region 4 with fail
        refine Pq.wp_region_grown none [(0,true),(1,true),(2,true),(3,true),(4,true),(5,true),(6,true),(7,true),(8,true),(9,true),(10,true),(11,true)] (by kernel_rfl) (by kernel_rfl) (fun _ _ d _ _ h=>by cases d <;> exact h) (fun hS=>?_)
        simp only[Pq.pick,List.filterMap_cons,List.filterMap_nil,List.getElem?_cons_zero,List.getElem?_cons_succ,Option.map_some]
        iterate 4
          refine Pq.wpO_step (by rfl) ?_
          apply Exists.intro
          refine ⟨fun w' hw'=>?_,?_⟩
          · go_simp;first|done|with_reducible rfl|exact ⟨rfl,rfl⟩
          simp only[Pq.zz]
        refine Pq.wpO_cell ⟨b,o+k,none⟩ _ C1.out (by simp) (by rfl) _ _ rfl rfl _ u_u32 rfl ?_
        simp only[Pq.zz]
        iterate 4
          refine Pq.wpO_step (by rfl) ?_
          apply Exists.intro
          refine ⟨fun w' hw'=>?_,?_⟩
          · go_simp;first|done|with_reducible rfl|exact ⟨rfl,rfl⟩
          simp only[Pq.zz]
        refine Pq.wpO_cell ⟨c,q+k,none⟩ _ C2.out (by simp) (by rfl) _ _ rfl rfl _ u_u32 rfl ?_
        simp only[Pq.zz]
        iterate 2
          refine Pq.wpO_step (by rfl) ?_
          apply Exists.intro
          refine ⟨fun w' hw'=>?_,?_⟩
          · go_simp;first|done|with_reducible rfl|exact ⟨rfl,rfl⟩
          simp only[Pq.zz]
        refine Pq.wpO_nil ?_
        go_upto_region 6 with fail
        refine Pq.wp_region_grown none [(0,true),(1,true),(2,true),(3,true),(4,true),(5,true),(6,true),(7,true),(8,true),(9,true),(10,true),(11,true)] (by kernel_rfl) (by kernel_rfl) (fun _ _ d _ _ h=>by cases d <;> exact h) (fun hS=>?_)
        simp only[Pq.pick,List.filterMap_cons,List.filterMap_nil,List.getElem?_cons_zero,List.getElem?_cons_succ,Option.map_some]
        iterate 4
          refine Pq.wpO_step (by rfl) ?_
          apply Exists.intro
          refine ⟨fun w' hw'=>?_,?_⟩
          · go_simp;first|done|with_reducible rfl|exact ⟨rfl,rfl⟩
          simp only[Pq.zz]
        refine Pq.wpO_cell ⟨b,o+k,none⟩ _ C1.out (by simp) (by rfl) _ _ rfl rfl _ u_u32 rfl ?_
        simp only[Pq.zz]
        iterate 4
          refine Pq.wpO_step (by rfl) ?_
          apply Exists.intro
          refine ⟨fun w' hw'=>?_,?_⟩
          · go_simp;first|done|with_reducible rfl|exact ⟨rfl,rfl⟩
          simp only[Pq.zz]
        refine Pq.wpO_cell ⟨c,q+k,none⟩ _ C2.out (by simp) (by rfl) _ _ rfl rfl _ u_u32 rfl ?_
        simp only[Pq.zz]
        iterate 2
          refine Pq.wpO_step (by rfl) ?_
          apply Exists.intro
          refine ⟨fun w' hw'=>?_,?_⟩
          · go_simp;first|done|with_reducible rfl|exact ⟨rfl,rfl⟩
          simp only[Pq.zz]
        refine Pq.wpO_nil ?_
        go_wp2
        go_roundw
        case rel=>exact ⟨k,(k:Int)-1,rfl,Lib.hid (by omega),by omega,Lib.hid (fun j h1 h2=>by
          rcases Nat.eq_or_lt_of_le h1 with rfl|h3
          · exact HE.out
          · exact he.out j h3 h2),Pq.below_drew (Pq.below_drew hbl)⟩
        case measure=>simp[intOf]
      · have hd:decide (Pq.wd x k<Pq.wd y k)=false:=by simpa using Nat.le_of_lt hgt
        have hd2:decide (Pq.wd y k<Pq.wd x k)=true:=by simpa using hgt
        have hres:=Lib.hid (Pq.lt_of_wd HY.out HX.out (fun j h1 h2=>(he.out j h1 h2).symm) hgt)
        go_upto_region 4 with fail
        refine Pq.wp_region_grown none [(0,true),(1,true),(2,true),(3,true),(4,true),(5,true),(6,true),(7,true),(8,true),(9,true),(10,true),(11,true)] (by kernel_rfl) (by kernel_rfl) (fun _ _ d _ _ h=>by cases d <;> exact h) (fun hS=>?_)
        simp only[Pq.pick,List.filterMap_cons,List.filterMap_nil,List.getElem?_cons_zero,List.getElem?_cons_succ,Option.map_some]
        iterate 4
          refine Pq.wpO_step (by rfl) ?_
          apply Exists.intro
          refine ⟨fun w' hw'=>?_,?_⟩
          · go_simp;first|done|with_reducible rfl|exact ⟨rfl,rfl⟩
          simp only[Pq.zz]
        refine Pq.wpO_cell ⟨b,o+k,none⟩ _ C1.out (by simp) (by rfl) _ _ rfl rfl _ u_u32 rfl ?_
        simp only[Pq.zz]
        iterate 4
          refine Pq.wpO_step (by rfl) ?_
          apply Exists.intro
          refine ⟨fun w' hw'=>?_,?_⟩
          · go_simp;first|done|with_reducible rfl|exact ⟨rfl,rfl⟩
          simp only[Pq.zz]
        refine Pq.wpO_cell ⟨c,q+k,none⟩ _ C2.out (by simp) (by rfl) _ _ rfl rfl _ u_u32 rfl ?_
        simp only[Pq.zz]
        iterate 2
          refine Pq.wpO_step (by rfl) ?_
          apply Exists.intro
          refine ⟨fun w' hw'=>?_,?_⟩
          · go_simp;first|done|with_reducible rfl|exact ⟨rfl,rfl⟩
          simp only[Pq.zz]
        refine Pq.wpO_nil ?_
        go_upto_region 6 with fail
        refine Pq.wp_region_grown none [(0,true),(1,true),(2,true),(3,true),(4,true),(5,true),(6,true),(7,true),(8,true),(9,true),(10,true),(11,true)] (by kernel_rfl) (by kernel_rfl) (fun _ _ d _ _ h=>by cases d <;> exact h) (fun hS=>?_)
        simp only[Pq.pick,List.filterMap_cons,List.filterMap_nil,List.getElem?_cons_zero,List.getElem?_cons_succ,Option.map_some]
        iterate 4
          refine Pq.wpO_step (by rfl) ?_
          apply Exists.intro
          refine ⟨fun w' hw'=>?_,?_⟩
          · go_simp;first|done|with_reducible rfl|exact ⟨rfl,rfl⟩
          simp only[Pq.zz]
        refine Pq.wpO_cell ⟨b,o+k,none⟩ _ C1.out (by simp) (by rfl) _ _ rfl rfl _ u_u32 rfl ?_
        simp only[Pq.zz]
        iterate 4
          refine Pq.wpO_step (by rfl) ?_
          apply Exists.intro
          refine ⟨fun w' hw'=>?_,?_⟩
          · go_simp;first|done|with_reducible rfl|exact ⟨rfl,rfl⟩
          simp only[Pq.zz]
        refine Pq.wpO_cell ⟨c,q+k,none⟩ _ C2.out (by simp) (by rfl) _ _ rfl rfl _ u_u32 rfl ?_
        simp only[Pq.zz]
        iterate 2
          refine Pq.wpO_step (by rfl) ?_
          apply Exists.intro
          refine ⟨fun w' hw'=>?_,?_⟩
          · go_simp;first|done|with_reducible rfl|exact ⟨rfl,rfl⟩
          simp only[Pq.zz]
        refine Pq.wpO_nil ?_
        go_wp2
        go_ret
        exact ⟨by rw[Pq.cm_gt hres.out];rfl,Pq.below_drew (Pq.below_drew hbl)⟩
theorem cf_acmp (xs:Array Value) (w:World):(callFunc 131 xs).run Tryz.prog w=.ok (.enter 131 xs) w:=by kernel_rfl
set_option maxRecDepth 100000 in
set_option maxHeartbeats 400000 in
theorem cmp_any (n:Bool) (x:Nat) (m:Bool) (y:Nat) (w:World) (hx:x<Pq.bp 32) (hy:y<Pq.bp 32) :
    Calls Tryz.prog 85 #[.agg (Pq.wc n x),.agg (Pq.wc m y)] w (Pq.Ret w (.int .i64 (Pq.cz (Pq.zv n x) (Pq.zv m y)))):=by
  have HX:=Lib.hid hx;clear hx
  have HY:=Lib.hid hy;clear hy
  have HB:=Lib.hid (Pq.below_alloc (Pq.below_alloc (Below.refl _ w) (Nat.le_refl _) (.cells (Pq.wc n x) 39)) (Nat.le_refl _) (.cells (Pq.wc m y) 39))
  have HR1:=Lib.hid (Pq.al_range (Pq.al_new w (Pq.wl n x) 39) (.cells (Pq.wc m y) 39))
  have HR2:=Lib.hid (Pq.al_new_at (w.alloc (.cells (Pq.wc n x) 39)) (Pq.wl m y) 39 (w.heap.size+1) (by simp))
  obtain ⟨r,hr⟩ : ∃ r,r=Pq.cz (Pq.zv n x) (Pq.zv m y):=⟨_,rfl⟩
  obtain ⟨p,hp⟩ : ∃ p,p=Pq.ng n x:=⟨_,rfl⟩
  obtain ⟨q,hq⟩ : ∃ q,q=Pq.ng m y:=⟨_,rfl⟩
  rw[←hr]
  have HP:=Lib.hid hp;clear hp
  have HQ:=Lib.hid hq;clear hq
  have HRR:=Lib.hid hr;clear hr
  go_enter Tryz.func85,Tryz.ntmps85
  go_upto_region 1 with fail
  refine Pq.wp_region_grown none [(0,true),(2,true),(1,false),(3,false),(4,true),(5,true)] (by kernel_rfl) (by kernel_rfl) (fun _ _ d _ _ h=>by cases d <;> exact h) (fun hS=>?_)
  simp only[Pq.pick,List.filterMap_cons,List.filterMap_nil,List.getElem?_cons_zero,List.getElem?_cons_succ,Option.map_some]
  refine Pq.wpO_load w.heap.size 0 (Pq.wl n x) HR1.out (by simp) (by rfl) _ _ rfl rfl _ u_wide rfl (s_wide _ _) ?_
  simp only[Pq.zz]
  refine Pq.wpO_load (w.heap.size+1) 0 (Pq.wl m y) HR2.out (by simp) (by rfl) _ _ rfl rfl _ u_wide rfl (s_wide _ _) ?_
  simp only[Pq.zz]
  refine Pq.wpO_ret (by rfl) cf_below (below_any n x _ HX.out) rfl rfl hS ?_;intro w1 hb1 hS1;rw[←HP.out]
  simp only[Pq.zz]
  refine Pq.wpO_ret (by rfl) cf_below (below_any m y _ HY.out) rfl rfl hS1 ?_;intro w2 hb2 hS2;rw[←HQ.out]
  simp only[Pq.zz]
  iterate 2
    refine Pq.wpO_step (by rfl) ?_
    apply Exists.intro
    refine ⟨fun w' hw'=>?_,?_⟩
    · go_simp;first|done|with_reducible rfl|exact ⟨rfl,rfl⟩
    simp only[Pq.zz]
  refine Pq.wpO_nil ?_
  have HB2:=Lib.hid (Pq.grown_below hS2)
  have HB3:=Lib.hid (Pq.below_next HB.out (Nat.le_refl _) HB2.out)
  have HR1':=Lib.hid (Pq.range_in HR1.out HB2.out)
  have HR2':=Lib.hid (Pq.range_in HR2.out HB2.out)
  clear hS hS1 hS2 hb1 hb2 HR1 HR2 HB2
  have hz:w.heap.size+1<w2.heap.size:=by have:=HB3.out.size;have:=Pq.range_in HR2'.out (Below.refl _ _);exact block_lt_of_cell (this 0 _ rfl)
  rcases p with _|_ <;> rcases q with _|_
  · go_upto_region 8 with fail
    refine Pq.wp_region_grown none [(0,true),(2,true),(1,false),(3,false),(4,false),(5,true)] (by kernel_rfl) (by kernel_rfl) (fun _ _ d _ _ h=>by cases d <;> exact h) (fun hS=>?_)
    simp only[Pq.pick,List.filterMap_cons,List.filterMap_nil,List.getElem?_cons_zero,List.getElem?_cons_succ,Option.map_some]
    refine Pq.wpO_load w.heap.size 0 (Pq.wl n x) HR1'.out (by simp) (by rfl) _ _ rfl rfl _ u_wide rfl (s_wide _ _) ?_
    simp only[Pq.zz]
    refine Pq.wpO_load (w.heap.size+1) 0 (Pq.wl m y) HR2'.out (by simp) (by rfl) _ _ rfl rfl _ u_wide rfl (s_wide _ _) ?_
    simp only[Pq.zz]
    refine Pq.wpO_call (by rfl) cf_of (of_ptr n x _) rfl rfl ?_;rintro e w3 ⟨b,rfl,hr3,hb3,_,hl3⟩;have HR3:=Lib.hid hr3;clear hr3;have hS3:=Pq.grown_then hS hb3;refine ⟨_,rfl,hS3,?_⟩
    simp only[Pq.zz]
    refine Pq.wpO_call (by rfl) cf_of (of_ptr m y _) rfl rfl ?_;rintro e w4 ⟨c,rfl,hr4,hb4,_,hl4⟩;have HR4:=Lib.hid hr4;clear hr4;have hS4:=Pq.grown_then hS3 hb4;refine ⟨_,rfl,hS4,?_⟩
    simp only[Pq.zz]
    refine Pq.wpO_ret (by rfl) cf_acmp (acmp_any b 0 c 0 x y _ HX.out HY.out (Pq.range_in HR3.out hb4) HR4.out) rfl rfl hS4 ?_;intro w5 hb5 hS5
    simp only[Pq.zz]
    refine Pq.wpO_step (by rfl) ?_
    apply Exists.intro
    refine ⟨fun w' hw'=>?_,?_⟩
    · go_simp;first|done|with_reducible rfl|exact ⟨rfl,rfl⟩
    simp only[Pq.zz]
    refine Pq.wpO_nil ?_
    go_wp2
    go_ret
    refine ⟨?_,Pq.below_next HB3.out (Nat.le_refl _) (Pq.grown_below hS5)⟩
    rw[HRR.out,Pq.cz_pp HP.out.symm HQ.out.symm];rfl
  · go_wp2
    go_ret
    exact ⟨by rw[HRR.out,Pq.cz_hi HP.out.symm HQ.out.symm];rfl,HB3.out⟩
  · go_wp2
    go_ret
    exact ⟨by rw[HRR.out,Pq.cz_lo HP.out.symm HQ.out.symm];rfl,HB3.out⟩
  · go_upto_region 7 with fail
    refine Pq.wp_region_grown none [(0,true),(2,true),(1,false),(3,false),(4,false),(5,true)] (by kernel_rfl) (by kernel_rfl) (fun _ _ d _ _ h=>by cases d <;> exact h) (fun hS=>?_)
    simp only[Pq.pick,List.filterMap_cons,List.filterMap_nil,List.getElem?_cons_zero,List.getElem?_cons_succ,Option.map_some]
    refine Pq.wpO_load (w.heap.size+1) 0 (Pq.wl m y) HR2'.out (by simp) (by rfl) _ _ rfl rfl _ u_wide rfl (s_wide _ _) ?_
    simp only[Pq.zz]
    refine Pq.wpO_load w.heap.size 0 (Pq.wl n x) HR1'.out (by simp) (by rfl) _ _ rfl rfl _ u_wide rfl (s_wide _ _) ?_
    simp only[Pq.zz]
    refine Pq.wpO_call (by rfl) cf_of (of_ptr m y _) rfl rfl ?_;rintro e w3 ⟨b,rfl,hr3,hb3,_,hl3⟩;have HR3:=Lib.hid hr3;clear hr3;have hS3:=Pq.grown_then hS hb3;refine ⟨_,rfl,hS3,?_⟩
    simp only[Pq.zz]
    refine Pq.wpO_call (by rfl) cf_of (of_ptr n x _) rfl rfl ?_;rintro e w4 ⟨c,rfl,hr4,hb4,_,hl4⟩;have HR4:=Lib.hid hr4;clear hr4;have hS4:=Pq.grown_then hS3 hb4;refine ⟨_,rfl,hS4,?_⟩
    simp only[Pq.zz]
    refine Pq.wpO_ret (by rfl) cf_acmp (acmp_any b 0 c 0 y x _ HY.out HX.out (Pq.range_in HR3.out hb4) HR4.out) rfl rfl hS4 ?_;intro w5 hb5 hS5
    simp only[Pq.zz]
    refine Pq.wpO_step (by rfl) ?_
    apply Exists.intro
    refine ⟨fun w' hw'=>?_,?_⟩
    · go_simp;first|done|with_reducible rfl|exact ⟨rfl,rfl⟩
    simp only[Pq.zz]
    refine Pq.wpO_nil ?_
    go_wp2
    go_ret
    refine ⟨?_,Pq.below_next HB3.out (Nat.le_refl _) (Pq.grown_below hS5)⟩
    rw[HRR.out,Pq.cz_mm HP.out.symm HQ.out.symm];rfl
open Go.Proofs
theorem cf_add32 (xs:Array Value) (w:World):(callFunc 170 xs).run Tryz.prog w=.ok (.enter 170 xs) w:=by kernel_rfl
theorem cf_sub32 (xs:Array Value) (w:World):(callFunc 171 xs).run Tryz.prog w=.ok (.enter 171 xs) w:=by kernel_rfl
theorem cf_less (xs:Array Value) (w:World):(callFunc 136 xs).run Tryz.prog w=.ok (.enter 136 xs) w:=by kernel_rfl
theorem tup2 {a b c d:Value} (h1:a=b) (h2:c=d):Ending.returned (.tuple #[a,c])=.returned (.tuple #[b,d]):=by rw[h1,h2]
set_option maxHeartbeats 400000 in
theorem add32_any (x y c:Nat) (w:World) (hx:x<4294967296) (hy:y<4294967296) (hc:c≤1) :
    Calls Tryz.prog 170 #[.int .u32 x,.int .u32 y,.int .u32 c] w fun e w'=>e=.returned (.tuple #[.int .u32 (Pq.sww x y c:Nat),.int .u32 (Pq.swc x y c:Nat)])∧w=w':=by
  go_enter Tryz.func170,Tryz.ntmps170
  go_wp2
  go_ret2
  exact ⟨tup2 (by unfold Pq.sww;simp) (by unfold Pq.swc;simp),rfl⟩
set_option maxHeartbeats 400000 in
theorem sub32_any (x y c:Nat) (w:World) (hx:x<4294967296) (hy:y<4294967296) (hc:c≤1) :
    Calls Tryz.prog 171 #[.int .u32 x,.int .u32 y,.int .u32 c] w fun e w'=>e=.returned (.tuple #[.int .u32 (Pq.dif x y c:Nat),.int .u32 (Pq.bor x y c:Nat)])∧w=w':=by
  have hd:((x:Int)-(y:Int)-(c:Int))%4294967296=((Pq.dif x y c:Nat):Int):=by unfold Pq.dif;omega
  have HD:=Lib.hid hd;clear hd
  have hb:=Pq.borrow_bit hx hy hc
  have HBb:=Lib.hid hb;clear hb
  have hl:=Pq.dif_lt x y c
  have HL:=Lib.hid hl;clear hl
  go_enter Tryz.func171,Tryz.ntmps171
  go_wp2
  go_ret2
  refine ⟨tup2 (by rw[HD.out];rfl) ?_,rfl⟩
  rw[HD.out]
  have em:IntKind.u32.max=((4294967295:Nat):Int):=by decide
  rw[em,u32_xor_nat x y hx hy,u32_xor_nat 4294967295 x (by decide) hx,
    u32_xor_nat 4294967295 (x ^^^ y) (by decide) (Nat.xor_lt_two_pow (n:=32) hx hy),
    u32_and_nat (4294967295 ^^^ x) y (Nat.xor_lt_two_pow (n:=32) (by decide) hx) hy,
    u32_and_nat (4294967295 ^^^ (x ^^^ y)) _ (Nat.xor_lt_two_pow (n:=32) (by decide) (Nat.xor_lt_two_pow (n:=32) hx hy)) HL.out,
    u32_or_nat _ _ (Nat.lt_of_le_of_lt Nat.and_le_right hy) (Nat.lt_of_le_of_lt Nat.and_le_right HL.out)]
  rw[←HBb.out]
  rfl
set_option maxRecDepth 100000 in
set_option maxHeartbeats 400000 in
theorem plus_any (b o c q:Nat) (x y:Nat) (w:World) (hx:x<Pq.bp 32) (hy:y<Pq.bp 32) (hb:w.rangeAt b o (Pq.am 32 x)) (hc:w.rangeAt c q (Pq.am 32 y)) :
    Calls Tryz.prog 135 #[.pointer (some ⟨b,o,none⟩),.pointer (some ⟨c,q,none⟩)] w (Pq.PtrOk w ((x+y)%Pq.bp 32) (decide (x+y<Pq.bp 32))):=by
  have HX:=Lib.hid hx;clear hx
  have HY:=Lib.hid hy;clear hy
  have hlb:b<w.heap.size:=block_lt_of_cell (hb 0 _ (Pq.am_get (by omega)))
  have hlc:c<w.heap.size:=block_lt_of_cell (hc 0 _ (Pq.am_get (by omega)))
  have HBx:=Lib.hid hb;clear hb
  have HCy:=Lib.hid hc;clear hc
  obtain ⟨g,hg⟩ : ∃ g,g=w.heap.size:=⟨_,rfl⟩
  have HG:=Lib.hid hg;clear hg
  go_enter Tryz.func135,Tryz.ntmps135
  go_upto_region 1 with fail
  go_upto_region 1 with fail
  apply wp_region_lit
  refine Pq.wpL_alloc g HG.out.symm (by rfl) _ rfl _ al_am ?_
  simp only[Pq.zz]
  refine Pq.wpL_nil ?_
  have hrow:(w.alloc (.cells (Pq.am 32 0).toArray 202)).heap[g]?=some (.cells (Pq.am 32 (Pq.lo ((Pq.lo x 0)+(Pq.lo y 0)) 0)).toArray 202):=by rw[Pq.lo_zero];exact Pq.al_block w _ g HG.out
  have hbel:=Pq.below_alloc (Below.refl w.heap.size w) (Nat.le_refl _) (.cells (Pq.am 32 0).toArray 202)
  have HROW:=Lib.hid hrow;clear hrow
  have HBEL:=Lib.hid hbel;clear hbel
  generalize w.alloc (.cells (Pq.am 32 0).toArray 202)=w1 at *
  go_wp2
  go_loopw [7,9] (fun cy i wr => ∃ (k:Nat),i=.int .i64 k∧k≤32∧cy=.int .u32 (((Pq.lo x k+Pq.lo y k)/Pq.bp k:Nat):Int)∧Hid (wr.heap[g]?=some (.cells (Pq.am 32 (Pq.lo (Pq.lo x k+Pq.lo y k) k)).toArray 202))∧Hid (Below w.heap.size w wr)) (fun _ i _=>32-(intOf i).toNat)
  case atStart=>exact ⟨0,rfl,by omega,by simp[Pq.lo_zero],HROW,HBEL⟩
  case round =>
    obtain ⟨k,rfl,hk,rfl,hrow,hbl⟩:=hrel
    have hcy:=Pq.carry_le x y k
    obtain ⟨cy,hcye⟩ : ∃ cy,cy=(Pq.lo x k+Pq.lo y k)/Pq.bp k:=⟨_,rfl⟩
    rw[←hcye]at hcy ⊢
    have HCE:=Lib.hid hcye;clear hcye
    by_cases hlt:k<32
    · have hk2:(k:Int)<32:=by omega
      have C1:=Lib.hid (Pq.range_in HBx.out hbl.out k _ (Pq.am_get (x:=x) hlt))
      have C2:=Lib.hid (Pq.range_in HCy.out hbl.out k _ (Pq.am_get (x:=y) hlt))
      go_upto_region 6 with fail
      refine Pq.wp_region_grown (some g) [(0,true),(1,true),(2,true),(3,true),(4,true),(5,true),(6,true),(7,true),(8,true),(9,true),(10,true),(11,true),(12,false),(13,true),(14,true),(15,true),(16,true),(17,false),(18,true)] (by kernel_rfl) (by kernel_rfl) (fun _ _ d _ _ h=>by cases d <;> exact h) (fun hS=>?_)
      simp only[Pq.pick,List.filterMap_cons,List.filterMap_nil,List.getElem?_cons_zero,List.getElem?_cons_succ,Option.map_some]
      iterate 5
        refine Pq.wpO_step (by rfl) ?_
        apply Exists.intro
        refine ⟨fun w' hw'=>?_,?_⟩
        · go_simp;first|done|with_reducible rfl|exact ⟨rfl,rfl⟩
        simp only[Pq.zz]
      refine Pq.wpO_cell ⟨b,o+k,none⟩ _ C1.out (by have:=HG.out;simp;omega) (by rfl) _ _ rfl rfl _ u_u32 rfl ?_
      simp only[Pq.zz]
      iterate 4
        refine Pq.wpO_step (by rfl) ?_
        apply Exists.intro
        refine ⟨fun w' hw'=>?_,?_⟩
        · go_simp;first|done|with_reducible rfl|exact ⟨rfl,rfl⟩
        simp only[Pq.zz]
      refine Pq.wpO_cell ⟨c,q+k,none⟩ _ C2.out (by have:=HG.out;simp;omega) (by rfl) _ _ rfl rfl _ u_u32 rfl ?_
      simp only[Pq.zz]
      refine Pq.wpO_step (by rfl) ?_
      apply Exists.intro
      refine ⟨fun w' hw'=>?_,?_⟩
      · go_simp;first|done|with_reducible rfl|exact ⟨rfl,rfl⟩
      simp only[Pq.zz]
      refine Pq.wpO_call (by rfl) cf_add32 (add32_any (Pq.wd x k) (Pq.wd y k) cy _ (Pq.wd_lt _ _) (Pq.wd_lt _ _) hcy) rfl rfl ?_;rintro e w1 ⟨rfl,rfl⟩;refine ⟨_,rfl,hS,?_⟩
      simp only[Pq.zz]
      iterate 4
        refine Pq.wpO_step (by rfl) ?_
        apply Exists.intro
        refine ⟨fun w' hw'=>?_,?_⟩
        · go_simp;first|done|with_reducible rfl|exact ⟨rfl,rfl⟩
        simp only[Pq.zz]
      refine Pq.wpO_put (.int .u32 (Pq.sww (Pq.wd x k) (Pq.wd y k) cy:Nat)) hrow.out (by rw[Pq.am_length];exact hlt) (by rfl) 36 _ _ rfl rfl rfl rfl rfl (by kernel_rfl) (Pq.grown_setRow hS) ?_
      try simp only[Pq.zz]
      refine Pq.wpO_step (by rfl) ?_
      apply Exists.intro
      refine ⟨fun w' hw'=>?_,?_⟩
      · go_simp;first|done|with_reducible rfl|exact ⟨rfl,rfl⟩
      simp only[Pq.zz]
      refine Pq.wpO_nil ?_
      go_wp2
      go_roundw
      case rel=>exact ⟨k+1,by go_num,by omega,by rw[HCE.out,Pq.plus_carry],by
        have:=Pq.setRow_at (cs:=((Pq.am 32 (Pq.lo (Pq.lo x k+Pq.lo y k) k)).set k (.int .u32 ((Pq.sww (Pq.wd x k) (Pq.wd y k) cy:Nat):Int))).toArray) hrow.out
        rw[HCE.out,Pq.plus_row hlt]at this;rw[HCE.out,Pq.plus_row hlt];exact this,Lib.hid (Pq.below_setRow (Pq.below_drew hbl.out) (by rw[←HG.out];exact Nat.le_refl _))⟩
      case measure=>simp[intOf];omega
    · obtain rfl:k=32:=by omega
      have hz:(((cy:Nat):Int)==0)=decide (x+y<Pq.bp 32):=by
        have e:=HCE.out
        rw[Pq.lo_self HX.out,Pq.lo_self HY.out]at e
        rw[e,Bool.eq_iff_iff]
        simp only[beq_iff_eq,decide_eq_true_eq]
        constructor
        · intro h;exact (Nat.div_eq_zero_iff_lt (Pq.bp_pos 32)).1 (by omega)
        · intro h;rw[Nat.div_eq_of_lt h];rfl
      have HZ:=Lib.hid hz;clear hz
      go_wp2
      go_ret2
      refine ⟨g,?_,?_,hbl.out,by rw[HG.out];exact Nat.le_refl _,?_⟩
      · rw[←HZ.out];rfl
      · have:=hrow.out
        rw[Pq.lo_self HX.out,Pq.lo_self HY.out]at this
        exact Pq.range_block this
      · exact (Array.getElem?_eq_some_iff.1 hrow.out).1
set_option maxRecDepth 100000 in
set_option maxHeartbeats 400000 in
theorem less_any (b o c q:Nat) (x y:Nat) (w:World) (hx:x<Pq.bp 32) (hy:y≤x) (hb:w.rangeAt b o (Pq.am 32 x)) (hc:w.rangeAt c q (Pq.am 32 y)) :
    Calls Tryz.prog 136 #[.pointer (some ⟨b,o,none⟩),.pointer (some ⟨c,q,none⟩)] w (Pq.Ptr w (x-y)):=by
  have HX:=Lib.hid hx;clear hx
  have HY:=Lib.hid hy;clear hy
  have hlb:b<w.heap.size:=block_lt_of_cell (hb 0 _ (Pq.am_get (by omega)))
  have hlc:c<w.heap.size:=block_lt_of_cell (hc 0 _ (Pq.am_get (by omega)))
  have HBx:=Lib.hid hb;clear hb
  have HCy:=Lib.hid hc;clear hc
  obtain ⟨g,hg⟩ : ∃ g,g=w.heap.size:=⟨_,rfl⟩
  have HG:=Lib.hid hg;clear hg
  go_enter Tryz.func136,Tryz.ntmps136
  go_upto_region 1 with fail
  go_upto_region 1 with fail
  apply wp_region_lit
  refine Pq.wpL_alloc g HG.out.symm (by rfl) _ rfl _ al_am ?_
  simp only[Pq.zz]
  refine Pq.wpL_nil ?_
  have hrow:(w.alloc (.cells (Pq.am 32 0).toArray 202)).heap[g]?=some (.cells (Pq.am 32 0).toArray 202):=Pq.al_block w _ g HG.out
  have hbel:=Pq.below_alloc (Below.refl w.heap.size w) (Nat.le_refl _) (.cells (Pq.am 32 0).toArray 202)
  have HROW:=Lib.hid hrow;clear hrow
  have HBEL:=Lib.hid hbel;clear hbel
  generalize w.alloc (.cells (Pq.am 32 0).toArray 202)=w1 at *
  go_wp2
  go_loopw [6,8] (fun cy i wr => ∃ (k z bo:Nat),i=.int .i64 k∧k≤32∧cy=.int .u32 (bo:Int)∧bo≤1∧Hid (z<Pq.bp k)∧Hid (z+Pq.lo y k=Pq.lo x k+Pq.bp k*bo)∧Hid (wr.heap[g]?=some (.cells (Pq.am 32 z).toArray 202))∧Hid (Below w.heap.size w wr)) (fun _ i _=>32-(intOf i).toNat)
  case atStart=>exact ⟨0,0,0,rfl,by omega,rfl,by omega,Lib.hid (Pq.bp_pos 0),Lib.hid (by simp[Pq.lo_zero]),HROW,HBEL⟩
  case round =>
    obtain ⟨k,z,bo,rfl,hk,rfl,hbo,hz,he,hrow,hbl⟩:=hrel
    by_cases hlt:k<32
    · have hk2:(k:Int)<32:=by omega
      have C1:=Lib.hid (Pq.range_in HBx.out hbl.out k _ (Pq.am_get (x:=x) hlt))
      have C2:=Lib.hid (Pq.range_in HCy.out hbl.out k _ (Pq.am_get (x:=y) hlt))
      go_upto_region 6 with fail
      refine Pq.wp_region_grown (some g) [(0,true),(1,true),(2,true),(3,true),(4,true),(5,true),(6,true),(7,true),(8,true),(9,true),(10,true),(11,true),(12,false),(13,true),(14,true),(15,true),(16,true),(17,false),(18,true)] (by kernel_rfl) (by kernel_rfl) (fun _ _ d _ _ h=>by cases d <;> exact h) (fun hS=>?_)
      simp only[Pq.pick,List.filterMap_cons,List.filterMap_nil,List.getElem?_cons_zero,List.getElem?_cons_succ,Option.map_some]
      iterate 5
        refine Pq.wpO_step (by rfl) ?_
        apply Exists.intro
        refine ⟨fun w' hw'=>?_,?_⟩
        · go_simp;first|done|with_reducible rfl|exact ⟨rfl,rfl⟩
        simp only[Pq.zz]
      refine Pq.wpO_cell ⟨b,o+k,none⟩ _ C1.out (by have:=HG.out;simp;omega) (by rfl) _ _ rfl rfl _ u_u32 rfl ?_
      simp only[Pq.zz]
      iterate 4
        refine Pq.wpO_step (by rfl) ?_
        apply Exists.intro
        refine ⟨fun w' hw'=>?_,?_⟩
        · go_simp;first|done|with_reducible rfl|exact ⟨rfl,rfl⟩
        simp only[Pq.zz]
      refine Pq.wpO_cell ⟨c,q+k,none⟩ _ C2.out (by have:=HG.out;simp;omega) (by rfl) _ _ rfl rfl _ u_u32 rfl ?_
      simp only[Pq.zz]
      refine Pq.wpO_step (by rfl) ?_
      apply Exists.intro
      refine ⟨fun w' hw'=>?_,?_⟩
      · go_simp;first|done|with_reducible rfl|exact ⟨rfl,rfl⟩
      simp only[Pq.zz]
      refine Pq.wpO_call (by rfl) cf_sub32 (sub32_any (Pq.wd x k) (Pq.wd y k) bo _ (Pq.wd_lt _ _) (Pq.wd_lt _ _) hbo) rfl rfl ?_;rintro e w1 ⟨rfl,rfl⟩;refine ⟨_,rfl,hS,?_⟩
      simp only[Pq.zz]
      iterate 4
        refine Pq.wpO_step (by rfl) ?_
        apply Exists.intro
        refine ⟨fun w' hw'=>?_,?_⟩
        · go_simp;first|done|with_reducible rfl|exact ⟨rfl,rfl⟩
        simp only[Pq.zz]
      refine Pq.wpO_put (.int .u32 (Pq.dif (Pq.wd x k) (Pq.wd y k) bo:Nat)) hrow.out (by rw[Pq.am_length];exact hlt) (by rfl) 36 _ _ rfl rfl rfl rfl rfl (by kernel_rfl) (Pq.grown_setRow hS) ?_
      try simp only[Pq.zz]
      refine Pq.wpO_step (by rfl) ?_
      apply Exists.intro
      refine ⟨fun w' hw'=>?_,?_⟩
      · go_simp;first|done|with_reducible rfl|exact ⟨rfl,rfl⟩
      simp only[Pq.zz]
      refine Pq.wpO_nil ?_
      go_wp2
      go_roundw
      case rel=>exact ⟨k+1,z+Pq.bp k*Pq.dif (Pq.wd x k) (Pq.wd y k) bo,Pq.bor (Pq.wd x k) (Pq.wd y k) bo,by go_num,by omega,rfl,Pq.bor_le _ _ _,Lib.hid (Pq.less_lt hz.out (Pq.dif_lt _ _ _)),Lib.hid (Pq.less_step k z bo hz.out he.out hbo),by
        have:=Pq.setRow_at (cs:=((Pq.am 32 z).set k (.int .u32 ((Pq.dif (Pq.wd x k) (Pq.wd y k) bo:Nat):Int))).toArray) hrow.out
        rw[Pq.less_row hlt hz.out (Pq.dif_lt _ _ _)]at this;rw[Pq.less_row hlt hz.out (Pq.dif_lt _ _ _)];exact this,Lib.hid (Pq.below_setRow (Pq.below_drew hbl.out) (by rw[←HG.out];exact Nat.le_refl _))⟩
      case measure=>simp[intOf];omega
    · obtain rfl:k=32:=by omega
      have hzz:z=x-y:=by
        have e:=he.out
        rw[Pq.lo_self HX.out,Pq.lo_self (Nat.lt_of_le_of_lt HY.out HX.out)]at e
        have h1:=hz.out;have h2:=HY.out;have h3:=HX.out
        generalize Pq.bp 32=B at *
        match bo,hbo with
        | 0,_=>omega
        | 1,_=>omega
      subst hzz
      go_wp2
      go_ret
      exact ⟨g,rfl,Pq.range_block hrow.out,hbl.out,by rw[HG.out];exact Nat.le_refl _,(Array.getElem?_eq_some_iff.1 hrow.out).1⟩
theorem cf_neg (xs:Array Value) (w:World):(callFunc 160 xs).run Tryz.prog w=.ok (.enter 160 xs) w:=by kernel_rfl
theorem cf_add (xs:Array Value) (w:World):(callFunc 86 xs).run Tryz.prog w=.ok (.enter 86 xs) w:=by kernel_rfl
set_option maxRecDepth 100000 in
set_option maxHeartbeats 1000000 in
theorem add_any (n:Bool) (x:Nat) (m:Bool) (y:Nat) (w:World) (hx:x<Pq.bp 32) (hy:y<Pq.bp 32) :
    Calls Tryz.prog 86 #[.agg (Pq.wc n x),.agg (Pq.wc m y)] w (Pq.Ret w (Pq.rz (Pq.zv n x+Pq.zv m y))):=by
  have HX:=Lib.hid hx;clear hx
  have HY:=Lib.hid hy;clear hy
  obtain ⟨r,hr⟩ : ∃ r,r=Pq.rz (Pq.zv n x+Pq.zv m y):=⟨_,rfl⟩
  obtain ⟨p,hp⟩ : ∃ p,p=Pq.ng n x:=⟨_,rfl⟩
  obtain ⟨q,hq⟩ : ∃ q,q=Pq.ng m y:=⟨_,rfl⟩
  obtain ⟨g,hg⟩ : ∃ g,g=w.heap.size:=⟨_,rfl⟩
  rw[←hr]
  have HP:=Lib.hid hp;clear hp
  have HQ:=Lib.hid hq;clear hq
  have HRR:=Lib.hid hr;clear hr
  have HG:=Lib.hid hg;clear hg
  go_enter Tryz.func86,Tryz.ntmps86
  go_upto_region 0 with fail
  go_upto_region 0 with fail
  apply wp_region_lit
  refine Pq.wpL_box g HG.out.symm (Pq.wc n x) (by rfl) _ _ rfl rfl (bx_wide n x) ?_
  simp only[Pq.zz]
  refine Pq.wpL_box (g+1) (by simp[HG.out]) (Pq.wc m y) (by rfl) _ _ rfl rfl (bx_wide m y) ?_
  simp only[Pq.zz]
  refine Pq.wpL_alloc (g+2) (by simp[HG.out]) (by rfl) _ rfl (Pq.wc false 0) al_wide ?_
  simp only[Pq.zz]
  refine Pq.wpL_step (by rfl) ?_
  apply Exists.intro
  apply Exists.intro
  refine ⟨?_,?_⟩
  · go_simp;first|done|with_reducible rfl|exact ⟨rfl,rfl⟩
  simp only[Pq.zz]
  refine Pq.wpL_nil ?_
  have HB:=Lib.hid (Pq.below_alloc (Pq.below_alloc (Pq.below_alloc (Below.refl _ w) (Nat.le_refl _) (.cells (Pq.wc n x) 39)) (Nat.le_refl _) (.cells (Pq.wc m y) 39)) (Nat.le_refl _) (.cells (Pq.wc false 0) 39))
  have HR1:=Lib.hid (Pq.al_range (Pq.al_range (Pq.al_wnew w n x 39 g HG.out) (.cells (Pq.wc m y) 39)) (.cells (Pq.wc false 0) 39))
  have HR2:=Lib.hid (Pq.al_range (Pq.al_wnew (w.alloc (.cells (Pq.wc n x) 39)) m y 39 (g+1) (by simp[HG.out])) (.cells (Pq.wc false 0) 39))
  have HG2:=Lib.hid (Pq.al_block ((w.alloc (.cells (Pq.wc n x) 39)).alloc (.cells (Pq.wc m y) 39)) (.cells (Pq.wc false 0) 39) (g+2) (by simp[HG.out]))
  generalize ((w.alloc (.cells (Pq.wc n x) 39)).alloc (.cells (Pq.wc m y) 39)).alloc (.cells (Pq.wc false 0) 39)=w0 at *
  go_upto_region 1 with fail
  refine Pq.wp_region_grown none [(0,true),(2,true),(1,false),(3,false),(4,true),(5,true)] (by kernel_rfl) (by kernel_rfl) (fun _ _ d _ _ h=>by cases d <;> exact h) (fun hS=>?_)
  simp only[Pq.pick,List.filterMap_cons,List.filterMap_nil,List.getElem?_cons_zero,List.getElem?_cons_succ,Option.map_some]
  refine Pq.wpO_load g 0 (Pq.wl n x) HR1.out (by simp) (by rfl) _ _ rfl rfl _ u_wide rfl (s_wide _ _) ?_
  simp only[Pq.zz]
  refine Pq.wpO_load (g+1) 0 (Pq.wl m y) HR2.out (by simp) (by rfl) _ _ rfl rfl _ u_wide rfl (s_wide _ _) ?_
  simp only[Pq.zz]
  refine Pq.wpO_call (by rfl) cf_of (of_ptr n x _) rfl rfl ?_;rintro e w3 ⟨b,rfl,hr3,hb3,_,hl3⟩;have HR3:=Lib.hid hr3;clear hr3;have hS3:=Pq.grown_then hS hb3;refine ⟨_,rfl,hS3,?_⟩
  simp only[Pq.zz]
  refine Pq.wpO_call (by rfl) cf_of (of_ptr m y _) rfl rfl ?_;rintro e w4 ⟨c,rfl,hr4,hb4,_,hl4⟩;have HR4:=Lib.hid hr4;clear hr4;have hS4:=Pq.grown_then hS3 hb4;refine ⟨_,rfl,hS4,?_⟩
  simp only[Pq.zz]
  iterate 2
    refine Pq.wpO_step (by rfl) ?_
    apply Exists.intro
    refine ⟨fun w' hw'=>?_,?_⟩
    · go_simp;first|done|with_reducible rfl|exact ⟨rfl,rfl⟩
    simp only[Pq.zz]
  refine Pq.wpO_nil ?_
  have HR3':=Lib.hid (Pq.range_in HR3.out hb4)
  have hl3':=Nat.lt_of_lt_of_le hl3 hb4.size
  clear HR3 hb3 hb4 hS hS3 hl3
  go_upto_region 2 with fail
  refine Pq.wp_region_grown none [(0,true),(2,true),(1,false),(3,false),(4,true)] (by kernel_rfl) (by kernel_rfl) (fun _ _ d _ _ h=>by cases d <;> exact h) (fun hS=>?_)
  simp only[Pq.pick,List.filterMap_cons,List.filterMap_nil,List.getElem?_cons_zero,List.getElem?_cons_succ,Option.map_some]
  refine Pq.wpO_load g 0 (Pq.wl n x) (Pq.range_in HR1.out (Pq.grown_below hS4)) (by simp) (by rfl) _ _ rfl rfl _ u_wide rfl (s_wide _ _) ?_
  simp only[Pq.zz]
  refine Pq.wpO_load (g+1) 0 (Pq.wl m y) (Pq.range_in HR2.out (Pq.grown_below hS4)) (by simp) (by rfl) _ _ rfl rfl _ u_wide rfl (s_wide _ _) ?_
  simp only[Pq.zz]
  refine Pq.wpO_ret (by rfl) cf_below (below_any n x _ HX.out) rfl rfl hS ?_;intro w5 hb5 hS5;rw[←HP.out]
  simp only[Pq.zz]
  refine Pq.wpO_ret (by rfl) cf_below (below_any m y _ HY.out) rfl rfl hS5 ?_;intro w6 hb6 hS6;rw[←HQ.out]
  simp only[Pq.zz]
  refine Pq.wpO_step (by rfl) ?_
  apply Exists.intro
  refine ⟨fun w' hw'=>?_,?_⟩
  · go_simp;first|done|with_reducible rfl|exact ⟨rfl,rfl⟩
  simp only[Pq.zz]
  refine Pq.wpO_nil ?_
  have K:=Pq.grown_below hS6
  have HBx:=Lib.hid (Pq.range_in HR3'.out K)
  have HCy:=Lib.hid (Pq.range_in HR4.out K)
  have hlb:=Nat.lt_of_lt_of_le hl3' K.size
  have hlc:=Nat.lt_of_lt_of_le hl4 K.size
  have K2:=Pq.below_next (Pq.grown_below hS4) (Nat.le_refl _) K
  have HA1:=Lib.hid (Pq.range_in HR1.out K2)
  have HA2:=Lib.hid (Pq.range_in HR2.out K2)
  have HG3:=Lib.hid (Pq.keep_block HG2.out K2)
  have HB3:=Lib.hid (Pq.below_next HB.out (Nat.le_refl _) K2)
  clear HR3' HR4 HR1 HR2 HG2 HB hl3' hl4 hS hS4 hS5 hS6 hb5 hb6 K K2
  generalize HWW:w0.heap.size=h0 at *
  clear HWW
  have hgg:w.heap.size≤g+2:=by rw[←HG.out];omega
  rcases hpq:(p==q) with _|_
  · have hne:Pq.ng n x≠Pq.ng m y:=by rw[←HP.out,←HQ.out];intro h;rw[h]at hpq;simp at hpq
    have HNE:=Lib.hid hne;clear hne
    rcases Nat.lt_or_ge x y with hxy|hxy
    · have hc:decide (Pq.cm x y≥0)=false:=by rw[Pq.cm_lt hxy];rfl
      have HXY:=Lib.hid hxy;clear hxy
      obtain ⟨cc,hcc⟩ : ∃ cc,cc=Pq.cm x y:=⟨_,rfl⟩
      rw[←hcc]at hc
      have HCC:=Lib.hid hcc;clear hcc
      go_upto_region 9 with (go_at_call 131;refine (acmp_any b 0 c 0 x y _ HX.out HY.out HBx.out HCy.out).mono ?_;rw[←HCC.out];rintro e w7 ⟨rfl,hb7⟩)
      have HA':=Lib.hid (Pq.range_in HA2.out hb7)
      have HB':=Lib.hid (Pq.range_in HBx.out hb7)
      have HC':=Lib.hid (Pq.range_in HCy.out hb7)
      have HG4:=Lib.hid (Pq.keep_block HG3.out hb7)
      have HB4:=Lib.hid (Pq.below_next HB3.out (Nat.le_refl _) hb7)
      clear hb7 HBx HCy HA1 HA2 HG3 HB3
      go_upto_region 9 with fail
      apply wp_region_lit
      refine Pq.wpL_load (g+1) 0 (Pq.wl m y) HA'.out (by rfl) _ _ rfl rfl _ u_wide rfl (s_wide _ _) ?_
      simp only[Pq.zz]
      refine Pq.wpL_ret (by rfl) cf_below (below_any m y _ HY.out) rfl rfl ?_;intro w8 hb8;rw[←HQ.out]
      simp only[Pq.zz]
      iterate 2
        refine Pq.wpL_step (by rfl) ?_
        apply Exists.intro
        apply Exists.intro
        refine ⟨?_,?_⟩
        · go_simp;first|done|with_reducible rfl|exact ⟨rfl,rfl⟩
        simp only[Pq.zz]
      refine Pq.wpL_call (by rfl) cf_less (less_any c 0 b 0 y x _ HY.out (Nat.le_of_lt HXY.out) (Pq.range_in HC'.out hb8) (Pq.range_in HB'.out hb8)) rfl rfl ?_;rintro e w9 ⟨d,rfl,hr9,hb9,_,hl9⟩;have HR9:=Lib.hid hr9;clear hr9;refine ⟨_,rfl,?_⟩
      simp only[Pq.zz]
      refine Pq.wpL_ret (by rfl) cf_told (told_any _ d 0 (y-x) _ (Nat.lt_of_le_of_lt (Nat.sub_le _ _) HY.out) HR9.out hl9) rfl rfl ?_;intro w10 hb10
      simp only[Pq.zz]
      refine Pq.wpL_store (by rfl) 39 _ _ rfl (g+2) (Pq.wc _ _) rfl rfl 39 (Pq.wc _ _) (Pq.keep_block (Pq.keep_block (Pq.keep_block HG4.out hb8) hb9) hb10) (s_widea _ _) (by simp only[Pq.wc_size]) (Pq.wc_one _ _) ?_
      try simp only[Pq.zz]
      refine Pq.wpL_step (by rfl) ?_
      apply Exists.intro
      apply Exists.intro
      refine ⟨?_,?_⟩
      · go_simp;first|done|with_reducible rfl|exact ⟨rfl,rfl⟩
      simp only[Pq.zz]
      refine Pq.wpL_nil ?_
      go_wp2
      refine Pq.ret_cell_tmp rfl _ _ _ _ _ _ rfl rfl (Pq.setRow_at (Pq.keep_block (Pq.keep_block (Pq.keep_block HG4.out hb8) hb9) hb10)) u_wide rfl (s_widea _ _) rfl ⟨?_,Pq.below_setRow (Pq.below_next (Pq.below_next (Pq.below_next HB4.out (Nat.le_refl _) hb8) (Nat.le_refl _) hb9) (Nat.le_refl _) hb10) hgg⟩
      have e:=Pq.wc_dif (Ne.symm HNE.out) (Nat.le_of_lt HXY.out)
      rw[←HQ.out]at e
      rw[HRR.out,Int.add_comm,Pq.rz_ok (by rw[e.2];exact Nat.lt_of_le_of_lt (Nat.sub_le _ _) HY.out),←e.1];rfl
    · have hc:decide (Pq.cm x y≥0)=true:=by
        rcases Nat.eq_or_lt_of_le hxy with h|h
        · subst h;rw[Pq.cm_eq];rfl
        · rw[Pq.cm_gt h];rfl
      have HXY:=Lib.hid hxy;clear hxy
      obtain ⟨cc,hcc⟩ : ∃ cc,cc=Pq.cm x y:=⟨_,rfl⟩
      rw[←hcc]at hc
      have HCC:=Lib.hid hcc;clear hcc
      go_upto_region 8 with (go_at_call 131;refine (acmp_any b 0 c 0 x y _ HX.out HY.out HBx.out HCy.out).mono ?_;rw[←HCC.out];rintro e w7 ⟨rfl,hb7⟩)
      have HA':=Lib.hid (Pq.range_in HA1.out hb7)
      have HB':=Lib.hid (Pq.range_in HBx.out hb7)
      have HC':=Lib.hid (Pq.range_in HCy.out hb7)
      have HG4:=Lib.hid (Pq.keep_block HG3.out hb7)
      have HB4:=Lib.hid (Pq.below_next HB3.out (Nat.le_refl _) hb7)
      clear hb7 HBx HCy HA1 HA2 HG3 HB3
      go_upto_region 8 with fail
      apply wp_region_lit
      refine Pq.wpL_load g 0 (Pq.wl n x) HA'.out (by rfl) _ _ rfl rfl _ u_wide rfl (s_wide _ _) ?_
      simp only[Pq.zz]
      refine Pq.wpL_ret (by rfl) cf_below (below_any n x _ HX.out) rfl rfl ?_;intro w8 hb8;rw[←HP.out]
      simp only[Pq.zz]
      iterate 2
        refine Pq.wpL_step (by rfl) ?_
        apply Exists.intro
        apply Exists.intro
        refine ⟨?_,?_⟩
        · go_simp;first|done|with_reducible rfl|exact ⟨rfl,rfl⟩
        simp only[Pq.zz]
      refine Pq.wpL_call (by rfl) cf_less (less_any b 0 c 0 x y _ HX.out HXY.out (Pq.range_in HB'.out hb8) (Pq.range_in HC'.out hb8)) rfl rfl ?_;rintro e w9 ⟨d,rfl,hr9,hb9,_,hl9⟩;have HR9:=Lib.hid hr9;clear hr9;refine ⟨_,rfl,?_⟩
      simp only[Pq.zz]
      refine Pq.wpL_ret (by rfl) cf_told (told_any _ d 0 (x-y) _ (Nat.lt_of_le_of_lt (Nat.sub_le _ _) HX.out) HR9.out hl9) rfl rfl ?_;intro w10 hb10
      simp only[Pq.zz]
      refine Pq.wpL_store (by rfl) 39 _ _ rfl (g+2) (Pq.wc _ _) rfl rfl 39 (Pq.wc _ _) (Pq.keep_block (Pq.keep_block (Pq.keep_block HG4.out hb8) hb9) hb10) (s_widea _ _) (by simp only[Pq.wc_size]) (Pq.wc_one _ _) ?_
      try simp only[Pq.zz]
      refine Pq.wpL_step (by rfl) ?_
      apply Exists.intro
      apply Exists.intro
      refine ⟨?_,?_⟩
      · go_simp;first|done|with_reducible rfl|exact ⟨rfl,rfl⟩
      simp only[Pq.zz]
      refine Pq.wpL_nil ?_
      go_wp2
      refine Pq.ret_cell_tmp rfl _ _ _ _ _ _ rfl rfl (Pq.setRow_at (Pq.keep_block (Pq.keep_block (Pq.keep_block HG4.out hb8) hb9) hb10)) u_wide rfl (s_widea _ _) rfl ⟨?_,Pq.below_setRow (Pq.below_next (Pq.below_next (Pq.below_next HB4.out (Nat.le_refl _) hb8) (Nat.le_refl _) hb9) (Nat.le_refl _) hb10) hgg⟩
      have e:=Pq.wc_dif HNE.out HXY.out
      rw[←HP.out]at e
      rw[HRR.out,Pq.rz_ok (by rw[e.2];exact Nat.lt_of_le_of_lt (Nat.sub_le _ _) HX.out),←e.1];rfl
  · have hpq':p=q:=by simpa using hpq
    have heq:Pq.ng n x=Pq.ng m y:=by rw[←HP.out,←HQ.out];exact hpq'
    have e:=Pq.wc_sum heq
    rw[←HP.out]at e
    have HE:=Lib.hid e;clear e heq hpq'
    obtain ⟨ok,hok⟩ : ∃ ok,ok=decide (x+y<Pq.bp 32):=⟨_,rfl⟩
    have HOK:=Lib.hid hok;clear hok
    cases ok
    · go_upto_region 5 with (go_at_call 135;refine (plus_any b 0 c 0 x y _ HX.out HY.out HBx.out HCy.out).mono ?_;rw[←HOK.out];rintro e w7 ⟨d,rfl,hr7,hb7,_,hl7⟩)
      go_upto_region 5 with fail
      apply wp_region_lit
      refine Pq.wpL_build (by rfl) _ [] rfl [] rfl _ built_none ?_
      simp only[Pq.zz]
      refine Pq.wpL_store (by rfl) 39 _ _ rfl (g+2) (Pq.wc _ _) rfl rfl 39 (Pq.wc _ _) (Pq.keep_block HG3.out hb7) (s_widea _ _) (by simp only[Pq.wc_size]) (Pq.wc_one _ _) ?_
      try simp only[Pq.zz]
      refine Pq.wpL_step (by rfl) ?_
      apply Exists.intro
      apply Exists.intro
      refine ⟨?_,?_⟩
      · go_simp;first|done|with_reducible rfl|exact ⟨rfl,rfl⟩
      simp only[Pq.zz]
      refine Pq.wpL_nil ?_
      go_wp2
      refine Pq.ret_cell_tmp rfl _ _ _ _ _ _ rfl rfl (Pq.setRow_at (Pq.keep_block HG3.out hb7)) u_wide rfl (s_widea _ _) rfl ⟨?_,Pq.below_setRow (Pq.below_next HB3.out (Nat.le_refl _) hb7) hgg⟩
      rw[HRR.out,Pq.rz_no (by rw[HE.out.2];exact of_decide_eq_false HOK.out.symm)];rfl
    · have hlt:x+y<Pq.bp 32:=of_decide_eq_true HOK.out.symm
      have HLT:=Lib.hid hlt;clear hlt
      go_upto_region 6 with (go_at_call 135;refine (plus_any b 0 c 0 x y _ HX.out HY.out HBx.out HCy.out).mono ?_;rw[←HOK.out,Nat.mod_eq_of_lt HLT.out];rintro e w7 ⟨d,rfl,hr7,hb7,_,hl7⟩)
      have HR7:=Lib.hid hr7;clear hr7
      go_upto_region 6 with fail
      apply wp_region_lit
      refine Pq.wpL_load g 0 (Pq.wl n x) (Pq.range_in HA1.out hb7) (by rfl) _ _ rfl rfl _ u_wide rfl (s_wide _ _) ?_
      simp only[Pq.zz]
      refine Pq.wpL_ret (by rfl) cf_below (below_any n x _ HX.out) rfl rfl ?_;intro w8 hb8;rw[←HP.out]
      simp only[Pq.zz]
      refine Pq.wpL_step (by rfl) ?_
      apply Exists.intro
      apply Exists.intro
      refine ⟨?_,?_⟩
      · go_simp;first|done|with_reducible rfl|exact ⟨rfl,rfl⟩
      simp only[Pq.zz]
      refine Pq.wpL_ret (by rfl) cf_told (told_any _ d 0 (x+y) _ HLT.out (Pq.range_in HR7.out hb8) (Nat.lt_of_lt_of_le hl7 hb8.size)) rfl rfl ?_;intro w10 hb10
      simp only[Pq.zz]
      refine Pq.wpL_store (by rfl) 39 _ _ rfl (g+2) (Pq.wc _ _) rfl rfl 39 (Pq.wc _ _) (Pq.keep_block (Pq.keep_block (Pq.keep_block HG3.out hb7) hb8) hb10) (s_widea _ _) (by simp only[Pq.wc_size]) (Pq.wc_one _ _) ?_
      try simp only[Pq.zz]
      refine Pq.wpL_step (by rfl) ?_
      apply Exists.intro
      apply Exists.intro
      refine ⟨?_,?_⟩
      · go_simp;first|done|with_reducible rfl|exact ⟨rfl,rfl⟩
      simp only[Pq.zz]
      refine Pq.wpL_nil ?_
      go_wp2
      refine Pq.ret_cell_tmp rfl _ _ _ _ _ _ rfl rfl (Pq.setRow_at (Pq.keep_block (Pq.keep_block (Pq.keep_block HG3.out hb7) hb8) hb10)) u_wide rfl (s_widea _ _) rfl ⟨?_,Pq.below_setRow (Pq.below_next (Pq.below_next (Pq.below_next HB3.out (Nat.le_refl _) hb7) (Nat.le_refl _) hb8) (Nat.le_refl _) hb10) hgg⟩
      rw[HRR.out,Pq.rz_ok (by rw[HE.out.2];exact HLT.out),←HE.out.1];rfl
end Go.Proofs.YtbkfakkkikmcbaaGreatDoor
namespace Go.Proofs
open Go.Shelf
open Go.RowKit in
open Go.RowKit in
open Go.RowKit in
open Go.RowKit in
open Go.RowKit in
def Tryz.lays156_ren:Go.Shelf.Ren:=⟨fun|156=>54|165=>98|166=>99|169=>100|240=>145|241=>146|276=>179|277=>180|n=>n,fun|31=>52|9=>9|3=>3|4=>4|0=>0|20=>20|72=>157|76=>161|70=>154|37=>155|75=>160|127=>217|164=>251|5=>5|80=>163|n=>n,fun|n=>n⟩
theorem Tryz.lays156:Go.Proofs.Lays.n156 Tryz.prog Tryz.lays156_ren:={
  mixed:=by kernel_rfl
  f156:=Tryz.func54.trans (congrArg some (by kernel_rfl))
  f165:=Tryz.func98.trans (congrArg some (by kernel_rfl))
  f166:=Tryz.func99.trans (congrArg some (by kernel_rfl))
  f169:=Tryz.func100.trans (congrArg some (by kernel_rfl))
  f240:=Tryz.func145.trans (congrArg some (by kernel_rfl))
  f241:=Tryz.func146.trans (congrArg some (by kernel_rfl))
  f276:=Tryz.func179.trans (congrArg some (by kernel_rfl))
  f277:=Tryz.func180.trans (congrArg some (by kernel_rfl))
  t0:=Tryz.underlying0
  a0:=Tryz.isAgg0
  z0:=Tryz.sizeOf0
  v0:=Tryz.zeroValue0
  t3:=Tryz.underlying3
  a3:=Tryz.isAgg3
  z3:=Tryz.sizeOf3
  v3:=Tryz.zeroValue3
  t4:=Tryz.underlying4
  a4:=Tryz.isAgg4
  z4:=Tryz.sizeOf4
  v4:=Tryz.zeroValue4
  t9:=Tryz.underlying9
  a9:=Tryz.isAgg9
  z9:=Tryz.sizeOf9
  v9:=Tryz.zeroValue9
  t20:=Tryz.underlying20
  a20:=Tryz.isAgg20
  z20:=Tryz.sizeOf20
  v20:=Tryz.zeroValue20
  t31:=Tryz.underlying52
  a31:=Tryz.isAgg52
  z31:=Tryz.sizeOf52
  v31:=Tryz.zeroValue52
  t37:=Tryz.underlying155
  a37:=Tryz.isAgg155
  z37:=Tryz.sizeOf155
  v37:=Tryz.zeroValue155
  t70:=Tryz.underlying154
  a70:=Tryz.isAgg154
  z70:=Tryz.sizeOf154
  v70:=Tryz.zeroValue154
  t72:=Tryz.underlying157
  a72:=Tryz.isAgg157
  z72:=Tryz.sizeOf157
  v72:=Tryz.zeroValue157
  t75:=Tryz.underlying160
  a75:=Tryz.isAgg160
  z75:=Tryz.sizeOf160
  v75:=Tryz.zeroValue160
  t76:=Tryz.underlying161
  a76:=Tryz.isAgg161
  z76:=Tryz.sizeOf161
  v76:=Tryz.zeroValue161
  t127:=Tryz.underlying217
  a127:=Tryz.isAgg217
  z127:=Tryz.sizeOf217
  v127:=Tryz.zeroValue217
  t164:=Tryz.underlying251
  a164:=Tryz.isAgg251
  z164:=Tryz.sizeOf251
  v164:=Tryz.zeroValue251 }
theorem Tryz.Builder_Extra_156:Builder.Extra Tryz.prog Tryz.lays156_ren:={
  sizeBuilder:=by kernel_rfl
  liesBuilder:=by kernel_rfl
  t5:=Tryz.underlying5
  a5:=Tryz.isAgg5
  z5:=Tryz.sizeOf5
  v5:=Tryz.zeroValue5
  infoByte:=by kernel_rfl
  cellsByte:=by kernel_rfl
  sizeByte:=by kernel_rfl
  neB5:=by decide }
open Go.RowKit in
theorem Tryz.strings_Join_none (a:Option Addr) (c:Nat) (sep:ByteArray) (w:World) :
    Calls Tryz.prog 54 #[.slice a 0 c,.string sep] w fun e w'=>e=.returned (.string ⟨#[]⟩)∧w'=w:=Any.strings_Join_none Tryz.lays156 Tryz.Builder_Extra_156 a c sep w
open Go.RowKit in
theorem Tryz.strings_Join (bk o c:Nat) (xs:List ByteArray) (sep:ByteArray) (w:World) (hcells : ∀ (j:Nat) x,xs[j]?=some x→w.cell? ⟨bk,o+j,none⟩=some (.string x)) (hbk:bk<w.heap.size) (hN:xs.length≤140737488355328) (hcap:xs.length≤c) (hlen:(Lib.join (xs.map (·.data.toList)) sep.data.toList).length≤140737488355328) :
    Calls Tryz.prog 54 #[.slice (some ⟨bk,o,none⟩) xs.length c,.string sep] w fun e w'=>e=.returned (.string ⟨(Lib.join (xs.map (·.data.toList)) sep.data.toList).toArray⟩)∧Below w.heap.size w w':=Any.strings_Join Tryz.lays156 Tryz.Builder_Extra_156 bk o c xs sep w hcells hbk hN hcap hlen
def Tryz.lays133_ren:Go.Shelf.Ren:=⟨fun|133=>165|128=>137|n=>n,fun|51=>36|3=>3|4=>4|46=>138|5=>5|9=>9|n=>n,fun|n=>n⟩
theorem Tryz.lays133:Go.Proofs.Lays.n133 Tryz.prog Tryz.lays133_ren:={
  mixed:=by kernel_rfl
  f128:=Tryz.func137.trans (congrArg some (by kernel_rfl))
  f133:=Tryz.func165.trans (congrArg some (by kernel_rfl))
  t3:=Tryz.underlying3
  a3:=Tryz.isAgg3
  z3:=Tryz.sizeOf3
  v3:=Tryz.zeroValue3
  t4:=Tryz.underlying4
  a4:=Tryz.isAgg4
  z4:=Tryz.sizeOf4
  v4:=Tryz.zeroValue4
  t5:=Tryz.underlying5
  a5:=Tryz.isAgg5
  z5:=Tryz.sizeOf5
  v5:=Tryz.zeroValue5
  t9:=Tryz.underlying9
  a9:=Tryz.isAgg9
  z9:=Tryz.sizeOf9
  v9:=Tryz.zeroValue9
  t46:=Tryz.underlying138
  a46:=Tryz.isAgg138
  z46:=Tryz.sizeOf138
  v46:=Tryz.zeroValue138
  t51:=Tryz.underlying36
  a51:=Tryz.isAgg36
  z51:=Tryz.sizeOf36
  v51:=Tryz.zeroValue36 }
theorem Tryz.bits_LeadingZeros32 (x:Int) (w:World) (h0:0≤x) (h1:x≤4294967295) :
    Calls Tryz.prog 165 #[.int .u32 x] w fun e w'=>e=.returned (.int .i64 (32-(Lib.bitLen x.toNat:Int)))∧w'=w:=Any.bits_LeadingZeros32 Tryz.lays133 x w h0 h1
open Go.RowKit in
open Go.RowKit in
open Go.RowKit in
open Go.RowKit in
open Go.RowKit in
open Go.RowKit in
open Go.RowKit in
open Go.RowKit in
open Go.RowKit in
open Go.RowKit in
open Go.RowKit in
open Go.Lib in
open Go.Lib in
open Go.Lib in
open Go.Lib in
open Go.RowKit Go.Sort Go.Lib in
open Go.RowKit Go.Sort Go.Lib in
open Go.RowKit Go.Sort Go.Lib in
open Go.RowKit Go.Sort Go.Lib in
open Go.RowKit Go.Sort Go.Lib in
def Tryz.laysM171_ren:Go.Shelf.Ren:=⟨fun|171=>36|243=>66|246=>116|283=>153|284=>154|285=>155|286=>156|129=>184|317=>183|318=>185|319=>186|320=>187|337=>201|338=>202|n=>n,fun|3=>3|9=>9|2=>2|4=>4|171=>227|0=>0|53=>117|37=>155|5=>5|173=>230|212=>257|51=>36|20=>20|213=>258|46=>138|232=>278|233=>279|n=>n,fun|17=>1|18=>5|19=>6|n=>n⟩
theorem Tryz.laysM171:Go.Proofs.LaysM.n171 Tryz.prog Tryz.laysM171_ren:={
  mixed:=by kernel_rfl
  f129:=Tryz.func184.trans (congrArg some (by kernel_rfl))
  f171:=Tryz.func36.trans (congrArg some (by kernel_rfl))
  f243:=Tryz.func66.trans (congrArg some (by kernel_rfl))
  f246:=Tryz.func116.trans (congrArg some (by kernel_rfl))
  f283:=Tryz.func153.trans (congrArg some (by kernel_rfl))
  f284:=Tryz.func154.trans (congrArg some (by kernel_rfl))
  f285:=Tryz.func155.trans (congrArg some (by kernel_rfl))
  f286:=Tryz.func156.trans (congrArg some (by kernel_rfl))
  f317:=Tryz.func183.trans (congrArg some (by kernel_rfl))
  f318:=Tryz.func185.trans (congrArg some (by kernel_rfl))
  f319:=Tryz.func186.trans (congrArg some (by kernel_rfl))
  f320:=Tryz.func187.trans (congrArg some (by kernel_rfl))
  f337:=Tryz.func201.trans (congrArg some (by kernel_rfl))
  f338:=Tryz.func202.trans (congrArg some (by kernel_rfl))
  t0:=Tryz.underlying0
  a0:=Tryz.isAgg0
  z0:=Tryz.sizeOf0
  v0:=Tryz.zeroValue0
  t2:=Tryz.underlying2
  a2:=Tryz.isAgg2
  z2:=Tryz.sizeOf2
  v2:=Tryz.zeroValue2
  t3:=Tryz.underlying3
  a3:=Tryz.isAgg3
  z3:=Tryz.sizeOf3
  v3:=Tryz.zeroValue3
  t4:=Tryz.underlying4
  a4:=Tryz.isAgg4
  z4:=Tryz.sizeOf4
  v4:=Tryz.zeroValue4
  t5:=Tryz.underlying5
  a5:=Tryz.isAgg5
  z5:=Tryz.sizeOf5
  v5:=Tryz.zeroValue5
  t9:=Tryz.underlying9
  a9:=Tryz.isAgg9
  z9:=Tryz.sizeOf9
  v9:=Tryz.zeroValue9
  t20:=Tryz.underlying20
  a20:=Tryz.isAgg20
  z20:=Tryz.sizeOf20
  v20:=Tryz.zeroValue20
  t37:=Tryz.underlying155
  a37:=Tryz.isAgg155
  z37:=Tryz.sizeOf155
  v37:=Tryz.zeroValue155
  t46:=Tryz.underlying138
  a46:=Tryz.isAgg138
  z46:=Tryz.sizeOf138
  v46:=Tryz.zeroValue138
  t51:=Tryz.underlying36
  a51:=Tryz.isAgg36
  z51:=Tryz.sizeOf36
  v51:=Tryz.zeroValue36
  t53:=Tryz.underlying117
  a53:=Tryz.isAgg117
  z53:=Tryz.sizeOf117
  v53:=Tryz.zeroValue117
  t171:=Tryz.underlying227
  a171:=Tryz.isAgg227
  z171:=Tryz.sizeOf227
  v171:=Tryz.zeroValue227
  t173:=Tryz.underlying230
  a173:=Tryz.isAgg230
  z173:=Tryz.sizeOf230
  v173:=Tryz.zeroValue230
  t212:=Tryz.underlying257
  a212:=Tryz.isAgg257
  z212:=Tryz.sizeOf257
  v212:=Tryz.zeroValue257
  t213:=Tryz.underlying258
  a213:=Tryz.isAgg258
  z213:=Tryz.sizeOf258
  t232:=Tryz.underlying278
  a232:=Tryz.isAgg278
  z232:=Tryz.sizeOf278
  v232:=Tryz.zeroValue278
  t233:=Tryz.underlying279
  a233:=Tryz.isAgg279
  z233:=Tryz.sizeOf279
  v233:=Tryz.zeroValue279
  g17:=by kernel_rfl
  g18:=by kernel_rfl
  g19:=by kernel_rfl
  i0:=by kernel_rfl
  i2:=by kernel_rfl
  i3:=by kernel_rfl
  i4:=by kernel_rfl
  i5:=by kernel_rfl
  i9:=by kernel_rfl
  i20:=by kernel_rfl
  i37:=by kernel_rfl
  i46:=by kernel_rfl
  i51:=by kernel_rfl
  i53:=by kernel_rfl
  i171:=by kernel_rfl
  i173:=by kernel_rfl
  i212:=by kernel_rfl
  i232:=by kernel_rfl
  i233:=by kernel_rfl
  m17:=by kernel_rfl
  m18:=by kernel_rfl
  m19:=by kernel_rfl }
open Go.RowKit Go.Sort Go.Lib in
theorem Tryz.strconv_Itoa (n:Int) (h0 : -9223372036854775808≤n) (h1:n≤9223372036854775807) (w:World) (htab:Lib.TabIs Tryz.prog w "internal/strconv.uint64pow10" .u64 Lib.pow10Tab) :
    Calls Tryz.prog 36 #[.int .i64 n] w fun e w'=>e=.returned (.string ⟨(Lib.itoa n).toArray⟩) ∧ ∃ k os,w'=grow (w.drewN k) os:=Any.strconv_Itoa Tryz.laysM171 n h0 h1 w htab
open Go.RowKit Go.Sort Go.Lib in
open Go.RowKit in
open Go.RowKit in
open Go.RowKit in
open Go.RowKit in
open Go.RowKit in
open Go.RowKit in
open Go.RowKit in
def Tryz.laysC172_ren:Go.Shelf.Ren:=⟨fun|172=>126|244=>161|245=>162|247=>188|279=>189|280=>190|281=>191|282=>192|287=>203|316=>204|171=>36|205=>205|321=>209|322=>210|243=>66|246=>116|283=>153|284=>154|285=>155|286=>156|129=>184|317=>183|318=>185|319=>186|320=>187|337=>201|338=>202|n=>n,fun|9=>9|3=>3|75=>160|76=>161|4=>4|5=>5|167=>261|37=>155|0=>0|85=>262|2=>2|168=>264|53=>117|175=>271|46=>138|210=>275|127=>217|145=>284|143=>282|21=>21|171=>227|173=>230|212=>257|51=>36|20=>20|213=>258|232=>278|233=>279|80=>163|n=>n,fun|15=>3|16=>4|17=>1|18=>5|19=>6|n=>n⟩
theorem Tryz.laysC172:Go.Proofs.LaysC.n172 Tryz.prog Tryz.laysC172_ren:={
  mixed:=by kernel_rfl
  f129:=Tryz.func184.trans (congrArg some (by kernel_rfl))
  f171:=Tryz.func36.trans (congrArg some (by kernel_rfl))
  f172:=Tryz.func126.trans (congrArg some (by kernel_rfl))
  f205:=Tryz.func205.trans (congrArg some (by kernel_rfl))
  f243:=Tryz.func66.trans (congrArg some (by kernel_rfl))
  f244:=Tryz.func161.trans (congrArg some (by kernel_rfl))
  f245:=Tryz.func162.trans (congrArg some (by kernel_rfl))
  f246:=Tryz.func116.trans (congrArg some (by kernel_rfl))
  f247:=Tryz.func188.trans (congrArg some (by kernel_rfl))
  f279:=Tryz.func189.trans (congrArg some (by kernel_rfl))
  f280:=Tryz.func190.trans (congrArg some (by kernel_rfl))
  f281:=Tryz.func191.trans (congrArg some (by kernel_rfl))
  f282:=Tryz.func192.trans (congrArg some (by kernel_rfl))
  f283:=Tryz.func153.trans (congrArg some (by kernel_rfl))
  f284:=Tryz.func154.trans (congrArg some (by kernel_rfl))
  f285:=Tryz.func155.trans (congrArg some (by kernel_rfl))
  f286:=Tryz.func156.trans (congrArg some (by kernel_rfl))
  f287:=Tryz.func203.trans (congrArg some (by kernel_rfl))
  f316:=Tryz.func204.trans (congrArg some (by kernel_rfl))
  f317:=Tryz.func183.trans (congrArg some (by kernel_rfl))
  f318:=Tryz.func185.trans (congrArg some (by kernel_rfl))
  f319:=Tryz.func186.trans (congrArg some (by kernel_rfl))
  f320:=Tryz.func187.trans (congrArg some (by kernel_rfl))
  f321:=Tryz.func209.trans (congrArg some (by kernel_rfl))
  f322:=Tryz.func210.trans (congrArg some (by kernel_rfl))
  f337:=Tryz.func201.trans (congrArg some (by kernel_rfl))
  f338:=Tryz.func202.trans (congrArg some (by kernel_rfl))
  t0:=Tryz.underlying0
  a0:=Tryz.isAgg0
  z0:=Tryz.sizeOf0
  v0:=Tryz.zeroValue0
  t2:=Tryz.underlying2
  a2:=Tryz.isAgg2
  z2:=Tryz.sizeOf2
  v2:=Tryz.zeroValue2
  t3:=Tryz.underlying3
  a3:=Tryz.isAgg3
  z3:=Tryz.sizeOf3
  v3:=Tryz.zeroValue3
  t4:=Tryz.underlying4
  a4:=Tryz.isAgg4
  z4:=Tryz.sizeOf4
  v4:=Tryz.zeroValue4
  t5:=Tryz.underlying5
  a5:=Tryz.isAgg5
  z5:=Tryz.sizeOf5
  v5:=Tryz.zeroValue5
  t9:=Tryz.underlying9
  a9:=Tryz.isAgg9
  z9:=Tryz.sizeOf9
  v9:=Tryz.zeroValue9
  t20:=Tryz.underlying20
  a20:=Tryz.isAgg20
  z20:=Tryz.sizeOf20
  v20:=Tryz.zeroValue20
  t21:=Tryz.underlying21
  a21:=Tryz.isAgg21
  z21:=Tryz.sizeOf21
  v21:=Tryz.zeroValue21
  t37:=Tryz.underlying155
  a37:=Tryz.isAgg155
  z37:=Tryz.sizeOf155
  v37:=Tryz.zeroValue155
  t46:=Tryz.underlying138
  a46:=Tryz.isAgg138
  z46:=Tryz.sizeOf138
  v46:=Tryz.zeroValue138
  t51:=Tryz.underlying36
  a51:=Tryz.isAgg36
  z51:=Tryz.sizeOf36
  v51:=Tryz.zeroValue36
  t53:=Tryz.underlying117
  a53:=Tryz.isAgg117
  z53:=Tryz.sizeOf117
  v53:=Tryz.zeroValue117
  t75:=Tryz.underlying160
  a75:=Tryz.isAgg160
  z75:=Tryz.sizeOf160
  v75:=Tryz.zeroValue160
  t76:=Tryz.underlying161
  a76:=Tryz.isAgg161
  z76:=Tryz.sizeOf161
  v76:=Tryz.zeroValue161
  t85:=Tryz.underlying262
  a85:=Tryz.isAgg262
  z85:=Tryz.sizeOf262
  v85:=Tryz.zeroValue262
  t127:=Tryz.underlying217
  a127:=Tryz.isAgg217
  z127:=Tryz.sizeOf217
  v127:=Tryz.zeroValue217
  t143:=Tryz.underlying282
  a143:=Tryz.isAgg282
  z143:=Tryz.sizeOf282
  v143:=Tryz.zeroValue282
  t145:=Tryz.underlying284
  a145:=Tryz.isAgg284
  z145:=Tryz.sizeOf284
  v145:=Tryz.zeroValue284
  t167:=Tryz.underlying261
  a167:=Tryz.isAgg261
  z167:=Tryz.sizeOf261
  v167:=Tryz.zeroValue261
  t168:=Tryz.underlying264
  a168:=Tryz.isAgg264
  z168:=Tryz.sizeOf264
  v168:=Tryz.zeroValue264
  t171:=Tryz.underlying227
  a171:=Tryz.isAgg227
  z171:=Tryz.sizeOf227
  v171:=Tryz.zeroValue227
  t173:=Tryz.underlying230
  a173:=Tryz.isAgg230
  z173:=Tryz.sizeOf230
  v173:=Tryz.zeroValue230
  t175:=Tryz.underlying271
  a175:=Tryz.isAgg271
  z175:=Tryz.sizeOf271
  v175:=Tryz.zeroValue271
  t210:=Tryz.underlying275
  a210:=Tryz.isAgg275
  z210:=Tryz.sizeOf275
  v210:=Tryz.zeroValue275
  t212:=Tryz.underlying257
  a212:=Tryz.isAgg257
  z212:=Tryz.sizeOf257
  v212:=Tryz.zeroValue257
  t213:=Tryz.underlying258
  a213:=Tryz.isAgg258
  z213:=Tryz.sizeOf258
  t232:=Tryz.underlying278
  a232:=Tryz.isAgg278
  z232:=Tryz.sizeOf278
  v232:=Tryz.zeroValue278
  t233:=Tryz.underlying279
  a233:=Tryz.isAgg279
  z233:=Tryz.sizeOf279
  v233:=Tryz.zeroValue279
  g15:=by kernel_rfl
  g16:=by kernel_rfl
  g17:=by kernel_rfl
  g18:=by kernel_rfl
  g19:=by kernel_rfl
  t80:=Tryz.underlying163
  a80:=Tryz.isAgg163
  z80:=Tryz.sizeOf163
  v80:=Tryz.zeroValue163
  i0:=by kernel_rfl
  i2:=by kernel_rfl
  i3:=by kernel_rfl
  i4:=by kernel_rfl
  i5:=by kernel_rfl
  i9:=by kernel_rfl
  i20:=by kernel_rfl
  i21:=by kernel_rfl
  i37:=by kernel_rfl
  i46:=by kernel_rfl
  i51:=by kernel_rfl
  i53:=by kernel_rfl
  i75:=by kernel_rfl
  i76:=by kernel_rfl
  i80:=by kernel_rfl
  i85:=by kernel_rfl
  i127:=by kernel_rfl
  i143:=by kernel_rfl
  i145:=by kernel_rfl
  i167:=by kernel_rfl
  i168:=by kernel_rfl
  i171:=by kernel_rfl
  i173:=by kernel_rfl
  i175:=by kernel_rfl
  i210:=by kernel_rfl
  i212:=by kernel_rfl
  i232:=by kernel_rfl
  i233:=by kernel_rfl
  m15:=by kernel_rfl
  m16:=by kernel_rfl
  m17:=by kernel_rfl
  m18:=by kernel_rfl
  m19:=by kernel_rfl
  c0:=by kernel_rfl
  c2:=by kernel_rfl
  c3:=by kernel_rfl
  c4:=by kernel_rfl
  c5:=by kernel_rfl
  c9:=by kernel_rfl
  c20:=by kernel_rfl
  c21:=by kernel_rfl
  c37:=by kernel_rfl
  c46:=by kernel_rfl
  c51:=by kernel_rfl
  c53:=by kernel_rfl
  c75:=by kernel_rfl
  c76:=by kernel_rfl
  c80:=by kernel_rfl
  c85:=by kernel_rfl
  c127:=by kernel_rfl
  c143:=by kernel_rfl
  c145:=by kernel_rfl
  c167:=by kernel_rfl
  c168:=by kernel_rfl
  c171:=by kernel_rfl
  c173:=by kernel_rfl
  c175:=by kernel_rfl
  c210:=by kernel_rfl
  c212:=by kernel_rfl
  c213:=by kernel_rfl
  c232:=by kernel_rfl
  c233:=by kernel_rfl }
open Go.RowKit in
open Go.RowKit in
open Go.RowKit in
open Go.RowKit in
open Go.RowKit in
open Go.RowKit in
open Go.RowKit in
open Go.RowKit in
open Go.RowKit in
open Go.RowKit in
open Go.RowKit in
open Go.RowKit in
theorem Tryz.strconv_Atoi_ok (s:ByteArray) (hmax:s.size≤9223372036854775806) (v:Int) (h:Lib.atoiAll s.data.toList=.ok v) (w:World) :
    Calls Tryz.prog 126 #[.string s] w fun e w'=>e=.returned (.tuple #[.int .i64 v,.nilIface])∧(w'=w ∨ ∃ t,w'=Lib.bytesWorld w 5 t):=Any.strconv_Atoi_ok Tryz.laysC172 s hmax v h w
open Go.RowKit in
theorem Tryz.strconv_Atoi_syntax (s:ByteArray) (hlim:s.size≤281474976710656) (h:Lib.atoiAll s.data.toList=Lib.atoiAll []) (ev:Value) (w:World) (hv:w.cell? ⟨3,0,none⟩=some ev) (hev:ev=.nilIface ∨ ∃ te pe,ev=.iface te pe) :
    Calls Tryz.prog 126 #[.string s] w fun e w' => ∃ N,e=.returned (.tuple #[.int .i64 (0),.iface 264 (.pointer (some ⟨N,0,none⟩))])∧w.heap.size≤N∧w'.heap[N]?=some (.cells #[.string ⟨#[65,116,111,105]⟩,.string s,ev] 275 (0,0))∧Below w.heap.size w w':=Any.strconv_Atoi_syntax Tryz.laysC172 s hlim h ev w hv hev
open Go.RowKit in
theorem Tryz.strconv_Atoi_range (s:ByteArray) (hlim:s.size≤281474976710656) (h:Lib.atoiAll s.data.toList=.range) (ev:Value) (w:World) (hv:w.cell? ⟨4,0,none⟩=some ev) (hev:ev=.nilIface ∨ ∃ te pe,ev=.iface te pe) :
    Calls Tryz.prog 126 #[.string s] w fun e w' => ∃ N,e=.returned (.tuple #[.int .i64 (Lib.atoiSat s.data.toList),.iface 264 (.pointer (some ⟨N,0,none⟩))])∧w.heap.size≤N∧w'.heap[N]?=some (.cells #[.string ⟨#[65,116,111,105]⟩,.string s,ev] 275 (0,0))∧Below w.heap.size w w':=Any.strconv_Atoi_range Tryz.laysC172 s hlim h ev w hv hev
open Go.RowKit in
open Go.RowKit in
open Go.RowKit in
open Go.RowKit in
open Go.RowKit in
open Go.RowKit in
open Go.RowKit in
open Go.RowKit in
open Go.RowKit in
open Go.RowKit in
open Go.RowKit in
open Go.RowKit in
open Go.RowKit in
open Go.RowKit in
open Go.RowKit in
open Go.RowKit in
open Go.RowKit in
open Go.RowKit in
open Go.RowKit in
open Go.RowKit in
open Go.RowKit in
def Tryz.lays217_ren:Go.Shelf.Ren:=⟨fun|217=>197|266=>207|n=>n,fun|9=>9|5=>5|3=>3|n=>n,fun|n=>n⟩
theorem Tryz.lays217:Go.Proofs.Lays.n217 Tryz.prog Tryz.lays217_ren:={
  mixed:=by kernel_rfl
  f217:=Tryz.func197.trans (congrArg some (by kernel_rfl))
  f266:=Tryz.func207.trans (congrArg some (by kernel_rfl))
  t3:=Tryz.underlying3
  a3:=Tryz.isAgg3
  z3:=Tryz.sizeOf3
  v3:=Tryz.zeroValue3
  t5:=Tryz.underlying5
  a5:=Tryz.isAgg5
  z5:=Tryz.sizeOf5
  v5:=Tryz.zeroValue5
  t9:=Tryz.underlying9
  a9:=Tryz.isAgg9
  z9:=Tryz.sizeOf9
  v9:=Tryz.zeroValue9 }
open Go.RowKit Go.Lib in
theorem Tryz.stringslite_IndexByte (s:ByteArray) (c:Int) (w:World) :
    Calls Tryz.prog 197 #[.string s,.int .u8 c] w fun e w'=>e=.returned (.int .i64 (Lib.indexByte s.data.toList c.toNat.toUInt8))∧w'=w:=Any.stringslite_IndexByte Tryz.lays217 s c w
open Go.RowKit Go.Lib in
open Go.RowKit Go.Lib in
open Go.RowKit Go.Lib in
open Go.RowKit Go.Lib in
open Go.RowKit Go.Lib in
open Go.RowKit Go.Lib in
open Go.RowKit Go.Lib in
open Go.RowKit Go.Lib in
def Tryz.lays145_ren:Go.Shelf.Ren:=⟨fun|145=>102|220=>148|219=>182|217=>197|225=>198|224=>199|267=>200|266=>207|314=>208|n=>n,fun|9=>9|4=>4|59=>165|3=>3|5=>5|46=>138|146=>235|51=>36|n=>n,fun|1=>0|n=>n⟩
theorem Tryz.lays145:Go.Proofs.Lays.n145 Tryz.prog Tryz.lays145_ren:={
  mixed:=by kernel_rfl
  f145:=Tryz.func102.trans (congrArg some (by kernel_rfl))
  f217:=Tryz.func197.trans (congrArg some (by kernel_rfl))
  f219:=Tryz.func182.trans (congrArg some (by kernel_rfl))
  f220:=Tryz.func148.trans (congrArg some (by kernel_rfl))
  f224:=Tryz.func199.trans (congrArg some (by kernel_rfl))
  f225:=Tryz.func198.trans (congrArg some (by kernel_rfl))
  f266:=Tryz.func207.trans (congrArg some (by kernel_rfl))
  f267:=Tryz.func200.trans (congrArg some (by kernel_rfl))
  f314:=Tryz.func208.trans (congrArg some (by kernel_rfl))
  t3:=Tryz.underlying3
  a3:=Tryz.isAgg3
  z3:=Tryz.sizeOf3
  v3:=Tryz.zeroValue3
  t4:=Tryz.underlying4
  a4:=Tryz.isAgg4
  z4:=Tryz.sizeOf4
  v4:=Tryz.zeroValue4
  t5:=Tryz.underlying5
  a5:=Tryz.isAgg5
  z5:=Tryz.sizeOf5
  v5:=Tryz.zeroValue5
  t9:=Tryz.underlying9
  a9:=Tryz.isAgg9
  z9:=Tryz.sizeOf9
  v9:=Tryz.zeroValue9
  t46:=Tryz.underlying138
  a46:=Tryz.isAgg138
  z46:=Tryz.sizeOf138
  v46:=Tryz.zeroValue138
  t51:=Tryz.underlying36
  a51:=Tryz.isAgg36
  z51:=Tryz.sizeOf36
  v51:=Tryz.zeroValue36
  t59:=Tryz.underlying165
  a59:=Tryz.isAgg165
  z59:=Tryz.sizeOf165
  v59:=Tryz.zeroValue165
  t146:=Tryz.underlying235
  a146:=Tryz.isAgg235
  z146:=Tryz.sizeOf235
  v146:=Tryz.zeroValue235
  g1:=by kernel_rfl }
open Go.RowKit Go.Lib in
theorem Tryz.strings_Cut (s sep:ByteArray) (m:Int) (w:World) (hs:s.size<4294967281) (hm:w.cell? ⟨0,0,none⟩=some (.int .i64 m)) :
    Calls Tryz.prog 102 #[.string s,.string sep] w fun e w'=>e=.returned (.tuple #[.string ⟨(Lib.cut s.data.toList sep.data.toList).1.toArray⟩,.string ⟨(Lib.cut s.data.toList sep.data.toList).2.1.toArray⟩,.bool (Lib.cut s.data.toList sep.data.toList).2.2]) ∧ ∃ n,w'=w.drewN n:=Any.strings_Cut Tryz.lays145 s sep m w hs hm
def Tryz.lays138_ren:Go.Shelf.Ren:=⟨fun|138=>106|195=>149|218=>150|143=>151|219=>182|217=>197|225=>198|224=>199|267=>200|266=>207|314=>208|n=>n,fun|9=>9|3=>3|4=>4|5=>5|0=>0|46=>138|146=>235|51=>36|n=>n,fun|1=>0|n=>n⟩
theorem Tryz.lays138:Go.Proofs.Lays.n138 Tryz.prog Tryz.lays138_ren:={
  mixed:=by kernel_rfl
  f138:=Tryz.func106.trans (congrArg some (by kernel_rfl))
  f143:=Tryz.func151.trans (congrArg some (by kernel_rfl))
  f195:=Tryz.func149.trans (congrArg some (by kernel_rfl))
  f217:=Tryz.func197.trans (congrArg some (by kernel_rfl))
  f218:=Tryz.func150.trans (congrArg some (by kernel_rfl))
  f219:=Tryz.func182.trans (congrArg some (by kernel_rfl))
  f224:=Tryz.func199.trans (congrArg some (by kernel_rfl))
  f225:=Tryz.func198.trans (congrArg some (by kernel_rfl))
  f266:=Tryz.func207.trans (congrArg some (by kernel_rfl))
  f267:=Tryz.func200.trans (congrArg some (by kernel_rfl))
  f314:=Tryz.func208.trans (congrArg some (by kernel_rfl))
  t0:=Tryz.underlying0
  a0:=Tryz.isAgg0
  z0:=Tryz.sizeOf0
  v0:=Tryz.zeroValue0
  t3:=Tryz.underlying3
  a3:=Tryz.isAgg3
  z3:=Tryz.sizeOf3
  v3:=Tryz.zeroValue3
  t4:=Tryz.underlying4
  a4:=Tryz.isAgg4
  z4:=Tryz.sizeOf4
  v4:=Tryz.zeroValue4
  t5:=Tryz.underlying5
  a5:=Tryz.isAgg5
  z5:=Tryz.sizeOf5
  v5:=Tryz.zeroValue5
  t9:=Tryz.underlying9
  a9:=Tryz.isAgg9
  z9:=Tryz.sizeOf9
  v9:=Tryz.zeroValue9
  t46:=Tryz.underlying138
  a46:=Tryz.isAgg138
  z46:=Tryz.sizeOf138
  v46:=Tryz.zeroValue138
  t51:=Tryz.underlying36
  a51:=Tryz.isAgg36
  z51:=Tryz.sizeOf36
  v51:=Tryz.zeroValue36
  t146:=Tryz.underlying235
  a146:=Tryz.isAgg235
  z146:=Tryz.sizeOf235
  v146:=Tryz.zeroValue235
  g1:=by kernel_rfl }
open Go.RowKit Go.Lib in
theorem Tryz.strings_Count_one (s:ByteArray) (c:UInt8) (w:World) :
    Calls Tryz.prog 106 #[.string s,.string ⟨#[c]⟩] w fun e w'=>e=.returned (.int .i64 (Lib.countByte s.data.toList c))∧w'=w:=Any.strings_Count_one Tryz.lays138 s c w
open Go.RowKit Go.Lib in
open Go.RowKit Go.Lib in
open Go.RowKit Go.Lib in
open Go.RowKit Go.Lib in
open Go.RowKit Go.Lib in
open Go.RowKit Go.Lib in
open Go.RowKit Go.Lib in
open Go.RowKit Go.Lib in
def Tryz.lays100_ren:Go.Shelf.Ren:=⟨fun|100=>107|207=>152|n=>n,fun|9=>9|4=>4|3=>3|n=>n,fun|n=>n⟩
theorem Tryz.lays100:Go.Proofs.Lays.n100 Tryz.prog Tryz.lays100_ren:={
  mixed:=by kernel_rfl
  f100:=Tryz.func107.trans (congrArg some (by kernel_rfl))
  f207:=Tryz.func152.trans (congrArg some (by kernel_rfl))
  t3:=Tryz.underlying3
  a3:=Tryz.isAgg3
  z3:=Tryz.sizeOf3
  v3:=Tryz.zeroValue3
  t4:=Tryz.underlying4
  a4:=Tryz.isAgg4
  z4:=Tryz.sizeOf4
  v4:=Tryz.zeroValue4
  t9:=Tryz.underlying9
  a9:=Tryz.isAgg9
  z9:=Tryz.sizeOf9
  v9:=Tryz.zeroValue9 }
open Go.RowKit Go.Lib in
theorem Tryz.strings_HasSuffix (s p:ByteArray) (w:World) (hs:s.size≤9223372036854775807) :
    Calls Tryz.prog 107 #[.string s,.string p] w fun e w'=>e=.returned (.bool (Lib.hasSuffix s.data.toList p.data.toList))∧w'=w:=Any.strings_HasSuffix Tryz.lays100 s p w hs
open Go.RowKit Go.Lib in
def Tryz.lays101_ren:Go.Shelf.Ren:=⟨fun|101=>127|208=>163|206=>193|n=>n,fun|9=>9|4=>4|3=>3|n=>n,fun|n=>n⟩
theorem Tryz.lays101:Go.Proofs.Lays.n101 Tryz.prog Tryz.lays101_ren:={
  mixed:=by kernel_rfl
  f101:=Tryz.func127.trans (congrArg some (by kernel_rfl))
  f206:=Tryz.func193.trans (congrArg some (by kernel_rfl))
  f208:=Tryz.func163.trans (congrArg some (by kernel_rfl))
  t3:=Tryz.underlying3
  a3:=Tryz.isAgg3
  z3:=Tryz.sizeOf3
  v3:=Tryz.zeroValue3
  t4:=Tryz.underlying4
  a4:=Tryz.isAgg4
  z4:=Tryz.sizeOf4
  v4:=Tryz.zeroValue4
  t9:=Tryz.underlying9
  a9:=Tryz.isAgg9
  z9:=Tryz.sizeOf9
  v9:=Tryz.zeroValue9 }
open Go.RowKit Go.Lib in
theorem Tryz.strings_TrimPrefix (s p:ByteArray) (w:World) :
    Calls Tryz.prog 127 #[.string s,.string p] w fun e w'=>e=.returned (.string ⟨(Lib.trimPrefix s.data.toList p.data.toList).toArray⟩)∧w'=w:=Any.strings_TrimPrefix Tryz.lays101 s p w
open Go.RowKit Go.Lib in
open Go.RowKit Go.Lib in
def Tryz.lays146_ren:Go.Shelf.Ren:=⟨fun|146=>101|221=>147|268=>181|138=>106|143=>151|195=>149|197=>196|218=>150|219=>182|260=>206|217=>197|225=>198|224=>199|267=>200|266=>207|314=>208|n=>n,fun|9=>9|31=>52|3=>3|4=>4|0=>0|105=>269|21=>21|5=>5|46=>138|119=>285|139=>288|138=>287|146=>235|51=>36|n=>n,fun|1=>0|3=>7|4=>8|n=>n⟩
theorem Tryz.lays146:Go.Proofs.Lays.n146 Tryz.prog Tryz.lays146_ren:={
  mixed:=by kernel_rfl
  f138:=Tryz.func106.trans (congrArg some (by kernel_rfl))
  f143:=Tryz.func151.trans (congrArg some (by kernel_rfl))
  f146:=Tryz.func101.trans (congrArg some (by kernel_rfl))
  f195:=Tryz.func149.trans (congrArg some (by kernel_rfl))
  f197:=Tryz.func196.trans (congrArg some (by kernel_rfl))
  f217:=Tryz.func197.trans (congrArg some (by kernel_rfl))
  f218:=Tryz.func150.trans (congrArg some (by kernel_rfl))
  f219:=Tryz.func182.trans (congrArg some (by kernel_rfl))
  f221:=Tryz.func147.trans (congrArg some (by kernel_rfl))
  f224:=Tryz.func199.trans (congrArg some (by kernel_rfl))
  f225:=Tryz.func198.trans (congrArg some (by kernel_rfl))
  f260:=Tryz.func206.trans (congrArg some (by kernel_rfl))
  f266:=Tryz.func207.trans (congrArg some (by kernel_rfl))
  f267:=Tryz.func200.trans (congrArg some (by kernel_rfl))
  f268:=Tryz.func181.trans (congrArg some (by kernel_rfl))
  f314:=Tryz.func208.trans (congrArg some (by kernel_rfl))
  t0:=Tryz.underlying0
  a0:=Tryz.isAgg0
  z0:=Tryz.sizeOf0
  v0:=Tryz.zeroValue0
  t3:=Tryz.underlying3
  a3:=Tryz.isAgg3
  z3:=Tryz.sizeOf3
  v3:=Tryz.zeroValue3
  t4:=Tryz.underlying4
  a4:=Tryz.isAgg4
  z4:=Tryz.sizeOf4
  v4:=Tryz.zeroValue4
  t5:=Tryz.underlying5
  a5:=Tryz.isAgg5
  z5:=Tryz.sizeOf5
  v5:=Tryz.zeroValue5
  t9:=Tryz.underlying9
  a9:=Tryz.isAgg9
  z9:=Tryz.sizeOf9
  v9:=Tryz.zeroValue9
  t21:=Tryz.underlying21
  a21:=Tryz.isAgg21
  z21:=Tryz.sizeOf21
  v21:=Tryz.zeroValue21
  t31:=Tryz.underlying52
  a31:=Tryz.isAgg52
  z31:=Tryz.sizeOf52
  v31:=Tryz.zeroValue52
  t46:=Tryz.underlying138
  a46:=Tryz.isAgg138
  z46:=Tryz.sizeOf138
  v46:=Tryz.zeroValue138
  t51:=Tryz.underlying36
  a51:=Tryz.isAgg36
  z51:=Tryz.sizeOf36
  v51:=Tryz.zeroValue36
  t105:=Tryz.underlying269
  a105:=Tryz.isAgg269
  z105:=Tryz.sizeOf269
  v105:=Tryz.zeroValue269
  t119:=Tryz.underlying285
  a119:=Tryz.isAgg285
  z119:=Tryz.sizeOf285
  t138:=Tryz.underlying287
  a138:=Tryz.isAgg287
  z138:=Tryz.sizeOf287
  v138:=Tryz.zeroValue287
  t139:=Tryz.underlying288
  a139:=Tryz.isAgg288
  z139:=Tryz.sizeOf288
  v139:=Tryz.zeroValue288
  t146:=Tryz.underlying235
  a146:=Tryz.isAgg235
  z146:=Tryz.sizeOf235
  v146:=Tryz.zeroValue235
  g1:=by kernel_rfl
  g3:=by kernel_rfl
  g4:=by kernel_rfl }
open Go.RowKit Go.Lib in
theorem Tryz.strings_Split (s sep:ByteArray) (m:Int) (w:World) (hs:s.size<4294967281) (hm:w.cell? ⟨0,0,none⟩=some (.int .i64 m)) (h1:1≤sep.size) :
    Calls Tryz.prog 101 #[.string s,.string sep] w fun e w' =>
      e=.returned (.slice (some ⟨w.heap.size,0,none⟩) (Lib.countB s sep+1) (Lib.countB s sep+1))∧w'=w.alloc (.cells ((Lib.splitB sep 0 (Lib.countB s sep) s).map Value.string).toArray 9):=Any.strings_Split Tryz.lays146 (by kernel_rfl) s sep m w hs hm h1
open Go.RowKit Go.Lib in
open Go.RowKit Go.Lib in
open Go.RowKit Go.Lib in
open Go.RowKit Go.Lib in
open Go.RowKit Go.Lib in
open Go.RowKit Go.Lib in
open Go.RowKit Go.Lib in
open Go.RowKit Go.Lib in
def Tryz.lays229_ren:Go.Shelf.Ren:=⟨fun|229=>103|n=>n,fun|9=>9|40=>169|31=>52|152=>219|3=>3|0=>0|4=>4|21=>21|154=>221|n=>n,fun|n=>n⟩
theorem Tryz.lays229:Go.Proofs.Lays.n229 Tryz.prog Tryz.lays229_ren:={
  mixed:=by kernel_rfl
  f229:=Tryz.func103.trans (congrArg some (by kernel_rfl))
  t0:=Tryz.underlying0
  a0:=Tryz.isAgg0
  z0:=Tryz.sizeOf0
  v0:=Tryz.zeroValue0
  t3:=Tryz.underlying3
  a3:=Tryz.isAgg3
  z3:=Tryz.sizeOf3
  v3:=Tryz.zeroValue3
  t4:=Tryz.underlying4
  a4:=Tryz.isAgg4
  z4:=Tryz.sizeOf4
  v4:=Tryz.zeroValue4
  t9:=Tryz.underlying9
  a9:=Tryz.isAgg9
  z9:=Tryz.sizeOf9
  v9:=Tryz.zeroValue9
  t21:=Tryz.underlying21
  a21:=Tryz.isAgg21
  z21:=Tryz.sizeOf21
  v21:=Tryz.zeroValue21
  t31:=Tryz.underlying52
  a31:=Tryz.isAgg52
  z31:=Tryz.sizeOf52
  v31:=Tryz.zeroValue52
  t40:=Tryz.underlying169
  a40:=Tryz.isAgg169
  z40:=Tryz.sizeOf169
  v40:=Tryz.zeroValue169
  t152:=Tryz.underlying219
  a152:=Tryz.isAgg219
  z152:=Tryz.sizeOf219
  v152:=Tryz.zeroValue219
  t154:=Tryz.underlying221
  a154:=Tryz.isAgg221
  z154:=Tryz.sizeOf221
  v154:=Tryz.zeroValue221 }
open Go.RowKit Go.Lib in
open Go.RowKit Go.Lib in
open Go.RowKit Go.Lib in
theorem Tryz.strings_FieldsFunc_grows (g:Nat) (lb:Array Value) (eg : ∀ args w,(callFunc g args).run Tryz.prog w=.ok (.enter g args) w) (p:Nat→Bool) (s:ByteArray) (w:World) (hs:s.size≤4294967296) (hp:PredGrows Tryz.prog g lb p w) :
    Calls Tryz.prog 103 #[.string s,.func (.func g) #[] lb] w fun e w' => ∃ A,e=.returned (.slice (some ⟨A,0,none⟩) (Lib.goFieldsP p s).length (Lib.goFieldsP p s).length)∧w.heap.size≤A ∧
      w'.ownsRow w.heap.size 9 1 (.slice (some ⟨A,0,none⟩) (Lib.goFieldsP p s).length (Lib.goFieldsP p s).length) (Lib.goFieldsP p s).length ((Lib.goFieldsP p s).map Value.string)∧Below w.heap.size w w':=Any.strings_FieldsFunc_grows Tryz.lays229 g lb eg p s w hs hp (by kernel_rfl) (by kernel_rfl)
end Go.Proofs
namespace Go.Proofs.YtbkfakkkikmcbaaGreatDoor
open Go.RowKit
theorem cf_from (xs:Array Value) (w:World):(callFunc 84 xs).run Tryz.prog w=.ok (.enter 84 xs) w:=by kernel_rfl
theorem cf_wcmp (xs:Array Value) (w:World):(callFunc 85 xs).run Tryz.prog w=.ok (.enter 85 xs) w:=by kernel_rfl
theorem cf_is (xs:Array Value) (w:World):(callFunc 118 xs).run Tryz.prog w=.ok (.enter 118 xs) w:=by kernel_rfl
theorem cf_div32 (xs:Array Value) (w:World):(callFunc 159 xs).run Tryz.prog w=.ok (.enter 159 xs) w:=by kernel_rfl
set_option maxHeartbeats 400000 in
theorem div32_any (h l y:Nat) (w:World) (hl:l<4294967296) (hy:y<4294967296) (hlt:h<y) :
    Calls Tryz.prog 159 #[.int .u32 h,.int .u32 l,.int .u32 y] w (Pq.Ret w (.tuple #[.int .u32 (((h*4294967296+l)/y:Nat):Int),.int .u32 (((h*4294967296+l)%y:Nat):Int)])):=by
  have h1:((y:Int) != 0)=true:=by simp;omega
  have h2:decide (y≤h)=false:=by simp;omega
  have h3:(h:Int)<4294967296:=by omega
  obtain ⟨z,hz⟩ : ∃ z,z=h*4294967296+l:=⟨_,rfl⟩
  have hor:bits .or .u64 ((h:Int)*4294967296) (l:Int)=(z:Int):=by rw[hz];exact Pq.or_hl (by omega) hl
  have hzl:(z:Int)<18446744073709551616:=by omega
  have hzb:z/y<4294967296:=by rw[Nat.div_lt_iff_lt_mul (by omega),hz];have:(h+1)*4294967296≤y*4294967296:=Nat.mul_le_mul_right _ (by omega);omega
  have hzm:z%y<4294967296:=Nat.lt_trans (Nat.mod_lt _ (by omega)) hy
  rw[←hz]
  clear hz
  have hy0:0<(y:Int):=by omega
  have e1:(z:Int)/(y:Int)=((z/y:Nat):Int):=by simp
  have e2:(z:Int)%(y:Int)=((z%y:Nat):Int):=by simp
  have hq1:(z:Int)/(y:Int)<4294967296:=by rw[e1];omega
  have hq2:(z:Int)%(y:Int)<4294967296:=by rw[e2];omega
  have hq3:0≤(z:Int)/(y:Int):=by rw[e1];exact Int.natCast_nonneg _
  have hq4:0≤(z:Int)%(y:Int):=by rw[e2];exact Int.natCast_nonneg _
  have w1:IntKind.u64.wrap (y:Int)=(y:Int):=IntWalk.u64_in _ (by omega)
  have w2:IntKind.u64.wrap ((z:Int)/(y:Int))=(z:Int)/(y:Int):=IntWalk.u64_in _ (by omega)
  have w3:IntKind.u64.wrap ((z:Int)%(y:Int))=(z:Int)%(y:Int):=IntWalk.u64_in _ (by omega)
  have w4:IntKind.u32.wrap ((z:Int)/(y:Int))=(z:Int)/(y:Int):=IntWalk.u32_in _ (by omega)
  have w5:IntKind.u32.wrap ((z:Int)%(y:Int))=(z:Int)%(y:Int):=IntWalk.u32_in _ (by omega)
  have w6:¬ (y=0):=by omega
  have w7:(z:Int).tmod (y:Int)=(z:Int)%(y:Int):=Int.tmod_eq_emod_of_nonneg (by omega)
  have E1:=Lib.hid e1;clear e1
  have E2:=Lib.hid e2;clear e2
  go_enter Tryz.func159,Tryz.ntmps159
  go_upto_region 4 with fail
  refine Pq.wp_region_grown none [(0,true),(1,true),(2,true),(3,true),(4,true),(5,true),(6,true),(7,true),(8,true),(9,true),(10,true),(11,true)] (by kernel_rfl) (by kernel_rfl) (fun _ _ d _ _ h=>by cases d <;> exact h) (fun hS=>?_)
  simp only[Pq.pick,List.filterMap_cons,List.filterMap_nil,List.getElem?_cons_zero,List.getElem?_cons_succ,Option.map_some]
  iterate 12
    refine Pq.wpO_step (by rfl) ?_
    apply Exists.intro
    refine ⟨fun w' hw'=>?_,?_⟩
    · go_simp;first|done|with_reducible rfl|exact ⟨rfl,rfl⟩
    simp only[Pq.zz]
  refine Pq.wpO_nil ?_
  go_wp2
  go_ret2
  exact ⟨tup2 (by rw[←E1.out];rfl) (by rw[←E2.out];rfl),Pq.grown_below hS⟩
theorem cf_byw (xs:Array Value) (w:World):(callFunc 122 xs).run Tryz.prog w=.ok (.enter 122 xs) w:=by kernel_rfl
set_option maxRecDepth 100000 in
set_option maxHeartbeats 400000 in
theorem byword_any (b o:Nat) (x d:Nat) (w:World) (hx:x<Pq.bp 32) (hd:0<d) (hd2:d<4294967296) (hb:w.rangeAt b o (Pq.am 32 x)) :
    Calls Tryz.prog 122 #[.pointer (some ⟨b,o,none⟩),.int .u32 d] w (Pq.PtrVal w (x/d) (.int .u32 ((x%d:Nat):Int))):=by
  have HX:=Lib.hid hx;clear hx
  have hlb:b<w.heap.size:=block_lt_of_cell (hb 0 _ (Pq.am_get (by omega)))
  have HBx:=Lib.hid hb;clear hb
  obtain ⟨g,hg⟩ : ∃ g,g=w.heap.size:=⟨_,rfl⟩
  have HG:=Lib.hid hg;clear hg
  obtain ⟨s,hs⟩ : ∃ s,s=Pq.szn 32 x:=⟨_,rfl⟩
  have hsl:s≤32:=by rw[hs];exact Pq.szn_le 32 x
  have HS:=Lib.hid hs;clear hs
  go_enter Tryz.func122,Tryz.ntmps122
  go_upto_region 1 with fail
  go_upto_region 1 with fail
  apply wp_region_lit
  refine Pq.wpL_alloc g HG.out.symm (by rfl) _ rfl _ al_am ?_
  simp only[Pq.zz]
  refine Pq.wpL_nil ?_
  have hrow:(w.alloc (.cells (Pq.am 32 0).toArray 202)).heap[g]?=some (.cells (Pq.am 32 (Pq.bp s*(x/Pq.bp s/d))).toArray 202):=by
    have:x/Pq.bp s=0:=Nat.div_eq_of_lt (by rw[HS.out];exact Pq.szn_lt' HX.out)
    rw[this,Nat.zero_div,Nat.mul_zero];exact Pq.al_block w _ g HG.out
  have hbel:=Pq.below_alloc (Below.refl w.heap.size w) (Nat.le_refl _) (.cells (Pq.am 32 0).toArray 202)
  have HROW:=Lib.hid hrow;clear hrow
  have HBEL:=Lib.hid hbel;clear hbel
  have HBy:=Lib.hid (Pq.al_range HBx.out (.cells (Pq.am 32 0).toArray 202))
  generalize w.alloc (.cells (Pq.am 32 0).toArray 202)=w1 at *
  go_wp2_with (go_at_call 121;refine (size_any b o x s HS.out _ HBy.out).mono ?_;rintro e w2 ⟨rfl,rfl⟩)
  go_loopw [7,8] (fun rs i wr => ∃ (k:Nat) (z:Int) (r:Nat),i=.int .i64 z∧Hid (z+1=k)∧k≤32∧rs=.int .u32 (r:Int)∧Hid (r=x/Pq.bp k%d)∧Hid (wr.heap[g]?=some (.cells (Pq.am 32 (Pq.bp k*(x/Pq.bp k/d))).toArray 202))∧Hid (Below w.heap.size w wr)) (fun _ i _=>(intOf i+1).toNat)
  case atStart=>exact ⟨s,(s:Int)-1,0,rfl,Lib.hid (by omega),hsl,rfl,Lib.hid (by rw[Nat.div_eq_of_lt (by rw[HS.out];exact Pq.szn_lt' HX.out)];simp),HROW,HBEL⟩
  case round =>
    obtain ⟨k,z,r,rfl,hz,hk,rfl,hr,hrow,hbl⟩:=hrel
    have hrd:r<d:=by rw[hr.out];exact Nat.mod_lt _ hd
    rcases k with _|k
    · obtain rfl:z = -1:=by have:=hz.out;omega
      clear hz
      go_wp2
      go_ret2
      have e1:x/Pq.bp 0=x:=by rw[Pq.bp_zero,Nat.div_one]
      refine ⟨g,?_,?_,hbl.out,by rw[HG.out];exact Nat.le_refl _,(Array.getElem?_eq_some_iff.1 hrow.out).1⟩
      · rw[hr.out,e1];rfl
      · have:=hrow.out
        rw[e1,Pq.bp_zero,Nat.one_mul]at this
        exact Pq.range_block this
    · obtain rfl:z=(k:Int):=by have:=hz.out;omega
      clear hz
      have hk2:(k:Int)<32:=by omega
      have C1:=Lib.hid (Pq.range_in HBx.out hbl.out k _ (Pq.am_get (x:=x) (show k<32 by omega)))
      obtain ⟨qq,hqq⟩ : ∃ qq,qq=(r*4294967296+Pq.wd x k)/d:=⟨_,rfl⟩
      obtain ⟨rr,hrr⟩ : ∃ rr,rr=(r*4294967296+Pq.wd x k)%d:=⟨_,rfl⟩
      have hcall:=div32_any r (Pq.wd x k) d wr (Pq.wd_lt _ _) hd2 hrd
      rw[←hqq,←hrr]at hcall
      have HQQ:=Lib.hid hqq;clear hqq
      have HRR:=Lib.hid hrr;clear hrr
      have HC:=Lib.hid hcall;clear hcall
      go_upto_region 6 with fail
      go_upto_region 6 with fail
      apply wp_region_lit
      iterate 6
        refine Pq.wpL_step (by rfl) ?_
        apply Exists.intro
        apply Exists.intro
        refine ⟨?_,?_⟩
        · go_simp;first|done|with_reducible rfl|exact ⟨rfl,rfl⟩
        simp only[Pq.zz]
      refine Pq.wpL_cell ⟨b,o+k,none⟩ _ C1.out (by rfl) _ _ rfl rfl _ u_u32 rfl ?_
      simp only[Pq.zz]
      refine Pq.wpL_step (by rfl) ?_
      apply Exists.intro
      apply Exists.intro
      refine ⟨?_,?_⟩
      · go_simp;first|done|with_reducible rfl|exact ⟨rfl,rfl⟩
      simp only[Pq.zz]
      refine Pq.wpL_ret (by rfl) cf_div32 HC.out rfl rfl ?_;intro w3 hb3
      simp only[Pq.zz]
      iterate 4
        refine Pq.wpL_step (by rfl) ?_
        apply Exists.intro
        apply Exists.intro
        refine ⟨?_,?_⟩
        · go_simp;first|done|with_reducible rfl|exact ⟨rfl,rfl⟩
        simp only[Pq.zz]
      refine Pq.wpL_put (.int .u32 (qq:Int)) (Pq.keep_block hrow.out hb3) (by rw[Pq.am_length];omega) (by rfl) 36 _ _ rfl rfl rfl rfl rfl (by kernel_rfl) ?_
      try simp only[Pq.zz]
      refine Pq.wpL_step (by rfl) ?_
      apply Exists.intro
      apply Exists.intro
      refine ⟨?_,?_⟩
      · go_simp;first|done|with_reducible rfl|exact ⟨rfl,rfl⟩
      simp only[Pq.zz]
      refine Pq.wpL_nil ?_
      go_wp2
      go_roundw
      case rel=>exact ⟨k,(k:Int)-1,rr,rfl,Lib.hid (by omega),by omega,rfl,Lib.hid (by rw[HRR.out,hr.out];exact (Pq.div_step x k d hd).1),by
        have:=Pq.setRow_at (cs:=((Pq.am 32 (Pq.bp (k+1)*(x/Pq.bp (k+1)/d))).set k (.int .u32 (qq:Int))).toArray) (Pq.keep_block hrow.out hb3)
        rw[HQQ.out,hr.out,Pq.div_row x k d hd (by omega)]at this;rw[HQQ.out,hr.out,Pq.div_row x k d hd (by omega)];exact this,Lib.hid (Pq.below_setRow (Pq.below_next hbl.out (Nat.le_refl _) hb3) (by rw[←HG.out];exact Nat.le_refl _))⟩
      case measure=>simp[intOf]
theorem cf_shifted (xs:Array Value) (w:World):(callFunc 166 xs).run Tryz.prog w=.ok (.enter 166 xs) w:=by kernel_rfl
set_option maxRecDepth 100000 in
set_option maxHeartbeats 400000 in
theorem shifted_any (b o L c:Nat) (X n:Nat) (w:World) (hL:L≤64) (hX:X<Pq.bp L) (hn:n<32) (hb:w.rangeAt b o (Pq.am L X)) :
    Calls Tryz.prog 166 #[.slice (some ⟨b,o,none⟩) L c,.int .i64 n] w (Pq.SlOf w 36 (L+1) (X*2^n)):=by
  have HX:=Lib.hid hX;clear hX
  have HBx:=Lib.hid hb;clear hb
  obtain ⟨g,hg⟩ : ∃ g,g=w.heap.size:=⟨_,rfl⟩
  have HG:=Lib.hid hg;clear hg
  have hLI:(L:Int)≤64:=by omega
  obtain ⟨L1,hL1⟩ : ∃ L1,L1=L+1:=⟨_,rfl⟩
  rw[←hL1]
  have hw1:(L:Int)+1=(L1:Int):=by omega
  have hw2:IntKind.i64.wrap (L1:Int)=(L1:Int):=IntWalk.i64_in _ (by omega)
  have HL1:=Lib.hid hL1;clear hL1
  go_enter Tryz.func166,Tryz.ntmps166
  go_upto_region 1 with fail
  go_upto_region 1 with fail
  apply wp_region_lit
  iterate 3
    refine Pq.wpL_step (by rfl) ?_
    apply Exists.intro
    apply Exists.intro
    refine ⟨?_,?_⟩
    · go_simp;first|done|with_reducible rfl|exact ⟨rfl,rfl⟩
    simp only[Pq.zz]
  refine Pq.wpL_make g HG.out.symm (by rfl) _ _ _ rfl L1 rfl rfl _ _ (mk_u32 L1 (by have:=HL1.out;omega)) ?_
  simp only[Pq.zz]
  refine Pq.wpL_step (by rfl) ?_
  apply Exists.intro
  apply Exists.intro
  refine ⟨?_,?_⟩
  · go_simp;first|done|with_reducible rfl|exact ⟨rfl,rfl⟩
  simp only[Pq.zz]
  refine Pq.wpL_nil ?_
  clear hw1 hw2
  have hrow:(w.alloc (.cells (Pq.am L1 0).toArray 36)).heap[g]?=some (.cells (Pq.am L1 (Pq.lo X 0*2^n)).toArray 36):=by rw[Pq.lo_zero,Nat.zero_mul];exact Pq.al_block w _ g HG.out
  have HROW:=Lib.hid hrow;clear hrow
  have HBEL:=Lib.hid (Pq.below_alloc (Below.refl w.heap.size w) (Nat.le_refl _) (.cells (Pq.am L1 0).toArray 36))
  generalize w.alloc (.cells (Pq.am L1 0).toArray 36)=w1 at *
  go_wp2
  go_loopw [15] (fun i wr => ∃ (k:Nat),i=.int .i64 k∧k≤L∧Hid (wr.heap[g]?=some (.cells (Pq.am L1 (Pq.lo X k*2^n)).toArray 36))∧Hid (Below w.heap.size w wr)) (fun i _=>L-(intOf i).toNat)
  case atStart=>exact ⟨0,rfl,by omega,HROW,HBEL⟩
  case round =>
    obtain ⟨k,rfl,hk,hrow,hbl⟩:=hrel
    by_cases hlt:k<L
    · have hk2:(k:Int)<L:=by omega
      have c1:=Pq.range_in HBx.out hbl.out k _ (Pq.am_get (x:=X) hlt)
      have hwl:=Pq.wd_lt X k
      obtain ⟨q,hq⟩ : ∃ q,q=Pq.wd X k:=⟨_,rfl⟩
      rw[←hq]at c1 hwl
      obtain ⟨hs1,hs2,hs3,hs4,hs5⟩:=Pq.shl_step (X:=X) (k:=k) hn
      rw[←hq]at hs2 hs3 hs4 hs5
      obtain ⟨V,hV⟩ : ∃ V,V=Pq.lo X k*2^n:=⟨_,rfl⟩
      rw[←hV]at hs1 hs2 hs3 hs5 hrow
      have h2n:2^n≤2147483648:=by have:=Nat.pow_le_pow_right (n:=2) (by decide) (show n≤31 by omega);simpa using this
      obtain ⟨t,ht⟩ : ∃ t,t=q*2^n:=⟨_,rfl⟩
      rw[←ht]at hs2 hs3 hs4 hs5
      have htl:t<9223372036854775808:=by
        have h1:q*2^n≤q*2147483648:=Nat.mul_le_mul_left _ h2n
        omega
      have hw3:IntKind.u64.wrap ((q:Int)*2^n)=(t:Int):=by
        have e:(q:Int)*2^n=(t:Int):=by rw[ht];simp
        rw[e];exact IntWalk.u64_in _ (by omega)
      have c2:wr.cell? ⟨g,k,none⟩=some (.int .u32 (Pq.wd V k:Nat)):=by
        have:=Pq.range_block hrow.out k _ (Pq.am_get (x:=V) (show k<L1 by have:=HL1.out;omega))
        rwa [Nat.zero_add]at this
      obtain ⟨p,hp⟩ : ∃ p,p=t%4294967296:=⟨_,rfl⟩
      obtain ⟨u,hu⟩ : ∃ u,u=t/4294967296:=⟨_,rfl⟩
      obtain ⟨a,ha⟩ : ∃ a,a=Pq.wd V k:=⟨_,rfl⟩
      rw[←hp,←ha]at hs2 hs3 hs5
      rw[←hu]at hs4 hs5
      rw[←ha]at hs1 c2
      have hal:a<4294967296:=by rw[ha];exact Pq.wd_lt _ _
      have htp:(t:Int)%4294967296=(p:Int):=by rw[hp];simp
      have htu:(t:Int)/4294967296=(u:Int):=by rw[hu];simp
      have hpl:p<4294967296:=by omega
      have hand:bits .and .u64 (t:Int) 4294967295=(p:Int):=by rw[Pq.and_lo (by omega),hp]
      have hwp:IntKind.u32.wrap (p:Int)=(p:Int):=IntWalk.u32_in _ (by omega)
      have hwu:IntKind.u32.wrap (u:Int)=(u:Int):=IntWalk.u32_in _ (by omega)
      have hor:bits .or .u32 (a:Int) (p:Int)=((a+p:Nat):Int):=by rw[u32_or_nat a p hal hpl,hs2]
      obtain ⟨s,hs⟩ : ∃ s,s=a+p:=⟨_,rfl⟩
      rw[←hs]at hs3 hs5 hor
      have HS5:=Lib.hid hs5
      have HQ:=Lib.hid hq
      have HVV:=Lib.hid hV
      have hk3:(k:Int)+1<L1:=by have:=HL1.out;omega
      have hk4:(k:Int)<L1:=by omega
      have hg1:=hrow.out
      have HG1:=Lib.hid hg1
      have HS3:=Lib.hid hs3
      have HS4:=Lib.hid hs4
      clear hs1 hs2 hs5 hV hq ht hp hu ha hs hg1 hrow htl hs3 hs4
      go_upto_region 6 with fail
      go_upto_region 6 with fail
      apply wp_region_lit
      iterate 3
        refine Pq.wpL_step (by rfl) ?_
        apply Exists.intro
        apply Exists.intro
        refine ⟨?_,?_⟩
        · go_simp;first|done|with_reducible rfl|exact ⟨rfl,rfl⟩
        simp only[Pq.zz]
      refine Pq.wpL_cell ⟨g,k,none⟩ _ c2 (by rfl) _ _ rfl rfl _ u_u32 rfl ?_
      simp only[Pq.zz]
      iterate 5
        refine Pq.wpL_step (by rfl) ?_
        apply Exists.intro
        apply Exists.intro
        refine ⟨?_,?_⟩
        · go_simp;first|done|with_reducible rfl|exact ⟨rfl,rfl⟩
        simp only[Pq.zz]
      refine Pq.wpL_put (.int .u32 (s:Int)) HG1.out (by rw[Pq.am_length];omega) (by rfl) 36 _ _ rfl rfl rfl rfl rfl (by kernel_rfl) ?_
      try simp only[Pq.zz]
      refine Pq.wpL_nil ?_
      have hwk:IntKind.i64.wrap ((k:Int)+1)=(k:Int)+1:=IntWalk.i64_in _ (by omega)
      have hwk2:(0:Int)≤(k:Int)+1:=by omega
      have hwk3:((k:Int)+1).toNat=k+1:=by omega
      go_upto_region 7 with fail
      go_upto_region 7 with fail
      apply wp_region_lit
      iterate 7
        refine Pq.wpL_step (by rfl) ?_
        apply Exists.intro
        apply Exists.intro
        refine ⟨?_,?_⟩
        · go_simp;first|done|with_reducible rfl|exact ⟨rfl,rfl⟩
        simp only[Pq.zz]
      refine Pq.wpL_put (.int .u32 (u:Int)) (Pq.setRow_at HG1.out) (by rw[List.length_set,Pq.am_length];omega) (by rfl) 36 _ _ rfl rfl rfl rfl rfl (by kernel_rfl) ?_
      try simp only[Pq.zz]
      refine Pq.wpL_nil ?_
      clear hwk hwk2 hwk3
      go_wp2
      go_roundw
      case rel=>exact ⟨k+1,by go_num,by omega,by
        have e:=Pq.setRow_at (cs:=(((Pq.am L1 V).set k (.int .u32 (s:Int))).set (k+1) (.int .u32 (u:Int))).toArray) (Pq.setRow_at (cs:=((Pq.am L1 V).set k (.int .u32 (s:Int))).toArray) HG1.out)
        rw[Pq.am_set HS3.out (by omega),Pq.am_set HS4.out (by omega),HS5.out]at e
        rw[Pq.am_set HS3.out (by omega),Pq.am_set HS4.out (by omega),HS5.out];exact e,Lib.hid (Pq.below_setRow (Pq.below_setRow hbl.out (by rw[←HG.out];exact Nat.le_refl _)) (by rw[←HG.out];exact Nat.le_refl _))⟩
      case measure=>simp[intOf];omega
    · obtain rfl:k=L:=by omega
      go_wp2
      go_ret
      refine ⟨g,rfl,?_,hbl.out,by rw[HG.out];exact Nat.le_refl _⟩
      have:=hrow.out
      rwa [Pq.lo_self HX.out]at this
theorem cf_guess (xs:Array Value) (w:World):(callFunc 167 xs).run Tryz.prog w=.ok (.enter 167 xs) w:=by kernel_rfl
set_option maxRecDepth 100000 in
set_option maxHeartbeats 1000000 in
theorem guess_any (b o lu cu c q lv cv:Nat) (u0 u1 u2 v0 v1:Nat) (w:World) (h0:u0<4294967296) (h1:u1<4294967296) (h2:u2≤v1) (hv0:v0<4294967296) (hv1:v1<4294967296) (hv:2147483648≤v1) (hlu:3≤lu) (hlv:2≤lv)
    (hu0:w.cell? ⟨b,o,none⟩=some (.int .u32 u0)) (hu1:w.cell? ⟨b,o+1,none⟩=some (.int .u32 u1)) (hu2:w.cell? ⟨b,o+2,none⟩=some (.int .u32 u2)) (hc0:w.cell? ⟨c,q,none⟩=some (.int .u32 v0)) (hc1:w.cell? ⟨c,q+1,none⟩=some (.int .u32 v1)) :
    Calls Tryz.prog 167 #[.slice (some ⟨b,o,none⟩) lu cu,.slice (some ⟨c,q,none⟩) lv cv] w (Pq.Ret w (.int .u64 (Pq.gw u0 u1 u2 v0 v1:Nat))):=by
  obtain ⟨r,hr⟩ : ∃ r,r=Pq.gw u0 u1 u2 v0 v1:=⟨_,rfl⟩
  rw[←hr]
  have HRr:=Lib.hid hr;clear hr
  have HU0:=Lib.hid hu0;clear hu0
  have HU1:=Lib.hid hu1;clear hu1
  have HU2:=Lib.hid hu2;clear hu2
  have HC0:=Lib.hid hc0;clear hc0
  have HC1:=Lib.hid hc1;clear hc1
  have hl1:(2:Int)<lu:=by omega
  have hl2:(1:Int)<lu:=by omega
  have hl3:(0:Int)<lu:=by omega
  have hl4:(1:Int)<lv:=by omega
  have hl5:(0:Int)<lv:=by omega
  have hi2:(u2:Int)<4294967296:=by omega
  have hl6:0<lv:=by omega
  have hl7:0<lu:=by omega
  obtain ⟨T,hT⟩ : ∃ T,T=u2*4294967296+u1:=⟨_,rfl⟩
  have hor:bits .or .u64 ((u2:Int)*4294967296) (u1:Int)=(T:Int):=by rw[hT];exact Pq.or_hl (by omega) h1
  have hTl:(T:Int)<18446744073709551616:=by omega
  have st:=Pq.GI.start (u0:=u0) h0 h1 hv0 hv1 hv h2
  rw[←hT]at st
  have ST:=Lib.hid st;clear st
  have HT:=Lib.hid hT;clear hT
  have e1:(T:Int)/(v1:Int)=((T/v1:Nat):Int):=by simp
  have e2:(T:Int)%(v1:Int)=((T%v1:Nat):Int):=by simp
  obtain ⟨q0,hq0⟩ : ∃ q0,q0=T/v1:=⟨_,rfl⟩
  obtain ⟨r0,hr0⟩ : ∃ r0,r0=T%v1:=⟨_,rfl⟩
  rw[←hq0]at e1
  rw[←hr0]at e2
  have hq0l:q0≤4294967297:=by rw[hq0];exact ST.out.top
  have hr0l:r0≤4294967295:=by rw[hr0];exact ST.out.small
  have HQ0:=Lib.hid hq0;clear hq0
  have HR0:=Lib.hid hr0;clear hr0
  have w1:IntKind.u64.wrap (v1:Int)=(v1:Int):=IntWalk.u64_in _ (by omega)
  have w2:IntKind.u64.wrap (q0:Int)=(q0:Int):=IntWalk.u64_in _ (by omega)
  have w3:IntKind.u64.wrap (r0:Int)=(r0:Int):=IntWalk.u64_in _ (by omega)
  have w7:(T:Int).tmod (v1:Int)=(T:Int)%(v1:Int):=Int.tmod_eq_emod_of_nonneg (by omega)
  have w6:¬ (v1=0):=by omega
  have x1:IntKind.u64.wrap (u2:Int)=(u2:Int):=IntWalk.u64_in _ (by omega)
  have x2:IntKind.u64.wrap (u1:Int)=(u1:Int):=IntWalk.u64_in _ (by omega)
  have x3:IntKind.u64.wrap ((u2:Int)*4294967296)=(u2:Int)*4294967296:=IntWalk.u64_in _ (by omega)
  have x4:IntKind.u64.wrap (v0:Int)=(v0:Int):=IntWalk.u64_in _ (by omega)
  have x5:IntKind.u64.wrap (u0:Int)=(u0:Int):=IntWalk.u64_in _ (by omega)
  go_enter Tryz.func167,Tryz.ntmps167
  go_upto_region 1 with fail
  refine Pq.wp_region_grown none [(0,true),(1,true),(2,true),(3,true),(4,true),(5,true),(6,true),(7,true),(8,true),(9,true),(10,true)] (by kernel_rfl) (by kernel_rfl) (fun _ _ d _ _ h=>by cases d <;> exact h) (fun hS=>?_)
  simp only[Pq.pick,List.filterMap_cons,List.filterMap_nil,List.getElem?_cons_zero,List.getElem?_cons_succ,Option.map_some]
  iterate 2
    refine Pq.wpO_step (by rfl) ?_
    apply Exists.intro
    refine ⟨fun w' hw'=>?_,?_⟩
    · go_simp;first|done|with_reducible rfl|exact ⟨rfl,rfl⟩
    simp only[Pq.zz]
  refine Pq.wpO_cell ⟨b,o+2,none⟩ _ HU2.out (by simp) (by rfl) _ _ rfl rfl _ u_u32 rfl ?_
  simp only[Pq.zz]
  iterate 4
    refine Pq.wpO_step (by rfl) ?_
    apply Exists.intro
    refine ⟨fun w' hw'=>?_,?_⟩
    · go_simp;first|done|with_reducible rfl|exact ⟨rfl,rfl⟩
    simp only[Pq.zz]
  refine Pq.wpO_cell ⟨b,o+1,none⟩ _ HU1.out (by simp) (by rfl) _ _ rfl rfl _ u_u32 rfl ?_
  simp only[Pq.zz]
  iterate 3
    refine Pq.wpO_step (by rfl) ?_
    apply Exists.intro
    refine ⟨fun w' hw'=>?_,?_⟩
    · go_simp;first|done|with_reducible rfl|exact ⟨rfl,rfl⟩
    simp only[Pq.zz]
  refine Pq.wpO_nil ?_
  go_upto_region 2 with fail
  refine Pq.wp_region_grown none [(0,true),(1,true),(2,true),(3,true),(4,true),(5,true),(6,true),(7,true),(8,true),(9,true),(10,true),(11,true),(12,true),(13,true)] (by kernel_rfl) (by kernel_rfl) (fun _ _ d _ _ h=>by cases d <;> exact h) (fun hS=>?_)
  simp only[Pq.pick,List.filterMap_cons,List.filterMap_nil,List.getElem?_cons_zero,List.getElem?_cons_succ,Option.map_some]
  iterate 3
    refine Pq.wpO_step (by rfl) ?_
    apply Exists.intro
    refine ⟨fun w' hw'=>?_,?_⟩
    · go_simp;first|done|with_reducible rfl|exact ⟨rfl,rfl⟩
    simp only[Pq.zz]
  refine Pq.wpO_cell ⟨c,q+1,none⟩ _ HC1.out (by simp) (by rfl) _ _ rfl rfl _ u_u32 rfl ?_
  simp only[Pq.zz]
  iterate 5
    refine Pq.wpO_step (by rfl) ?_
    apply Exists.intro
    refine ⟨fun w' hw'=>?_,?_⟩
    · go_simp;first|done|with_reducible rfl|exact ⟨rfl,rfl⟩
    simp only[Pq.zz]
  refine Pq.wpO_cell ⟨c,q+1,none⟩ _ HC1.out (by simp) (by rfl) _ _ rfl rfl _ u_u32 rfl ?_
  simp only[Pq.zz]
  iterate 4
    refine Pq.wpO_step (by rfl) ?_
    apply Exists.intro
    refine ⟨fun w' hw'=>?_,?_⟩
    · go_simp;first|done|with_reducible rfl|exact ⟨rfl,rfl⟩
    simp only[Pq.zz]
  refine Pq.wpO_nil ?_
  clear hor e1 e2 w2 w3 w7 w6 x1 x2 x3
  go_wp2
  go_loopw [6,7] (fun qq rr wr => ∃ (qn rn:Nat),qq=.int .u64 (qn:Int)∧rr=.int .u64 (rn:Int)∧Hid (Pq.GI u0 u1 u2 v0 v1 qn rn)∧Hid (Below w.heap.size w wr)) (fun qq _ _=>(intOf qq).toNat)
  case atStart =>
    refine ⟨q0,r0,rfl,rfl,?_,Lib.hid (Pq.below_drew (Pq.below_drew (Below.refl _ _)))⟩
    rw[HQ0.out,HR0.out];exact ST
  case round =>
    obtain ⟨qn,rn,rfl,rfl,hg,hbl⟩:=hrel
    clear hS HU1 HU2 HT ST HQ0 HR0 hTl hq0l hr0l
    have C0:=Lib.hid (Pq.cell_in HC0.out hbl.out)
    have C1:=Lib.hid (Pq.cell_in HC1.out hbl.out)
    have CU:=Lib.hid (Pq.cell_in HU0.out hbl.out)
    have hrl:rn≤4294967295:=hg.out.small
    have hqt:qn≤4294967297:=hg.out.top
    rcases Nat.lt_or_ge 4294967295 qn with hbig|hbig
    · have hcond:Hid (4294967295<qn∨rn*4294967296+u0<qn*v0):=Lib.hid (.inl hbig)
      have hd1:decide ((4294967295:Int)<(qn:Int))=true:=by simp;omega
      go_upto_region 3 with fail
      refine Pq.wp_region_grown none [(0,true),(1,true),(2,true),(3,true),(4,true),(5,true),(6,true),(7,true),(8,true),(9,true),(10,true),(11,true),(12,true),(13,true),(14,true),(15,true),(16,true),(17,true)] (by kernel_rfl) (by kernel_rfl) (fun _ _ d _ _ h=>by cases d <;> exact h) (fun hS=>?_)
      simp only[Pq.pick,List.filterMap_cons,List.filterMap_nil,List.getElem?_cons_zero,List.getElem?_cons_succ,Option.map_some]
      iterate 3
        refine Pq.wpO_step (by rfl) ?_
        apply Exists.intro
        refine ⟨fun w' hw'=>?_,?_⟩
        · go_simp;first|done|with_reducible rfl|exact ⟨rfl,rfl⟩
        simp only[Pq.zz]
      refine Pq.wpO_skip (by kernel_rfl) ?_
      simp only[Pq.zz]
      refine Pq.wpO_skip (by kernel_rfl) ?_
      simp only[Pq.zz]
      refine Pq.wpO_skip (by kernel_rfl) ?_
      simp only[Pq.zz]
      refine Pq.wpO_skip (by kernel_rfl) ?_
      simp only[Pq.zz]
      refine Pq.wpO_skip (by kernel_rfl) ?_
      simp only[Pq.zz]
      refine Pq.wpO_skip (by kernel_rfl) ?_
      simp only[Pq.zz]
      refine Pq.wpO_skip (by kernel_rfl) ?_
      simp only[Pq.zz]
      refine Pq.wpO_skip (by kernel_rfl) ?_
      simp only[Pq.zz]
      refine Pq.wpO_skip (by kernel_rfl) ?_
      simp only[Pq.zz]
      refine Pq.wpO_skip (by kernel_rfl) ?_
      simp only[Pq.zz]
      refine Pq.wpO_skip (by kernel_rfl) ?_
      simp only[Pq.zz]
      refine Pq.wpO_skip (by kernel_rfl) ?_
      simp only[Pq.zz]
      refine Pq.wpO_skip (by kernel_rfl) ?_
      simp only[Pq.zz]
      refine Pq.wpO_skip (by kernel_rfl) ?_
      simp only[Pq.zz]
      refine Pq.wpO_step (by rfl) ?_
      apply Exists.intro
      refine ⟨fun w' hw'=>?_,?_⟩
      · go_simp;first|done|with_reducible rfl|exact ⟨rfl,rfl⟩
      simp only[Pq.zz]
      refine Pq.wpO_nil ?_
      have hqpos:1≤qn:=by have:=hg.out.lt hv hcond.out;omega
      have hsub:IntKind.u64.wrap ((qn:Int)-1)=((qn-1:Nat):Int):=by rw[show (qn:Int)-1=((qn-1:Nat):Int) from by omega];exact IntWalk.u64_in _ (by omega)
      obtain ⟨q1,hq1⟩ : ∃ q1,q1=qn-1:=⟨_,rfl⟩
      obtain ⟨r1,hr1⟩ : ∃ r1,r1=rn+v1:=⟨_,rfl⟩
      rw[←hq1]at hsub
      have hadd:(rn:Int)+(v1:Int)=(r1:Int):=by omega
      have hwr:IntKind.u64.wrap (r1:Int)=(r1:Int):=IntWalk.u64_in _ (by omega)
      have hql:q1<qn:=by omega
      have HQ1:=Lib.hid hq1
      have HR1:=Lib.hid hr1
      clear hq1 hr1
      have C1':=Lib.hid (Pq.cell_in C1.out (Pq.grown_below hS))
      rcases Nat.lt_or_ge 4294967295 r1 with hbr|hbr
      · have hstop:=hg.out.stop h1 hv0 hv h2 hcond.out (by rw[←HR1.out];exact hbr)
        rw[←HQ1.out,←HRr.out]at hstop
        subst hstop
        have hd3:decide ((4294967295:Int)<(r1:Int))=true:=by simp;omega
        go_upto_region 5 with fail
        go_upto_region 5 with fail
        apply wp_region_lit
        iterate 3
          refine Pq.wpL_step (by rfl) ?_
          apply Exists.intro
          apply Exists.intro
          refine ⟨?_,?_⟩
          · go_simp;first|done|with_reducible rfl|exact ⟨rfl,rfl⟩
          simp only[Pq.zz]
        refine Pq.wpL_cell ⟨c,q+1,none⟩ _ C1'.out (by rfl) _ _ rfl rfl _ u_u32 rfl ?_
        simp only[Pq.zz]
        iterate 3
          refine Pq.wpL_step (by rfl) ?_
          apply Exists.intro
          apply Exists.intro
          refine ⟨?_,?_⟩
          · go_simp;first|done|with_reducible rfl|exact ⟨rfl,rfl⟩
          simp only[Pq.zz]
        refine Pq.wpL_nil ?_
        go_upto_region 6 with fail
        apply wp_region_lit
        iterate 2
          refine Pq.wpL_step (by rfl) ?_
          apply Exists.intro
          apply Exists.intro
          refine ⟨?_,?_⟩
          · go_simp;first|done|with_reducible rfl|exact ⟨rfl,rfl⟩
          simp only[Pq.zz]
        refine Pq.wpL_nil ?_
        go_wp2
        go_ret
        exact ⟨rfl,Pq.below_drew hbl.out⟩
      · have hnext:=hg.out.next hv hcond.out (by rw[←HR1.out];exact hbr)
        rw[←HQ1.out,←HR1.out]at hnext
        have HN:=Lib.hid hnext;clear hnext
        have hd3:decide ((4294967295:Int)<(r1:Int))=false:=by simp;omega
        go_upto_region 5 with fail
        go_upto_region 5 with fail
        apply wp_region_lit
        iterate 3
          refine Pq.wpL_step (by rfl) ?_
          apply Exists.intro
          apply Exists.intro
          refine ⟨?_,?_⟩
          · go_simp;first|done|with_reducible rfl|exact ⟨rfl,rfl⟩
          simp only[Pq.zz]
        refine Pq.wpL_cell ⟨c,q+1,none⟩ _ C1'.out (by rfl) _ _ rfl rfl _ u_u32 rfl ?_
        simp only[Pq.zz]
        iterate 3
          refine Pq.wpL_step (by rfl) ?_
          apply Exists.intro
          apply Exists.intro
          refine ⟨?_,?_⟩
          · go_simp;first|done|with_reducible rfl|exact ⟨rfl,rfl⟩
          simp only[Pq.zz]
        refine Pq.wpL_nil ?_
        go_upto_region 6 with fail
        apply wp_region_lit
        iterate 2
          refine Pq.wpL_step (by rfl) ?_
          apply Exists.intro
          apply Exists.intro
          refine ⟨?_,?_⟩
          · go_simp;first|done|with_reducible rfl|exact ⟨rfl,rfl⟩
          simp only[Pq.zz]
        refine Pq.wpL_nil ?_
        clear hadd hwr hsub
        go_wp2
        go_roundw
        case rel=>exact ⟨q1,r1,rfl,rfl,HN,Lib.hid (Pq.below_drew hbl.out)⟩
        case measure=>simp[intOf];omega
    · have hd1:decide ((4294967295:Int)<(qn:Int))=false:=by simp;omega
      obtain ⟨m,hm⟩ : ∃ m,m=qn*v0:=⟨_,rfl⟩
      obtain ⟨z,hz⟩ : ∃ z,z=rn*4294967296+u0:=⟨_,rfl⟩
      have hml:m≤18446744065119617025:=by rw[hm];exact Nat.le_trans (Nat.mul_le_mul hbig (show v0≤4294967295 by omega)) (by decide)
      have hmul:(qn:Int)*(v0:Int)=(m:Int):=by rw[hm];simp
      have hwm:IntKind.u64.wrap (m:Int)=(m:Int):=IntWalk.u64_in _ (by omega)
      have hwz:IntKind.u64.wrap ((rn:Int)*4294967296)=(rn:Int)*4294967296:=IntWalk.u64_in _ (by omega)
      have hor2:bits .or .u64 ((rn:Int)*4294967296) (u0:Int)=(z:Int):=by rw[hz];exact Pq.or_hl (by omega) h0
      rcases Nat.lt_or_ge z m with hzm|hzm
      · have hcond:Hid (4294967295<qn∨rn*4294967296+u0<qn*v0):=Lib.hid (.inr (by rw[←hm,←hz];exact hzm))
        have hd2:decide (z<m)=true:=by simpa using hzm
        clear hm hz
        go_upto_region 3 with fail
        refine Pq.wp_region_grown none [(0,true),(1,true),(2,true),(3,true),(4,true),(5,true),(6,true),(7,true),(8,true),(9,true),(10,true),(11,true),(12,true),(13,true),(14,true),(15,true),(16,true),(17,true)] (by kernel_rfl) (by kernel_rfl) (fun _ _ d _ _ h=>by cases d <;> exact h) (fun hS=>?_)
        simp only[Pq.pick,List.filterMap_cons,List.filterMap_nil,List.getElem?_cons_zero,List.getElem?_cons_succ,Option.map_some]
        iterate 6
          refine Pq.wpO_step (by rfl) ?_
          apply Exists.intro
          refine ⟨fun w' hw'=>?_,?_⟩
          · go_simp;first|done|with_reducible rfl|exact ⟨rfl,rfl⟩
          simp only[Pq.zz]
        refine Pq.wpO_cell ⟨c,q,none⟩ _ C0.out (by simp) (by rfl) _ _ rfl rfl _ u_u32 rfl ?_
        simp only[Pq.zz]
        iterate 6
          refine Pq.wpO_step (by rfl) ?_
          apply Exists.intro
          refine ⟨fun w' hw'=>?_,?_⟩
          · go_simp;first|done|with_reducible rfl|exact ⟨rfl,rfl⟩
          simp only[Pq.zz]
        refine Pq.wpO_cell ⟨b,o,none⟩ _ CU.out (by simp) (by rfl) _ _ rfl rfl _ u_u32 rfl ?_
        simp only[Pq.zz]
        iterate 4
          refine Pq.wpO_step (by rfl) ?_
          apply Exists.intro
          refine ⟨fun w' hw'=>?_,?_⟩
          · go_simp;first|done|with_reducible rfl|exact ⟨rfl,rfl⟩
          simp only[Pq.zz]
        refine Pq.wpO_nil ?_
        clear hmul hwm hwz hor2
        have hqpos:1≤qn:=by have:=hg.out.lt hv hcond.out;omega
        have hsub:IntKind.u64.wrap ((qn:Int)-1)=((qn-1:Nat):Int):=by rw[show (qn:Int)-1=((qn-1:Nat):Int) from by omega];exact IntWalk.u64_in _ (by omega)
        obtain ⟨q1,hq1⟩ : ∃ q1,q1=qn-1:=⟨_,rfl⟩
        obtain ⟨r1,hr1⟩ : ∃ r1,r1=rn+v1:=⟨_,rfl⟩
        rw[←hq1]at hsub
        have hadd:(rn:Int)+(v1:Int)=(r1:Int):=by omega
        have hwr:IntKind.u64.wrap (r1:Int)=(r1:Int):=IntWalk.u64_in _ (by omega)
        have hql:q1<qn:=by omega
        have HQ1:=Lib.hid hq1
        have HR1:=Lib.hid hr1
        clear hq1 hr1
        have C1':=Lib.hid (Pq.cell_in C1.out (Pq.grown_below hS))
        rcases Nat.lt_or_ge 4294967295 r1 with hbr|hbr
        · have hstop:=hg.out.stop h1 hv0 hv h2 hcond.out (by rw[←HR1.out];exact hbr)
          rw[←HQ1.out,←HRr.out]at hstop
          subst hstop
          have hd3:decide ((4294967295:Int)<(r1:Int))=true:=by simp;omega
          go_upto_region 5 with fail
          go_upto_region 5 with fail
          apply wp_region_lit
          iterate 3
            refine Pq.wpL_step (by rfl) ?_
            apply Exists.intro
            apply Exists.intro
            refine ⟨?_,?_⟩
            · go_simp;first|done|with_reducible rfl|exact ⟨rfl,rfl⟩
            simp only[Pq.zz]
          refine Pq.wpL_cell ⟨c,q+1,none⟩ _ C1'.out (by rfl) _ _ rfl rfl _ u_u32 rfl ?_
          simp only[Pq.zz]
          iterate 3
            refine Pq.wpL_step (by rfl) ?_
            apply Exists.intro
            apply Exists.intro
            refine ⟨?_,?_⟩
            · go_simp;first|done|with_reducible rfl|exact ⟨rfl,rfl⟩
            simp only[Pq.zz]
          refine Pq.wpL_nil ?_
          go_upto_region 6 with fail
          apply wp_region_lit
          iterate 2
            refine Pq.wpL_step (by rfl) ?_
            apply Exists.intro
            apply Exists.intro
            refine ⟨?_,?_⟩
            · go_simp;first|done|with_reducible rfl|exact ⟨rfl,rfl⟩
            simp only[Pq.zz]
          refine Pq.wpL_nil ?_
          go_wp2
          go_ret
          exact ⟨rfl,Pq.below_drew hbl.out⟩
        · have hnext:=hg.out.next hv hcond.out (by rw[←HR1.out];exact hbr)
          rw[←HQ1.out,←HR1.out]at hnext
          have HN:=Lib.hid hnext;clear hnext
          have hd3:decide ((4294967295:Int)<(r1:Int))=false:=by simp;omega
          go_upto_region 5 with fail
          go_upto_region 5 with fail
          apply wp_region_lit
          iterate 3
            refine Pq.wpL_step (by rfl) ?_
            apply Exists.intro
            apply Exists.intro
            refine ⟨?_,?_⟩
            · go_simp;first|done|with_reducible rfl|exact ⟨rfl,rfl⟩
            simp only[Pq.zz]
          refine Pq.wpL_cell ⟨c,q+1,none⟩ _ C1'.out (by rfl) _ _ rfl rfl _ u_u32 rfl ?_
          simp only[Pq.zz]
          iterate 3
            refine Pq.wpL_step (by rfl) ?_
            apply Exists.intro
            apply Exists.intro
            refine ⟨?_,?_⟩
            · go_simp;first|done|with_reducible rfl|exact ⟨rfl,rfl⟩
            simp only[Pq.zz]
          refine Pq.wpL_nil ?_
          go_upto_region 6 with fail
          apply wp_region_lit
          iterate 2
            refine Pq.wpL_step (by rfl) ?_
            apply Exists.intro
            apply Exists.intro
            refine ⟨?_,?_⟩
            · go_simp;first|done|with_reducible rfl|exact ⟨rfl,rfl⟩
            simp only[Pq.zz]
          refine Pq.wpL_nil ?_
          clear hadd hwr hsub
          go_wp2
          go_roundw
          case rel=>exact ⟨q1,r1,rfl,rfl,HN,Lib.hid (Pq.below_drew hbl.out)⟩
          case measure=>simp[intOf];omega
      · have hdone:=hg.out.done hv hbig (by rw[←hm,←hz];exact hzm)
        rw[←HRr.out]at hdone
        subst hdone
        have hd2:decide (z<m)=false:=by simpa using hzm
        clear hm hz
        go_upto_region 3 with fail
        refine Pq.wp_region_grown none [(0,true),(1,true),(2,true),(3,true),(4,true),(5,true),(6,true),(7,true),(8,true),(9,true),(10,true),(11,true),(12,true),(13,true),(14,true),(15,true),(16,true),(17,true)] (by kernel_rfl) (by kernel_rfl) (fun _ _ d _ _ h=>by cases d <;> exact h) (fun hS=>?_)
        simp only[Pq.pick,List.filterMap_cons,List.filterMap_nil,List.getElem?_cons_zero,List.getElem?_cons_succ,Option.map_some]
        iterate 6
          refine Pq.wpO_step (by rfl) ?_
          apply Exists.intro
          refine ⟨fun w' hw'=>?_,?_⟩
          · go_simp;first|done|with_reducible rfl|exact ⟨rfl,rfl⟩
          simp only[Pq.zz]
        refine Pq.wpO_cell ⟨c,q,none⟩ _ C0.out (by simp) (by rfl) _ _ rfl rfl _ u_u32 rfl ?_
        simp only[Pq.zz]
        iterate 6
          refine Pq.wpO_step (by rfl) ?_
          apply Exists.intro
          refine ⟨fun w' hw'=>?_,?_⟩
          · go_simp;first|done|with_reducible rfl|exact ⟨rfl,rfl⟩
          simp only[Pq.zz]
        refine Pq.wpO_cell ⟨b,o,none⟩ _ CU.out (by simp) (by rfl) _ _ rfl rfl _ u_u32 rfl ?_
        simp only[Pq.zz]
        iterate 4
          refine Pq.wpO_step (by rfl) ?_
          apply Exists.intro
          refine ⟨fun w' hw'=>?_,?_⟩
          · go_simp;first|done|with_reducible rfl|exact ⟨rfl,rfl⟩
          simp only[Pq.zz]
        refine Pq.wpO_nil ?_
        clear hmul hwm hwz hor2
        go_wp2
        go_ret
        exact ⟨rfl,Pq.below_drew hbl.out⟩
theorem cf_takes (xs:Array Value) (w:World):(callFunc 168 xs).run Tryz.prog w=.ok (.enter 168 xs) w:=by kernel_rfl
theorem cf_gives (xs:Array Value) (w:World):(callFunc 169 xs).run Tryz.prog w=.ok (.enter 169 xs) w:=by kernel_rfl
set_option maxRecDepth 100000 in
set_option maxHeartbeats 1000000 in
theorem takes_any (g o b q m cu cv X V qd:Nat) (p s:List Value) (w:World) (hm:m≤40) (hX:X<Pq.bp (m+1)) (hV:V<Pq.bp m) (hq:qd<4294967296) (hp:p.length=o) (hbg:b≠g)
    (hrow:w.heap[g]?=some (.cells (p++(Pq.am (m+1) X++s)).toArray 36 (0,0))) (hv:w.rangeAt b q (Pq.am m V)) :
    Calls Tryz.prog 168 #[.slice (some ⟨g,o,none⟩) (m+1) cu,.slice (some ⟨b,q,none⟩) m cv,.int .u64 qd] w
      (fun e w' => ∃ Z bf,Z<Pq.bp (m+1)∧bf≤1∧Z+qd*V=X+Pq.bp (m+1)*bf∧Pq.MidB w g 36 p s (m+1) Z (.bool (((bf:Nat):Int)==0)) e w'):=by
  have HX:=Lib.hid hX;clear hX
  have HV:=Lib.hid hV;clear hV
  have HBv:=Lib.hid hv;clear hv
  have HROW:=Lib.hid hrow;clear hrow
  have HP:=Lib.hid hp;clear hp
  have hqI:(qd:Int)<4294967296:=by omega
  have hmI:(m:Int)≤40:=by omega
  obtain ⟨m1,hm1⟩ : ∃ m1,m1=m+1:=⟨_,rfl⟩
  rw[←hm1]
  have hmm:(m:Int)<m1:=by omega
  have HM1:=Lib.hid hm1
  rw[←hm1]at HX HROW
  clear hm1
  go_enter Tryz.func168,Tryz.ntmps168
  go_wp2
  go_loopw [7,8,14] (fun cc bb i wr => ∃ (k c bo Y:Nat),i=.int .i64 k∧k≤m∧cc=.int .u64 (c:Int)∧bb=.int .u32 (bo:Int)∧Hid (Pq.TI X V qd k c bo Y)∧Hid (wr.heap[g]?=some (.cells (p++(Pq.am m1 Y++s)).toArray 36 (0,0)))∧Hid (w.grownBy wr (some g))) (fun _ _ i _=>m-(intOf i).toNat)
  case atStart=>exact ⟨0,0,0,X,rfl,by omega,rfl,rfl,Lib.hid (Pq.TI.start X V qd),HROW,Lib.hid ⟨rfl,rfl,rfl,Nat.le_refl _,fun _ _ _=>rfl⟩⟩
  case round =>
    obtain ⟨k,c,bo,Y,rfl,hk,rfl,rfl,hti,hrow,hgr⟩:=hrel
    have hcl:(c:Int)<4294967296:=by have:=hti.out.cl;omega
    have hbl:bo≤1:=hti.out.bl
    by_cases hlt:k<m
    · have hk2:(k:Int)<m:=by omega
      have hk3:(k:Int)<m1:=by omega
      have cv1:=Pq.range_by HBv.out hgr.out (by simp;omega) k _ (Pq.am_get (x:=V) hlt)
      have hvl:=Pq.wd_lt V k
      have hxl:=Pq.wd_lt X k
      have cu1:wr.cell? ⟨g,o+k,none⟩=some (.int .u32 (Pq.wd X k:Nat)):=by
        rw[cell_of_row wr g _ _ _ _ hrow.out,List.getElem?_toArray,←HP.out,Pq.get_mid p m1 Y s (by have:=HM1.out;omega),hti.out.word]
      obtain ⟨t,ht⟩ : ∃ t,t=qd*Pq.wd V k+c:=⟨_,rfl⟩
      obtain ⟨tl,htl⟩ : ∃ tl,tl=t%4294967296:=⟨_,rfl⟩
      obtain ⟨th,hth⟩ : ∃ th,th=t/4294967296:=⟨_,rfl⟩
      have htb:t<18446744073709551616:=by rw[ht];exact (Pq.tmul_lt hq hvl hti.out.cl).1
      have hnext:=hti.out.next hq
      rw[←ht,←htl,←hth]at hnext
      obtain ⟨vw,hvw⟩ : ∃ vw,vw=Pq.wd V k:=⟨_,rfl⟩
      obtain ⟨xw,hxw⟩ : ∃ xw,xw=Pq.wd X k:=⟨_,rfl⟩
      rw[←hvw]at cv1 hvl ht
      rw[←hxw]at cu1 hxl hnext
      have HNX:=Lib.hid hnext;clear hnext
      have e1:(qd:Int)*(vw:Int)+(c:Int)=(t:Int):=by rw[ht];simp
      have wm:IntKind.u64.wrap ((qd:Int)*(vw:Int))=(qd:Int)*(vw:Int):=by
        have h1:(qd:Int)*(vw:Int)≤(t:Int):=by omega
        have h2:(0:Int)≤(qd:Int)*(vw:Int):=Int.mul_nonneg (by omega) (by omega)
        exact IntWalk.u64_in _ (by omega)
      have wt:IntKind.u64.wrap (t:Int)=(t:Int):=IntWalk.u64_in _ (by omega)
      have hand:bits .and .u64 (t:Int) 4294967295=(tl:Int):=by rw[Pq.and_lo htb,htl]
      have hsh:(t:Int)/4294967296=(th:Int):=by rw[hth];simp
      have htl2:tl<4294967296:=by rw[htl];exact Nat.mod_lt _ (by decide)
      have wtl:IntKind.u32.wrap (tl:Int)=(tl:Int):=IntWalk.u32_in _ (by omega)
      have wv:IntKind.u64.wrap (vw:Int)=(vw:Int):=IntWalk.u64_in _ (by omega)
      have CV:=Lib.hid cv1;clear cv1
      have CU:=Lib.hid cu1;clear cu1
      clear ht htl hth hvw hxw hti
      go_upto_region 4 with fail
      go_upto_region 4 with fail
      apply wp_region_lit
      iterate 2
        refine Pq.wpL_step (by rfl) ?_
        apply Exists.intro
        apply Exists.intro
        refine ⟨?_,?_⟩
        · go_simp;first|done|with_reducible rfl|exact ⟨rfl,rfl⟩
        simp only[Pq.zz]
      refine Pq.wpL_cell ⟨b,q+k,none⟩ _ CV.out (by rfl) _ _ rfl rfl _ u_u32 rfl ?_
      simp only[Pq.zz]
      iterate 2
        refine Pq.wpL_step (by rfl) ?_
        apply Exists.intro
        apply Exists.intro
        refine ⟨?_,?_⟩
        · go_simp;first|done|with_reducible rfl|exact ⟨rfl,rfl⟩
        simp only[Pq.zz]
      refine Pq.wpL_nil ?_
      go_upto_region 5 with fail
      go_upto_region 5 with fail
      apply wp_region_lit
      iterate 7
        refine Pq.wpL_step (by rfl) ?_
        apply Exists.intro
        apply Exists.intro
        refine ⟨?_,?_⟩
        · go_simp;first|done|with_reducible rfl|exact ⟨rfl,rfl⟩
        simp only[Pq.zz]
      refine Pq.wpL_nil ?_
      go_upto_region 6 with fail
      go_upto_region 6 with fail
      apply wp_region_lit
      iterate 3
        refine Pq.wpL_step (by rfl) ?_
        apply Exists.intro
        apply Exists.intro
        refine ⟨?_,?_⟩
        · go_simp;first|done|with_reducible rfl|exact ⟨rfl,rfl⟩
        simp only[Pq.zz]
      refine Pq.wpL_nil ?_
      go_upto_region 7 with fail
      go_upto_region 7 with fail
      apply wp_region_lit
      iterate 5
        refine Pq.wpL_step (by rfl) ?_
        apply Exists.intro
        apply Exists.intro
        refine ⟨?_,?_⟩
        · go_simp;first|done|with_reducible rfl|exact ⟨rfl,rfl⟩
        simp only[Pq.zz]
      refine Pq.wpL_cell ⟨g,o+k,none⟩ _ CU.out (by rfl) _ _ rfl rfl _ u_u32 rfl ?_
      simp only[Pq.zz]
      iterate 4
        refine Pq.wpL_step (by rfl) ?_
        apply Exists.intro
        apply Exists.intro
        refine ⟨?_,?_⟩
        · go_simp;first|done|with_reducible rfl|exact ⟨rfl,rfl⟩
        simp only[Pq.zz]
      refine Pq.wpL_call (by rfl) cf_sub32 (sub32_any xw tl bo _ hxl htl2 hbl) rfl rfl ?_;rintro e w1 ⟨rfl,rfl⟩;refine ⟨_,rfl,?_⟩
      simp only[Pq.zz]
      iterate 4
        refine Pq.wpL_step (by rfl) ?_
        apply Exists.intro
        apply Exists.intro
        refine ⟨?_,?_⟩
        · go_simp;first|done|with_reducible rfl|exact ⟨rfl,rfl⟩
        simp only[Pq.zz]
      refine Pq.wpL_put (k:=o+k) (.int .u32 (Pq.dif xw tl bo:Nat)) hrow.out (by rw[←HP.out];exact Pq.len_mid p m1 Y s (by omega)) (by rfl) 36 _ _ rfl rfl rfl rfl rfl (by kernel_rfl) ?_
      try simp only[Pq.zz]
      refine Pq.wpL_step (by rfl) ?_
      apply Exists.intro
      apply Exists.intro
      refine ⟨?_,?_⟩
      · go_simp;first|done|with_reducible rfl|exact ⟨rfl,rfl⟩
      simp only[Pq.zz]
      refine Pq.wpL_nil ?_
      clear e1 wm wt hand hsh wtl wv
      go_wp2
      go_roundw
      case rel=>exact ⟨k+1,th,Pq.bor xw tl bo,Pq.st Y k (Pq.dif xw tl bo),by go_num,by omega,rfl,rfl,HNX,by
        have e:=Pq.setRow_at (cs:=((p++(Pq.am m1 Y++s)).set (o+k) (.int .u32 ((Pq.dif xw tl bo:Nat):Int))).toArray) hrow.out
        rw[←HP.out,Pq.set_mid p m1 Y s (Pq.dif_lt _ _ _) (by omega)]at e
        rw[←HP.out,Pq.set_mid p m1 Y s (Pq.dif_lt _ _ _) (by omega)];exact e,Lib.hid (Pq.grown_setRow hgr.out)⟩
      case measure=>simp[intOf];omega
    · obtain rfl:k=m:=by omega
      have hlast:=hti.out.last (by rw[←HM1.out];exact HX.out) HV.out
      have hxl:=Pq.wd_lt X k
      have cu1:wr.cell? ⟨g,o+k,none⟩=some (.int .u32 (Pq.wd X k:Nat)):=by
        rw[cell_of_row wr g _ _ _ _ hrow.out,List.getElem?_toArray,←HP.out,Pq.get_mid p m1 Y s (by have:=HM1.out;omega),hti.out.word]
      obtain ⟨xw,hxw⟩ : ∃ xw,xw=Pq.wd X k:=⟨_,rfl⟩
      rw[←hxw]at cu1 hxl hlast
      have HL:=Lib.hid hlast;clear hlast
      have CU:=Lib.hid cu1;clear cu1
      have wc1:IntKind.u32.wrap (c:Int)=(c:Int):=IntWalk.u32_in _ (by omega)
      clear hxw hti
      go_upto_region 9 with fail
      go_upto_region 9 with fail
      apply wp_region_lit
      iterate 7
        refine Pq.wpL_step (by rfl) ?_
        apply Exists.intro
        apply Exists.intro
        refine ⟨?_,?_⟩
        · go_simp;first|done|with_reducible rfl|exact ⟨rfl,rfl⟩
        simp only[Pq.zz]
      refine Pq.wpL_cell ⟨g,o+k,none⟩ _ CU.out (by rfl) _ _ rfl rfl _ u_u32 rfl ?_
      simp only[Pq.zz]
      iterate 3
        refine Pq.wpL_step (by rfl) ?_
        apply Exists.intro
        apply Exists.intro
        refine ⟨?_,?_⟩
        · go_simp;first|done|with_reducible rfl|exact ⟨rfl,rfl⟩
        simp only[Pq.zz]
      refine Pq.wpL_call (by rfl) cf_sub32 (sub32_any xw c bo _ hxl (by omega) hbl) rfl rfl ?_;rintro e w1 ⟨rfl,rfl⟩;refine ⟨_,rfl,?_⟩
      simp only[Pq.zz]
      iterate 4
        refine Pq.wpL_step (by rfl) ?_
        apply Exists.intro
        apply Exists.intro
        refine ⟨?_,?_⟩
        · go_simp;first|done|with_reducible rfl|exact ⟨rfl,rfl⟩
        simp only[Pq.zz]
      refine Pq.wpL_put (k:=o+k) (.int .u32 (Pq.dif xw c bo:Nat)) hrow.out (by rw[←HP.out];exact Pq.len_mid p m1 Y s (by have:=HM1.out;omega)) (by rfl) 36 _ _ rfl rfl rfl rfl rfl (by kernel_rfl) ?_
      try simp only[Pq.zz]
      refine Pq.wpL_step (by rfl) ?_
      apply Exists.intro
      apply Exists.intro
      refine ⟨?_,?_⟩
      · go_simp;first|done|with_reducible rfl|exact ⟨rfl,rfl⟩
      simp only[Pq.zz]
      refine Pq.wpL_nil ?_
      clear wc1
      go_wp2
      go_ret
      refine ⟨Pq.st Y k (Pq.dif xw c bo),Pq.bor xw c bo,by rw[HM1.out];exact HL.out.1,Pq.bor_le _ _ _,by rw[HM1.out];exact HL.out.2,rfl,?_,Pq.grown_setRow hgr.out⟩
      have e:=Pq.setRow_at (cs:=((p++(Pq.am m1 Y++s)).set (o+k) (.int .u32 ((Pq.dif xw c bo:Nat):Int))).toArray) hrow.out
      rw[←HP.out,Pq.set_mid p m1 Y s (Pq.dif_lt _ _ _) (by have:=HM1.out;omega)]at e
      rw[←HP.out,Pq.set_mid p m1 Y s (Pq.dif_lt _ _ _) (by have:=HM1.out;omega)];exact e
set_option maxRecDepth 100000 in
set_option maxHeartbeats 1000000 in
theorem gives_any (g o b q m cu cv X V:Nat) (p s:List Value) (w:World) (hm:m≤40) (hX:X<Pq.bp (m+1)) (hV:V<Pq.bp m) (hp:p.length=o) (hbg:b≠g)
    (hrow:w.heap[g]?=some (.cells (p++(Pq.am (m+1) X++s)).toArray 36 (0,0))) (hv:w.rangeAt b q (Pq.am m V)) :
    Calls Tryz.prog 169 #[.slice (some ⟨g,o,none⟩) (m+1) cu,.slice (some ⟨b,q,none⟩) m cv] w
      (Pq.MidB w g 36 p s (m+1) ((X+V)%Pq.bp (m+1)) (.tuple #[])):=by
  have HX:=Lib.hid hX;clear hX
  have HV:=Lib.hid hV;clear hV
  have HBv:=Lib.hid hv;clear hv
  have HROW:=Lib.hid hrow;clear hrow
  have HP:=Lib.hid hp;clear hp
  have hmI:(m:Int)≤40:=by omega
  obtain ⟨m1,hm1⟩ : ∃ m1,m1=m+1:=⟨_,rfl⟩
  rw[←hm1]
  have hmm:(m:Int)<m1:=by omega
  have HM1:=Lib.hid hm1
  rw[←hm1]at HX HROW
  clear hm1
  go_enter Tryz.func169,Tryz.ntmps169
  go_wp2
  go_loopw [4,9] (fun cc i wr => ∃ (k c Y:Nat),i=.int .i64 k∧k≤m∧cc=.int .u32 (c:Int)∧Hid (Pq.AI X V k c Y)∧Hid (wr.heap[g]?=some (.cells (p++(Pq.am m1 Y++s)).toArray 36 (0,0)))∧Hid (w.grownBy wr (some g))) (fun _ i _=>m-(intOf i).toNat)
  case atStart=>exact ⟨0,0,X,rfl,by omega,rfl,Lib.hid (Pq.AI.start X V),HROW,Lib.hid ⟨rfl,rfl,rfl,Nat.le_refl _,fun _ _ _=>rfl⟩⟩
  case round =>
    obtain ⟨k,c,Y,rfl,hk,rfl,hti,hrow,hgr⟩:=hrel
    have hcl:c≤1:=hti.out.cl
    by_cases hlt:k<m
    · have hk2:(k:Int)<m:=by omega
      have hk3:(k:Int)<m1:=by omega
      have cv1:=Pq.range_by HBv.out hgr.out (by simp;omega) k _ (Pq.am_get (x:=V) hlt)
      have hvl:=Pq.wd_lt V k
      have hxl:=Pq.wd_lt X k
      have cu1:wr.cell? ⟨g,o+k,none⟩=some (.int .u32 (Pq.wd X k:Nat)):=by
        rw[cell_of_row wr g _ _ _ _ hrow.out,List.getElem?_toArray,←HP.out,Pq.get_mid p m1 Y s (by have:=HM1.out;omega),hti.out.word]
      have hnext:=hti.out.next
      obtain ⟨vw,hvw⟩ : ∃ vw,vw=Pq.wd V k:=⟨_,rfl⟩
      obtain ⟨xw,hxw⟩ : ∃ xw,xw=Pq.wd X k:=⟨_,rfl⟩
      rw[←hvw]at cv1 hvl hnext
      rw[←hxw]at cu1 hxl hnext
      have HNX:=Lib.hid hnext;clear hnext
      have CV:=Lib.hid cv1;clear cv1
      have CU:=Lib.hid cu1;clear cu1
      clear hvw hxw hti
      go_upto_region 3 with fail
      go_upto_region 3 with fail
      apply wp_region_lit
      iterate 2
        refine Pq.wpL_step (by rfl) ?_
        apply Exists.intro
        apply Exists.intro
        refine ⟨?_,?_⟩
        · go_simp;first|done|with_reducible rfl|exact ⟨rfl,rfl⟩
        simp only[Pq.zz]
      refine Pq.wpL_cell ⟨b,q+k,none⟩ _ CV.out (by rfl) _ _ rfl rfl _ u_u32 rfl ?_
      simp only[Pq.zz]
      iterate 2
        refine Pq.wpL_step (by rfl) ?_
        apply Exists.intro
        apply Exists.intro
        refine ⟨?_,?_⟩
        · go_simp;first|done|with_reducible rfl|exact ⟨rfl,rfl⟩
        simp only[Pq.zz]
      refine Pq.wpL_nil ?_
      go_upto_region 4 with fail
      go_upto_region 4 with fail
      apply wp_region_lit
      iterate 5
        refine Pq.wpL_step (by rfl) ?_
        apply Exists.intro
        apply Exists.intro
        refine ⟨?_,?_⟩
        · go_simp;first|done|with_reducible rfl|exact ⟨rfl,rfl⟩
        simp only[Pq.zz]
      refine Pq.wpL_cell ⟨g,o+k,none⟩ _ CU.out (by rfl) _ _ rfl rfl _ u_u32 rfl ?_
      simp only[Pq.zz]
      iterate 2
        refine Pq.wpL_step (by rfl) ?_
        apply Exists.intro
        apply Exists.intro
        refine ⟨?_,?_⟩
        · go_simp;first|done|with_reducible rfl|exact ⟨rfl,rfl⟩
        simp only[Pq.zz]
      refine Pq.wpL_call (by rfl) cf_add32 (add32_any xw vw c _ hxl hvl hcl) rfl rfl ?_;rintro e w1 ⟨rfl,rfl⟩;refine ⟨_,rfl,?_⟩
      simp only[Pq.zz]
      iterate 4
        refine Pq.wpL_step (by rfl) ?_
        apply Exists.intro
        apply Exists.intro
        refine ⟨?_,?_⟩
        · go_simp;first|done|with_reducible rfl|exact ⟨rfl,rfl⟩
        simp only[Pq.zz]
      refine Pq.wpL_put (k:=o+k) (.int .u32 (Pq.sww xw vw c:Nat)) hrow.out (by rw[←HP.out];exact Pq.len_mid p m1 Y s (by omega)) (by rfl) 36 _ _ rfl rfl rfl rfl rfl (by kernel_rfl) ?_
      try simp only[Pq.zz]
      refine Pq.wpL_step (by rfl) ?_
      apply Exists.intro
      apply Exists.intro
      refine ⟨?_,?_⟩
      · go_simp;first|done|with_reducible rfl|exact ⟨rfl,rfl⟩
      simp only[Pq.zz]
      refine Pq.wpL_nil ?_
      go_wp2
      go_roundw
      case rel=>exact ⟨k+1,Pq.swc xw vw c,Pq.st Y k (Pq.sww xw vw c),by go_num,by omega,rfl,HNX,by
        have e:=Pq.setRow_at (cs:=((p++(Pq.am m1 Y++s)).set (o+k) (.int .u32 ((Pq.sww xw vw c:Nat):Int))).toArray) hrow.out
        rw[←HP.out,Pq.set_mid p m1 Y s (Pq.sww_lt _ _ _) (by omega)]at e
        rw[←HP.out,Pq.set_mid p m1 Y s (Pq.sww_lt _ _ _) (by omega)];exact e,Lib.hid (Pq.grown_setRow hgr.out)⟩
      case measure=>simp[intOf];omega
    · obtain rfl:k=m:=by omega
      have hlast:=hti.out.last (by rw[←HM1.out];exact HX.out) HV.out
      have hxl:=Pq.wd_lt X k
      have cu1:wr.cell? ⟨g,o+k,none⟩=some (.int .u32 (Pq.wd X k:Nat)):=by
        rw[cell_of_row wr g _ _ _ _ hrow.out,List.getElem?_toArray,←HP.out,Pq.get_mid p m1 Y s (by have:=HM1.out;omega),hti.out.word]
      obtain ⟨xw,hxw⟩ : ∃ xw,xw=Pq.wd X k:=⟨_,rfl⟩
      rw[←hxw]at cu1 hxl hlast
      obtain ⟨d,hd⟩ : ∃ d,d=(xw+c)%4294967296:=⟨_,rfl⟩
      have hdl:d<4294967296:=by rw[hd];exact Nat.mod_lt _ (by decide)
      have wd1:IntKind.u32.wrap ((xw:Int)+(c:Int))=(d:Int):=by rw[IntKind.wrap_u32,hd];simp
      rw[←hd]at hlast
      have HL:=Lib.hid hlast;clear hlast
      have CU:=Lib.hid cu1;clear cu1
      clear hxw hti hd
      go_upto_region 6 with fail
      go_upto_region 6 with fail
      apply wp_region_lit
      iterate 4
        refine Pq.wpL_step (by rfl) ?_
        apply Exists.intro
        apply Exists.intro
        refine ⟨?_,?_⟩
        · go_simp;first|done|with_reducible rfl|exact ⟨rfl,rfl⟩
        simp only[Pq.zz]
      refine Pq.wpL_cell ⟨g,o+k,none⟩ _ CU.out (by rfl) _ _ rfl rfl _ u_u32 rfl ?_
      simp only[Pq.zz]
      iterate 3
        refine Pq.wpL_step (by rfl) ?_
        apply Exists.intro
        apply Exists.intro
        refine ⟨?_,?_⟩
        · go_simp;first|done|with_reducible rfl|exact ⟨rfl,rfl⟩
        simp only[Pq.zz]
      refine Pq.wpL_put (k:=o+k) (.int .u32 (d:Int)) hrow.out (by rw[←HP.out];exact Pq.len_mid p m1 Y s (by have:=HM1.out;omega)) (by rfl) 36 _ _ rfl rfl rfl rfl rfl (by kernel_rfl) ?_
      try simp only[Pq.zz]
      refine Pq.wpL_nil ?_
      clear wd1
      go_wp2
      go_end0
      refine ⟨rfl,?_,Pq.grown_setRow hgr.out⟩
      have e:=Pq.setRow_at (cs:=((p++(Pq.am m1 Y++s)).set (o+k) (.int .u32 (d:Int))).toArray) hrow.out
      rw[←HP.out,Pq.set_mid p m1 Y s hdl (by have:=HM1.out;omega),HL.out,←HM1.out]at e
      rw[←HP.out,Pq.set_mid p m1 Y s hdl (by have:=HM1.out;omega),HL.out,←HM1.out];exact e
end Go.Proofs.YtbkfakkkikmcbaaGreatDoor
namespace Pq
open Go Go.RowKit
section
variable {P:Program} {ops:Array Oper} {Q:Exit→Act→World→Prop} {S:World→Prop}
theorem wpO_slice {o:Oper} {r:List (Oper×Bool)} {a:Act} {w:World} (v:Value) (hw:Region.wanted o (yielded ops a.tmps)=true) (ty:TypeId) (x:Operand) (l h:Option Operand) (ho:o.op=.slice ty x l h none) (vx:Value) (hx:a.eval x=vx) (lv hv:Option Value) (hl:l.map a.eval=lv) (hh:h.map a.eval=hv)
    (hs : ∀ w,(Instr.sliceAt ty vx lv hv none).run P w=.ok v w) (k:wpO P ops S Q r (a.put o.dst v) w):wpO P ops S Q ((o,true)::r) a w:=
  wpO_take v hw (fun w' _=>by
    unfold execOp
    simp only[ho,hx,hl,hh,Option.map_none,Sem.run_bind,hs,Result.andThen_ok,Sem.run_pure]) k
theorem wpL_slice {rest:List Oper} {o:Oper} {a:Act} {w:World} (v:Value) (hw:Region.wanted o (yielded ops a.tmps)=true) (ty:TypeId) (x:Operand) (l h:Option Operand) (ho:o.op=.slice ty x l h none) (vx:Value) (hx:a.eval x=vx) (lv hv:Option Value) (hl:l.map a.eval=lv) (hh:h.map a.eval=hv)
    (hs : ∀ w,(Instr.sliceAt ty vx lv hv none).run P w=.ok v w) (k:wpList P ops Q rest (a.put o.dst v) w):wpList P ops Q (o::rest) a w:=
  wpL_val v w hw (by
    unfold execOp
    simp only[ho,hx,hl,hh,Option.map_none,Sem.run_bind,hs,Result.andThen_ok,Sem.run_pure]) k
end
theorem am_prefix {w:World} {b o n x:Nat} (hn:n≤32) (h:w.rangeAt b o (am 32 x)):w.rangeAt b o (am n x):=by
  have:=am_split n (32-n) x
  rw[show n+(32-n)=32 from by omega]at this
  rw[this]at h
  exact (range_app h).1
theorem am_prefix' {w:World} {b o n x:Nat} (h:w.rangeAt b o (am (n+1) x)):w.rangeAt b o (am n x):=by
  rw[am_split n 1 x]at h
  exact (range_app h).1
theorem row_cell {w:World} {g n x i:Nat} {t:TypeId} (h:w.heap[g]?=some (.cells (am n x).toArray t (0,0))) (hi:i<n):w.cell? ⟨g,i,none⟩=some (.int .u32 (wd x i:Nat)):=by
  have:=range_block h i _ (am_get (x:=x) hi)
  rwa [Nat.zero_add]at this
theorem keep_row {w:World} {g g2:Nat} {cs:Array Value} {o:Obj} (h:w.heap[g]?=some o) (hne:g≠g2):(w.setRow g2 cs).heap[g]?=some o:=(setRow_other w g2 g cs hne).trans h
theorem wd_div (U i k:Nat):wd (U/bp i) k=wd U (i+k):=by
  unfold wd;rw[Nat.div_div_eq_div_mul,←bp_add]
def Two (w:World) (x y:Nat) (e:Ending) (w':World):Prop:=
  ∃ g h,e=.returned (.tuple #[.pointer (some ⟨g,0,none⟩),.pointer (some ⟨h,0,none⟩)])∧w'.rangeAt g 0 (am 32 x)∧w'.rangeAt h 0 (am 32 y)∧Below w.heap.size w w'∧w.heap.size≤g∧w.heap.size≤h
end Pq
namespace Go.Proofs.YtbkfakkkikmcbaaGreatDoor
open Go.RowKit
theorem cf_divide (xs:Array Value) (w:World):(callFunc 132 xs).run Tryz.prog w=.ok (.enter 132 xs) w:=by kernel_rfl
theorem cf_lz32 (xs:Array Value) (w:World):(callFunc 165 xs).run Tryz.prog w=.ok (.enter 165 xs) w:=by kernel_rfl
theorem sl_arr (b o n:Nat) (hn:n≤32) (w:World):(Instr.sliceAt 202 (.pointer (some ⟨b,o,none⟩)) none (some (.int .i64 (n:Int))) none).run Tryz.prog w=.ok (.slice (some ⟨b,o,none⟩) n 32) w:=by
  have ht:Tryz.prog.underlying 202=some (.array 32 (Tryz.prog.elem 202)):=by kernel_rfl
  have hal:Tryz.prog.arrayLen 202=32:=by kernel_rfl
  have hel:Tryz.prog.elem 202=36:=by kernel_rfl
  rw[run_sliceAt_array_h w 202 ⟨b,o,none⟩ (by rw[hal,ht]) .i64 (n:Int) (by omega) (by rw[hal];omega),hal,hel]
  simp[sliced,slicedAt,Addr.add,Tryz.sizeOf36,Go.sizeOf]
theorem sl_to (b o l c n:Nat) (hn:n≤c) (w:World):(Instr.sliceAt 96 (.slice (some ⟨b,o,none⟩) l c) none (some (.int .i64 (n:Int))) none).run Tryz.prog w=.ok (.slice (some ⟨b,o,none⟩) n c) w:=by
  have ht:Tryz.prog.underlying 96=some (.slice (Tryz.prog.elem 96)):=by kernel_rfl
  have hel:Tryz.prog.elem 96=36:=by kernel_rfl
  rw[run_sliceAt_slice (h:=ht),run_slice_h (ht:=ht) (kh:=.i64) (h:=(n:Int)) (h0:=by omega) (h2:=by omega),hel]
  simp[sliced,slicedAt,Addr.add,Tryz.sizeOf36,Go.sizeOf]
theorem sl_from (b l c n:Nat) (hn:n≤l) (hc:n<c) (w:World):(Instr.sliceAt 96 (.slice (some ⟨b,0,none⟩) l c) (some (.int .i64 (n:Int))) none none).run Tryz.prog w=.ok (.slice (some ⟨b,n,none⟩) (l-n) (c-n)) w:=by
  have ht:Tryz.prog.underlying 96=some (.slice (Tryz.prog.elem 96)):=by kernel_rfl
  have hel:Tryz.prog.elem 96=36:=by kernel_rfl
  rw[run_sliceAt_slice (h:=ht),run_slice_l (ht:=ht) (kl:=.i64) (l:=(n:Int)) (h0:=by omega) (h1:=by omega),hel]
  have hz:Tryz.t36.size=1:=by kernel_rfl
  simp[sliced,slicedAt,Addr.add,Tryz.sizeOf36,Go.sizeOf,show ¬ (c=n) from by omega,hz]
  intro h0;exact h0.symm
theorem sl_mid (b l c n h:Nat) (hn:n≤h) (hc:h≤c) (h2:n<c) (w:World):(Instr.sliceAt 96 (.slice (some ⟨b,0,none⟩) l c) (some (.int .i64 (n:Int))) (some (.int .i64 (h:Int))) none).run Tryz.prog w=.ok (.slice (some ⟨b,n,none⟩) (h-n) (c-n)) w:=by
  have ht:Tryz.prog.underlying 96=some (.slice (Tryz.prog.elem 96)):=by kernel_rfl
  have hel:Tryz.prog.elem 96=36:=by kernel_rfl
  rw[run_sliceAt_slice (h:=ht),run_slice_lh (ht:=ht) (kl:=.i64) (kh:=.i64) (l:=(n:Int)) (h:=(h:Int)) (h0:=by omega) (h1:=by omega) (h2:=by omega),hel]
  have hz:Tryz.t36.size=1:=by kernel_rfl
  simp[sliced,slicedAt,Addr.add,Tryz.sizeOf36,Go.sizeOf,show ¬ (c=n) from by omega,hz]
  intro h0;exact h0.symm
end Go.Proofs.YtbkfakkkikmcbaaGreatDoor
namespace Go.Proofs.YtbkfakkkikmcbaaGreatDoor
open Go.RowKit
set_option maxRecDepth 100000 in
set_option maxHeartbeats 1000000 in
theorem divide_any (b o c q x y n m:Nat) (w:World) (hn:n=Pq.szn 32 x) (hm:m=Pq.szn 32 y) (hm2:2≤m) (hx:x<Pq.bp 32) (hy:y<Pq.bp 32) (hxy:y≤x) (hb:w.rangeAt b o (Pq.am 32 x)) (hc:w.rangeAt c q (Pq.am 32 y)) :
    Calls Tryz.prog 132 #[.pointer (some ⟨b,o,none⟩),.pointer (some ⟨c,q,none⟩)] w (Pq.Two w (x/y) (x%y)):=by
  have hn32:n≤32:=by rw[hn];exact Pq.szn_le 32 x
  have hm32:m≤32:=by rw[hm];exact Pq.szn_le 32 y
  have hxn:x<Pq.bp n:=by rw[hn];exact Pq.szn_lt' hx
  have hym:y<Pq.bp m:=by rw[hm];exact Pq.szn_lt' hy
  have hmn:m≤n:=by
    have h1:=Pq.szn_ge (n:=32) (x:=y) (by omega)
    have h2:=Pq.szn_gt hx (Nat.le_trans h1 hxy)
    omega
  have hwt:Pq.wd y (m-1)≠0:=by rw[hm];exact Pq.szn_top 32 y (by omega)
  obtain ⟨k,hk⟩ : ∃ k,m=k+2:=⟨m-2,by omega⟩
  obtain ⟨j,hj⟩ : ∃ j,j=k+1:=⟨_,rfl⟩
  have hmj:m=j+1:=by omega
  have hnt : ∃ up,Lib.bitLen (Pq.wd y j)+up=32∧up<32∧y*2^up<Pq.bp m∧2147483648≤Pq.wd (y*2^up) j:=by
    rw[hmj]at hym hwt ⊢
    exact Pq.norm_top hym hwt
  obtain ⟨up,hup1,hup,hVb,hVt⟩:=hnt
  obtain ⟨V,hV⟩ : ∃ V,V=y*2^up:=⟨_,rfl⟩
  rw[←hV]at hVb hVt
  obtain ⟨X0,hX0⟩ : ∃ X0,X0=x*2^up:=⟨_,rfl⟩
  have hst:Pq.DI X0 V (n-j) X0 0:=by
    rw[hX0];exact Pq.DI.start hxn hup (by omega) hVt (by rw[←hmj];exact hVb)
  have hquo:=Pq.quot_pow x y up
  rw[←hX0,←hV]at hquo
  rw[←hquo.1,←hquo.2]
  have hVpos:0<V:=by
    rcases Nat.eq_zero_or_pos V with h0|h0
    · rw[h0,Pq.wd_zero]at hVt;exact absurd hVt (by decide)
    · exact h0
  have htl:=Pq.wd_lt y j
  have C1:=Lib.hid (hc j _ (Pq.am_get (x:=y) (show j<32 by omega)))
  obtain ⟨tw,htw⟩ : ∃ tw,tw=Pq.wd y j:=⟨_,rfl⟩
  rw[←htw]at hup1 htl C1
  have hlz:(32:Int)-(Lib.bitLen tw:Int)=(up:Int):=by omega
  have HX:=Lib.hid hx;have HY:=Lib.hid hy;have HXN:=Lib.hid hxn;have HYM:=Lib.hid hym
  have HN:=Lib.hid hn;have HM:=Lib.hid hm;have HB:=Lib.hid hb;have HC:=Lib.hid hc
  have HLZ:=Lib.hid hlz;have HV:=Lib.hid hV;have HX0:=Lib.hid hX0;have HST:=Lib.hid hst;have HVB:=Lib.hid hVb;have HVT:=Lib.hid hVt
  have HK:=Lib.hid hk;have HJ:=Lib.hid hj;have HMJ:=Lib.hid hmj
  have ej:(m:Int)-1=(j:Int):=by omega
  have hj32:(j:Int)<32:=by omega
  clear hk hj hmj
  clear hx hy hxn hym hn hm hb hc hlz hV hX0 hst hVb hVt hwt hquo htw hup1 hxy
  have wj:IntKind.i64.wrap (j:Int)=(j:Int):=IntWalk.i64_in _ (by omega)
  go_enter Tryz.func132,Tryz.ntmps132
  go_upto_region 1 with fail
  go_upto_region 1 with fail
  apply wp_region_lit
  refine Pq.wpL_step (by rfl) ?_
  apply Exists.intro
  apply Exists.intro
  refine ⟨?_,?_⟩
  · go_simp;first|done|with_reducible rfl|exact ⟨rfl,rfl⟩
  simp only[Pq.zz]
  refine Pq.wpL_call (by rfl) cf_size (size_any b o x n HN.out _ HB.out) rfl rfl ?_;rintro e w1 ⟨rfl,rfl⟩;refine ⟨_,rfl,?_⟩
  simp only[Pq.zz]
  refine Pq.wpL_step (by rfl) ?_
  apply Exists.intro
  apply Exists.intro
  refine ⟨?_,?_⟩
  · go_simp;first|done|with_reducible rfl|exact ⟨rfl,rfl⟩
  simp only[Pq.zz]
  refine Pq.wpL_call (by rfl) cf_size (size_any c q y m HM.out _ HC.out) rfl rfl ?_;rintro e w1 ⟨rfl,rfl⟩;refine ⟨_,rfl,?_⟩
  simp only[Pq.zz]
  iterate 2
    refine Pq.wpL_step (by rfl) ?_
    apply Exists.intro
    apply Exists.intro
    refine ⟨?_,?_⟩
    · go_simp;first|done|with_reducible rfl|exact ⟨rfl,rfl⟩
    simp only[Pq.zz]
  refine Pq.wpL_nil ?_
  go_upto_region 2 with fail
  go_upto_region 2 with fail
  apply wp_region_lit
  iterate 5
    refine Pq.wpL_step (by rfl) ?_
    apply Exists.intro
    apply Exists.intro
    refine ⟨?_,?_⟩
    · go_simp;first|done|with_reducible rfl|exact ⟨rfl,rfl⟩
    simp only[Pq.zz]
  refine Pq.wpL_cell ⟨c,q+j,none⟩ _ C1.out (by rfl) _ _ rfl rfl _ u_u32 rfl ?_
  simp only[Pq.zz]
  refine Pq.wpL_call (by rfl) cf_lz32 (Tryz.bits_LeadingZeros32 (tw:Int) _ (by omega) (by omega)) rfl rfl ?_;rintro e w1 ⟨rfl,hw1⟩;obtain rfl:=hw1.symm;refine ⟨_,rfl,?_⟩;rw[Int.toNat_natCast,HLZ.out]
  simp only[Pq.zz]
  refine Pq.wpL_step (by rfl) ?_
  apply Exists.intro
  apply Exists.intro
  refine ⟨?_,?_⟩
  · go_simp;first|done|with_reducible rfl|exact ⟨rfl,rfl⟩
  simp only[Pq.zz]
  refine Pq.wpL_nil ?_
  clear ej wj
  go_upto_region 3 with fail
  refine Pq.wp_region_grown none [(0,true),(1,true),(2,true),(3,true),(4,true),(6,true),(7,true),(8,true),(9,true),(10,true),(12,true),(5,false),(11,false),(13,true),(14,true),(15,true)] (by kernel_rfl) (by kernel_rfl) (fun _ _ d _ _ h=>by cases d <;> exact h) (fun hS=>?_)
  simp only[Pq.pick,List.filterMap_cons,List.filterMap_nil,List.getElem?_cons_zero,List.getElem?_cons_succ,Option.map_some]
  iterate 3
    refine Pq.wpO_step (by rfl) ?_
    apply Exists.intro
    refine ⟨fun w' hw'=>?_,?_⟩
    · go_simp;first|done|with_reducible rfl|exact ⟨rfl,rfl⟩
    simp only[Pq.zz]
  refine Pq.wpO_slice _ (by rfl) _ _ _ _ rfl _ rfl none _ rfl rfl (sl_arr b o n hn32) ?_
  simp only[Pq.zz]
  iterate 4
    refine Pq.wpO_step (by rfl) ?_
    apply Exists.intro
    refine ⟨fun w' hw'=>?_,?_⟩
    · go_simp;first|done|with_reducible rfl|exact ⟨rfl,rfl⟩
    simp only[Pq.zz]
  refine Pq.wpO_slice _ (by rfl) _ _ _ _ rfl _ rfl none _ rfl rfl (sl_arr c q m hm32) ?_
  simp only[Pq.zz]
  iterate 2
    refine Pq.wpO_step (by rfl) ?_
    apply Exists.intro
    refine ⟨fun w' hw'=>?_,?_⟩
    · go_simp;first|done|with_reducible rfl|exact ⟨rfl,rfl⟩
    simp only[Pq.zz]
  refine Pq.wpO_call (by rfl) cf_shifted (shifted_any b o n 32 x up _ (by omega) HXN.out hup (Pq.am_prefix hn32 (Pq.dr_range HB.out))) rfl rfl ?_;rintro e w2 ⟨gu,rfl,hu2,hb2,hgu⟩;refine ⟨_,rfl,Pq.grown_then hS hb2,?_⟩
  simp only[Pq.zz]
  refine Pq.wpO_call (by rfl) cf_shifted (shifted_any c q m 32 y up _ (by omega) HYM.out hup (Pq.am_prefix hm32 (Pq.range_in (Pq.dr_range HC.out) hb2))) rfl rfl ?_;rintro e w3 ⟨gv,rfl,hv3,hb3,hgv⟩;refine ⟨_,rfl,Pq.grown_then (Pq.grown_then hS hb2) hb3,?_⟩
  simp only[Pq.zz]
  refine Pq.wpO_slice _ (by rfl) _ _ _ _ rfl _ rfl none _ rfl rfl (sl_to gv 0 (m+1) (m+1) m (by omega)) ?_
  simp only[Pq.zz]
  iterate 2
    refine Pq.wpO_step (by rfl) ?_
    apply Exists.intro
    refine ⟨fun w' hw'=>?_,?_⟩
    · go_simp;first|done|with_reducible rfl|exact ⟨rfl,rfl⟩
    simp only[Pq.zz]
  refine Pq.wpO_nil ?_
  have hgu2:gu<w2.heap.size:=(Array.getElem?_eq_some_iff.1 hu2).1
  have hgv3:gv<w3.heap.size:=(Array.getElem?_eq_some_iff.1 hv3).1
  have hu3:=Pq.keep_block hu2 hb3
  have hbel:=Pq.below_next (Pq.below_then (Pq.below_drew (Below.refl w.heap.size w)) (Nat.le_refl _) hb2) (Nat.le_refl _) hb3
  have hsz:=hb2.size
  have hsz3:=hb3.size
  rw[←HX0.out]at hu3
  rw[←HV.out]at hv3
  obtain ⟨gq,hgq⟩ : ∃ gq,gq=w3.heap.size:=⟨_,rfl⟩
  have HGQ:=Lib.hid hgq
  have hgu':w.heap.size≤gu:=hgu
  have hsz':w.heap.size≤w2.heap.size:=hsz
  have d1:gu≠gv:=by omega
  have d2:gu≠gq:=by omega
  have d3:gu≠gq+1:=by omega
  have d4:gv≠gq:=by omega
  have d5:gv≠gq+1:=by omega
  have e1:w.heap.size≤gq:=by omega
  have hgu0:w.heap.size≤gu:=hgu'
  have hgq0:w.heap.size≤gq:=e1
  clear hsz hsz3 hsz' hgu2 hgv3 hgv hgu hu2 hb2 hb3 hgq hS e1
  go_upto_region 4 with fail
  go_upto_region 4 with fail
  apply wp_region_lit
  refine Pq.wpL_alloc gq HGQ.out.symm (by rfl) _ rfl _ al_am ?_
  simp only[Pq.zz]
  refine Pq.wpL_alloc (gq+1) (by simp[HGQ.out]) (by rfl) _ rfl _ al_am ?_
  simp only[Pq.zz]
  refine Pq.wpL_nil ?_
  have HU:=Lib.hid (Pq.al_keep (Pq.al_keep hu3 (.cells (Pq.am 32 0).toArray 202)) (.cells (Pq.am 32 0).toArray 202))
  have HW:=Lib.hid (Pq.al_keep (Pq.al_keep hv3 (.cells (Pq.am 32 0).toArray 202)) (.cells (Pq.am 32 0).toArray 202))
  have HQ:=Lib.hid (Pq.al_keep (Pq.al_block w3 (.cells (Pq.am 32 0).toArray 202) gq HGQ.out) (.cells (Pq.am 32 0).toArray 202))
  have HR:=Lib.hid (Pq.al_block (w3.alloc (.cells (Pq.am 32 0).toArray 202)) (.cells (Pq.am 32 0).toArray 202) (gq+1) (by simp[HGQ.out]))
  have HBEL:=Lib.hid (Pq.below_alloc (Pq.below_alloc hbel (Nat.le_refl _) (.cells (Pq.am 32 0).toArray 202)) (Nat.le_refl _) (.cells (Pq.am 32 0).toArray 202))
  clear hu3 hv3 hbel HGQ
  generalize (w3.alloc (.cells (Pq.am 32 0).toArray 202)).alloc (.cells (Pq.am 32 0).toArray 202)=w5 at *
  obtain ⟨n1,hn1⟩ : ∃ n1,n1=n+1:=⟨_,rfl⟩
  obtain ⟨d0,hd0⟩ : ∃ d0,d0=n-m:=⟨_,rfl⟩
  rw[←hn1]at HU
  rw[←hn1]
  have en:(n:Int)-(m:Int)=(d0:Int):=by omega
  have wn:IntKind.i64.wrap (d0:Int)=(d0:Int):=IntWalk.i64_in _ (by omega)
  have HN1:=Lib.hid hn1;have HD0:=Lib.hid hd0
  have hst2:Pq.DI X0 V (d0+1) X0 0:=by have:=HST.out;rwa [show n-j=d0+1 from by have:=HMJ.out;omega]at this
  have HST2:=Lib.hid hst2
  clear hn1 hd0 hst2 HST
  go_upto_region 5 with fail
  go_upto_region 5 with fail
  apply wp_region_lit
  iterate 4
    refine Pq.wpL_step (by rfl) ?_
    apply Exists.intro
    apply Exists.intro
    refine ⟨?_,?_⟩
    · go_simp;first|done|with_reducible rfl|exact ⟨rfl,rfl⟩
    simp only[Pq.zz]
  refine Pq.wpL_nil ?_
  clear en wn
  go_wp2
  go_loopw [13] (fun i wr => ∃ (kk:Nat) (z:Int) (U Q:Nat),i=.int .i64 z∧Hid (z+1=kk)∧kk≤d0+1∧Hid (Pq.DI X0 V kk U Q)∧Hid (wr.heap[gu]?=some (.cells (Pq.am n1 U).toArray 36 (0,0)))∧Hid (wr.heap[gv]?=some (.cells (Pq.am (m+1) V).toArray 36 (0,0)))∧Hid (wr.heap[gq]?=some (.cells (Pq.am 32 Q).toArray 202 (0,0)))∧Hid (wr.heap[gq+1]?=some (.cells (Pq.am 32 0).toArray 202 (0,0)))∧Hid (Below w.heap.size w wr)) (fun i _=>(intOf i+1).toNat)
  case atStart=>exact ⟨d0+1,(d0:Int),X0,0,rfl,Lib.hid (by omega),by omega,HST2,HU,HW,HQ,HR,HBEL⟩
  case round =>
    obtain ⟨kk,z,U,Q,rfl,hz,hkk,hdi,hu,hv,hq,hr,hbl⟩:=hrel
    rcases kk with _|i
    · obtain rfl:z = -1:=by have:=hz.out;omega
      clear hz
      obtain ⟨hQ,hU⟩:=hdi.out.done
      have hUl:U<V:=by rw[hU];exact Nat.mod_lt _ hVpos
      have hRl:U/2^up<Pq.bp m:=Nat.lt_of_le_of_lt (Nat.div_le_self _ _) (Nat.lt_trans hUl HVB.out)
      obtain ⟨R,hR⟩ : ∃ R,R=U/2^up:=⟨_,rfl⟩
      rw[←hR]at hRl
      have HQ2:=Lib.hid hQ;have HU2:=Lib.hid hU
      have HRE:=Lib.hid hR;have HRL:=Lib.hid hRl
      have hr0:wr.heap[gq+1]?=some (.cells (Pq.am 32 (Pq.lo R 0)).toArray 202 (0,0)):=by rw[Pq.lo_zero];exact hr.out
      have HR0:=Lib.hid hr0
      clear hQ hU hUl hR hRl hr0 hdi hv hr
      go_wp2
      go_loopw [86] (fun i wr2 => ∃ jj:Nat,i=.int .i64 jj∧jj≤m∧Hid (wr2.heap[gu]?=some (.cells (Pq.am n1 U).toArray 36 (0,0)))∧Hid (wr2.heap[gq]?=some (.cells (Pq.am 32 Q).toArray 202 (0,0)))∧Hid (wr2.heap[gq+1]?=some (.cells (Pq.am 32 (Pq.lo R jj)).toArray 202 (0,0)))∧Hid (Below w.heap.size w wr2)) (fun i _=>m-(intOf i).toNat)
      case atStart=>exact ⟨0,rfl,by omega,hu,hq,HR0,hbl⟩
      case round =>
        obtain ⟨jj,rfl,hjj,hu2,hq2,hr2,hbl2⟩:=hrel
        by_cases hlt:jj<m
        · have hlt2:(jj:Int)<m:=by omega
          obtain ⟨j1,hj1⟩ : ∃ j1,j1=jj+1:=⟨_,rfl⟩
          have hn1':=HN1.out
          have p1:j1<n1:=by omega
          have p2:jj<n1:=by omega
          have p3:(jj:Int)<32:=by omega
          have e1:(jj:Int)+1=(j1:Int):=by omega
          have w1:IntKind.i64.wrap (j1:Int)=(j1:Int):=IntWalk.i64_in _ (by omega)
          have ca:wr.drew.cell? ⟨gu,j1,none⟩=some (.int .u32 (Pq.wd U j1:Nat)):=Pq.row_cell (Pq.dr_block hu2.out) p1
          have cc:wr.drew.cell? ⟨gu,jj,none⟩=some (.int .u32 (Pq.wd U jj:Nat)):=Pq.row_cell (Pq.dr_block hu2.out) p2
          have hstep:=Pq.shr_step (U:=U) (i:=jj) hup
          rw[←HRE.out,←hj1]at hstep
          have hal:=Pq.wd_lt U j1
          have hcl:=Pq.wd_lt U jj
          obtain ⟨a,ha⟩ : ∃ a,a=Pq.wd U j1:=⟨_,rfl⟩
          obtain ⟨c0,hc0⟩ : ∃ c0,c0=Pq.wd U jj:=⟨_,rfl⟩
          rw[←ha]at ca hstep hal
          rw[←hc0]at cc hstep hcl
          obtain ⟨z,hz⟩ : ∃ z,z=a*4294967296+c0:=⟨_,rfl⟩
          have hzl:z<18446744073709551616:=by omega
          have hor:bits .or .u64 ((a:Int)*4294967296) (c0:Int)=(z:Int):=by rw[hz];exact Pq.or_hl hal hcl
          rw[←hz]at hstep
          obtain ⟨sv,hsv⟩ : ∃ sv,sv=z/2^up:=⟨_,rfl⟩
          rw[←hsv]at hstep
          have hsvl:sv<18446744073709551616:=by rw[hsv];exact Nat.lt_of_le_of_lt (Nat.div_le_self _ _) hzl
          have hsh:(z:Int)/2^up=(sv:Int):=by rw[hsv];simp
          obtain ⟨r,hr⟩ : ∃ r,r=Pq.wd R jj:=⟨_,rfl⟩
          have hand:bits .and .u64 (sv:Int) 4294967295=(r:Int):=by rw[Pq.and_lo hsvl,hr,hstep]
          have hrl:r<4294967296:=by rw[hr];exact Pq.wd_lt _ _
          have wa:IntKind.u64.wrap (a:Int)=(a:Int):=IntWalk.u64_in _ (by omega)
          have wc:IntKind.u64.wrap (c0:Int)=(c0:Int):=IntWalk.u64_in _ (by omega)
          have wsh:IntKind.u64.wrap ((a:Int)*4294967296)=(a:Int)*4294967296:=IntWalk.u64_in _ (by omega)
          have wr1:IntKind.u32.wrap (r:Int)=(r:Int):=IntWalk.u32_in _ (by omega)
          have hupI:(up:Int)≤64:=by omega
          have CA:=Lib.hid ca;have CC:=Lib.hid cc;have HRR:=Lib.hid hr;have HJ1:=Lib.hid hj1
          clear ca cc hstep ha hc0 hz hsv hr hj1 hn1'
          go_upto_region 15 with fail
          go_upto_region 15 with fail
          apply wp_region_lit
          iterate 2
            refine Pq.wpL_step (by rfl) ?_
            apply Exists.intro
            apply Exists.intro
            refine ⟨?_,?_⟩
            · go_simp;first|done|with_reducible rfl|exact ⟨rfl,rfl⟩
            simp only[Pq.zz]
          refine Pq.wpL_nil ?_
          go_upto_region 16 with fail
          refine Pq.wp_region_grown (some (gq+1)) [(0,true),(1,true),(2,true),(3,true),(4,true),(5,true),(6,true),(7,true),(8,true),(9,true),(10,true),(11,true),(12,true),(13,true),(14,true),(15,true),(16,true),(17,true),(18,true),(19,false)] (by kernel_rfl) (by kernel_rfl) (fun _ _ d _ _ h=>by cases d <;> exact h) (fun hS=>?_)
          simp only[Pq.pick,List.filterMap_cons,List.filterMap_nil,List.getElem?_cons_zero,List.getElem?_cons_succ,Option.map_some]
          iterate 5
            refine Pq.wpO_step (by rfl) ?_
            apply Exists.intro
            refine ⟨fun w' hw'=>?_,?_⟩
            · go_simp;first|done|with_reducible rfl|exact ⟨rfl,rfl⟩
            simp only[Pq.zz]
          refine Pq.wpO_cell ⟨gu,j1,none⟩ _ CA.out (by simp;omega) (by rfl) _ _ rfl rfl _ u_u32 rfl ?_
          simp only[Pq.zz]
          iterate 5
            refine Pq.wpO_step (by rfl) ?_
            apply Exists.intro
            refine ⟨fun w' hw'=>?_,?_⟩
            · go_simp;first|done|with_reducible rfl|exact ⟨rfl,rfl⟩
            simp only[Pq.zz]
          refine Pq.wpO_cell ⟨gu,jj,none⟩ _ CC.out (by simp;omega) (by rfl) _ _ rfl rfl _ u_u32 rfl ?_
          simp only[Pq.zz]
          iterate 7
            refine Pq.wpO_step (by rfl) ?_
            apply Exists.intro
            refine ⟨fun w' hw'=>?_,?_⟩
            · go_simp;first|done|with_reducible rfl|exact ⟨rfl,rfl⟩
            simp only[Pq.zz]
          refine Pq.wpO_put (k:=jj) (.int .u32 (r:Int)) (Pq.dr_block hr2.out) (by rw[Pq.am_length];omega) (by rfl) 36 _ _ rfl rfl rfl rfl rfl (by kernel_rfl) (Pq.grown_setRow hS) ?_
          try simp only[Pq.zz]
          refine Pq.wpO_nil ?_
          clear e1 w1 hor hsh hand wa wc wsh wr1
          go_wp2
          go_roundw
          case rel=>exact ⟨jj+1,by go_num,by omega,Lib.hid (Pq.keep_row (Pq.dr_block hu2.out) d3),Lib.hid (Pq.keep_row (Pq.dr_block hq2.out) (by omega)),Lib.hid (by
            have e:=Pq.setRow_at (cs:=((Pq.am 32 (Pq.lo R jj)).set jj (.int .u32 (r:Int))).toArray) (Pq.dr_block hr2.out)
            rw[Pq.am_set hrl (by omega),HRR.out,Pq.st_lo]at e
            rw[Pq.am_set hrl (by omega),HRR.out,Pq.st_lo];exact e),Lib.hid (Pq.below_setRow (Pq.below_drew hbl2.out) (by omega))⟩
          case measure=>simp[intOf];omega
        · obtain rfl:jj=m:=by omega
          go_wp2
          go_ret2
          rw[←HQ2.out,←HU2.out,←HRE.out]
          refine ⟨gq,gq+1,rfl,Pq.range_block hq2.out,?_,hbl2.out,hgq0,by omega⟩
          have:=hr2.out
          rw[Pq.lo_self HRL.out]at this
          exact Pq.range_block this
    · obtain rfl:z=(i:Int):=by have:=hz.out;omega
      clear hz
      have hXl:=hdi.out.head
      have hVk:V<Pq.bp (k+2):=by rw[←HK.out];exact HVB.out
      have hvt:2147483648≤Pq.wd V (k+1):=by rw[←HJ.out];exact HVT.out
      obtain ⟨X,hXe⟩ : ∃ X,X=U/Pq.bp i:=⟨_,rfl⟩
      rw[←hXe]at hXl
      have hgw:=Pq.gw_bounds hXl hVk hvt
      have htop:=Pq.gw_top hXl hVk
      have hfit:X<Pq.bp (m+1):=by rw[HK.out];exact Pq.gw_fit hXl hVk
      have hqdl:X/V<4294967296:=(Nat.div_lt_iff_lt_mul hVpos).2 (by rw[Nat.mul_comm];exact hXl)
      obtain ⟨u0,hu0⟩ : ∃ u0,u0=Pq.wd X k:=⟨_,rfl⟩
      obtain ⟨u1,hu1⟩ : ∃ u1,u1=Pq.wd X (k+1):=⟨_,rfl⟩
      obtain ⟨u2,hu2⟩ : ∃ u2,u2=Pq.wd X (k+2):=⟨_,rfl⟩
      obtain ⟨v0,hv0⟩ : ∃ v0,v0=Pq.wd V k:=⟨_,rfl⟩
      obtain ⟨v1,hv1⟩ : ∃ v1,v1=Pq.wd V (k+1):=⟨_,rfl⟩
      have hi1:i≤n-m:=by have:=HD0.out;omega
      have hk3:k+2≤n:=by have:=HK.out;omega
      have hkm:=HK.out
      have hn1':=HN1.out
      obtain ⟨s1,hs1⟩ : ∃ s1,s1=i+m:=⟨_,rfl⟩
      obtain ⟨s2,hs2⟩ : ∃ s2,s2=i+k:=⟨_,rfl⟩
      obtain ⟨s3,hs3⟩ : ∃ s3,s3=i+m+1:=⟨_,rfl⟩
      have cu0:wr.drew.cell? ⟨gu,s2,none⟩=some (.int .u32 u0):=by
        rw[hu0,hXe,Pq.wd_div,←hs2];exact Pq.row_cell (Pq.dr_block hu.out) (by omega)
      have cu1:wr.drew.cell? ⟨gu,s2+1,none⟩=some (.int .u32 u1):=by
        rw[hu1,hXe,Pq.wd_div,show i+(k+1)=s2+1 from by omega];exact Pq.row_cell (Pq.dr_block hu.out) (by omega)
      have cu2:wr.drew.cell? ⟨gu,s2+2,none⟩=some (.int .u32 u2):=by
        rw[hu2,hXe,Pq.wd_div,show i+(k+2)=s2+2 from by omega];exact Pq.row_cell (Pq.dr_block hu.out) (by omega)
      have cv0:wr.drew.cell? ⟨gv,k,none⟩=some (.int .u32 v0):=by
        rw[hv0];exact Pq.row_cell (Pq.dr_block hv.out) (by omega)
      have cv1:wr.drew.cell? ⟨gv,k+1,none⟩=some (.int .u32 v1):=by
        rw[hv1];exact Pq.row_cell (Pq.dr_block hv.out) (by omega)
      rw[←hu0,←hu1,←hu2,←hv0,←hv1]at hgw
      rw[←hu2,←hv1]at htop
      rw[←hv1]at hvt
      have hcall:=guess_any gu s2 (n1-s2) (n1-s2) gv k (m-k) (m+1-k) u0 u1 u2 v0 v1 wr.drew (by rw[hu0];exact Pq.wd_lt _ _) (by rw[hu1];exact Pq.wd_lt _ _) htop (by rw[hv0];exact Pq.wd_lt _ _) (by rw[hv1];exact Pq.wd_lt _ _) hvt (by omega) (by omega) cu0 cu1 cu2 cv0 cv1
      have hgl:Pq.gw u0 u1 u2 v0 v1<4294967296:=Nat.lt_of_le_of_lt (Nat.min_le_right _ _) (by decide)
      obtain ⟨g,hg⟩ : ∃ g,g=Pq.gw u0 u1 u2 v0 v1:=⟨_,rfl⟩
      rw[←hg]at hcall hgw hgl
      have HCALL:=Lib.hid hcall;have HGW:=Lib.hid hgw;have HFIT:=Lib.hid hfit;have HXE:=Lib.hid hXe
      clear hcall hgw hfit hXl hVk hvt htop cu0 cu1 cu2 cv0 cv1 hu0 hu1 hu2 hv0 hv1 hg
      have HS3:=Lib.hid hs3
      have e1:(i:Int)+(m:Int)=(s1:Int):=by omega
      have e2:(s1:Int)-2=(s2:Int):=by omega
      have e3:(m:Int)-2=(k:Int):=by omega
      have e4:(s1:Int)+1=(s3:Int):=by omega
      have w1:IntKind.i64.wrap (s1:Int)=(s1:Int):=IntWalk.i64_in _ (by omega)
      have w2:IntKind.i64.wrap (s2:Int)=(s2:Int):=IntWalk.i64_in _ (by omega)
      have w3:IntKind.i64.wrap (k:Int)=(k:Int):=IntWalk.i64_in _ (by omega)
      have w4:IntKind.i64.wrap (s3:Int)=(s3:Int):=IntWalk.i64_in _ (by omega)
      have p1:s2≤n1:=by omega
      have p2:s2<n1:=by omega
      have p3:k≤m:=by omega
      have p4:k<m+1:=by omega
      have p5:s3≤n1:=by omega
      have p6:i<n1:=by omega
      have p7:i≤s3:=by omega
      have p8:i<32:=by omega
      have p9:(i:Int)<32:=by omega
      have hkz:n1=i+((m+1)+(n1-s3)):=by omega
      have HKZ:=Lib.hid hkz
      have hsl : ∀ w,(Instr.sliceAt 96 (.slice (some ⟨gu,0,none⟩) n1 n1) (some (.int .i64 (i:Int))) (some (.int .i64 (s3:Int))) none).run Tryz.prog w=.ok (.slice (some ⟨gu,i,none⟩) (m+1) (n1-i)) w:=by
        intro w
        have:=sl_mid gu n1 n1 i s3 p7 p5 p6 w
        rwa [show s3-i=m+1 from by omega]at this
      have HSL:=Lib.hid hsl
      clear hs1 hs2 hs3 hkm hn1' hk3 hi1 hkz hsl
      go_upto_region 8 with fail
      refine Pq.wp_region_grown none [(0,true),(1,true),(2,true),(3,true),(4,true),(5,true),(6,true),(7,true),(8,true),(9,true),(10,false),(11,true)] (by kernel_rfl) (by kernel_rfl) (fun _ _ d _ _ h=>by cases d <;> exact h) (fun hS=>?_)
      simp only[Pq.pick,List.filterMap_cons,List.filterMap_nil,List.getElem?_cons_zero,List.getElem?_cons_succ,Option.map_some]
      iterate 5
        refine Pq.wpO_step (by rfl) ?_
        apply Exists.intro
        refine ⟨fun w' hw'=>?_,?_⟩
        · go_simp;first|done|with_reducible rfl|exact ⟨rfl,rfl⟩
        simp only[Pq.zz]
      refine Pq.wpO_slice _ (by rfl) _ _ _ _ rfl _ rfl _ none rfl rfl (sl_from gu n1 n1 s2 p1 p2) ?_
      simp only[Pq.zz]
      iterate 3
        refine Pq.wpO_step (by rfl) ?_
        apply Exists.intro
        refine ⟨fun w' hw'=>?_,?_⟩
        · go_simp;first|done|with_reducible rfl|exact ⟨rfl,rfl⟩
        simp only[Pq.zz]
      refine Pq.wpO_slice _ (by rfl) _ _ _ _ rfl _ rfl _ none rfl rfl (sl_from gv m (m+1) k p3 p4) ?_
      simp only[Pq.zz]
      refine Pq.wpO_ret (by rfl) cf_guess HCALL.out rfl rfl hS ?_;intro w6 hb6 hS6
      simp only[Pq.zz]
      refine Pq.wpO_step (by rfl) ?_
      apply Exists.intro
      refine ⟨fun w' hw'=>?_,?_⟩
      · go_simp;first|done|with_reducible rfl|exact ⟨rfl,rfl⟩
      simp only[Pq.zz]
      refine Pq.wpO_nil ?_
      have hu6:=Lib.hid (Pq.keep_block (Pq.dr_block hu.out) hb6)
      have hv6:=Lib.hid (Pq.keep_block (Pq.dr_block hv.out) hb6)
      have hq6:=Lib.hid (Pq.keep_block (Pq.dr_block hq.out) hb6)
      have hr6:=Lib.hid (Pq.keep_block (Pq.dr_block hr.out) hb6)
      have hbl6:=Lib.hid (Pq.below_next (Pq.below_drew hbl.out) (Nat.le_refl _) hb6)
      have hrow6:w6.heap[gu]?=some (.cells (Pq.am i U++(Pq.am (m+1) X++Pq.am (n1-s3) 0)).toArray 36 (0,0)):=by
        rw[HXE.out,←Pq.row_open HKZ.out (by rw[←HXE.out];exact HFIT.out)];exact hu6.out
      have HROW6:=Lib.hid hrow6
      clear hu hv hq hr hbl hb6 hS hS6 hrow6 hu6 HCALL
      go_upto_region 9 with fail
      go_upto_region 9 with fail
      apply wp_region_lit
      iterate 6
        refine Pq.wpL_step (by rfl) ?_
        apply Exists.intro
        apply Exists.intro
        refine ⟨?_,?_⟩
        · go_simp;first|done|with_reducible rfl|exact ⟨rfl,rfl⟩
        simp only[Pq.zz]
      refine Pq.wpL_slice _ (by rfl) _ _ _ _ rfl _ rfl _ _ rfl rfl HSL.out ?_
      simp only[Pq.zz]
      iterate 2
        refine Pq.wpL_step (by rfl) ?_
        apply Exists.intro
        apply Exists.intro
        refine ⟨?_,?_⟩
        · go_simp;first|done|with_reducible rfl|exact ⟨rfl,rfl⟩
        simp only[Pq.zz]
      refine Pq.wpL_call (by rfl) cf_takes (takes_any gu i gv 0 m (n1-i) (m+1) X V g (Pq.am i U) (Pq.am (n1-s3) 0) _ (by omega) HFIT.out HVB.out hgl (Pq.am_length _ _) d1.symm HROW6.out (Pq.am_prefix' (Pq.range_block hv6.out))) rfl rfl ?_;rintro e w7 ⟨Z,bf,hZ,hbf,hE,rfl,hrow7,hgr7⟩;refine ⟨_,rfl,?_⟩;obtain ⟨ok,hok⟩ : ∃ ok,ok=(((bf:Nat):Int)==0):=⟨_,rfl⟩;rw[←hok]
      simp only[Pq.zz]
      refine Pq.wpL_step (by rfl) ?_
      apply Exists.intro
      apply Exists.intro
      refine ⟨?_,?_⟩
      · go_simp;first|done|with_reducible rfl|exact ⟨rfl,rfl⟩
      simp only[Pq.zz]
      refine Pq.wpL_nil ?_
      have hv7:=Lib.hid (Pq.block_by hv6.out hgr7 (by simp[d1]))
      have hq7:=Lib.hid (Pq.block_by hq6.out hgr7 (by simp[d2]))
      have hr7:=Lib.hid (Pq.block_by hr6.out hgr7 (by simp[d3]))
      have hbl7:=Lib.hid (Pq.below_mid hbl6.out hgr7 (Nat.le_refl _) hgu0)
      clear hv6 hq6 hr6 hbl6 HROW6 hgr7
      have hvm:V<Pq.bp (m+1):=Nat.lt_of_lt_of_le HVB.out (Pq.bp_mono (by omega))
      have HVM:=Lib.hid hvm;clear hvm
      have e0:w.heap.size≤gq:=hgq0
      rcases (show bf=0∨bf=1 from by omega) with rfl|rfl
      · obtain rfl:ok=true:=by rw[hok];rfl
        have ht:=Pq.take_ok HGW.out.1 HGW.out.2 hE hVpos
        obtain ⟨rfl,rfl⟩:=ht
        have HU8:=Lib.hid hrow7;have HV8:=hv7;have HQ8:=hq7;have HR8:=hr7;have HBL8:=hbl7
        clear hok hE hrow7 hZ hbf e1 e2 e3 e4 w1 w2 w3 w4
        obtain ⟨qd,hqd⟩ : ∃ qd,qd=X/V:=⟨_,rfl⟩
        rw[←hqd]at hqdl
        have wq:IntKind.u32.wrap (qd:Int)=(qd:Int):=IntWalk.u32_in _ (by omega)
        rw[←hqd]
        have HQD:=Lib.hid hqd;clear hqd
        go_upto_region 12 with fail
        go_upto_region 12 with fail
        apply wp_region_lit
        iterate 4
          refine Pq.wpL_step (by rfl) ?_
          apply Exists.intro
          apply Exists.intro
          refine ⟨?_,?_⟩
          · go_simp;first|done|with_reducible rfl|exact ⟨rfl,rfl⟩
          simp only[Pq.zz]
        refine Pq.wpL_put (k:=i) (.int .u32 (qd:Int)) HQ8.out (by rw[Pq.am_length];omega) (by rfl) 36 _ _ rfl rfl rfl rfl rfl (by kernel_rfl) ?_
        try simp only[Pq.zz]
        refine Pq.wpL_nil ?_
        go_wp2
        go_roundw
        case rel=>exact ⟨i,(i:Int)-1,Pq.lo U i+Pq.bp i*(X%V),Pq.st Q i qd,rfl,Lib.hid (by omega),by omega,Lib.hid (by rw[HQD.out,HXE.out];exact hdi.out.next hVpos),Lib.hid ((Pq.keep_row HU8.out d2).trans (by rw[Pq.row_close HKZ.out (Nat.lt_trans (Nat.mod_lt _ hVpos) HVM.out)])),Lib.hid (Pq.keep_row HV8.out d4),Lib.hid (by
          have e:=Pq.setRow_at (cs:=((Pq.am 32 Q).set i (.int .u32 (qd:Int))).toArray) HQ8.out
          rw[Pq.am_set hqdl p8]at e
          rw[Pq.am_set hqdl p8];exact e),Lib.hid (Pq.keep_row HR8.out (by omega)),Lib.hid (Pq.below_setRow HBL8.out e0)⟩
        case measure=>simp[intOf]
      · obtain rfl:ok=false:=by rw[hok];rfl
        have ht:=Pq.take_no HGW.out.1 HGW.out.2 hE hZ (Nat.le_of_lt HVM.out) hVpos
        obtain ⟨hg1,hZ1⟩:=ht
        obtain ⟨qe,hqe⟩ : ∃ qe,qe=X/V:=⟨_,rfl⟩
        have hqel:qe<4294967296:=by rw[hqe];exact hqdl
        rw[←hqe]at hg1
        have es:(g:Int)-1=(qe:Int):=by omega
        have ws:IntKind.u64.wrap (qe:Int)=(qe:Int):=IntWalk.u64_in _ (by omega)
        have HQE:=Lib.hid hqe;have HZ:=Lib.hid hZ;have HZ1:=Lib.hid hZ1;have HROW7:=Lib.hid hrow7
        clear hok hE hrow7 hZ hZ1 hbf hqe hg1
        go_upto_region 10 with fail
        go_upto_region 10 with fail
        apply wp_region_lit
        iterate 3
          refine Pq.wpL_step (by rfl) ?_
          apply Exists.intro
          apply Exists.intro
          refine ⟨?_,?_⟩
          · go_simp;first|done|with_reducible rfl|exact ⟨rfl,rfl⟩
          simp only[Pq.zz]
        refine Pq.wpL_nil ?_
        go_upto_region 11 with fail
        go_upto_region 11 with fail
        apply wp_region_lit
        iterate 6
          refine Pq.wpL_step (by rfl) ?_
          apply Exists.intro
          apply Exists.intro
          refine ⟨?_,?_⟩
          · go_simp;first|done|with_reducible rfl|exact ⟨rfl,rfl⟩
          simp only[Pq.zz]
        refine Pq.wpL_slice _ (by rfl) _ _ _ _ rfl _ rfl _ _ rfl rfl HSL.out ?_
        simp only[Pq.zz]
        refine Pq.wpL_step (by rfl) ?_
        apply Exists.intro
        apply Exists.intro
        refine ⟨?_,?_⟩
        · go_simp;first|done|with_reducible rfl|exact ⟨rfl,rfl⟩
        simp only[Pq.zz]
        refine Pq.wpL_call (by rfl) cf_gives (gives_any gu i gv 0 m (n1-i) (m+1) Z V (Pq.am i U) (Pq.am (n1-s3) 0) _ (by omega) HZ.out HVB.out (Pq.am_length _ _) d1.symm HROW7.out (Pq.am_prefix' (Pq.range_block hv7.out))) rfl rfl ?_;rintro e w8 ⟨rfl,hrow8,hgr8⟩;refine ⟨_,rfl,?_⟩;rw[HZ1.out]at hrow8
        simp only[Pq.zz]
        refine Pq.wpL_nil ?_
        have HU8:=Lib.hid hrow8
        have HV8:=Lib.hid (Pq.block_by hv7.out hgr8 (by simp[d1]))
        have HQ8:=Lib.hid (Pq.block_by hq7.out hgr8 (by simp[d2]))
        have HR8:=Lib.hid (Pq.block_by hr7.out hgr8 (by simp[d3]))
        have HBL8:=Lib.hid (Pq.below_mid hbl7.out hgr8 (Nat.le_refl _) hgu0)
        clear hv7 hq7 hr7 hbl7 HROW7 hgr8 hrow8 es ws e1 e2 e3 e4 w1 w2 w3 w4
        obtain rfl:=HQE.out
        obtain ⟨qd,hqd⟩ : ∃ qd,qd=X/V:=⟨_,rfl⟩
        rw[←hqd]at hqdl
        have wq:IntKind.u32.wrap (qd:Int)=(qd:Int):=IntWalk.u32_in _ (by omega)
        rw[←hqd]
        have HQD:=Lib.hid hqd;clear hqd
        go_upto_region 12 with fail
        go_upto_region 12 with fail
        apply wp_region_lit
        iterate 4
          refine Pq.wpL_step (by rfl) ?_
          apply Exists.intro
          apply Exists.intro
          refine ⟨?_,?_⟩
          · go_simp;first|done|with_reducible rfl|exact ⟨rfl,rfl⟩
          simp only[Pq.zz]
        refine Pq.wpL_put (k:=i) (.int .u32 (qd:Int)) HQ8.out (by rw[Pq.am_length];omega) (by rfl) 36 _ _ rfl rfl rfl rfl rfl (by kernel_rfl) ?_
        try simp only[Pq.zz]
        refine Pq.wpL_nil ?_
        go_wp2
        go_roundw
        case rel=>exact ⟨i,(i:Int)-1,Pq.lo U i+Pq.bp i*(X%V),Pq.st Q i qd,rfl,Lib.hid (by omega),by omega,Lib.hid (by rw[HQD.out,HXE.out];exact hdi.out.next hVpos),Lib.hid ((Pq.keep_row HU8.out d2).trans (by rw[Pq.row_close HKZ.out (Nat.lt_trans (Nat.mod_lt _ hVpos) HVM.out)])),Lib.hid (Pq.keep_row HV8.out d4),Lib.hid (by
          have e:=Pq.setRow_at (cs:=((Pq.am 32 Q).set i (.int .u32 (qd:Int))).toArray) HQ8.out
          rw[Pq.am_set hqdl p8]at e
          rw[Pq.am_set hqdl p8];exact e),Lib.hid (Pq.keep_row HR8.out (by omega)),Lib.hid (Pq.below_setRow HBL8.out e0)⟩
        case measure=>simp[intOf]
end Go.Proofs.YtbkfakkkikmcbaaGreatDoor
