import Derived.Deep.LoopGhost
import Derived.IntWalk
import Derived.Test.YtokgbcachcmeaaaGreatDoorProg
import Derived.WalkKit
import Derived.WalkSpells
import Derived.WalkLawsBesides
import Derived.Outline
import Derived.Lib.Hide
import Derived.Deep.QuietTactic
import Derived.BigQuiet
import Derived.Deep.RegionWith
import Derived.Deep.RegionHeld3
import Derived.Deep.DeepFit
import Derived.Deep.MidRow
import Derived.Laws.MakeOwn
import Derived.Laws.BitsAllLaws
import Derived.Shelf.Small.Bits
import Derived.Shelf.Strconv.Itoa0
import Derived.Shelf.Strconv.Itoa1
import Derived.Shelf.LaysM
import Derived.Shelf.Strconv.Itoa2
import Derived.Shelf.Strconv.Itoa3
import Derived.Test.YtokgbcachcmeaaaGreatDoorK1
/-
Regions, code, functions.
-/
set_option linter.unusedSimpArgs false
set_option linter.unusedVariables false
namespace Ax
open Go Go.RowKit

def gSlot (ops : Array Oper) (j : Nat) : Option Tmp := (ops[j]?).bind (·.dst)
def know (st : St) (d : Tmp) (b : Bool) : St := ⟨st.fr.set d (.one (.kb b)), st.mem⟩
def bsel {α : Type} (b want : Bool) (x y : T α) : T α := match b, want with
  | true, true => x
  | false, false => x
  | _, _ => y
def guarded {α : Type} (sure : Bool) (ops : Array Oper) (o : Oper) (st : St) (yes no : St → T α) : T α :=
  match o.guard with
  | none => yes st
  | some (j, want) => match gSlot ops j with
    | some d => match st.fr[d]? with
      | some (.one (.kb b)) => bsel b want (yes st) (no st)
      | some (.one (.v (.bool b))) => match sure && want with
        | true => .need (b = true) (yes (know st d true))
        | false => .ite b (bsel true want (yes (know st d true)) (no (know st d true))) (bsel false want (yes (know st d false)) (no (know st d false)))
      | some .nope => no st
      | _ => .fail
    | none => .fail

structure Sat (w0 : World) (φ σ0 σ : List Nat) (st : St) (a : Act) (w : World) : Prop where
  fr : FrOk w (Ro w φ σ) σ st.fr a
  mem : MemOk w φ σ st.mem
  ext : Ext w0 σ0 σ
  keep : Keep w0 σ0 w
  df : a.defers = []

section
variable {P : Program} {E : Env P} {w0 w : World} {φ σ0 σ : List Nat} {st : St} {a : Act} {o : Oper} {ops : Array Oper}

theorem bsel_wp {α : Type} {b want : Bool} {x y : T α} {Q : α → Prop} (h : (bsel b want x y).wp Q) : (b = want ∧ x.wp Q) ∨ (b ≠ want ∧ y.wp Q) := by
  cases b <;> cases want <;> simp [bsel] at h ⊢ <;> exact h

theorem tmps_at {w : World} {R : Nat → Prop} {fr : List Av} (hf : FrOk w R σ fr a) {d : Nat} {av : Av} (h : fr[d]? = some av) : ∃ u, a.tmps[d]? = some u ∧ AvIs w R σ av u := by
  have h1 := hf.at_ d av h
  have h2 : d < a.tmps.size := hf.len ▸ (List.getElem?_eq_some_iff.1 h).1
  refine ⟨a.tmps[d], by simp [h2], ?_⟩
  simpa [h2] using h1

theorem know_ok {w : World} {R : Nat → Prop} {st : St} (hf : FrOk w R σ st.fr a) {d : Nat} {b : Bool} (h : st.fr[d]? = some (.one (.v (.bool b)))) : FrOk w R σ (know st d b).fr a := by
  refine ⟨by simp [know, hf.len], fun t av ht => ?_⟩
  simp only [know, List.getElem?_set] at ht
  by_cases e : d = t
  · subst e
    rw [if_pos rfl] at ht
    have hlt : d < st.fr.length := (List.getElem?_eq_some_iff.1 h).1
    rw [if_pos hlt] at ht
    cases ht
    have := hf.at_ d _ h
    rw [val_of this rfl]
    exact .one rfl (.kb .nil)
  · rw [if_neg e] at ht; exact hf.at_ t av ht

theorem yielded_slot {j : Nat} {d : Tmp} {tmps : Array Value} (hs : gSlot ops j = some d) : yielded ops tmps j = match tmps[d]? with | some (.bool b) => some b | _ => none := by
  unfold yielded gSlot at *
  rw [hs]
  rfl
def Hid (st st' : St) : Prop := ∀ t : Nat, st.fr[t]? = some .any → st'.fr[t]? = some .any
theorem know_hid {st : St} {d : Nat} {av : Av} {b : Bool} (h : st.fr[d]? = some (.one (.v (.bool b)))) (c : Bool) : Hid st (know st d c) := fun t ht => by
  simp only [know, List.getElem?_set]
  by_cases e : d = t
  · subst e; rw [h] at ht; cases ht
  · rw [if_neg e]; exact ht
theorem guarded_hid {α : Type} {sure : Bool} {yes no : St → T α} {Q : α → Prop} (hS : Sat w0 φ σ0 σ st a w) (h : (guarded sure ops o st yes no).wp Q) :
    (Region.wanted o (yielded ops a.tmps) = true ∧ ∃ st', Sat w0 φ σ0 σ st' a w ∧ (yes st').wp Q ∧ Hid st st') ∨ (Region.wanted o (yielded ops a.tmps) = false ∧ ∃ st', Sat w0 φ σ0 σ st' a w ∧ (no st').wp Q ∧ Hid st st') := by
  unfold guarded at h
  split at h
  · rename_i hg
    exact .inl ⟨by simp [Region.wanted, hg], st, hS, h, fun _ h => h⟩
  · rename_i j want hg
    split at h
    · rename_i d hs
      have hwant : Region.wanted o (yielded ops a.tmps) = (yielded ops a.tmps j == some want) := by simp [Region.wanted, hg]
      have hy := yielded_slot (tmps := a.tmps) hs
      split at h
      · rename_i b hfr
        obtain ⟨u, hu, hav⟩ := tmps_at hS.fr hfr
        rw [val_of hav rfl] at hu
        rw [hu] at hy
        rw [hwant, hy]
        rcases bsel_wp h with ⟨e, h1⟩ | ⟨e, h1⟩
        · exact .inl ⟨by simp [e], st, hS, h1, fun _ h => h⟩
        · exact .inr ⟨by simp [e], st, hS, h1, fun _ h => h⟩
      · rename_i b hfr
        obtain ⟨u, hu, hav⟩ := tmps_at hS.fr hfr
        rw [val_of hav rfl] at hu
        rw [hu] at hy
        rw [hwant, hy]
        have hk : Sat w0 φ σ0 σ (know st d b) a w := ⟨know_ok hS.fr hfr, hS.mem, hS.ext, hS.keep, hS.df⟩
        split at h
        · rename_i hsw
          obtain ⟨rfl, h⟩ := h
          obtain rfl : want = true := by cases want <;> simp at hsw ⊢
          exact .inl ⟨by simp, _, hk, h, know_hid (av := .any) hfr _⟩
        cases b with
        | true =>
          rcases bsel_wp (h.1 rfl) with ⟨e, h1⟩ | ⟨e, h1⟩
          · exact .inl ⟨by simp [← e], _, hk, h1, know_hid (av := .any) hfr _⟩
          · exact .inr ⟨by cases want <;> simp at e ⊢, _, hk, h1, know_hid (av := .any) hfr _⟩
        | false =>
          rcases bsel_wp (h.2 rfl) with ⟨e, h1⟩ | ⟨e, h1⟩
          · exact .inl ⟨by simp [← e], _, hk, h1, know_hid (av := .any) hfr _⟩
          · exact .inr ⟨by cases want <;> simp at e ⊢, _, hk, h1, know_hid (av := .any) hfr _⟩
      · rename_i hfr
        obtain ⟨u, hu, hav⟩ := tmps_at hS.fr hfr
        cases hav
        rw [hu] at hy
        rw [hwant, hy]
        exact .inr ⟨by simp [undef], st, hS, h, fun _ h => h⟩
      · exact h.elim
    · exact h.elim

theorem guarded_ok {α : Type} {sure : Bool} {yes no : St → T α} {Q : α → Prop} (hS : Sat w0 φ σ0 σ st a w) (h : (guarded sure ops o st yes no).wp Q) :
    (Region.wanted o (yielded ops a.tmps) = true ∧ ∃ st', Sat w0 φ σ0 σ st' a w ∧ (yes st').wp Q) ∨ (Region.wanted o (yielded ops a.tmps) = false ∧ ∃ st', Sat w0 φ σ0 σ st' a w ∧ (no st').wp Q) :=
  (guarded_hid hS h).imp (fun ⟨h1, st', h2, h3, _⟩ => ⟨h1, st', h2, h3⟩) (fun ⟨h1, st', h2, h3, _⟩ => ⟨h1, st', h2, h3⟩)

theorem put_defers (a : Act) (d : Option Tmp) (v : Value) : (a.put d v).defers = a.defers := by cases d <;> rfl

theorem Sat.next (hS : Sat w0 φ σ0 σ st a w) {Q : Ef → Prop} {d : Option Tmp} {a' : Act} {w' : World} (h : Post w φ σ a d Q a' w') :
    ∃ σ' e, Q e ∧ Sat w0 φ σ0 σ' ⟨putFr st.fr d e.av, e.mem⟩ a' w' ∧ Ext w σ σ' ∧ Keep w σ w' ∧ (∀ i b : Nat, σ[i]? = some b → i ∉ e.wr → w'.heap[b]? = w.heap[b]?) := by
  obtain ⟨σ', e, v, h1, h2, h3, h4, h5, h6, rfl⟩ := h
  exact ⟨σ', e, h1, ⟨(hS.fr.mono (h3.ro h2) (fun i b hi => h2.get hi)).put h6, h5, hS.ext.trans hS.keep.size h2, hS.keep.trans hS.ext h3, by rw [put_defers]; exact hS.df⟩, h2, h3, h4⟩
theorem Sat.skip (hS : Sat w0 φ σ0 σ st a w) (d : Option Tmp) : Sat w0 φ σ0 σ ⟨putFr st.fr d .nope, st.mem⟩ (a.put d undef) w :=
  ⟨hS.fr.put .nope, hS.mem, hS.ext, hS.keep, by rw [put_defers]; exact hS.df⟩
theorem Sat.tell (hS : Sat w0 φ σ0 σ st a w) (d : Option Tmp) {av : Av} {v : Value} (h : AvIs w (Ro w φ σ) σ av v) : Sat w0 φ σ0 σ ⟨putFr st.fr d av, st.mem⟩ (a.put d v) w :=
  ⟨hS.fr.put h, hS.mem, hS.ext, hS.keep, by rw [put_defers]; exact hS.df⟩
end

/-! ### a plain region -/
def runOps {P : Program} (E : Env P) (ops : Array Oper) : List Oper → St → T St
  | [], st => .ret st
  | o :: r, st => guarded (E.sure 0) ops o st (fun st => (aE E st.fr st.mem o).bind fun e => runOps E ops r ⟨putFr st.fr o.dst e.av, e.mem⟩) (fun st => runOps E ops r ⟨putFr st.fr o.dst .nope, st.mem⟩)

section
variable {P : Program} {E : Env P} {w0 : World} {φ σ0 : List Nat} {ops : Array Oper} {Q : St → Prop} {X : Exit → Act → World → Prop}
theorem runOps_ok (hX : ∀ st σ a w, Q st → Sat w0 φ σ0 σ st a w → X .normal a w) :
    ∀ (l : List Oper) (st : St) (σ : List Nat) (a : Act) (w : World), Sat w0 φ σ0 σ st a w → (runOps E ops l st).wp Q → wpList P ops X l a w
  | [], st, σ, a, w, hS, h => hX st σ a w h hS
  | o :: r, st, σ, a, w, hS, h => by
    rcases guarded_ok hS h with ⟨hw, st', hS', h'⟩ | ⟨hw, st', hS', h'⟩
    · refine Pq.wpL_run hw fun K hK => ?_
      rw [T.wp_bind] at h'
      refine aE_ok hS'.mem hS'.fr h' fun a' w' hp => hK _ _ ?_
      obtain ⟨σ', e, hq, hS2, _⟩ := hS'.next hp
      exact runOps_ok hX r _ σ' a' w' hS2 hq
    · exact Pq.wpL_skip hw (runOps_ok hX r _ σ _ w (hS'.skip o.dst) h')
end

/-! ### a region that draws its order -/
def steady : Op → Bool
  | .move _ | .assign _ | .pick .. | .extract .. | .field .. | .load .. | .fieldAddr .. | .nilCheck _ | .indexAddr .. | .index .. | .slice .. | .binOp .. | .unOp .. | .convert .. | .build .. => true
  | .call { callee := .builtin .len, .. } => true
  | _ => false
def baseOf (ops : List Oper) (fr : List Av) : Nat → Operand → Option Nat
  | n + 1, .tmp t => match ops.find? fun o => o.dst == some t with
    | some o => match o.op with
      | .fieldAddr _ x _ | .nilCheck x | .move x | .indexAddr _ x _ => baseOf ops fr n x
      | _ => none
    | none => match fr[t]? with
      | some (.one (.p i _)) => some i
      | some (.one (.os i _ _)) => some i
      | _ => none
  | _, _ => none
def writes {P : Program} (E : Env P) (ops : List Oper) (fr : List Av) : List Nat :=
  ops.flatMap fun o => match o.op with
    | .store _ x _ => (baseOf ops fr ops.length x).toList
    | .call { callee := .value (.func f), args := ars, .. } => match E.con.find? fun c => c.f == f with
      | some c => c.pos.filterMap fun k => (ars[k]?).bind fun x => baseOf ops fr ops.length x
      | none => []
    | _ => []
def loadsOf (ops : List Oper) (fr : List Av) (W : List Nat) (o : Oper) : Bool :=
  match o.op with
  | .load _ x => match baseOf ops fr ops.length x with
    | some i => W.contains i
    | none => false
  | _ => false
def branch {α : Type} (f : Nat → T α) : List Nat → T α
  | [] => .fail
  | [i] => f i
  | i :: r => .and (f i) (branch f r)
theorem branch_wp {α : Type} {f : Nat → T α} {Q : α → Prop} : ∀ {rs : List Nat}, (branch f rs).wp Q → ∀ i ∈ rs, (f i).wp Q
  | [], h, i, hi => by cases hi
  | [j], h, i, hi => by rw [List.mem_singleton] at hi; subst hi; exact h
  | j :: k :: r, h, i, hi => by
    rcases List.mem_cons.1 hi with rfl | hi
    · exact h.1
    · exact branch_wp (rs := k :: r) h.2 i hi
def early {P : Program} (E : Env P) (ops : Array Oper) (n i : Nat) : Bool := match ops[i]? with
  | some o => match o.op with
    | .alloc t => match o.guard, o.dst with
      | none, some d => decide (d < n) && o.after.all (fun e => !Region.binds .any e) && (E.zero.any fun z => z.ty == t) && (List.range ops.size).all fun j => j == i || ((ops[j]?).bind (·.dst)) != some d
      | _, _ => false
    | _ => false
  | none => false
structure Early {P : Program} (E : Env P) (ops : Array Oper) (n i : Nat) (d : Tmp) (t : TypeId) (z : Zero P) (o : Oper) : Prop where
  at_ : ops[i]? = some o
  op : o.op = .alloc t
  guard : o.guard = none
  dst : o.dst = some d
  lt : d < n
  after : ∀ e ∈ o.after, Region.binds .any e = false
  zero : E.zero.find? (fun z => z.ty == t) = some z
  own : ∀ (j : Nat) (p : Oper), ops[j]? = some p → j ≠ i → p.dst ≠ some d
theorem early_spec {P : Program} {E : Env P} {ops : Array Oper} {n i : Nat} (h : early E ops n i = true) : ∃ d t z o, Early E ops n i d t z o := by
  unfold early at h
  split at h
  · rename_i o ho
    split at h
    · rename_i t hop
      split at h
      · rename_i d hg hd
        simp only [Bool.and_eq_true, decide_eq_true_eq] at h
        obtain ⟨⟨⟨h1, h2⟩, h3⟩, h4⟩ := h
        have : (E.zero.find? fun z => z.ty == t).isSome = true := by
          rw [List.find?_isSome]
          obtain ⟨z, hz, e⟩ := List.any_eq_true.1 h3
          exact ⟨z, hz, e⟩
        obtain ⟨z, hz⟩ := Option.isSome_iff_exists.1 this
        refine ⟨d, t, z, o, ho, hop, hg, hd, h1, fun e he => ?_, hz, fun j p hj hne hpd => ?_⟩
        · have := Array.all_eq_true_iff_forall_mem.1 h2 e he
          simpa using this
        · have := List.all_eq_true.1 h4 j (List.mem_range.2 (Array.getElem?_eq_some_iff.1 hj).1)
          simp [hne, hj, hpd] at this
      · cases h
    · cases h
  · cases h
def later (ops : Array Oper) (ps : List Nat) (listed : Array Bool) : List Nat :=
  (List.range ops.size).filter fun j => !listed.getD j true && !ps.contains j && match ops[j]? with
    | some o => o.after.all fun e => !Region.binds .any e || listed.getD e.on false || ps.contains e.on
    | none => false
def waits (ops : Array Oper) (i j : Nat) : Bool := match ops[j]? with
  | some o => o.after.any fun e => Region.binds .any e && e.on == i
  | none => true
def runAny {P : Program} (E : Env P) (ops : Array Oper) (sd ok : Nat → Bool) (ps : List Nat) : Nat → Array Bool → St → T St
  | 0, listed, st => match Region.ready .any ops listed with
    | [] => .ret st
    | _ => .fail
  | n + 1, listed, st =>
    match (Region.ready .any ops listed).find? fun i => sd i && !ps.contains i && Region.free .any ops listed i with
    | some i => match ops[i]? with
      | none => .fail
      | some o => guarded (E.sure 0) ops o st (fun st => (aS P E.zero ok st.mem st.fr o).bind fun av => runAny E ops sd ok ps n (listed.setIfInBounds i true) ⟨putFr st.fr o.dst av, st.mem⟩)
          (fun st => runAny E ops sd ok ps n (listed.setIfInBounds i true) ⟨putFr st.fr o.dst .nope, st.mem⟩)
    | none => match (Region.ready .any ops listed).filter fun i => !ps.contains i with
      | [] => match Region.ready .any ops listed with
        | [] => .ret st
        | i :: _ => match (later ops ps listed).all (waits ops i), ops[i]? with
          | true, some o => match o.op with
            | .alloc t => optT (E.zero.find? fun z => z.ty == t) fun z => runAny E ops sd ok ps n (listed.setIfInBounds i true) ⟨putFr st.fr o.dst (.one (.p st.mem.length 0)), st.mem ++ [(t, z.cs)]⟩
            | _ => .fail
          | _, _ => .fail
      | r :: rs => match (later ops ps listed).all fun j => (r :: rs).contains j with
        | false => .fail
        | true => branch (fun i => match ops[i]? with
          | none => .fail
          | some o => guarded (E.sure 0) ops o st
            (fun st => (aE E st.fr st.mem o).bind fun e => match e.wr.all fun i => !ok i with
              | true => runAny E ops sd ok ps n (listed.setIfInBounds i true) ⟨putFr st.fr o.dst e.av, e.mem⟩
              | false => .fail)
            (fun st => runAny E ops sd ok ps n (listed.setIfInBounds i true) ⟨putFr st.fr o.dst .nope, st.mem⟩)) (r :: rs)
def hide (ops : Array Oper) : List Nat → List Av → List Av
  | [], fr => fr
  | i :: r, fr => hide ops r (putFr fr ((ops[i]?).bind (·.dst)) .any)
def reaches {P : Program} (E : Env P) (o : Oper) : Bool := match o.op with
  | .call { callee := .builtin .append, .. } => true
  | .call { callee := .value (.func f), .. } => match E.con.find? fun c => c.f == f with
    | some c => !c.pos.isEmpty
    | none => false
  | _ => false
def rowsIn (m : Mem) : List Nat := (List.range m.length).filter fun i => match m[i]? with
  | some (_, [.row _ _ _]) => true
  | _ => false
def runDraw {P : Program} (E : Env P) (ops : Array Oper) (st : St) : T St :=
  let W := writes E ops.toList st.fr ++ (match ops.toList.any (reaches E) with
    | true => rowsIn st.mem
    | false => [])
  let ps := (List.range ops.size).filter (early E ops st.fr.length)
  match Region.noSelect ops with
  | true => runAny E ops (fun i => match ops[i]? with | some o => steady o.op && !loadsOf ops.toList st.fr W o | none => false) (fun i => decide (i < st.mem.length) && !W.contains i) ps ops.size (Array.replicate ops.size false) ⟨hide ops ps st.fr, st.mem⟩
  | false => .fail

section
variable {P : Program} {E : Env P} {w0 : World} {φ σ0 : List Nat} {ops : Array Oper} {Q : St → Prop} {X : Exit → Act → World → Prop}

theorem anyH_mono {S S' : World → Prop} (h : ∀ x, S' x → S x) : ∀ (n : Nat) (listed : Array Bool) (a : Act) (w : World), wpAnyH P .any ops X S' n listed a w → wpAnyH P .any ops X S n listed a w
  | 0, _, _, _, hh => hh
  | n + 1, _, _, _, hh => ⟨hh.1, fun i hi => wpOp_mono (fun a' w' h' => ⟨h _ h'.1, anyH_mono h n _ a' w' h'.2⟩) (hh.2 i hi)⟩

theorem FrOk.tell {w : World} {R : Nat → Prop} {σ : List Nat} {fr : List Av} {a : Act} (hf : FrOk w R σ fr a) {d : Nat} {av : Av} (h : d < fr.length → AvIs w R σ av (a.tmps.getD d undef)) : FrOk w R σ (fr.set d av) a := by
  refine ⟨by simp [hf.len], fun t b ht => ?_⟩
  rw [List.getElem?_set] at ht
  by_cases e : d = t
  · subst e
    rw [if_pos rfl] at ht
    split at ht
    · rename_i hlt; cases ht; exact h hlt
    · cases ht
  · rw [if_neg e] at ht; exact hf.at_ t b ht

theorem hide_ok {w : World} {R : Nat → Prop} {σ : List Nat} {a : Act} : ∀ (ps : List Nat) (fr : List Av), FrOk w R σ fr a → FrOk w R σ (hide ops ps fr) a
  | [], _, h => h
  | i :: r, fr, h => by
    rw [hide]
    refine hide_ok r _ ?_
    cases (ops[i]?).bind (·.dst) with
    | none => exact h
    | some d => exact h.tell fun _ => .any
theorem hide_keep : ∀ (ps : List Nat) (fr : List Av) (d : Nat), fr[d]? = some .any → (hide ops ps fr)[d]? = some .any
  | [], _, _, h => h
  | i :: r, fr, d, h => by
    rw [hide]
    refine hide_keep r _ d ?_
    cases (ops[i]?).bind (·.dst) with
    | none => exact h
    | some t =>
      simp only [putFr, List.getElem?_set]
      by_cases e : t = d
      · subst e; rw [if_pos rfl, if_pos (List.getElem?_eq_some_iff.1 h).1]
      · rw [if_neg e]; exact h
theorem hide_at {i d : Nat} {o : Oper} (ho : ops[i]? = some o) (hd : o.dst = some d) : ∀ (ps : List Nat) (fr : List Av), i ∈ ps → d < fr.length → (hide ops ps fr)[d]? = some .any := by
  intro ps
  induction ps with
  | nil => intro fr hi; cases hi
  | cons j r ih =>
    intro fr hi hlt
    rw [hide]
    rcases List.mem_cons.1 hi with rfl | hi
    · refine hide_keep r _ d ?_
      rw [ho, Option.bind_some, hd, putFr, List.getElem?_set, if_pos rfl, if_pos hlt]
    · refine ih _ hi ?_
      cases (ops[j]?).bind (·.dst) with
      | none => exact hlt
      | some s => rw [putFr, List.length_set]; exact hlt
structure Ahead (E : Env P) (ops : Array Oper) (N : Nat) (ps : List Nat) (lc lr : Array Bool) (A : List (Nat × Nat)) (w0 : World) (φ σ0 σ : List Nat) (st : St) (a : Act) (w : World) : Prop where
  sat : Sat w0 (φ ++ A.map (·.2)) σ0 σ st a w
  size : lc.size = lr.size
  lst : ∀ i : Nat, lr[i]? = some true ↔ lc[i]? = some true ∨ i ∈ A.map (·.1)
  un : ∀ i b : Nat, (i, b) ∈ A → i ∈ ps ∧ lc[i]? = some false
  hid : ∀ i ∈ ps, lc[i]? = some false → ∀ d t z o, Early E ops N i d t z o → st.fr[d]? = some .any
  nd : (A.map (·.1)).Nodup
  bn : (A.map (·.2)).Nodup
  blk : ∀ i b : Nat, (i, b) ∈ A → b ∉ σ ∧ w0.heap.size ≤ b ∧ ∃ d t z o, Early E ops N i d t z o ∧ w.heap[b]? = some (.cells z.us.toArray t (0, 0)) ∧ a.tmps.getD d undef = .pointer (some ⟨b, 0, none⟩)

theorem off_iff {l : Array Bool} {i : Nat} : l.getD i true = false ↔ l[i]? = some false := by
  rw [Array.getD_eq_getD_getElem?]
  cases l[i]? with
  | none => simp
  | some b => simp
theorem on_iff {l : Array Bool} {i : Nat} : l.getD i false = true ↔ l[i]? = some true := by
  rw [Array.getD_eq_getD_getElem?]
  cases l[i]? with
  | none => simp
  | some b => simp

section
variable {N : Nat} {ps : List Nat} {lc lr : Array Bool} {A : List (Nat × Nat)} {σ : List Nat} {st : St} {a : Act} {w : World}
theorem Ahead.off (h : Ahead E ops N ps lc lr A w0 φ σ0 σ st a w) {i : Nat} : lr[i]? = some false ↔ lc[i]? = some false ∧ i ∉ A.map (·.1) := by
  have hl := h.lst i
  have hs := h.size
  by_cases hi : i < lr.size
  · have hi' : i < lc.size := hs ▸ hi
    rw [Array.getElem?_eq_getElem hi, Array.getElem?_eq_getElem hi'] at *
    cases hr : lr[i] <;> cases hc : lc[i] <;> simp [hr, hc] at hl ⊢ <;> first | exact hl | simpa using hl
  · simp only [Array.getElem?_eq_none (Nat.le_of_not_lt hi), Array.getElem?_eq_none (Nat.le_of_not_lt (hs ▸ hi))]
    simp
theorem Ahead.ready (h : Ahead E ops N ps lc lr A w0 φ σ0 σ st a w) {i : Nat} (hi : i ∈ Region.ready .any ops lc) (hn : i ∉ A.map (·.1)) : i ∈ Region.ready .any ops lr := by
  rw [mem_ready] at *
  obtain ⟨h1, o, ho, h2⟩ := hi
  exact ⟨off_iff.2 (h.off.2 ⟨off_iff.1 h1, hn⟩), o, ho, fun e he hb => on_iff.2 ((h.lst _).2 (.inl (on_iff.1 (h2 e he hb))))⟩
theorem Ahead.free (h : Ahead E ops N ps lc lr A w0 φ σ0 σ st a w) {i : Nat} (hi : Region.free .any ops lc i = true) : Region.free .any ops lr i = true := by
  unfold Region.free at *
  split at hi
  · cases hi
  · rename_i o ho
    rw [List.all_eq_true] at *
    intro j hj
    have := hi j hj
    simp only [Bool.or_eq_true] at this ⊢
    refine this.imp (Or.imp id fun h0 => ?_) id
    by_cases hf : lr.getD j true = true
    · exact hf
    · exfalso
      have h1 := (h.off.1 (off_iff.1 (by simpa using hf))).1
      rw [← off_iff] at h1
      rw [h1] at h0; cases h0
theorem Ahead.later (h : Ahead E ops N ps lc lr A w0 φ σ0 σ st a w) {j : Nat} (hj : j ∈ Region.ready .any ops lr) (hp : j ∉ ps) : j ∈ later ops ps lc := by
  rw [mem_ready] at hj
  obtain ⟨h1, o, ho, h2⟩ := hj
  unfold Ax.later
  rw [List.mem_filter]
  refine ⟨List.mem_range.2 (Array.getElem?_eq_some_iff.1 ho).1, ?_⟩
  have h3 := off_iff.2 (h.off.1 (off_iff.1 h1)).1
  simp only [h3, ho, Bool.not_false, Bool.true_and, Bool.and_eq_true]
  refine ⟨by simpa using hp, Array.all_eq_true_iff_forall_mem.2 fun e he => ?_⟩
  cases hb : Region.binds .any e with
  | false => simp
  | true =>
    rcases (h.lst _).1 (on_iff.1 (h2 e he hb)) with h4 | h4
    · simp [on_iff.2 h4]
    · obtain ⟨⟨i, b⟩, hi, e1⟩ := List.mem_map.1 h4
      have := (h.un i b hi).1
      simp only at e1
      rw [← e1]
      simp [this]
theorem set_on {l : Array Bool} {i k : Nat} (hi : i < l.size) : (l.setIfInBounds i true)[k]? = some true ↔ l[k]? = some true ∨ k = i := by
  by_cases e : i = k
  · subst e; simp [hi]
  · rw [Array.getElem?_setIfInBounds_ne e]; simp [Ne.symm e]
theorem set_off {l : Array Bool} {i k : Nat} : (l.setIfInBounds i true)[k]? = some false ↔ l[k]? = some false ∧ k ≠ i := by
  by_cases e : i = k
  · subst e
    by_cases hi : i < l.size
    · simp [hi]
    · rw [Array.getElem?_eq_none (by simpa using hi)]; simp
  · rw [Array.getElem?_setIfInBounds_ne e]; simp [Ne.symm e]
theorem lt_of_off {l : Array Bool} {i : Nat} {b : Bool} (h : l[i]? = some b) : i < l.size := (Array.getElem?_eq_some_iff.1 h).1
theorem Ahead.step (h : Ahead E ops N ps lc lr A w0 φ σ0 σ st a w) {st0 : St} {i : Nat} {o : Oper} {av : Av} {v : Value} {m' : Mem} {σ' : List Nat} {w' : World} (hh : Hid st st0) (ho : ops[i]? = some o) (hi : i ∉ ps) (hl : lr[i]? = some false)
    (hS : Sat w0 (φ ++ A.map (·.2)) σ0 σ' ⟨putFr st0.fr o.dst av, m'⟩ (a.put o.dst v) w') (he : Ext w σ σ') (hk : Keep w σ w') :
    Ahead E ops N ps (lc.setIfInBounds i true) (lr.setIfInBounds i true) A w0 φ σ0 σ' ⟨putFr st0.fr o.dst av, m'⟩ (a.put o.dst v) w' := by
  have hne : ∀ j b, (j, b) ∈ A → j ≠ i := fun j b hj e => hi (e ▸ (h.un j b hj).1)
  refine ⟨hS, by simp [h.size], fun k => ?_, fun j b hj => ⟨(h.un j b hj).1, set_off.2 ⟨(h.un j b hj).2, hne j b hj⟩⟩, fun j hj hf d t z p hE => ?_, h.nd, h.bn, fun j b hj => ?_⟩
  · rw [set_on (lt_of_off hl), set_on (h.size ▸ lt_of_off hl), h.lst k]
    constructor
    · rintro ((h1 | h1) | h1)
      · exact .inl (.inl h1)
      · exact .inr h1
      · exact .inl (.inr h1)
    · rintro ((h1 | h1) | h1)
      · exact .inl (.inl h1)
      · exact .inr h1
      · exact .inl (.inr h1)
  · obtain ⟨h1, h2⟩ := set_off.1 hf
    have h3 := hh d (h.hid j hj h1 d t z p hE)
    have h4 := hE.own i o ho (Ne.symm h2)
    cases hd : o.dst with
    | none => simpa [putFr, hd] using h3
    | some s =>
      have : s ≠ d := fun e => h4 (by rw [hd, e])
      simp only [putFr, List.getElem?_set, if_neg this]
      exact h3
  · obtain ⟨h1, h2, d, t, z, p, hE, h3, h4⟩ := h.blk j b hj
    have hb : b < w.heap.size := h.sat.mem.fo b (List.mem_append.2 (.inr (List.mem_map.2 ⟨_, hj, rfl⟩)))
    refine ⟨he.not_mem hb h1, h2, d, t, z, p, hE, (hk.block b hb h1).trans h3, ?_⟩
    have h5 := hE.own i o ho (Ne.symm (hne j b hj))
    cases hd : o.dst with
    | none => simpa [Act.put, hd] using h4
    | some s =>
      have : s ≠ d := fun e => h5 (by rw [hd, e])
      have e2 : (a.put (some s) v).tmps.getD d undef = a.tmps.getD d undef := by
        simp [Act.put, Array.getElem?_setIfInBounds_ne this]
      rw [e2]; exact h4
theorem Ahead.early (h : Ahead E ops N ps lc lr A w0 φ σ0 σ st a w) {i : Nat} {o : Oper} {d : Tmp} {t : TypeId} {z : Zero P} (hE : Early E ops N i d t z o) (hi : i ∈ ps) (hl : lr[i]? = some false) (hN : st.fr.length = N) :
    Ahead E ops N ps lc (lr.setIfInBounds i true) (A ++ [(i, w.heap.size)]) w0 φ σ0 σ st (a.put (some d) (.pointer (some ⟨w.heap.size, 0, none⟩))) (w.alloc (.cells z.us.toArray t)) := by
  obtain ⟨hc, hn⟩ := h.off.1 hl
  have hany := h.hid i hi hc d t z o hE
  have hlen := h.sat.fr.len
  have hk := keep_alloc w σ (.cells z.us.toArray t)
  have hold : ∀ b : Nat, b < w.heap.size → (w.alloc (.cells z.us.toArray t)).heap[b]? = w.heap[b]? := fun b hb => Below.heap_alloc w _ b hb
  have hB : ∀ j b, (j, b) ∈ A → b < w.heap.size := fun j b hj => h.sat.mem.fo b (List.mem_append.2 (.inr (List.mem_map.2 ⟨_, hj, rfl⟩)))
  have hro : ∀ b, Ro w (φ ++ A.map (·.2)) σ b → Ro (w.alloc (.cells z.us.toArray t)) (φ ++ (A ++ [(i, w.heap.size)]).map (·.2)) σ b ∧ (w.alloc (.cells z.us.toArray t)).heap[b]? = w.heap[b]? := fun b hb => by
    refine ⟨⟨Nat.lt_of_lt_of_le hb.1 hk.size, fun hm => ?_, hb.2.2⟩, hold b hb.1⟩
    rw [List.map_append, ← List.append_assoc, List.mem_append] at hm
    rcases hm with hm | hm
    · exact hb.2.1 hm
    · have : b = w.heap.size := by simpa using hm
      have := hb.1; omega
  have hid : putFr st.fr (some d) .any = st.fr := by
    simp only [putFr]
    apply List.ext_getElem?
    intro k
    rw [List.getElem?_set]
    by_cases e : d = k
    · subst e; rw [if_pos rfl, if_pos (List.getElem?_eq_some_iff.1 hany).1]; exact hany.symm
    · rw [if_neg e]
  refine ⟨⟨?_, ⟨h.sat.mem.len, h.sat.mem.nodup, fun b hb => ?_, h.sat.mem.gl.mono hro, fun k t' cs b hk1 hk2 => ?_⟩, h.sat.ext, h.sat.keep.trans h.sat.ext hk, by rw [put_defers]; exact h.sat.df⟩, by simp [h.size], fun k => ?_, fun j b hj => ?_, h.hid, ?_, ?_, fun j b hj => ?_⟩
  · have := (h.sat.fr.mono hro (fun _ _ h => h)).put (d := some d) (v := .pointer (some ⟨w.heap.size, 0, none⟩)) .any
    rw [hid] at this
    exact this
  · rw [List.map_append, ← List.append_assoc, List.mem_append] at hb
    rcases hb with hb | hb
    · exact Nat.lt_of_lt_of_le (h.sat.mem.fo b hb) hk.size
    · have : b = w.heap.size := by simpa using hb
      subst this; simp
  · obtain ⟨us, h1, h2⟩ := h.sat.mem.blk k t' cs b hk1 hk2
    exact ⟨us, (hold b (Array.getElem?_eq_some_iff.1 h1).1).trans h1, h2.mono hro (fun _ _ h => h)⟩
  · rw [set_on (lt_of_off hl), h.lst k]
    simp only [List.map_append, List.map_cons, List.map_nil, List.mem_append, List.mem_singleton]
    exact or_assoc
  · rcases List.mem_append.1 hj with hj | hj
    · exact h.un j b hj
    · cases List.mem_singleton.1 hj
      exact ⟨hi, hc⟩
  · rw [List.map_append, List.nodup_append]
    exact ⟨h.nd, by simp, fun x hx y hy e => hn (by
      have : y = i := by simpa using hy
      rw [← this, ← e]; exact hx)⟩
  · rw [List.map_append, List.nodup_append]
    exact ⟨h.bn, by simp, fun x hx y hy e => by
      have : y = w.heap.size := by simpa using hy
      obtain ⟨⟨j, b⟩, hj, e1⟩ := List.mem_map.1 hx
      have := hB j b hj
      simp only at e1
      omega⟩
  · rcases List.mem_append.1 hj with hj' | hj'
    · obtain ⟨h1, h2, d', t', z', p, hE', h3, h4⟩ := h.blk j b hj'
      refine ⟨h1, h2, d', t', z', p, hE', (hold b (hB j b hj')).trans h3, ?_⟩
      have hne : i ≠ j := fun e => hn (e ▸ List.mem_map.2 ⟨_, hj', rfl⟩)
      have hdd : d ≠ d' := fun e => hE'.own i o hE.at_ hne (by rw [hE.dst, e])
      have e2 : (a.put (some d) (.pointer (some ⟨w.heap.size, 0, none⟩))).tmps.getD d' undef = a.tmps.getD d' undef := by
        simp [Act.put, Array.getElem?_setIfInBounds_ne hdd]
      rw [e2]; exact h4
    · cases List.mem_singleton.1 hj'
      refine ⟨fun hm => Nat.lt_irrefl _ (h.sat.mem.lt hm), h.sat.keep.size, d, t, z, o, hE, heap_alloc_new w _, ?_⟩
      have : d < a.tmps.size := Nat.lt_of_lt_of_eq hE.lt (hN.symm.trans hlen)
      simp [Act.put, this]
theorem Ahead.settle {A1 A2 : List (Nat × Nat)} {i b : Nat} (h : Ahead E ops N ps lc lr (A1 ++ (i, b) :: A2) w0 φ σ0 σ st a w) {o : Oper} {d : Tmp} {t : TypeId} {z : Zero P} (hE : Early E ops N i d t z o) :
    Ahead E ops N ps (lc.setIfInBounds i true) lr (A1 ++ A2) w0 φ σ0 (σ ++ [b]) ⟨putFr st.fr o.dst (.one (.p st.mem.length 0)), st.mem ++ [(t, z.cs)]⟩ a w ∧
    (∀ x, Ro w (φ ++ (A1 ++ (i, b) :: A2).map (·.2)) σ x → Ro w (φ ++ (A1 ++ A2).map (·.2)) (σ ++ [b]) x) := by
  have hm : (i, b) ∈ A1 ++ (i, b) :: A2 := by simp
  obtain ⟨hi, hc⟩ := h.un i b hm
  obtain ⟨hbσ, hbw, d', t', z', o', hE', hcell, hptr⟩ := h.blk i b hm
  obtain rfl : o = o' := Option.some.inj (hE.at_.symm.trans hE'.at_)
  obtain rfl : d = d' := Option.some.inj (hE.dst.symm.trans hE'.dst)
  obtain rfl : t = t' := Op.alloc.inj (hE.op.symm.trans hE'.op)
  obtain rfl : z = z' := Option.some.inj (hE.zero.symm.trans hE'.zero)
  have hro : ∀ x, Ro w (φ ++ (A1 ++ (i, b) :: A2).map (·.2)) σ x → Ro w (φ ++ (A1 ++ A2).map (·.2)) (σ ++ [b]) x := fun x hx => by
    simp only [Ro, List.map_append, List.map_cons, List.mem_append, List.mem_cons, List.mem_singleton, not_or] at hx ⊢
    exact ⟨hx.1, ⟨hx.2.1.1, hx.2.1.2.1, hx.2.1.2.2.2⟩, hx.2.2, hx.2.1.2.2.1, by simp⟩
  have hro' : ∀ x, Ro w (φ ++ (A1 ++ (i, b) :: A2).map (·.2)) σ x → Ro w (φ ++ (A1 ++ A2).map (·.2)) (σ ++ [b]) x ∧ w.heap[x]? = w.heap[x]? := fun x hx => ⟨hro x hx, rfl⟩
  have hg : ∀ k c : Nat, σ[k]? = some c → (σ ++ [b])[k]? = some c := fun k c hk => by
    rw [List.getElem?_append_left (List.getElem?_eq_some_iff.1 hk).1]; exact hk
  have hsub : ∀ p, p ∈ A1 ++ A2 → p ∈ A1 ++ (i, b) :: A2 := fun p hp => by
    rcases List.mem_append.1 hp with hp | hp
    · exact List.mem_append.2 (.inl hp)
    · exact List.mem_append.2 (.inr (List.mem_cons_of_mem _ hp))
  have hnd := h.nd
  have hbn := h.bn
  rw [List.map_append, List.map_cons] at hnd hbn
  have hni : i ∉ (A1 ++ A2).map (·.1) := by
    rw [List.map_append]
    rw [List.nodup_append, List.nodup_cons] at hnd
    intro hm
    rcases List.mem_append.1 hm with hm | hm
    · exact hnd.2.2 _ hm i (by simp) rfl
    · exact hnd.2.1.1 hm
  have hnb : b ∉ (A1 ++ A2).map (·.2) := by
    rw [List.map_append]
    rw [List.nodup_append, List.nodup_cons] at hbn
    intro hm
    rcases List.mem_append.1 hm with hm | hm
    · exact hbn.2.2 _ hm b (by simp) rfl
    · exact hbn.2.1.1 hm
  have hlenσ := h.sat.mem.len
  refine ⟨⟨⟨?_, ⟨by simp [hlenσ], ?_, fun c hc' => ?_, h.sat.mem.gl.mono hro', fun k t' cs c hk1 hk2 => ?_⟩, ?_, h.sat.keep, h.sat.df⟩, by simp [h.size], fun k => ?_, fun j c hj => ?_, fun j hj hf e t' z' p hP => ?_, ?_, ?_, fun j c hj => ?_⟩, hro⟩
  · rw [hE.dst]
    refine (h.sat.fr.mono hro' hg).tell fun _ => ?_
    rw [hptr]
    exact .one rfl (.p (by simp [hlenσ]) .nil)
  · rw [List.nodup_append]
    exact ⟨h.sat.mem.nodup, by simp, fun x hx y hy e => hbσ (by
      have : y = b := by simpa using hy
      rw [← this, ← e]; exact hx)⟩
  · refine h.sat.mem.fo c ?_
    rcases List.mem_append.1 hc' with h1 | h1
    · exact List.mem_append.2 (.inl h1)
    · obtain ⟨p, hp, e⟩ := List.mem_map.1 h1
      exact List.mem_append.2 (.inr (List.mem_map.2 ⟨p, hsub p hp, e⟩))
  · rcases Nat.lt_or_ge k st.mem.length with hlt | hge
    · rw [List.getElem?_append_left hlt] at hk1
      rw [List.getElem?_append_left (by rw [← hlenσ]; exact hlt)] at hk2
      obtain ⟨us, h1, h2⟩ := h.sat.mem.blk k t' cs c hk1 hk2
      exact ⟨us, h1, h2.mono hro' hg⟩
    · rw [List.getElem?_append_right hge] at hk1
      rw [List.getElem?_append_right (by rw [← hlenσ]; exact hge), ← hlenσ] at hk2
      rcases hk : k - st.mem.length with _ | q
      · rw [hk] at hk1 hk2
        cases hk1; cases hk2
        exact ⟨z.us, hcell, z.is _ _ _⟩
      · rw [hk] at hk1; simp at hk1
  · obtain ⟨τ, e, ht⟩ := h.sat.ext.pre
    refine ⟨τ ++ [b], by rw [e, List.append_assoc], fun x hx => ?_⟩
    rcases List.mem_append.1 hx with h1 | h1
    · exact ht x h1
    · rw [List.mem_singleton.1 h1]; exact hbw
  · rw [set_on (lt_of_off hc), h.lst k]
    simp only [List.map_append, List.map_cons, List.mem_append, List.mem_cons]
    constructor
    · rintro (h1 | h1 | h1 | h1)
      · exact .inl (.inl h1)
      · exact .inr (.inl h1)
      · exact .inl (.inr h1)
      · exact .inr (.inr h1)
    · rintro ((h1 | h1) | h1 | h1)
      · exact .inl h1
      · exact .inr (.inr (.inl h1))
      · exact .inr (.inl h1)
      · exact .inr (.inr (.inr h1))
  · have h1 := h.un j c (hsub _ hj)
    exact ⟨h1.1, set_off.2 ⟨h1.2, fun e => hni (e ▸ List.mem_map.2 ⟨_, hj, rfl⟩)⟩⟩
  · obtain ⟨h1, h2⟩ := set_off.1 hf
    have h3 := h.hid j hj h1 e t' z' p hP
    have h4 : d ≠ e := fun x => hP.own i o hE.at_ (Ne.symm h2) (by rw [hE.dst, x])
    simp only [hE.dst, putFr, List.getElem?_set, if_neg h4]
    exact h3
  · rw [List.map_append]
    exact (List.nodup_append.2 ⟨(List.nodup_append.1 hnd).1, (List.nodup_cons.1 (List.nodup_append.1 hnd).2.1).2, fun x hx y hy => (List.nodup_append.1 hnd).2.2 x hx y (List.mem_cons_of_mem _ hy)⟩)
  · rw [List.map_append]
    exact (List.nodup_append.2 ⟨(List.nodup_append.1 hbn).1, (List.nodup_cons.1 (List.nodup_append.1 hbn).2.1).2, fun x hx y hy => (List.nodup_append.1 hbn).2.2 x hx y (List.mem_cons_of_mem _ hy)⟩)
  · obtain ⟨h1, h2, h3⟩ := h.blk j c (hsub _ hj)
    refine ⟨fun hmem => ?_, h2, h3⟩
    rcases List.mem_append.1 hmem with h4 | h4
    · exact h1 h4
    · exact hnb (List.mem_singleton.1 h4 ▸ List.mem_map.2 ⟨_, hj, rfl⟩)
end

def left (ops : Array Oper) (l : Array Bool) : Nat := ((List.range ops.size).filter fun i => !l.getD i true).length
theorem left_set {l : Array Bool} {i m : Nat} (hi : i ∈ Region.ready .any ops l) (hm : left ops l ≤ m) : ∃ k, m = k + 1 ∧ left ops (l.setIfInBounds i true) ≤ k := by
  obtain ⟨h1, o, ho, _⟩ := mem_ready.1 hi
  have hlt := (Array.getElem?_eq_some_iff.1 ho).1
  have key : ∀ L : List Nat, L.Nodup → ((L.filter fun k => !(l.setIfInBounds i true).getD k true).length + (if i ∈ L then 1 else 0) = (L.filter fun k => !l.getD k true).length) := by
    intro L
    induction L with
    | nil => intro _; rfl
    | cons x L ih =>
      intro hn
      rw [List.nodup_cons] at hn
      have := ih hn.2
      by_cases e : x = i
      · subst e
        rw [if_neg hn.1] at this
        have h2 : (l.setIfInBounds x true).getD x true = true := by
          by_cases hx : x < l.size <;> simp [hx]
        rw [List.filter_cons, List.filter_cons, h2, h1]
        simp at this ⊢
        exact this
      · have h2 : (l.setIfInBounds i true).getD x true = l.getD x true := getD_set_ne true (Ne.symm e)
        have h3 : (if i ∈ x :: L then 1 else 0) = (if i ∈ L then 1 else 0) := by simp [List.mem_cons, Ne.symm e]
        rw [List.filter_cons, List.filter_cons, h2, h3]
        cases l.getD x true <;> simp only [Bool.not_true, Bool.not_false, if_true, if_false, Bool.false_eq_true, List.length_cons] <;> omega
  have := key (List.range ops.size) List.nodup_range
  rw [if_pos (List.mem_range.2 hlt)] at this
  unfold left at *
  exact ⟨m - 1, by omega, by omega⟩

theorem runAny_ok (hX : ∀ st σ a w, Q st → Sat w0 φ σ0 σ st a w → X .normal a w) (hs : Region.noSelect ops = true) (hP : ∀ c a d v w, X (.panic c) (Act.put a d v) w → X (.panic c) a w) (sd ok : Nat → Bool)
    (N : Nat) (ps : List Nat) (hps : ∀ i ∈ ps, ∃ d t z o, Early E ops N i d t z o) :
    ∀ (k n m : Nat) (lc lr : Array Bool) (A : List (Nat × Nat)) (st : St) (σ : List Nat) (a : Act) (w : World), n + m ≤ k → left ops lr ≤ m → a.tmps.size = N → Ahead E ops N ps lc lr A w0 φ σ0 σ st a w → (runAny E ops sd ok ps n lc st).wp Q →
      wpAnyH P .any ops X (Look w (Ro w (φ ++ A.map (·.2)) σ) σ ok) m lr a w := by
  have hsz : ∀ (a : Act) d v, (a.put d v).tmps.size = a.tmps.size := fun a d v => by cases d <;> simp [Act.put]
  -- an alloc the machine does ahead
  have ahead : ∀ {lc lr A st σ a w}, Ahead E ops N ps lc lr A w0 φ σ0 σ st a w → a.tmps.size = N → ∀ {j}, j ∈ Region.ready .any ops lr → j ∈ ps → ∀ {K : Act → World → Prop},
      (∀ a' w' A', a'.tmps.size = N → Ahead E ops N ps lc (lr.setIfInBounds j true) A' w0 φ σ0 σ st a' w' → Look w (Ro w (φ ++ A.map (·.2)) σ) σ ok w' ∧ (∀ x, Ro w (φ ++ A.map (·.2)) σ x → Ro w' (φ ++ A'.map (·.2)) σ x ∧ w'.heap[x]? = w.heap[x]?) ∧ (∀ i b : Nat, σ[i]? = some b → w'.heap[b]? = w.heap[b]?) → K a' w') → wpOp P ops X j K a w := by
    intro lc lr A st σ a w h hN j hj hp K hK
    obtain ⟨d, t, z, o, hE⟩ := hps j hp
    have hl := off_iff.1 (mem_ready.1 hj).1
    have h2 := h.early hE hp hl (h.sat.fr.len.trans hN)
    have hty : z.ty = t := by simpa using List.find?_some hE.zero
    have hold : ∀ b : Nat, b < w.heap.size → (w.alloc (.cells z.us.toArray t)).heap[b]? = w.heap[b]? := fun b hb => Below.heap_alloc w _ b hb
    have hown : ∀ i b : Nat, σ[i]? = some b → (w.alloc (.cells z.us.toArray t)).heap[b]? = w.heap[b]? := fun i b hb => hold b (h.sat.mem.lt (List.mem_of_getElem? hb))
    unfold wpOp
    simp only [hE.at_]
    rw [if_pos (by simp [Region.wanted, hE.guard])]
    refine .inl ?_
    unfold Oper.wp execOp
    subst hty
    simp only [hE.op, Sem.run_bind, run_alloc z, Result.andThen_ok]
    rw [← hE.dst] at h2
    refine hK _ _ _ (by rw [hsz]; exact hN) h2 ⟨⟨fun b hb => hold b hb.1, fun i b _ hb => hown i b hb⟩, fun x hx => ⟨⟨Nat.lt_of_lt_of_le hx.1 (keep_alloc w σ _).size, fun hm => ?_, hx.2.2⟩, hold x hx.1⟩, hown⟩
    rw [List.map_append, ← List.append_assoc, List.mem_append] at hm
    rcases hm with hm | hm
    · exact hx.2.1 hm
    · have : x = w.heap.size := by simpa using hm
      have := hx.1; omega
  -- all is done
  have done : ∀ {m lc lr A st σ a w}, Ahead E ops N ps lc lr A w0 φ σ0 σ st a w → Region.ready .any ops lc = [] → Q st → wpAnyH P .any ops X (Look w (Ro w (φ ++ A.map (·.2)) σ) σ ok) m lr a w := by
    intro m lc lr A st σ a w h hr hq
    have hA : A = [] := by
      cases A with
      | nil => rfl
      | cons p A =>
        exfalso
        obtain ⟨h1, h2⟩ := h.un p.1 p.2 (by simp)
        obtain ⟨d, t, z, o, hE⟩ := hps _ h1
        have : p.1 ∈ Region.ready .any ops lc := mem_ready.2 ⟨off_iff.2 h2, o, hE.at_, fun e he hb => by rw [hE.after e he] at hb; cases hb⟩
        rw [hr] at this; cases this
    subst hA
    refine wpAnyH_done ?_ (hX st σ a w hq (by simpa using h.sat)) _
    apply List.eq_nil_iff_forall_not_mem.2
    intro j hj
    have : j ∈ Region.ready .any ops lc := by
      rw [mem_ready] at hj ⊢
      obtain ⟨h1, o, ho, h2⟩ := hj
      refine ⟨off_iff.2 (h.off.1 (off_iff.1 h1)).1, o, ho, fun e he hb => ?_⟩
      have := (h.lst _).1 (on_iff.1 (h2 e he hb))
      simp only [List.map_nil, List.not_mem_nil, or_false] at this
      exact on_iff.2 this
    rw [hr] at this; cases this
  intro k
  induction k with
  | zero =>
    intro n m lc lr A st σ a w hk hleft hN hA h
    obtain rfl : n = 0 := by omega
    unfold runAny at h
    split at h
    · rename_i hr; exact done hA hr h
    · exact h.elim
  | succ k ih =>
    intro n m lc lr A st σ a w hk hleft hN hA h
    rcases n with _ | n
    · unfold runAny at h
      split at h
      · rename_i hr; exact done hA hr h
      · exact h.elim
    have hfull := h
    unfold runAny at h
    have noA : ∀ j, j ∉ ps → j ∉ A.map (·.1) := fun j hj hm => by
      obtain ⟨⟨i, b⟩, hi, e⟩ := List.mem_map.1 hm
      exact hj (e ▸ (hA.un i b hi).1)
    split at h
    · rename_i i hi
      have hB1 := List.find?_some hi
      have hB2 := List.mem_of_find?_eq_some hi
      simp only [Bool.and_eq_true] at hB1
      have hip : i ∉ ps := by simpa using hB1.1.2
      have hrdy := hA.ready hB2 (noA i hip)
      have hcon : (Region.ready .any ops lr).contains i = true := by simpa using hrdy
      obtain ⟨m, rfl, hleft'⟩ := left_set hrdy hleft
      have hl := off_iff.1 (mem_ready.1 hrdy).1
      split at h
      · exact h.elim
      · rename_i o ho
        rcases guarded_hid hA.sat h with ⟨hw, st', hS', h', hh⟩ | ⟨hw, st', hS', h', hh⟩
        · rw [T.wp_bind] at h'
          obtain ⟨av, v, hK, hav, hrun⟩ := aS_ok (m := st'.mem) (ok := ok) ⟨fun i hi => by rw [← hS'.mem.len]; exact hi, fun i t cs b _ h1 h2 => hS'.mem.blk i t cs b h1 h2⟩ hS'.fr h'
          exact wpAnyH_take ho hs (hA.free hB1.2) hcon (fun c a w => hP c a o.dst v w) (.inl ⟨hw, hrun⟩) (look_self _ _ _ _) (ih n m _ _ A _ σ _ w (by omega) hleft' (by rw [hsz]; exact hN) (hA.step hh ho hip hl (hS'.tell o.dst hav) (Ext.refl w σ) (Keep.refl w σ)) hK)
        · exact wpAnyH_take ho hs (hA.free hB1.2) hcon (fun c a w => hP c a o.dst undef w) (.inr ⟨hw, rfl⟩) (look_self _ _ _ _) (ih n m _ _ A _ σ _ w (by omega) hleft' (by rw [hsz]; exact hN) (hA.step hh ho hip hl (hS'.skip o.dst) (Ext.refl w σ) (Keep.refl w σ)) h')
    · split at h
      · rename_i hnone
        split at h
        · rename_i hr; exact done hA hr h
        · rename_i i rest hr
          have hi : i ∈ Region.ready .any ops lc := by rw [hr]; simp
          have hip : i ∈ ps := by
            by_cases e : i ∈ ps
            · exact e
            · exfalso
              have : i ∈ (Region.ready .any ops lc).filter fun i => !ps.contains i := List.mem_filter.2 ⟨hi, by simpa using e⟩
              rw [hnone] at this; cases this
          obtain ⟨d, t, z, o, hE⟩ := hps i hip
          split at h
          · rename_i o' hw ho
            obtain rfl : o = o' := Option.some.inj (hE.at_.symm.trans ho)
            simp only [hE.op] at h
            obtain ⟨z', hz, h⟩ := optT_wp h
            obtain rfl : z = z' := Option.some.inj (hE.zero.symm.trans hz)
            by_cases hiA : i ∈ A.map (·.1)
            · obtain ⟨⟨i', b⟩, hib, e⟩ := List.mem_map.1 hiA
              obtain rfl : i' = i := e
              obtain ⟨A1, A2, rfl⟩ := List.append_of_mem hib
              obtain ⟨h1, h2⟩ := hA.settle hE
              refine anyH_mono (fun x hx => ?_) _ _ _ _ (ih n m _ _ _ _ _ a w (by omega) hleft hN h1 h)
              exact ⟨fun c hc => hx.ro c (h2 c hc), fun q c hq hc => hx.own q c hq (by rw [List.getElem?_append_left (List.getElem?_eq_some_iff.1 hc).1]; exact hc)⟩
            · have hrdy := hA.ready hi hiA
              have hne : Region.ready .any ops lr ≠ [] := fun e => by rw [e] at hrdy; cases hrdy
              have hm : ∃ q, m = q + 1 := (left_set hrdy hleft).imp fun q hq => hq.1
              obtain ⟨m, rfl⟩ := hm
              refine wpAnyH_all rfl hne fun j hj => ?_
              have hjp : j ∈ ps := by
                by_cases e : j ∈ ps
                · exact e
                · exfalso
                  have h1 := List.all_eq_true.1 hw j (hA.later hj e)
                  obtain ⟨_, oj, hoj, h2⟩ := mem_ready.1 hj
                  unfold waits at h1
                  simp only [hoj] at h1
                  obtain ⟨x, hx, h3⟩ := Array.any_eq_true'.1 h1
                  simp only [Bool.and_eq_true, beq_iff_eq] at h3
                  have h4 := on_iff.1 (h2 x hx h3.1)
                  rw [h3.2] at h4
                  rcases (hA.lst i).1 h4 with h5 | h5
                  · have h6 := off_iff.1 (mem_ready.1 hi).1
                    rw [h5] at h6; cases h6
                  · exact hiA h5
              refine ahead hA hN hj hjp fun a' w' A' hN' hA' hlook => ⟨hlook.1, ?_⟩
              obtain ⟨m', e, hl'⟩ := left_set hj hleft
              obtain rfl : m' = m := by omega
              refine anyH_mono (fun x hx => ?_) _ _ _ _ (ih (n + 1) m' _ _ A' _ σ a' w' (by omega) hl' hN' hA' hfull)
              exact ⟨fun c hc => (hx.ro c (hlook.2.1 c hc).1).trans (hlook.2.1 c hc).2, fun q c hq hc => (hx.own q c hq hc).trans (hlook.2.2 q c hc)⟩
          · exact h.elim
      · rename_i r rs hrs
        split at h
        · exact h.elim
        · rename_i hlater
          have hr : r ∈ Region.ready .any ops lc ∧ r ∉ ps := by
            have : r ∈ (Region.ready .any ops lc).filter fun i => !ps.contains i := by rw [hrs]; simp
            rw [List.mem_filter] at this
            exact ⟨this.1, by simpa using this.2⟩
          have hrdy := hA.ready hr.1 (noA r hr.2)
          have hne : Region.ready .any ops lr ≠ [] := fun e => by rw [e] at hrdy; cases hrdy
          have hm : ∃ q, m = q + 1 := (left_set hrdy hleft).imp fun q hq => hq.1
          obtain ⟨m, rfl⟩ := hm
          refine wpAnyH_all rfl hne fun j hj => ?_
          obtain ⟨m', e, hl'⟩ := left_set hj hleft
          obtain rfl : m' = m := by omega
          by_cases hjp : j ∈ ps
          · refine ahead hA hN hj hjp fun a' w' A' hN' hA' hlook => ⟨hlook.1, ?_⟩
            refine anyH_mono (fun x hx => ?_) _ _ _ _ (ih (n + 1) m' _ _ A' _ σ a' w' (by omega) hl' hN' hA' hfull)
            exact ⟨fun c hc => (hx.ro c (hlook.2.1 c hc).1).trans (hlook.2.1 c hc).2, fun q c hq hc => (hx.own q c hq hc).trans (hlook.2.2 q c hc)⟩
          · have hjr : j ∈ r :: rs := by simpa using List.all_eq_true.1 hlater j (hA.later hj hjp)
            have h := branch_wp h j hjr
            have hl := off_iff.1 (mem_ready.1 hj).1
            unfold wpOp
            split at h
            · exact h.elim
            · rename_i o ho
              simp only [ho]
              rcases guarded_hid hA.sat h with ⟨hw, st', hS', h', hh⟩ | ⟨hw, st', hS', h', hh⟩
              · simp only [hw, if_true]
                rw [T.wp_bind] at h'
                refine .inl (aE_ok hS'.mem hS'.fr h' fun a' w' hp => ?_)
                have hput : ∃ v, a' = a.put o.dst v := by
                  obtain ⟨_, _, v, _, _, _, _, _, _, e⟩ := hp
                  exact ⟨v, e⟩
                obtain ⟨v, rfl⟩ := hput
                obtain ⟨σ', e, hq, hS2, hext, hkeep, hown⟩ := hS'.next hp
                split at hq
                · rename_i hwr
                  have hlook : Look w (Ro w (φ ++ A.map (·.2)) σ) σ ok w' := ⟨fun b hb => (hkeep.ro hext b hb).2, fun i b hi hb => hown i b hb (fun hm => by
                    have := List.all_eq_true.1 hwr i hm
                    simp [hi] at this)⟩
                  refine ⟨hlook, anyH_mono (fun x hx => ?_) _ _ _ _ (ih n m' _ _ A _ σ' _ w' (by omega) hl' (by rw [hsz]; exact hN) (hA.step hh ho hjp hl hS2 hext hkeep) hq)⟩
                  exact ⟨fun b hb => (hx.ro b (hkeep.ro hext b hb).1).trans (hlook.ro b hb), fun i b hi hb => (hx.own i b hi (hext.get hb)).trans (hlook.own i b hi hb)⟩
                · exact hq.elim
              · simp only [hw]
                exact ⟨look_self _ _ _ _, ih n m' _ _ A _ σ _ w (by omega) hl' (by rw [hsz]; exact hN) (hA.step hh ho hjp hl (hS'.skip o.dst) (Ext.refl w σ) (Keep.refl w σ)) h'⟩

theorem Sat.drew {st : St} {σ : List Nat} {a : Act} {w : World} (hS : Sat w0 φ σ0 σ st a w) : Sat w0 φ σ0 σ st a w.drew := by
  have hro : ∀ b, Ro w φ σ b → Ro w.drew φ σ b ∧ w.drew.heap[b]? = w.heap[b]? := fun b hb => ⟨hb, rfl⟩
  exact ⟨hS.fr.mono hro (fun _ _ h => h), hS.mem.stay (Keep.drew w σ) (Ext.refl w σ) rfl (fun _ _ _ => rfl), hS.ext, hS.keep.trans hS.ext (Keep.drew w σ), hS.df⟩

theorem runDraw_ok {id : Nat} (hm : P.follows .mixedOrders = true) (hX : ∀ st σ a w, Q st → Sat w0 φ σ0 σ st a w → X .normal a w)
    (hP : ∀ c a d v w, X (.panic c) (Act.put a d v) w → X (.panic c) a w) {st : St} {σ : List Nat} {a : Act} {w : World} (hS : Sat w0 φ σ0 σ st a w) (h : (runDraw E ops st).wp Q) : (Code.region id ops true).wp P X a w := by
  unfold runDraw at h
  simp only at h
  split at h
  · rename_i hc
    refine wp_region_held hm (runAny_ok (lc := Array.replicate ops.size false) (A := []) (σ := σ) hX hc hP _ _ st.fr.length _ (fun i hi => early_spec (List.mem_filter.1 hi).2) _ _ _ _ _ _ _ (Nat.le_refl _) (Nat.le_trans (List.length_filter_le _ _) (by simp)) hS.fr.len.symm ?_ h)
    have hd := hS.drew
    refine ⟨⟨hide_ok _ _ (by simpa using hd.fr), by simpa using hd.mem, hd.ext, hd.keep, hd.df⟩, rfl, fun i => by simp, fun i b hi => (by cases hi), fun i hi _ d t z o hE => hide_at hE.at_ hE.dst _ _ hi hE.lt, by simp, by simp, fun i b hi => (by cases hi)⟩
  · exact h.elim
end
end Ax
/-
States in normal form: so that the kernel reckons each part once.
-/
set_option linter.unusedSimpArgs false
set_option linter.unusedVariables false
namespace Ax
open Go Go.RowKit
def fNat {β : Type _} (n : Nat) (k : Nat → β) : β := match n with
  | 0 => k 0
  | m + 1 => k (m + 1)
theorem fNat_eq {β : Type _} (n : Nat) (k : Nat → β) : fNat n k = k n := by cases n <;> rfl
def fNats {β : Type _} : List Nat → (List Nat → β) → β
  | [], k => k []
  | n :: r, k => fNat n fun n => fNats r fun r => k (n :: r)
theorem fNats_eq {β : Type _} : ∀ (l : List Nat) (k : List Nat → β), fNats l k = k l
  | [], _ => rfl
  | n :: r, k => by rw [fNats, fNat_eq, fNats_eq r]
def fCk {β : Type _} (c : Ck) (k : Ck → β) : β := match c with
  | .p i off => fNat i fun i => fNat off fun off => k (.p i off)
  | .pe i off sz z => fNat i fun i => fNat off fun off => fNat sz fun sz => k (.pe i off sz z)
  | .os i n cap => fNat i fun i => k (.os i n cap)
  | .v x => k (.v x)
  | .kb b => k (.kb b)
  | .w x => k (.w x)
  | .ds c xs => k (.ds c xs)
  | .pr cs => k (.pr cs)
  | .row c xs cap => k (.row c xs cap)
  | .ni => k .ni
  | .any => k .any
theorem fCk_eq {β : Type _} (c : Ck) (k : Ck → β) : fCk c k = k c := by
  cases c <;> simp only [fCk, fNat_eq]
def fCks {β : Type _} : List Ck → (List Ck → β) → β
  | [], k => k []
  | c :: r, k => fCk c fun c => fCks r fun r => k (c :: r)
theorem fCks_eq {β : Type _} : ∀ (l : List Ck) (k : List Ck → β), fCks l k = k l
  | [], _ => rfl
  | c :: r, k => by rw [fCks, fCk_eq, fCks_eq r]
def fAv1 {β : Type _} (a : Av) (k : Av → β) : β := match a with
  | .one c => fCk c fun c => k (.one c)
  | .agg l => fCks l fun l => k (.agg l)
  | .tup l => k (.tup l)
  | .nope => k .nope
  | .any => k .any
theorem fAv1_eq {β : Type _} (a : Av) (k : Av → β) : fAv1 a k = k a := by
  cases a <;> simp only [fAv1, fCk_eq, fCks_eq]
def fAv1s {β : Type _} : List Av → (List Av → β) → β
  | [], k => k []
  | c :: r, k => fAv1 c fun c => fAv1s r fun r => k (c :: r)
theorem fAv1s_eq {β : Type _} : ∀ (l : List Av) (k : List Av → β), fAv1s l k = k l
  | [], _ => rfl
  | c :: r, k => by rw [fAv1s, fAv1_eq, fAv1s_eq r]
def fAv {β : Type _} (a : Av) (k : Av → β) : β := match a with
  | .tup l => fAv1s l fun l => k (.tup l)
  | .one c => fCk c fun c => k (.one c)
  | .agg l => fCks l fun l => k (.agg l)
  | .nope => k .nope
  | .any => k .any
theorem fAv_eq {β : Type _} (a : Av) (k : Av → β) : fAv a k = k a := by
  cases a <;> simp only [fAv, fCk_eq, fCks_eq, fAv1s_eq]
def fAvs {β : Type _} : List Av → (List Av → β) → β
  | [], k => k []
  | c :: r, k => fAv c fun c => fAvs r fun r => k (c :: r)
theorem fAvs_eq {β : Type _} : ∀ (l : List Av) (k : List Av → β), fAvs l k = k l
  | [], _ => rfl
  | c :: r, k => by rw [fAvs, fAv_eq, fAvs_eq r]
def fMem {β : Type _} : Mem → (Mem → β) → β
  | [], k => k []
  | (t, cs) :: r, k => fNat t fun t => fCks cs fun cs => fMem r fun r => k ((t, cs) :: r)
theorem fMem_eq {β : Type _} : ∀ (l : Mem) (k : Mem → β), fMem l k = k l
  | [], _ => rfl
  | (t, cs) :: r, k => by rw [fMem, fNat_eq, fCks_eq, fMem_eq r]
def fSt {β : Type _} (st : St) (k : St → β) : β := fAvs st.fr fun fr => fMem st.mem fun m => k ⟨fr, m⟩
theorem fSt_eq {β : Type _} (st : St) (k : St → β) : fSt st k = k st := by rw [fSt, fAvs_eq, fMem_eq]
end Ax
/-
Blocks numbered anew; rows that are let go become plain data.
-/
set_option linter.unusedSimpArgs false
set_option linter.unusedVariables false
namespace Ax
open Go Go.RowKit
theorem is_row_ds {w : World} {R R' : Nat → Prop} {σ : List Nat} {c : Cd} {xs : List (El c)} {cap n cap2 b : Nat} {t : TypeId} {us : List Value} (hR : ∀ b, R b → R' b) (hb : R' b) (hbl : w.heap[b]? = some (.cells us.toArray t (0, 0)))
    (h : Is w R σ [.row c xs cap] us) (hn : n ≤ xs.length) (hc : n ≤ cap2) (σ' : List Nat) : Is w R' σ' [.ds c (xs.take n)] [.slice (some ⟨b, 0, none⟩) n cap2] := by
  obtain ⟨g, h1, h2, h3, h4, h5, h6, h7⟩ := is_row h
  have hlen : (xs.take n).length = n := by rw [List.length_take]; omega
  have get : ∀ (i : Nat) x, (xs.take n)[i]? = some x → xs[i]? = some x := fun i x hx => by
    rw [List.getElem?_take] at hx
    split at hx
    · exact hx
    · cases hx
  have : Is w R' σ' [.ds c (xs.take n)] [.slice (some ⟨b, 0, none⟩) (xs.take n).length cap2] :=
    .ds g (by rw [hlen]; exact hc) hb (fun i x hx => h5 i x (get i x hx)) (fun i x hx => (h6 i x (get i x hx)).mono (fun z hz => ⟨hR z hz, rfl⟩) (fun _ _ h => h)) (fun i x hx j u hj => by
      have h8 := h7 i x (get i x hx) j u hj
      have := Pq.range_block hbl (i * csz c + j) u h8
      rw [Nat.zero_add] at this ⊢
      exact this) .nil
  rw [hlen] at this
  exact this
def reC (f : Nat → Option Nat) (fz : Nat → Nat → Option Ck) : Ck → Ck
  | .p i off => match f i with
    | some j => .p j off
    | none => .any
  | .pe i off sz k => match f i with
    | some j => .pe j off sz k
    | none => .any
  | .os i n cap => match f i with
    | some j => .os j n cap
    | none => match fz i n with
      | some c => c
      | none => .any
  | c => c
def re1 (f : Nat → Option Nat) (fz : Nat → Nat → Option Ck) : Av → Av
  | .one c => .one (reC f fz c)
  | .agg l => .agg (l.map (reC f fz))
  | .tup _ => .any
  | a => a
def reA (f : Nat → Option Nat) (fz : Nat → Nat → Option Ck) : Av → Av
  | .tup l => .tup (l.map (re1 f fz))
  | a => re1 f fz a
def FzOk (w : World) (R' : Nat → Prop) (σ σ' : List Nat) (f : Nat → Option Nat) (fz : Nat → Nat → Option Ck) (i n : Nat) : Prop :=
  ∀ b cap c, σ[i]? = some b → n ≤ cap → f i = none → fz i n = some c → Is w R' σ' [c] [.slice (some ⟨b, 0, none⟩) n cap]
theorem Is.re' {w : World} {R R' : Nat → Prop} {σ : List Nat} {f : Nat → Option Nat} {fz : Nat → Nat → Option Ck} (hR : ∀ b, R b → R' b)
    {l : List Ck} {us : List Value} (h : Is w R σ l us) : ∀ {σ' : List Nat}, (∀ i b j : Nat, σ[i]? = some b → f i = some j → σ'[j]? = some b) → (∀ i n cap, Ck.os i n cap ∈ l → FzOk w R' σ σ' f fz i n) → Is w R' σ' (l.map (reC f fz)) us := by
  induction h with
  | nil => intro σ' _ _; exact .nil
  | v h _ ih => intro σ' hf hz; exact .v h (ih hf fun i n cap hm => hz i n cap (List.mem_cons_of_mem _ hm))
  | kb _ ih => intro σ' hf hz; exact .kb (ih hf fun i n cap hm => hz i n cap (List.mem_cons_of_mem _ hm))
  | w _ ih => intro σ' hf hz; exact .w (ih hf fun i n cap hm => hz i n cap (List.mem_cons_of_mem _ hm))
  | p h _ ih =>
    intro σ' hf hz
    have ih := ih hf fun i n cap hm => hz i n cap (List.mem_cons_of_mem _ hm)
    rw [List.map_cons, reC]
    split
    · rename_i j hj; exact .p (hf _ _ _ h hj) ih
    · exact .any rfl ih
  | dn _ ih => intro σ' hf hz; exact .dn (ih hf fun i n cap hm => hz i n cap (List.mem_cons_of_mem _ hm))
  | de a cap _ ih => intro σ' hf hz; exact .de a cap (ih hf fun i n cap hm => hz i n cap (List.mem_cons_of_mem _ hm))
  | ni t v _ ih => intro σ' hf hz; exact .ni t v (ih hf fun i n cap hm => hz i n cap (List.mem_cons_of_mem _ hm))
  | ds g h1 h2 h3 h4 h5 _ ih4 ih => intro σ' hf hz; exact .ds g h1 (hR _ h2) h3 (fun i x hx => (h4 i x hx).mono (fun z hz => ⟨hR z hz, rfl⟩) (fun _ _ h => h)) h5 (ih hf fun i n cap hm => hz i n cap (List.mem_cons_of_mem _ hm))
  | pr h1 h2 h3 _ ih3 ih => intro σ' hf hz; exact .pr (hR _ h1) h2 (h3.mono (fun z hz => ⟨hR z hz, rfl⟩) (fun _ _ h => h)) (ih hf fun i n cap hm => hz i n cap (List.mem_cons_of_mem _ hm))
  | pe h h2 _ ih =>
    intro σ' hf hz
    have ih := ih hf fun i n cap hm => hz i n cap (List.mem_cons_of_mem _ hm)
    rw [List.map_cons, reC]
    split
    · rename_i j hj; exact .pe (hf _ _ _ h hj) h2 ih
    · exact .any rfl ih
  | os h h2 _ ih =>
    intro σ' hf hz
    have hz0 := hz _ _ _ (List.mem_cons_self ..)
    have ih := ih hf fun i n cap hm => hz i n cap (List.mem_cons_of_mem _ hm)
    rw [List.map_cons, reC]
    split
    · rename_i j hj; exact .os (hf _ _ _ h hj) h2 ih
    · rename_i hj
      split
      · rename_i c hc
        exact (hz0 _ _ c h h2 hj hc).app ih
      · exact .any rfl ih
  | row g h1 h2 h3 h4 h5 h6 h7 _ h9 ih6 ih => intro σ' hf hz; exact .row g h1 h2 h3 h4 h5 (fun i x hx => (h6 i x hx).mono (fun z hz => ⟨hR z hz, rfl⟩) (fun _ _ h => h)) h7 (ih hf fun i n cap hm => hz i n cap (List.mem_cons_of_mem _ hm)) h9
  | any h _ ih => intro σ' hf hz; exact .any h (ih hf fun i n cap hm => hz i n cap (List.mem_cons_of_mem _ hm))
theorem Is.re {w : World} {R R' : Nat → Prop} {σ σ' : List Nat} {f : Nat → Option Nat} {fz : Nat → Nat → Option Ck} (hR : ∀ b, R b → R' b) (hf : ∀ i b j : Nat, σ[i]? = some b → f i = some j → σ'[j]? = some b)
    {l : List Ck} {us : List Value} (h : Is w R σ l us) (hz : ∀ i n cap, Ck.os i n cap ∈ l → FzOk w R' σ σ' f fz i n) : Is w R' σ' (l.map (reC f fz)) us := h.re' hR hf hz
theorem AvIs.re1 {w : World} {R R' : Nat → Prop} {σ σ' : List Nat} {f : Nat → Option Nat} {fz : Nat → Nat → Option Ck} (hR : ∀ b, R b → R' b) (hf : ∀ i b j : Nat, σ[i]? = some b → f i = some j → σ'[j]? = some b)
    {a : Av} {v : Value} (h : AvIs w R σ a v) (hz : ∀ l, (a = .agg l ∨ ∃ c, a = .one c ∧ l = [c]) → ∀ i n cap, Ck.os i n cap ∈ l → FzOk w R' σ σ' f fz i n) : AvIs w R' σ' (re1 f fz a) v := by
  cases h with
  | one h1 h2 =>
    rename_i c
    have h3 := h2.re hR hf (hz [c] (.inr ⟨c, rfl, rfl⟩))
    refine .one ?_ h3
    have := is_len _ h3
    simpa [ckLen] using this.symm
  | agg h => exact .agg (h.re hR hf (hz _ (.inl rfl)))
  | tup => exact .any
  | nope => exact .nope
  | any => exact .any
def osIn : Av → List Ck
  | .one c => [c]
  | .agg l => l
  | .tup l => l.flatMap fun
    | .one c => [c]
    | .agg l => l
    | _ => []
  | _ => []
theorem AvIs.re {w : World} {R R' : Nat → Prop} {σ σ' : List Nat} {f : Nat → Option Nat} {fz : Nat → Nat → Option Ck} (hR : ∀ b, R b → R' b) (hf : ∀ i b j : Nat, σ[i]? = some b → f i = some j → σ'[j]? = some b)
    {a : Av} {v : Value} (h : AvIs w R σ a v) (hz : ∀ i n cap, Ck.os i n cap ∈ osIn a → FzOk w R' σ σ' f fz i n) : AvIs w R' σ' (reA f fz a) v := by
  cases h with
  | one h1 h2 => exact AvIs.re1 hR hf (.one h1 h2) fun l hl i n cap hm => hz i n cap (by
      rcases hl with h | ⟨c, h, rfl⟩
      · cases h
      · cases h; exact hm)
  | agg h => exact AvIs.re1 hR hf (.agg h) fun l hl i n cap hm => hz i n cap (by
      rcases hl with h | ⟨c, h, rfl⟩
      · cases h; exact hm
      · cases h)
  | tup us hl hi =>
    rename_i l
    refine .tup us (by rw [List.length_map]; exact hl) fun i x u hx hu => ?_
    rw [List.getElem?_map] at hx
    cases hq : l[i]? with
    | none => rw [hq] at hx; simp at hx
    | some y =>
      rw [hq] at hx
      simp only [Option.map_some, Option.some.injEq] at hx
      subst hx
      refine AvIs.re1 hR hf (hi i y u hq hu) fun l' hl' j n cap hm => hz j n cap ?_
      show _ ∈ List.flatMap _ l
      refine List.mem_flatMap.2 ⟨y, List.mem_of_getElem? hq, ?_⟩
      rcases hl' with rfl | ⟨c, rfl, rfl⟩
      · exact hm
      · exact hm
  | nope => exact .nope
  | any => exact .any

/-! ### a row that is let go, as data -/
def rowDs (m : Mem) (i n : Nat) : Option Ck := match m[i]? with
  | some (_, [.row c xs _]) => some (.ds c (xs.take n))
  | _ => none
def rowLen (m : Mem) (i n : Nat) : Prop := match m[i]? with
  | some (_, [.row c xs _]) => n ≤ xs.length
  | _ => True
def owed (f : Nat → Option Nat) (m : Mem) : List Ck → List Prop
  | [] => []
  | .os i n _ :: r => match f i with
    | some _ => owed f m r
    | none => rowLen m i n :: owed f m r
  | _ :: r => owed f m r
theorem owed_ok {f : Nat → Option Nat} {m : Mem} : ∀ {l : List Ck}, (∀ p ∈ owed f m l, p) → ∀ i n cap, Ck.os i n cap ∈ l → f i = none → rowLen m i n
  | [], _, i, n, cap, h, _ => by cases h
  | c :: r, hp, i, n, cap, h, hf => by
    rcases List.mem_cons.1 h with rfl | h
    · apply hp
      unfold owed
      rw [hf]
      exact List.mem_cons_self ..
    · refine owed_ok (l := r) (fun p hpr => hp p ?_) i n cap h hf
      cases c with
      | os j n' cap' =>
        unfold owed
        split
        · exact hpr
        · exact List.mem_cons_of_mem _ hpr
      | _ => exact hpr
def needAll {α : Type} : List Prop → T α → T α
  | [], t => t
  | p :: r, t => .need p (needAll r t)
theorem needAll_wp {α : Type} {Q : α → Prop} {t : T α} : ∀ {l : List Prop}, (needAll l t).wp Q → (∀ p ∈ l, p) ∧ t.wp Q
  | [], h => ⟨fun _ h => (by cases h), h⟩
  | p :: r, h => by
    obtain ⟨h1, h2⟩ := h
    obtain ⟨h3, h4⟩ := needAll_wp h2
    refine ⟨fun q hq => ?_, h4⟩
    rcases List.mem_cons.1 hq with rfl | hq
    · exact h1
    · exact h3 q hq
def posOf : List Nat → Nat → Option Nat
  | [], _ => none
  | j :: r, i => if i = j then some 0 else (posOf r i).map (· + 1)
theorem posOf_get : ∀ {I : List Nat} {i j : Nat}, posOf I i = some j → I[j]? = some i
  | [], i, j, h => by cases h
  | k :: r, i, j, h => by
    unfold posOf at h
    split at h
    · rename_i e; cases h; rw [e]; rfl
    · obtain ⟨j', h1, rfl⟩ := Option.map_eq_some_iff.1 h
      have := posOf_get h1
      simpa using this
theorem posOf_none : ∀ {I : List Nat} {i : Nat}, posOf I i = none → i ∉ I
  | [], i, _ => by simp
  | k :: r, i, h => by
    unfold posOf at h
    split at h
    · cases h
    · rename_i e
      rw [Option.map_eq_none_iff] at h
      simp [e, posOf_none h]
end Ax
/-
Blocks are let go: those that stay are numbered anew.
-/
set_option linter.unusedSimpArgs false
set_option linter.unusedVariables false
namespace Ax
open Go Go.RowKit
def nodB : List Nat → Bool
  | [] => true
  | i :: r => !(r.any fun j => decide (j = i)) && nodB r
theorem nodB_ok : ∀ {I : List Nat}, nodB I = true → I.Nodup
  | [], _ => List.nodup_nil
  | i :: r, h => by
    unfold nodB at h
    rw [Bool.and_eq_true, Bool.not_eq_true', List.any_eq_false] at h
    refine List.nodup_cons.2 ⟨fun hm => ?_, nodB_ok h.2⟩
    have := h.1 i hm
    simp at this
def okI (base n : Nat) (I : List Nat) : Bool := decide (I.take base = List.range base) && (I.all fun i => decide (i < n)) && nodB I
def gcMem (I : List Nat) (m : Mem) : Mem := I.map fun i => match m[i]? with
  | some e => (e.1, e.2.map (reC (posOf I) (rowDs m)))
  | none => (0, [])
def gcCells (I : List Nat) (st : St) : List Ck := st.fr.flatMap osIn ++ I.flatMap fun i => match st.mem[i]? with
  | some e => e.2
  | none => []
def gcT (I : List Nat) (st : St) : T St := needAll (owed (posOf I) st.mem (gcCells I st)) (.ret ⟨st.fr.map (reA (posOf I) (rowDs st.mem)), gcMem I st.mem⟩)
theorem gc_ok {w0 w : World} {φ σ0 σ : List Nat} {st : St} {a : Act} {base : Nat} {I : List Nat} {Q : St → Prop} (hφ : ∀ b ∈ φ, b < w0.heap.size) (h0 : σ0.length ≤ base) (hI : okI base st.mem.length I = true) (hS : Sat w0 φ σ0 σ st a w) (h : (gcT I st).wp Q) :
    ∃ st' σ', Q st' ∧ Sat w0 φ σ0 σ' st' a w := by
  unfold okI at hI
  simp only [Bool.and_eq_true, decide_eq_true_eq] at hI
  obtain ⟨⟨hI1, hI2⟩, hI3⟩ := hI
  have hnd := nodB_ok hI3
  have hlt : ∀ i ∈ I, i < σ.length := fun i hi => by
    have := List.all_eq_true.1 hI2 i hi
    rw [← hS.mem.len]
    exact of_decide_eq_true this
  obtain ⟨how, hQ⟩ := needAll_wp h
  have hrow := owed_ok how
  obtain ⟨τ, eτ, hτ⟩ := hS.ext.pre
  have hlow : ∀ j, j < σ0.length → I[j]? = some j := fun j hj => by
    have : (I.take base)[j]? = some j := by rw [hI1, List.getElem?_range (by omega)]
    rwa [List.getElem?_take, if_pos (by omega)] at this
  refine ⟨_, I.map fun i => σ.getD i 0, hQ, ?_⟩
  have get : ∀ i, i < σ.length → ∃ b, σ[i]? = some b ∧ σ.getD i 0 = b := fun i hi => ⟨σ[i], List.getElem?_eq_getElem hi, by simp [hi]⟩
  have hmem : ∀ b, b ∈ (I.map fun i => σ.getD i 0) → ∃ i ∈ I, σ[i]? = some b := fun b hb => by
    obtain ⟨i, hi, rfl⟩ := List.mem_map.1 hb
    obtain ⟨b, h1, h2⟩ := get i (hlt i hi)
    exact ⟨i, hi, by rw [h2]; exact h1⟩
  have hsub : ∀ b, b ∈ (I.map fun i => σ.getD i 0) → b ∈ σ := fun b hb => by
    obtain ⟨i, _, h1⟩ := hmem b hb
    exact List.mem_of_getElem? h1
  have hro : ∀ b, Ro w φ σ b → Ro w φ (I.map fun i => σ.getD i 0) b := fun b hb => ⟨hb.1, hb.2.1, fun h => hb.2.2 (hsub b h)⟩
  have hf : ∀ i b j : Nat, σ[i]? = some b → posOf I i = some j → (I.map fun i => σ.getD i 0)[j]? = some b := fun i b j hb hj => by
    rw [List.getElem?_map, posOf_get hj, Option.map_some]
    obtain ⟨b', h1, h2⟩ := get i (List.getElem?_eq_some_iff.1 hb).1
    rw [h2]
    rw [hb] at h1
    exact h1.symm
  have inj : ∀ i j b, σ[i]? = some b → σ[j]? = some b → i = j := fun i j b h1 h2 => by
    obtain ⟨l1, e1⟩ := List.getElem?_eq_some_iff.1 h1
    obtain ⟨l2, e2⟩ := List.getElem?_eq_some_iff.1 h2
    exact (List.getElem_inj hS.mem.nodup).1 (e1.trans e2.symm)
  have hfz : ∀ i n, rowLen st.mem i n → FzOk w (Ro w φ (I.map fun i => σ.getD i 0)) σ (I.map fun i => σ.getD i 0) (posOf I) (rowDs st.mem) i n := fun i n hlen b cap c hb hn hi hc => by
    unfold rowDs at hc
    unfold rowLen at hlen
    split at hc
    · rename_i t c' xs cap' hm
      rw [hm] at hlen
      cases hc
      obtain ⟨us, hbl, his⟩ := hS.mem.blk i _ _ b hm hb
      have hni := posOf_none hi
      have hge : σ0.length ≤ i := Nat.not_lt.1 fun hlt => hni (List.mem_of_getElem? (hlow i hlt))
      have hbτ : b ∈ τ := by
        rw [eτ, List.getElem?_append_right hge] at hb
        exact List.mem_of_getElem? hb
      refine is_row_ds hro ⟨hS.mem.lt (List.mem_of_getElem? hb), fun hbφ => ?_, fun hbI => ?_⟩ hbl his hlen hn _
      · have h1 := hφ b hbφ
        have h2 := hτ b hbτ
        omega
      · obtain ⟨i', hi', hb'⟩ := hmem b hbI
        exact hni (inj i i' b hb hb' ▸ hi')
    · cases hc
  refine ⟨⟨by rw [List.length_map]; exact hS.fr.len, fun t av ht => ?_⟩, ⟨by simp [gcMem], ?_, hS.mem.fo, hS.mem.gl.mono fun z hz => ⟨hro z hz, rfl⟩, fun j t cs b hj hb => ?_⟩, ?_, hS.keep, hS.df⟩
  · simp only [List.getElem?_map] at ht
    cases hq : st.fr[t]? with
    | none => rw [hq] at ht; simp at ht
    | some av0 =>
      rw [hq] at ht
      simp only [Option.map_some, Option.some.injEq] at ht
      subst ht
      refine (hS.fr.at_ t av0 hq).re hro hf fun i n cap hm b cap' c h1 h2 h3 h4 => hfz i n ?_ b cap' c h1 h2 h3 h4
      exact hrow i n cap (List.mem_append_left _ (List.mem_flatMap.2 ⟨av0, List.mem_of_getElem? hq, hm⟩)) h3
  · unfold List.Nodup
    rw [List.pairwise_map]
    refine hnd.imp_of_mem fun {i j} hi hj hne e => hne ?_
    obtain ⟨b, h1, h2⟩ := get i (hlt i hi)
    obtain ⟨b', h3, h4⟩ := get j (hlt j hj)
    rw [h2, h4] at e
    subst e
    exact inj i j b h1 h3
  · rw [List.getElem?_map] at hb
    unfold gcMem at hj
    rw [List.getElem?_map] at hj
    cases hq : I[j]? with
    | none => rw [hq] at hb; simp at hb
    | some i =>
      rw [hq] at hb hj
      simp only [Option.map_some, Option.some.injEq] at hb hj
      have hi := List.mem_of_getElem? hq
      obtain ⟨b', h1, h2⟩ := get i (hlt i hi)
      rw [h2] at hb
      subst hb
      cases hm : st.mem[i]? with
      | none =>
        have := List.getElem?_eq_none_iff.1 hm
        have := hlt i hi
        rw [← hS.mem.len] at this
        omega
      | some e =>
        obtain ⟨t0, cs0⟩ := e
        rw [hm] at hj
        cases hj
        obtain ⟨us, h3, h4⟩ := hS.mem.blk i t0 cs0 b' hm h1
        refine ⟨us, h3, h4.re hro hf fun i' n cap hmm b cap' c g1 g2 g3 g4 => hfz i' n ?_ b cap' c g1 g2 g3 g4⟩
        refine hrow i' n cap (List.mem_append_right _ (List.mem_flatMap.2 ⟨i, hi, ?_⟩)) g3
        rw [hm]; exact hmm
  · have hlen : σ0.length ≤ I.length := by
      rcases Nat.lt_or_ge I.length σ0.length with hl | hl
      · have := hlow I.length hl
        simp at this
      · exact hl
    refine ⟨(I.drop σ0.length).map fun i => σ.getD i 0, ?_, fun b hb => ?_⟩
    · have e1 : I.take σ0.length = List.range σ0.length := by
        apply List.ext_getElem?
        intro j
        rw [List.getElem?_take]
        by_cases hj : j < σ0.length
        · rw [if_pos hj, hlow j hj, List.getElem?_range hj]
        · rw [if_neg hj, List.getElem?_eq_none (by simp; omega)]
      have e2 : (List.range σ0.length).map (fun i => σ.getD i 0) = σ0 := by
        apply List.ext_getElem?
        intro j
        rw [List.getElem?_map]
        by_cases hj : j < σ0.length
        · rw [List.getElem?_range hj, Option.map_some]
          obtain ⟨b, h1, h2⟩ := get j (by rw [eτ]; simp; omega)
          rw [h2, ← h1, eτ, List.getElem?_append_left hj]
        · rw [List.getElem?_eq_none (by simp; omega), List.getElem?_eq_none (by omega)]; rfl
      rw [← List.take_append_drop σ0.length I, List.map_append, e1, e2]
      simp [hlen]
    · obtain ⟨i, hi, rfl⟩ := List.mem_map.1 hb
      obtain ⟨j, hj⟩ := List.mem_iff_getElem?.1 hi
      rw [List.getElem?_drop] at hj
      have hmi : i ∈ I := List.mem_of_getElem? hj
      have hge : σ0.length ≤ i := by
        rcases Nat.lt_or_ge i σ0.length with hl | hl
        · have h1 := hlow i hl
          obtain ⟨l1, e1⟩ := List.getElem?_eq_some_iff.1 h1
          obtain ⟨l2, e2⟩ := List.getElem?_eq_some_iff.1 hj
          have := (List.getElem_inj hnd).1 (e1.trans e2.symm)
          omega
        · exact hl
      obtain ⟨b', h1, h2⟩ := get i (hlt i hmi)
      rw [h2]
      rw [eτ, List.getElem?_append_right hge] at h1
      exact hτ b' (List.mem_of_getElem? h1)
def keepI (base : Nat) (m : Mem) : List Nat := (List.range m.length).filter fun i => decide (i < base) || (match m[i]? with
  | some (_, [.row _ _ _]) => false
  | _ => true)
def frzAll (base : Nat) (st : St) : T St := match okI base st.mem.length (keepI base st.mem) with
  | true => gcT (keepI base st.mem) st
  | false => .fail
theorem frzAll_ok {w0 w : World} {φ σ0 σ : List Nat} {st : St} {a : Act} {base : Nat} {Q : St → Prop} (hφ : ∀ b ∈ φ, b < w0.heap.size) (h0 : σ0.length ≤ base) (hS : Sat w0 φ σ0 σ st a w) (h : (frzAll base st).wp Q) :
    ∃ st' σ', Q st' ∧ Sat w0 φ σ0 σ' st' a w := by
  unfold frzAll at h
  split at h
  · rename_i hI; exact gc_ok hφ h0 hI hS h
  · exact h.elim
def blankF (live : List Nat) (fr : List Av) : List Av := (List.range fr.length).map fun t => match live.any fun s => decide (s = t) with
  | true => fr.getD t .any
  | false => .any
theorem blank_ok {w0 w : World} {φ σ0 σ : List Nat} {st : St} {a : Act} (live : List Nat) (hS : Sat w0 φ σ0 σ st a w) : Sat w0 φ σ0 σ ⟨blankF live st.fr, st.mem⟩ a w := by
  refine ⟨⟨by simp [blankF]; exact hS.fr.len, fun t av ht => ?_⟩, hS.mem, hS.ext, hS.keep, hS.df⟩
  simp only [blankF] at ht
  rw [List.getElem?_map] at ht
  cases hq : (List.range st.fr.length)[t]? with
  | none => rw [hq] at ht; simp at ht
  | some t' =>
    rw [hq] at ht
    simp only [Option.map_some, Option.some.injEq] at ht
    obtain ⟨hlt, e⟩ := List.getElem?_eq_some_iff.1 hq
    rw [List.getElem_range] at e
    subst e
    rw [List.length_range] at hlt
    split at ht
    · subst ht
      refine hS.fr.at_ t _ ?_
      rw [List.getElem?_eq_getElem hlt]; simp [hlt]
    · subst ht; exact .any
end Ax
/-
Code, functions, contracts.
-/
set_option linter.unusedSimpArgs false
set_option linter.unusedVariables false
namespace Ax
open Go Go.RowKit

def Code.first : Code → Nat
  | .region id _ _ => id
  | .seq a b => match Code.first a with | 0 => Code.first b | n + 1 => n + 1
  | .cond _ a b => match Code.first a with | 0 => Code.first b | n + 1 => n + 1
  | .block _ a => Code.first a
  | .loop a => Code.first a
  | .rangeFunc _ _ a b => match Code.first a with | 0 => Code.first b | n + 1 => n + 1
  | .scope a => Code.first a
  | _ => 0

/-! ### a row becomes plain data -/
def keepsC (i : Nat) : Ck → Bool
  | .p j _ => decide (j < i)
  | .pe j _ _ _ => decide (j < i)
  | .os j _ _ => decide (j < i)
  | _ => true
def keepsA (i : Nat) : Av → Bool
  | .one c => keepsC i c
  | .agg l => l.all (keepsC i)
  | .tup _ => false
  | _ => true
def dropA (i : Nat) (av : Av) : Av := match keepsA i av with | true => av | false => .any
def frzT (base : Nat) (t : Tmp) (st : St) : T St :=
  match st.fr[t]? with
  | some (.one (.os i n _)) => match st.mem[i]? with
    | some (_, [.row c xs _]) => match decide (base ≤ i) && (st.mem.take i).all (fun e => e.2.all (keepsC i)) with
      | true => .need (n ≤ xs.length) (.ret ⟨(st.fr.map (dropA i)).set t (.one (.ds c (xs.take n))), st.mem.take i⟩)
      | false => .fail
    | _ => .fail
  | _ => .ret st
def frzL (base : Nat) : List Tmp → St → T St
  | [], st => .ret st
  | t :: r, st => match decide (t = 1000000) with
    | true => frzAll base ⟨blankF r st.fr, st.mem⟩
    | false => (frzT base t st).bind (frzL base r)
theorem take_low {σ : List Nat} {i j b : Nat} (h : σ[j]? = some b) (hj : decide (j < i) = true) : (σ.take i)[j]? = some b := by
  rw [List.getElem?_take, if_pos (of_decide_eq_true hj)]; exact h
theorem Is.keep {w : World} {R R' : Nat → Prop} {σ : List Nat} {i : Nat} (hR : ∀ b, R b → R' b) {l : List Ck} {us : List Value} (h : Is w R σ l us) : l.all (keepsC i) = true → Is w R' (σ.take i) l us := by
  induction h with
  | nil => intro _; exact .nil
  | v h _ ih => intro hk; simp only [List.all_cons, Bool.and_eq_true] at hk; exact .v h (ih hk.2)
  | kb _ ih => intro hk; simp only [List.all_cons, Bool.and_eq_true] at hk; exact .kb (ih hk.2)
  | w _ ih => intro hk; simp only [List.all_cons, Bool.and_eq_true] at hk; exact .w (ih hk.2)
  | p h _ ih => intro hk; simp only [List.all_cons, Bool.and_eq_true, keepsC] at hk; exact .p (take_low h hk.1) (ih hk.2)
  | dn _ ih => intro hk; simp only [List.all_cons, Bool.and_eq_true] at hk; exact .dn (ih hk.2)
  | de a cap _ ih => intro hk; simp only [List.all_cons, Bool.and_eq_true] at hk; exact .de a cap (ih hk.2)
  | ni t v _ ih => intro hk; simp only [List.all_cons, Bool.and_eq_true] at hk; exact .ni t v (ih hk.2)
  | ds g h1 h2 h3 h4 h5 _ ih4 ih => intro hk; simp only [List.all_cons, Bool.and_eq_true] at hk; exact .ds g h1 (hR _ h2) h3 (fun i x hx => (h4 i x hx).mono (fun z hz => ⟨hR z hz, rfl⟩) (fun _ _ h => h)) h5 (ih hk.2)
  | pr h1 h2 h3 _ _ ih => intro hk; simp only [List.all_cons, Bool.and_eq_true] at hk; exact .pr (hR _ h1) h2 (h3.mono (fun z hz => ⟨hR z hz, rfl⟩) (fun _ _ h => h)) (ih hk.2)
  | pe h h2 _ ih => intro hk; simp only [List.all_cons, Bool.and_eq_true, keepsC] at hk; exact .pe (take_low h hk.1) h2 (ih hk.2)
  | os h h2 _ ih => intro hk; simp only [List.all_cons, Bool.and_eq_true, keepsC] at hk; exact .os (take_low h hk.1) h2 (ih hk.2)
  | row g h1 h2 h3 h4 h5 h6 h7 _ h9 _ ih => intro hk; simp only [List.all_cons, Bool.and_eq_true] at hk; exact .row g h1 h2 h3 h4 h5 (fun i x hx => (h6 i x hx).mono (fun z hz => ⟨hR z hz, rfl⟩) (fun _ _ h => h)) h7 (ih hk.2) h9
  | any h _ ih => intro hk; simp only [List.all_cons, Bool.and_eq_true] at hk; exact .any h (ih hk.2)
theorem drop_is {w : World} {R R' : Nat → Prop} {σ : List Nat} {i : Nat} (hR : ∀ b, R b → R' b) {av : Av} {v : Value} (h : AvIs w R σ av v) : AvIs w R' (σ.take i) (dropA i av) v := by
  unfold dropA
  split
  · rename_i hk
    cases h with
    | one h1 h2 => exact .one h1 (h2.keep hR (by simpa [keepsA] using hk))
    | agg h => exact .agg (h.keep hR hk)
    | tup => simp [keepsA] at hk
    | nope => exact .nope
    | any => exact .any
  · exact .any
theorem frzT_ok {w0 w : World} {φ σ0 σ : List Nat} {st : St} {a : Act} {base : Nat} {t : Tmp} {Q : St → Prop} (hφ : ∀ b ∈ φ, b < w0.heap.size) (h0 : σ0.length ≤ base) (hS : Sat w0 φ σ0 σ st a w) (h : (frzT base t st).wp Q) :
    ∃ st' σ', Q st' ∧ Sat w0 φ σ0 σ' st' a w := by
  unfold frzT at h
  split at h
  · rename_i i n cap hfr
    split at h
    · rename_i ty c xs cap' hmi
      split at h
      · rename_i hk
        simp only [Bool.and_eq_true, decide_eq_true_eq] at hk
        obtain ⟨hbi, hkeep⟩ := hk
        obtain ⟨hn, hQ⟩ := h
        refine ⟨_, σ.take i, hQ, ?_⟩
        have hro : ∀ b, Ro w φ σ b → Ro w φ (σ.take i) b := fun b hb => ⟨hb.1, hb.2.1, fun h => hb.2.2 (List.mem_of_mem_take h)⟩
        obtain ⟨b, hb, hncap, hve⟩ := is_one_os (hS.fr.at_ _ _ hfr)
        obtain ⟨us, hbl, his⟩ := hS.mem.blk i _ _ b hmi hb
        have hil : i < σ.length := (List.getElem?_eq_some_iff.1 hb).1
        have hml : st.mem.length = σ.length := hS.mem.len
        obtain ⟨τ, eτ, hτ⟩ := hS.ext.pre
        have hbτ : b ∈ τ := by
          rw [eτ, List.getElem?_append_right (by omega)] at hb
          exact List.mem_of_getElem? hb
        have hnot : b ∉ σ.take i := fun hm => by
          obtain ⟨j, hj, e⟩ := List.getElem_of_mem hm
          rw [List.getElem_take] at e
          obtain ⟨l2, e2⟩ := List.getElem?_eq_some_iff.1 hb
          rw [List.length_take] at hj
          have := (List.getElem_inj hS.mem.nodup).1 (e.trans e2.symm)
          omega
        have hRb : Ro w φ (σ.take i) b := ⟨hS.mem.lt (List.mem_of_getElem? hb), fun hm => by
          have h1 := hφ b hm
          have h2 := hτ b hbτ
          omega, hnot⟩
        refine ⟨⟨by simp [hS.fr.len], fun s av hs => ?_⟩, ⟨by simp; omega, hS.mem.nodup.sublist (List.take_sublist _ _), hS.mem.fo, hS.mem.gl.mono fun z hz => ⟨hro z hz, rfl⟩, fun j t' cs b' hj hb' => ?_⟩, ?_, hS.keep, hS.df⟩
        · simp only [List.getElem?_set] at hs
          by_cases e : t = s
          · subst e
            rw [if_pos rfl] at hs
            split at hs
            · cases hs
              rw [hve]
              exact .one rfl (is_row_ds hro hRb hbl his hn hncap _)
            · cases hs
          · rw [if_neg e, List.getElem?_map] at hs
            cases hq : st.fr[s]? with
            | none => rw [hq] at hs; simp at hs
            | some av0 =>
              rw [hq] at hs
              simp only [Option.map_some, Option.some.injEq] at hs
              subst hs
              exact drop_is hro (hS.fr.at_ s av0 hq)
        · have hj2 : j < i ∧ st.mem[j]? = some (t', cs) := by
            simp only [List.getElem?_take] at hj
            split at hj
            · exact ⟨by assumption, hj⟩
            · cases hj
          have hb2 : σ[j]? = some b' := by
            rw [List.getElem?_take, if_pos hj2.1] at hb'; exact hb'
          obtain ⟨us', h3, h4⟩ := hS.mem.blk j t' cs b' hj2.2 hb2
          refine ⟨us', h3, h4.keep hro ?_⟩
          have hm : (t', cs) ∈ st.mem.take i := List.mem_of_getElem? (i := j) (by rw [List.getElem?_take, if_pos hj2.1]; exact hj2.2)
          exact List.all_eq_true.1 hkeep _ hm
        · refine ⟨τ.take (i - σ0.length), ?_, fun z hz => hτ z (List.mem_of_mem_take hz)⟩
          rw [eτ, List.take_append, List.take_of_length_le (by omega)]
      · exact h.elim
    · exact h.elim
  · exact ⟨st, σ, h, hS⟩
theorem frzL_ok {w0 w : World} {φ σ0 : List Nat} {a : Act} {base : Nat} (hφ : ∀ b ∈ φ, b < w0.heap.size) (h0 : σ0.length ≤ base) : ∀ (l : List Tmp) (st : St) (σ : List Nat) (Q : St → Prop), Sat w0 φ σ0 σ st a w → (frzL base l st).wp Q →
    ∃ st' σ', Q st' ∧ Sat w0 φ σ0 σ' st' a w
  | [], st, σ, Q, hS, h => ⟨st, σ, h, hS⟩
  | t :: r, st, σ, Q, hS, h => by
    unfold frzL at h
    split at h
    · exact frzAll_ok hφ h0 (blank_ok r hS) h
    · rw [T.wp_bind] at h
      obtain ⟨st', σ', h1, hS'⟩ := frzT_ok hφ h0 hS h
      exact frzL_ok hφ h0 r st' σ' Q hS' h1

abbrev Loops := Nat → Option (St → T (Exit × St))

def exitBlock (id : Nat) : Exit → Exit
  | .exit id' => if id' = id then .normal else .exit id'
  | e => e

def code {P : Program} (E : Env P) (L : Loops) : Code → St → T (Exit × St)
  | .skip, st => .ret (.normal, st)
  | .label _, st => .ret (.normal, st)
  | .region id ops false, st => (frzL E.base (E.frz id) st).bind fun st => (runOps (E.sel id) ops ops.toList st).bind fun st => .ret (.normal, st)
  | .region id ops true, st => (frzL E.base (E.frz id) st).bind fun st => (runDraw (E.sel id) ops st).bind fun st => .ret (.normal, st)
  | .seq x y, st => (code E L x st).bind fun r => match r.1 with
    | .normal => code E L y r.2
    | e => .ret (e, r.2)
  | .cond (.tmp t) x y, st => match st.fr[t]? with
    | some (.one (.kb b)) => bsel b true (code E L x st) (code E L y st)
    | some (.one (.v (.bool b))) => .ite b (code E L x (know st t true)) (code E L y (know st t false))
    | _ => .fail
  | .cond (.const (.bool b)) x y, st => bsel b true (code E L x st) (code E L y st)
  | .block id c, st => (code E L c st).bind fun r => .ret (exitBlock id r.1, r.2)
  | .loop c, st => match L (Code.first c) with
    | some run => run st
    | none => .fail
  | .exit id, st => .ret (.exit id, st)
  | .ret, st => .ret (.ret, st)
  | _, _ => .fail

def quiet : Exit → Bool
  | .panic _ | .outgrown => false
  | _ => true
def Res (w0 : World) (φ σ0 : List Nat) (Q : Exit × St → Prop) (e : Exit) (a : Act) (w : World) : Prop := quiet e = true ∧ ∃ st σ, Q (e, st) ∧ Sat w0 φ σ0 σ st a w

def LoopOk (P : Program) (k : Nat) (body : Code) (run : St → T (Exit × St)) : Prop :=
  ∀ (w0 : World) (φ σ0 σ : List Nat) (st : St) (a : Act) (w : World) (Q : Exit × St → Prop), σ0.length ≤ k → (∀ b ∈ φ, b < w0.heap.size) → Sat w0 φ σ0 σ st a w → (run st).wp Q → (Code.loop body).wp P (Res w0 φ σ0 Q) a w

def AllLoops (p : Nat → Code → Prop) : Code → Prop
  | .seq a b => AllLoops p a ∧ AllLoops p b
  | .cond _ a b => AllLoops p a ∧ AllLoops p b
  | .block _ a => AllLoops p a
  | .loop a => p (Code.first a) a
  | _ => True
def LoopsOk (P : Program) (n : Nat) (L : Loops) (c : Code) : Prop := AllLoops (fun k body => ∀ run, L k = some run → LoopOk P n body run) c
theorem loops_none (P : Program) (n : Nat) : ∀ c : Code, LoopsOk P n (fun _ => none) c := by
  intro c
  unfold LoopsOk
  induction c with
  | seq a b iha ihb => exact ⟨iha, ihb⟩
  | cond _ a b iha ihb => exact ⟨iha, ihb⟩
  | block _ a ih => exact ih
  | loop a _ => intro run h; cases h
  | _ => trivial

section
variable {P : Program} {E : Env P} {L : Loops} {w0 : World} {φ σ0 : List Nat}

theorem res_hP (Q : Exit × St → Prop) : ∀ c a d v w, Res w0 φ σ0 Q (.panic c) (Act.put a d v) w → Res w0 φ σ0 Q (.panic c) a w := fun c a d v w h => by simp [Res, quiet] at h


theorem code_ok (hm : P.follows .mixedOrders = true) {n : Nat} (hn : σ0.length ≤ n) (hbase : σ0.length ≤ E.base) (hφ : ∀ b ∈ φ, b < w0.heap.size) : ∀ (c : Code) (st : St) (σ : List Nat) (a : Act) (w : World) (Q : Exit × St → Prop), LoopsOk P n L c → Sat w0 φ σ0 σ st a w → (code E L c st).wp Q → c.wp P (Res w0 φ σ0 Q) a w := by
  intro c
  induction c with
  | skip => intro st σ a w Q _ hS h; exact wp_skip ⟨rfl, st, σ, h, hS⟩
  | label l => intro st σ a w Q _ hS h; exact wp_label ⟨rfl, st, σ, h, hS⟩
  | exit id => intro st σ a w Q _ hS h; exact wp_exit ⟨rfl, st, σ, h, hS⟩
  | ret => intro st σ a w Q _ hS h; exact wp_ret ⟨rfl, st, σ, h, hS⟩
  | region id ops d =>
    intro st σ a w Q _ hS h
    cases d with
    | false =>
      unfold code at h
      rw [T.wp_bind] at h
      obtain ⟨st, σ, h, hS⟩ := frzL_ok hφ hbase _ _ _ _ hS h
      rw [T.wp_bind] at h
      exact wp_region_list (runOps_ok (X := Res w0 φ σ0 Q) (fun st σ a w hq hs => ⟨rfl, st, σ, hq, hs⟩) _ st σ a w hS h)
    | true =>
      unfold code at h
      rw [T.wp_bind] at h
      obtain ⟨st, σ, h, hS⟩ := frzL_ok hφ hbase _ _ _ _ hS h
      rw [T.wp_bind] at h
      exact runDraw_ok hm (fun st σ a w hq hs => ⟨rfl, st, σ, hq, hs⟩) (res_hP Q) hS h
  | seq x y ihx ihy =>
    intro st σ a w Q hL hS h
    unfold code at h
    rw [T.wp_bind] at h
    refine wp_seq (wp_mono (ihx st σ a w _ hL.1 hS h) fun e a' w' hr => ?_)
    obtain ⟨h1, st', σ', h2, h3⟩ := hr
    cases e with
    | normal => exact ihy st' σ' a' w' Q hL.2 h3 h2
    | panic _ => cases h1
    | outgrown => cases h1
    | exit id => exact ⟨rfl, st', σ', h2, h3⟩
    | goto l => exact ⟨rfl, st', σ', h2, h3⟩
    | ret => exact ⟨rfl, st', σ', h2, h3⟩
  | cond c x y ihx ihy =>
    intro st σ a w Q hL hS h
    cases c with
    | tmp t =>
      unfold code at h
      split at h
      · rename_i b hfr
        obtain ⟨u, hu, hav⟩ := tmps_at hS.fr hfr
        rw [val_of hav rfl] at hu
        have he : a.eval (.tmp t) = .bool b := by simp [Act.eval, hu]
        rcases bsel_wp h with ⟨rfl, h1⟩ | ⟨e, h1⟩
        · exact wp_cond_true he (ihx st σ a w Q hL.1 hS h1)
        · have : b = false := by cases b <;> simp at e ⊢
          subst this
          exact wp_cond_false he (ihy st σ a w Q hL.2 hS h1)
      · rename_i b hfr
        obtain ⟨u, hu, hav⟩ := tmps_at hS.fr hfr
        rw [val_of hav rfl] at hu
        have he : a.eval (.tmp t) = .bool b := by simp [Act.eval, hu]
        have hk : Sat w0 φ σ0 σ (know st t b) a w := ⟨know_ok hS.fr hfr, hS.mem, hS.ext, hS.keep, hS.df⟩
        cases b with
        | true => exact wp_cond_true he (ihx _ σ a w Q hL.1 hk (h.1 rfl))
        | false => exact wp_cond_false he (ihy _ σ a w Q hL.2 hk (h.2 rfl))
      · exact h.elim
    | const v =>
      cases v with
      | bool b =>
        unfold code at h
        rcases bsel_wp h with ⟨rfl, h1⟩ | ⟨e, h1⟩
        · exact wp_cond_true rfl (ihx st σ a w Q hL.1 hS h1)
        · have : b = false := by cases b <;> simp at e ⊢
          subst this
          exact wp_cond_false rfl (ihy st σ a w Q hL.2 hS h1)
      | _ => exact h.elim
    | global g => exact h.elim
    | func f => exact h.elim
  | block id x ihx =>
    intro st σ a w Q hL hS h
    unfold code at h
    rw [T.wp_bind] at h
    refine wp_block (wp_mono (ihx st σ a w _ hL hS h) fun e a' w' hr => ?_)
    obtain ⟨h1, st', σ', h2, h3⟩ := hr
    cases e with
    | exit id' =>
      simp only [Exit.inBlock]
      simp only [exitBlock, T.wp] at h2
      by_cases he : id' = id
      · rw [if_pos he] at h2 ⊢; exact ⟨rfl, st', σ', h2, h3⟩
      · rw [if_neg he] at h2 ⊢; exact ⟨rfl, st', σ', h2, h3⟩
    | normal => exact ⟨rfl, st', σ', h2, h3⟩
    | panic _ => cases h1
    | outgrown => cases h1
    | goto l => exact ⟨rfl, st', σ', h2, h3⟩
    | ret => exact ⟨rfl, st', σ', h2, h3⟩
  | loop x ihx =>
    intro st σ a w Q hL hS h
    unfold code at h
    split at h
    · rename_i run hrun
      exact hL run hrun w0 φ σ0 σ st a w Q hn hφ hS h
    · exact h.elim
  | goto l => intro st σ a w Q _ hS h; exact h.elim
  | refuse r => intro st σ a w Q _ hS h; exact h.elim
  | scope x _ => intro st σ a w Q _ hS h; exact h.elim
  | rangeFunc f ps x y _ _ => intro st σ a w Q _ hS h; exact h.elim
end

/-! ### functions -/
def resT (P : Program) (st : St) : List ResultVar → T (List Av)
  | [] => .ret []
  | .tmp t :: r => optT st.fr[t]? fun av => (resT P st r).bind fun l => .ret (av :: l)
  | .cell t ty :: r => (aLoad P (fun _ => true) st.mem ty (st.fr.getD t .any)).bind fun av => (resT P st r).bind fun l => .ret (av :: l)
def resF (tmps : Array Value) : ResultVar → Sem Value
  | .tmp t => pure (tmps.getD t undef)
  | .cell t ty => do loadVar ty (← asAddr (tmps.getD t undef))
theorem results_eq (fn : Func) (tmps : Array Value) : results fn tmps = (do let vs ← fn.results.mapM (resF tmps); pure (if h : vs.size = 1 then vs[0] else .tuple vs)) := by
  unfold results
  congr 1
def resAv (l : List Av) : Av := match l with | [x] => x | l => .tup l
def ownOs (base : Nat) (av : Av) : Bool := (osIn av).any fun
  | .os i _ _ => decide (base ≤ i)
  | _ => false
def resSlots : List ResultVar → List Nat
  | [] => []
  | .tmp t :: r => t :: resSlots r
  | .cell t _ :: r => t :: resSlots r
def finRun (P : Program) (base : Nat) (rs : List ResultVar) (st : St) : T (Av × Mem) := (resT P st rs).bind fun l => match l.any (ownOs base) with
  | true => (frzAll base ⟨blankF (resSlots rs) st.fr, st.mem⟩).bind fun st => (resT P st rs).bind fun l => .ret (resAv l, st.mem)
  | false => .ret (resAv l, st.mem)
def fnRun {P : Program} (E : Env P) (L : Loops) (fn : Func) (args : List Av) (m : Mem) : T (Av × Mem) :=
  match fn.body with
  | some c => (code (E.at_ m.length) L c ⟨args ++ List.replicate (fn.ntmps - args.length) .nope, m⟩).bind fun r => match r.1 with
    | .ret | .normal => finRun P m.length fn.results.toList r.2
    | _ => .fail
  | none => .fail

section
variable {P : Program} {E : Env P} {L : Loops} {w0 w : World} {φ σ0 σ : List Nat} {st : St} {a : Act}
theorem resT_ok (hS : Sat w0 φ σ0 σ st a w) : ∀ (l : List ResultVar) (Q : List Av → Prop), (resT P st l).wp Q → ∃ avs vs, Q avs ∧ vs.length = avs.length ∧ (∀ (i : Nat) x v, avs[i]? = some x → vs[i]? = some v → AvIs w (Ro w φ σ) σ x v) ∧
    (l.mapM (resF a.tmps)).run P w = .ok vs w
  | [], Q, h => ⟨[], [], h, rfl, by simp, rfl⟩
  | .tmp t :: r, Q, h => by
    obtain ⟨av, hav, h1⟩ := optT_wp h
    rw [T.wp_bind] at h1
    obtain ⟨avs, vs, h2, h3, h4, h5⟩ := resT_ok hS r _ h1
    refine ⟨av :: avs, a.tmps.getD t undef :: vs, h2, by simp [h3], ?_, ?_⟩
    · intro i x v hx hv
      rcases i with _ | i
      · cases hx; cases hv; exact hS.fr.at_ t _ hav
      · exact h4 i x v (by simpa using hx) (by simpa using hv)
    · rw [List.mapM_cons]
      simp only [Sem.run_bind, resF, Sem.run_pure, Result.andThen_ok, h5]
  | .cell t ty :: r, Q, h => by
    unfold resT at h
    rw [T.wp_bind] at h
    let o : Oper := { dst := none, op := .load ty (.tmp t), type := 0, pos := "", after := #[], guard := none }
    have hx : operand st.fr (.tmp t) = st.fr.getD t .any := rfl
    obtain ⟨av, v, h1, h2, h3⟩ := tells_load (P := P) (o := o) (memS_all hS.mem) hS.fr rfl (by rw [hx]; exact h)
    have h3' := h3 w (look_self _ _ _ _)
    rw [T.wp_bind] at h1
    obtain ⟨avs, vs, h4, h5, h6, h7⟩ := resT_ok hS r _ h1
    refine ⟨av :: avs, v :: vs, h4, by simp [h5], ?_, ?_⟩
    · intro i x u hx hu
      rcases i with _ | i
      · cases hx; cases hu; exact h2
      · exact h6 i x u (by simpa using hx) (by simpa using hu)
    · have hl : (do loadVar ty (← asAddr (a.tmps.getD t undef)) : Sem Value).run P w = .ok v w := by
        unfold execOp at h3'
        simp only [o, Instr.loadAt, Act.eval, Sem.run_bind] at h3' ⊢
        generalize a.tmps.getD t undef = u at *
        cases u <;> simp [Instr.sureAddr, asAddr] at h3' ⊢
        rename_i p
        rcases p with _ | p
        · simp [Instr.sureAddr] at h3'
        · simp only [Instr.sureAddr, Sem.run_pure, Result.andThen_ok] at h3' ⊢
          cases hq : (loadVar ty p).run P w with
          | ok u w' => rw [hq] at h3'; simpa using h3'
          | halt x w' => rw [hq] at h3'; simp at h3'
      rw [List.mapM_cons]
      have hl' : (resF a.tmps (.cell t ty)).run P w = .ok v w := hl
      simp only [Sem.run_bind, Sem.run_pure, Result.andThen_ok, hl', h7]
end
end Ax
/-
A function's contract out of its run.
-/
set_option linter.unusedSimpArgs false
set_option linter.unusedVariables false
namespace Ax
open Go Go.RowKit

section
variable {P : Program} {E : Env P} {L : Loops} {w0 w : World} {φ σ0 σ : List Nat} {st : St} {a : Act}

theorem is_res {R : Nat → Prop} {avs : List Av} {vs : List Value} (hl : vs.length = avs.length) (h : ∀ (i : Nat) x v, avs[i]? = some x → vs[i]? = some v → AvIs w R σ x v) :
    AvIs w R σ (resAv avs) (if h : vs.toArray.size = 1 then vs.toArray[0] else .tuple vs.toArray) := by
  unfold resAv
  split
  · rename_i x
    obtain ⟨v, rfl⟩ : ∃ v, vs = [v] := by
      match vs, hl with
      | [v], _ => exact ⟨v, rfl⟩
    exact h 0 x v rfl rfl
  · rename_i hne
    have : ¬ (vs.toArray.size = 1) := by
      intro h1
      match avs, hl, h1, hne with
      | [x], _, _, hne => exact hne x rfl
      | [], hl, h1, _ => simp at hl; subst hl; simp at h1
      | _ :: _ :: _, hl, h1, _ => simp at hl h1; omega
    rw [dif_neg this]
    exact .tup vs hl h

theorem fn_ok {f : FuncId} {fn : Func} (hm : P.follows .mixedOrders = true) (hf : P.funcs[f]? = some fn) {n : Nat} (hL : ∀ c, fn.body = some c → LoopsOk P n L c) {m : Mem} (hn : m.length ≤ n) {args : List Av} {vs : List Value} {Q : Av × Mem → Prop}
    (hmem : MemOk w φ σ m) (hlen : vs.length = args.length) (hargs : ∀ (i : Nat) x v, args[i]? = some x → vs[i]? = some v → AvIs w (Ro w φ σ) σ x v) (h : (fnRun E L fn args m).wp Q) :
    Calls P f vs.toArray w fun e w' => ∃ v av m' σ', e = .returned v ∧ Q (av, m') ∧ Ext w σ σ' ∧ Keep w σ w' ∧ AvIs w' (Ro w' φ σ') σ' av v ∧ MemOk w' φ σ' m' := by
  unfold fnRun at h
  split at h
  · rename_i c hb
    rw [T.wp_bind] at h
    have hS : Sat w φ σ σ ⟨args ++ List.replicate (fn.ntmps - args.length) .nope, m⟩ { tmps := vs.toArray ++ Array.replicate (fn.ntmps - vs.toArray.size) undef, defers := [] } w := by
      refine ⟨⟨by simp [hlen], fun t av ht => ?_⟩, hmem, Ext.refl _ _, Keep.refl _ _, rfl⟩
      simp only [] at ht ⊢
      rcases Nat.lt_or_ge t args.length with hlt | hge
      · rw [List.getElem?_append_left hlt] at ht
        have hv : vs[t]? = some (vs[t]'(by rw [hlen]; exact hlt)) := List.getElem?_eq_getElem _
        have := hargs t av _ ht hv
        have e : (vs.toArray ++ Array.replicate (fn.ntmps - vs.toArray.size) undef).getD t undef = vs[t]'(by rw [hlen]; exact hlt) := by
          simp [Array.getElem?_append, hlen, hlt]
        rw [e]; exact this
      · rw [List.getElem?_append_right hge] at ht
        have : av = .nope := by
          have := List.mem_of_getElem? ht
          exact List.eq_of_mem_replicate this
        subst this
        have e : (vs.toArray ++ Array.replicate (fn.ntmps - vs.toArray.size) undef).getD t undef = undef := by
          simp [Array.getElem?_append, hlen, Nat.not_lt.2 hge, Array.getElem?_replicate]
          split <;> rfl
        rw [e]; exact .nope
    refine calls_of_wp hf hb (wp_mono (code_ok (E := E.at_ m.length) hm (by rw [← hmem.len]; exact hn) (by show σ.length ≤ m.length; rw [hmem.len]; exact Nat.le_refl _) hmem.fo c _ σ _ w _ (hL c hb) hS h) fun e a' w' hr => ?_)
    obtain ⟨h1, st', σ', h2, h3⟩ := hr
    have fin : (finRun P m.length fn.results.toList st').wp Q → bodyPost P fn (fun e w' => ∃ v av m' σ', e = .returned v ∧ Q (av, m') ∧ Ext w σ σ' ∧ Keep w σ w' ∧ AvIs w' (Ro w' φ σ') σ' av v ∧ MemOk w' φ σ' m') .ret a' w' := by
      intro h4
      have last : ∀ (st' : St) (σ' : List Nat), Sat w φ σ σ' st' a' w' → ((resT P st' fn.results.toList).wp fun l => Q (resAv l, st'.mem)) → bodyPost P fn (fun e w' => ∃ v av m' σ', e = .returned v ∧ Q (av, m') ∧ Ext w σ σ' ∧ Keep w σ w' ∧ AvIs w' (Ro w' φ σ') σ' av v ∧ MemOk w' φ σ' m') .ret a' w' := by
        intro st' σ' h3 h4
        obtain ⟨avs, vs', g1, g2, g3, g4⟩ := resT_ok h3 _ _ h4
        refine ⟨h3.df, _, ?_, _, resAv avs, st'.mem, σ', rfl, g1, h3.ext, h3.keep, is_res g2 g3, h3.mem⟩
        rw [results_eq, Array.mapM_eq_mapM_toList]
        simp only [Sem.run_bind, Sem.run_map, Sem.run_pure, g4, Result.andThen_ok]
      unfold finRun at h4
      rw [T.wp_bind] at h4
      obtain ⟨avs, vs', g1, g2, g3, g4⟩ := resT_ok h3 _ _ h4
      split at g1
      · rw [T.wp_bind] at g1
        obtain ⟨st2, σ2, h5, h6⟩ := frzAll_ok hmem.fo (by rw [← hmem.len]; exact Nat.le_refl _) (blank_ok _ h3) g1
        rw [T.wp_bind] at h5
        exact last st2 σ2 h6 h5
      · refine ⟨h3.df, _, ?_, _, resAv avs, st'.mem, σ', rfl, g1, h3.ext, h3.keep, is_res g2 g3, h3.mem⟩
        rw [results_eq, Array.mapM_eq_mapM_toList]
        simp only [Sem.run_bind, Sem.run_map, Sem.run_pure, g4, Result.andThen_ok]
    cases e with
    | normal => exact fin h2
    | ret => exact fin h2
    | panic _ => cases h1
    | outgrown => cases h1
    | exit _ => exact h2.elim
    | goto _ => exact h2.elim
  · exact h.elim
end

/-! ### no pointer of one's own -/
def noC : Ck → Bool
  | .p .. => false
  | .pe .. => false
  | .os .. => false
  | .row .. => false
  | _ => true
def no1 : Av → Bool
  | .one c => noC c
  | .agg l => l.all noC
  | .tup _ => false
  | _ => true
def noA : Av → Bool
  | .one c => noC c
  | .agg l => l.all noC
  | .tup l => l.all no1
  | _ => true
theorem is_no {w : World} {R : Nat → Prop} {σ : List Nat} {l : List Ck} {us : List Value} (h : Is w R σ l us) : l.all noC = true → Is w R [] l us := by
  induction h with
  | nil => intro _; exact .nil
  | v h _ ih => intro hn; exact .v h (ih (by simpa [noC] using hn))
  | kb _ ih => intro hn; exact .kb (ih (by simpa [noC] using hn))
  | w _ ih => intro hn; exact .w (ih (by simpa [noC] using hn))
  | p _ _ _ => intro hn; simp [noC] at hn
  | dn _ ih => intro hn; exact .dn (ih (by simpa [noC] using hn))
  | de a cap _ ih => intro hn; exact .de a cap (ih (by simpa [noC] using hn))
  | ni t v _ ih => intro hn; exact .ni t v (ih (by simpa [noC] using hn))
  | ds g h1 h2 h3 h4 h5 _ _ ih => intro hn; exact .ds g h1 h2 h3 h4 h5 (ih (by simpa [noC] using hn))
  | pr h1 h2 h3 _ _ ih => intro hn; exact .pr h1 h2 h3 (ih (by simpa [noC] using hn))
  | pe _ _ _ _ => intro hn; simp [noC] at hn
  | os _ _ _ _ => intro hn; simp [noC] at hn
  | row => intro hn; simp [noC] at hn
  | any h _ ih => intro hn; exact .any h (ih (by simpa [noC] using hn))
theorem av_no1 {w : World} {R : Nat → Prop} {σ : List Nat} {a : Av} {v : Value} (h : AvIs w R σ a v) (hn : no1 a = true) : AvIs w R [] a v := by
  cases h with
  | one h1 h2 => exact .one h1 (is_no h2 (by simpa [no1] using hn))
  | agg h => exact .agg (is_no h hn)
  | tup => simp [no1] at hn
  | nope => exact .nope
  | any => exact .any
theorem av_no {w : World} {R : Nat → Prop} {σ : List Nat} {a : Av} {v : Value} (h : AvIs w R σ a v) (hn : noA a = true) : AvIs w R [] a v := by
  cases h with
  | one h1 h2 => exact .one h1 (is_no h2 (by simpa [noA] using hn))
  | agg h => exact .agg (is_no h hn)
  | tup us hl hi =>
    refine .tup us hl fun i x u hx hu => av_no1 (hi i x u hx hu) ?_
    have := List.all_eq_true.1 hn x (List.mem_of_getElem? hx)
    exact this
  | nope => exact .nope
  | any => exact .any
theorem AvIs.ro {w : World} {R R' : Nat → Prop} {a : Av} {v : Value} (h : AvIs w R [] a v) (hR : ∀ b, R b → R' b) (σ' : List Nat) : AvIs w R' σ' a v := h.mono (fun b hb => ⟨hR b hb, rfl⟩) (fun i b hi => by simp at hi)

/-! ### typed arguments -/
abbrev Els : List (Bool × Cd) → Type
  | [] => Unit
  | t :: ts => El t.2 × Els ts
def encA (row : Bool) (c : Cd) (x : El c) : Av := match row with
  | true => .agg (ck c x)
  | false => match ck c x with
    | [k] => .one k
    | _ => .any
def decA (row : Bool) (c : Cd) (av : Av) : Option (El c) := match row, av with
  | true, .agg cs => (match parse c cs with | some (x, []) => some x | _ => none)
  | false, .one k => (match parse c [k] with | some (x, []) => some x | _ => none)
  | _, _ => none
def encs : (ts : List (Bool × Cd)) → Els ts → List Av
  | [], _ => []
  | t :: ts, x => encA t.1 t.2 x.1 :: encs ts x.2
def decs : (ts : List (Bool × Cd)) → List Av → Option (Els ts)
  | [], [] => some ()
  | t :: ts, a :: r => match decA t.1 t.2 a, decs ts r with
    | some x, some xs => some (x, xs)
    | _, _ => none
  | _, _ => none
theorem decA_ok {w : World} {R : Nat → Prop} {σ : List Nat} {row : Bool} {c : Cd} {av : Av} {x : El c} {v : Value} (hd : decA row c av = some x) (h : AvIs w R σ av v) : AvIs w R [] (encA row c x) v := by
  unfold decA at hd
  split at hd
  · rename_i cs
    split at hd
    · rename_i y hp
      cases hd
      cases h with
      | agg h =>
        obtain ⟨ua, ub, rfl, i1, i2⟩ := parse_ok c cs x [] _ hp h
        cases i2
        rw [List.append_nil]
        exact .agg i1
    · cases hd
  · rename_i k
    split at hd
    · rename_i y hp
      cases hd
      cases h with
      | one h1 h2 =>
        obtain ⟨ua, ub, e, i1, i2⟩ := parse_ok c [k] x [] _ hp h2
        cases i2
        rw [List.append_nil] at e
        subst e
        show AvIs w R [] (match ck c x with | [k] => .one k | _ => .any) v
        split
        · rename_i k' hk
          rw [hk] at i1
          have := is_len _ i1
          refine .one ?_ i1
          simpa [ckLen] using this.symm
        · exact .any
    · cases hd
  · cases hd
theorem decs_ok {w : World} {R : Nat → Prop} {σ : List Nat} : ∀ (ts : List (Bool × Cd)) (args : List Av) (x : Els ts) (vs : List Value), decs ts args = some x → vs.length = args.length →
    (∀ (i : Nat) a v, args[i]? = some a → vs[i]? = some v → AvIs w R σ a v) → vs.length = (encs ts x).length ∧ ∀ (i : Nat) a v, (encs ts x)[i]? = some a → vs[i]? = some v → AvIs w R [] a v
  | [], [], x, vs, _, hl, _ => ⟨by simpa [encs] using hl, by simp [encs]⟩
  | [], _ :: _, x, vs, h, _, _ => by simp [decs] at h
  | t :: ts, [], x, vs, h, _, _ => by simp [decs] at h
  | t :: ts, a :: r, x, vs, h, hl, ha => by
    obtain ⟨v, vs, rfl⟩ : ∃ o r, vs = o :: r := by
      match vs, hl with
      | o :: r, _ => exact ⟨o, r, rfl⟩
    unfold decs at h
    split at h
    · rename_i y ys hy hys
      cases h
      have ih := decs_ok ts r ys vs hys (by simpa using hl) (fun i a v h1 h2 => ha (i + 1) a v (by simpa using h1) (by simpa using h2))
      refine ⟨by simp [encs, ih.1], fun i b u hb hu => ?_⟩
      rcases i with _ | i
      · cases hb; cases hu; exact decA_ok hy (ha 0 a v rfl rfl)
      · exact ih.2 i b u (by simpa [encs] using hb) (by simpa using hu)
    · cases h
def pureRun' (ts : List (Bool × Cd)) (sp : Els ts → T Av) (args : List Av) (m : Mem) : T (Av × Mem) :=
  match decs ts args with
  | some x => (sp x).bind fun av => .ret (av, m)
  | none => .fail
theorem pure_ok {P : Program} {E : Env P} {L : Loops} {f : FuncId} {fn : Func} (hm : P.follows .mixedOrders = true) (hf : P.funcs[f]? = some fn) (hL : ∀ c, fn.body = some c → LoopsOk P 0 L c) (ts : List (Bool × Cd)) (sp : Els ts → T Av)
    (h : ∀ x Q, (sp x).wp Q → (fnRun E L fn (encs ts x) []).wp fun r => Q r.1 ∧ noA r.1 = true) : ConOk P f [] (pureRun' ts sp) := by
  intro w φ σ m args vs Q hmem hlen hargs hrun
  unfold pureRun' at hrun
  split at hrun
  · rename_i x hx
    rw [T.wp_bind] at hrun
    obtain ⟨hl, ha⟩ := decs_ok ts args x vs hx hlen hargs
    have hro : ∀ b, Ro w φ σ b → Ro w (φ ++ σ) [] b := fun b hb => ⟨hb.1, by simp [hb.2.1, hb.2.2], by simp⟩
    have hmem0 : MemOk w (φ ++ σ) [] [] := ⟨rfl, by simp, fun b hb => by
      rcases List.mem_append.1 hb with h1 | h1
      · exact hmem.fo b h1
      · exact hmem.lt h1, hmem.gl.mono fun z hz => ⟨hro z hz, rfl⟩, fun i t cs b h1 h2 => by simp at h1⟩
    refine (fn_ok (E := E) (L := L) hm hf hL (Nat.zero_le _) hmem0 hl (fun i a v h1 h2 => (ha i a v h1 h2).ro hro []) (h x _ hrun)).mono fun e w' hr => ?_
    obtain ⟨v, av, m', σ', rfl, ⟨hQ, hno⟩, hext, hkeep, hav, hmem'⟩ := hr
    have hk : Keep w σ w' := ⟨hkeep.os, hkeep.tape, hkeep.output, hkeep.size, fun k hk _ => hkeep.block k hk (by simp)⟩
    have hown : ∀ i b : Nat, σ[i]? = some b → w'.heap[b]? = w.heap[b]? := fun i b hi => hkeep.block b (hmem.lt (List.mem_of_getElem? hi)) (by simp)
    refine ⟨v, av, m, σ, rfl, hQ, Ext.refl _ _, hk, fun i b hi _ => hown i b hi, (av_no hav hno).ro (fun b hb => ⟨hb.1, ?_, ?_⟩) σ, hmem.stay hk (Ext.refl _ _) rfl hown⟩
    · exact fun hb' => hb.2.1 (by simp [hb'])
    · exact fun hb' => hb.2.1 (by simp [hb'])
  · exact hrun.elim
def nC : Ck → Ck
  | .kb b => .v (.bool b)
  | c => c
def n1 : Av → Av
  | .one c => .one (nC c)
  | .agg l => .agg (l.map nC)
  | a => a
def nA : Av → Av
  | .tup l => .tup (l.map n1)
  | a => n1 a
theorem is_nC {w : World} {R : Nat → Prop} {σ : List Nat} {l : List Ck} {us : List Value} (h : Is w R σ l us) : Is w R σ (l.map nC) us := by
  induction h with
  | nil => exact .nil
  | v h _ ih => exact .v h ih
  | kb _ ih => exact .v rfl ih
  | w _ ih => exact .w ih
  | p h _ ih => exact .p h ih
  | dn _ ih => exact .dn ih
  | de a cap _ ih => exact .de a cap ih
  | ni t v _ ih => exact .ni t v ih
  | ds g h1 h2 h3 h4 h5 _ _ ih => exact .ds g h1 h2 h3 h4 h5 ih
  | pr h1 h2 h3 _ _ ih => exact .pr h1 h2 h3 ih
  | pe h h2 _ ih => exact .pe h h2 ih
  | os h h2 _ ih => exact .os h h2 ih
  | row g h1 h2 h3 h4 h5 h6 h7 _ h9 _ ih => exact .row g h1 h2 h3 h4 h5 h6 h7 ih h9
  | any h _ ih => exact .any h ih
theorem nC_size (c : Ck) : (nC c).size = c.size := by cases c <;> rfl
theorem n1_is {w : World} {R : Nat → Prop} {σ : List Nat} {a : Av} {v : Value} (h : AvIs w R σ a v) : AvIs w R σ (n1 a) v := by
  cases h with
  | one h1 h2 => exact .one (by rw [nC_size]; exact h1) (is_nC h2)
  | agg h => exact .agg (is_nC h)
  | tup us hl hi => exact .tup us hl hi
  | nope => exact .nope
  | any => exact .any
theorem nA_is {w : World} {R : Nat → Prop} {σ : List Nat} {a : Av} {v : Value} (h : AvIs w R σ a v) : AvIs w R σ (nA a) v := by
  cases h with
  | tup us hl hi =>
    refine .tup us (by simpa using hl) fun i x u hx hu => ?_
    rw [List.getElem?_map] at hx
    rename_i l
    cases hq : l[i]? with
    | none => rw [hq] at hx; simp at hx
    | some y =>
      rw [hq] at hx
      simp only [Option.map_some, Option.some.injEq] at hx
      subst hx
      exact n1_is (hi i y u hq hu)
  | one h1 h2 => exact n1_is (.one h1 h2)
  | agg h => exact n1_is (.agg h)
  | nope => exact .nope
  | any => exact .any
def fnP {P : Program} (E : Env P) (L : Loops) (fn : Func) (args : List Av) : T Av :=
  (fnRun E L fn args []).bind fun r => match noA r.1 with
    | true => .ret (nA r.1)
    | false => .fail
theorem fnP_wp {P : Program} {E : Env P} {L : Loops} {fn : Func} {args : List Av} {Q : Av → Prop} (h : (fnP E L fn args).wp Q) : (fnRun E L fn args []).wp fun r => Q (nA r.1) ∧ noA r.1 = true := by
  unfold fnP at h
  rw [T.wp_bind] at h
  refine T.wp_mono (fun r hr => ?_) h
  split at hr
  · rename_i hn; exact ⟨hr, hn⟩
  · exact hr.elim
theorem con_ok {P : Program} {E : Env P} {L : Loops} {f : FuncId} {fn : Func} (hm : P.follows .mixedOrders = true) (hf : P.funcs[f]? = some fn) (hL : ∀ c, fn.body = some c → LoopsOk P 0 L c) (ts : List (Bool × Cd)) (sp : Els ts → T Av)
    (h : ∀ x Q, (sp x).wp Q → (fnP E L fn (encs ts x)).wp Q) : ConOk P f [] (pureRun' ts sp) := by
  intro w φ σ m args vs Q hmem hlen hargs hrun
  unfold pureRun' at hrun
  split at hrun
  · rename_i x hx
    rw [T.wp_bind] at hrun
    have hq := fnP_wp (h x _ hrun)
    have := pure_ok (E := E) (L := L) hm hf hL ts (fun x => (fnRun E L fn (encs ts x) []).bind fun r => match noA r.1 with | true => .ret r.1 | false => .fail) (fun x Q hq => by
      rw [T.wp_bind] at hq
      refine T.wp_mono (fun r hr => ?_) hq
      split at hr
      · rename_i hn; exact ⟨hr, hn⟩
      · exact hr.elim) w φ σ m args vs (fun r => Q (nA r.1, r.2)) hmem hlen hargs (by
      unfold pureRun'
      rw [hx]
      simp only [T.wp_bind]
      refine T.wp_mono (fun r hr => ?_) hq
      rw [hr.2]
      exact hr.1)
    refine this.mono fun e w' hr => ?_
    obtain ⟨v, av, m', σ', he, hQ, h1, h2, h3, h4, h5⟩ := hr
    exact ⟨v, nA av, m', σ', he, hQ, h1, h2, h3, nA_is h4, h5⟩
  · exact hrun.elim

/-! ### one argument is a pointer to a block that may be written -/
def ptr1 {P : Program} (E : Env P) (L : Loops) (fn : Func) (k : Nat) (ty : TypeId) (c : Cd) (x : El c) (args : List Av) : T (Av × El c) :=
  (fnRun E L fn (args.take k ++ .one (.p 0 0) :: args.drop k) [(ty, ck c x)]).bind fun r => match noA r.1, r.2[0]? with
    | true, some (ty', cs) => if ty' = ty then (match parse c cs with
      | some (y, []) => .ret (nA r.1, y)
      | _ => .fail) else .fail
    | _, _ => .fail
def ptr1Run (k : Nat) (ty : TypeId) (c : Cd) (ts : List (Bool × Cd)) (sp : El c → Els ts → T (Av × El c)) (args : List Av) (m : Mem) : T (Av × Mem) :=
  match args[k]? with
  | some (.one (.p i 0)) => match m[i]? with
    | some (ty', cs) => if ty' = ty then (match parse c cs, decs ts (args.take k ++ args.drop (k + 1)) with
      | some (x, []), some xs => (sp x xs).bind fun r => .ret (r.1, m.set i (ty, ck c r.2))
      | _, _ => .fail) else .fail
    | none => .fail
  | _ => .fail
theorem ptr1_ok {P : Program} {E : Env P} {L : Loops} {f : FuncId} {fn : Func} (hm : P.follows .mixedOrders = true) (hf : P.funcs[f]? = some fn) (hL : ∀ c, fn.body = some c → LoopsOk P 1 L c) (k : Nat) (ty : TypeId) (c : Cd) (ts : List (Bool × Cd)) (sp : El c → Els ts → T (Av × El c))
    (h : ∀ x xs Q, (sp x xs).wp Q → (ptr1 E L fn k ty c x (encs ts xs)).wp Q) : ConOk P f [k] (ptr1Run k ty c ts sp) := by
  intro w φ σ m args vs Q hmem hlen hargs hrun
  unfold ptr1Run at hrun
  split at hrun
  · rename_i i hk
    split at hrun
    · rename_i ty' cs hmi
      by_cases hty : ty' = ty
      · rw [if_pos hty] at hrun
        subst hty
        split at hrun
        · rename_i x xs hp hd
          rw [T.wp_bind] at hrun
          have hrun := h x xs _ hrun
          unfold ptr1 at hrun
          rw [T.wp_bind] at hrun
          have hkl : k < args.length := (List.getElem?_eq_some_iff.1 hk).1
          have hvk : vs[k]? = some (vs[k]'(by omega)) := List.getElem?_eq_getElem _
          obtain ⟨b, hb, hve⟩ := is_one_p (hargs k _ _ hk hvk)
          have hbm : b ∈ σ := List.mem_of_getElem? hb
          have hblt := hmem.lt hbm
          obtain ⟨us, hbl, his⟩ := hmem.blk i _ cs b hmi hb
          obtain ⟨ua, ub, rfl, i1, i2⟩ := parse_ok c cs x [] us hp his
          cases i2
          rw [List.append_nil] at hbl
          have hro : ∀ z, Ro w φ σ z → Ro w (φ ++ σ.erase b) [b] z := fun z hz => ⟨hz.1, by
            intro hm
            rcases List.mem_append.1 hm with h1 | h1
            · exact hz.2.1 h1
            · exact hz.2.2 (List.mem_of_mem_erase h1), by
            intro hm
            rw [List.mem_singleton] at hm
            subst hm
            exact hz.2.2 hbm⟩
          have hmem0 : MemOk w (φ ++ σ.erase b) [b] [(ty', ck c x)] := ⟨rfl, by simp, fun z hz => by
              rcases List.mem_append.1 hz with h1 | h1
              · exact hmem.fo z h1
              · exact hmem.lt (List.mem_of_mem_erase h1), hmem.gl.mono fun z hz => ⟨hro z hz, rfl⟩, fun j t cs' b' hj hb' => by
              rcases j with _ | j
              · simp only [List.getElem?_cons_zero, Option.some.injEq] at hj hb'
                cases hj; subst hb'
                exact ⟨ua, hbl, (i1.mono (fun z hz => ⟨hro z hz, rfl⟩) (fun _ _ h => by simp at h))⟩
              · simp at hj⟩
          -- the other arguments
          have hsplit : vs = vs.take k ++ vs[k]'(by omega) :: vs.drop (k + 1) := by simp
          have hl1 : (vs.take k ++ vs.drop (k + 1)).length = (args.take k ++ args.drop (k + 1)).length := by simp [hlen]
          obtain ⟨hle, hae⟩ := decs_ok (w := w) (R := Ro w φ σ) (σ := σ) ts _ xs (vs.take k ++ vs.drop (k + 1)) hd hl1 (fun j a v ha hv => by
            rcases Nat.lt_or_ge j k with hj | hj
            · rw [List.getElem?_append_left (by simp; omega), List.getElem?_take, if_pos hj] at ha
              rw [List.getElem?_append_left (by simp; omega), List.getElem?_take, if_pos hj] at hv
              exact hargs j a v ha hv
            · rw [List.getElem?_append_right (by simp; omega), List.getElem?_drop] at ha
              rw [List.getElem?_append_right (by simp; omega), List.getElem?_drop] at hv
              have e1 : (args.take k).length = k := by simp; omega
              have e2 : (vs.take k).length = k := by simp; omega
              rw [e1] at ha
              rw [e2] at hv
              exact hargs _ a v ha hv)
          have hek : k ≤ (encs ts xs).length := by rw [← hle]; simp; omega
          have hlen2 : vs.length = ((encs ts xs).take k ++ .one (.p 0 0) :: (encs ts xs).drop k).length := by
            have := hle
            simp at this ⊢
            omega
          have hargs2 : ∀ (j : Nat) a v, ((encs ts xs).take k ++ .one (.p 0 0) :: (encs ts xs).drop k)[j]? = some a → vs[j]? = some v → AvIs w (Ro w (φ ++ σ.erase b) [b]) [b] a v := by
            intro j a v ha hv
            have e1 : ((encs ts xs).take k).length = k := by simp; omega
            rcases Nat.lt_trichotomy j k with hj | hj | hj
            · rw [List.getElem?_append_left (by omega), List.getElem?_take, if_pos hj] at ha
              have hv2 : (vs.take k ++ vs.drop (k + 1))[j]? = some v := by
                rw [List.getElem?_append_left (by simp; omega), List.getElem?_take, if_pos hj]; exact hv
              exact (hae j a v ha hv2).ro hro [b]
            · subst hj
              rw [List.getElem?_append_right (by omega), e1, Nat.sub_self, List.getElem?_cons_zero] at ha
              cases ha
              have : v = .pointer (some ⟨b, 0, none⟩) := by
                rw [hvk] at hv
                cases hv; exact hve
              subst this
              exact .one rfl (.p rfl .nil)
            · rw [List.getElem?_append_right (by omega), e1] at ha
              obtain ⟨d, rfl⟩ : ∃ d, j = k + 1 + d := ⟨j - k - 1, by omega⟩
              rw [show k + 1 + d - k = d + 1 from by omega, List.getElem?_cons_succ, List.getElem?_drop] at ha
              have hv2 : (vs.take k ++ vs.drop (k + 1))[k + d]? = some v := by
                rw [List.getElem?_append_right (by simp; omega), List.getElem?_drop]
                have e2 : (vs.take k).length = k := by simp; omega
                rw [e2, show k + 1 + (k + d - k) = k + 1 + d from by omega]; exact hv
              exact (hae (k + d) a v ha hv2).ro hro [b]
          refine (fn_ok (E := E) (L := L) hm hf hL (Nat.le_refl _) hmem0 hlen2 hargs2 hrun).mono fun e w' hr => ?_
          obtain ⟨v, av, m', σ', rfl, hQ, hext, hkeep, hav, hmem'⟩ := hr
          split at hQ
          · rename_i ty2 cs2 hno hm0
            by_cases hty2 : ty2 = ty'
            · rw [if_pos hty2] at hQ
              subst hty2
              split at hQ
              · rename_i y hp2
                have hb0 : σ'[0]? = some b := hext.get rfl
                obtain ⟨us2, hbl2, his2⟩ := hmem'.blk 0 ty2 cs2 b hm0 hb0
                obtain ⟨va, vb, rfl, j1, j2⟩ := parse_ok c cs2 y [] us2 hp2 his2
                cases j2
                rw [List.append_nil] at hbl2
                have hkeep2 : Keep w σ w' := ⟨hkeep.os, hkeep.tape, hkeep.output, hkeep.size, fun z hz hn => hkeep.block z hz (fun h => by
                  rw [List.mem_singleton] at h
                  subst h
                  exact hn hbm)⟩
                have hro2 : ∀ z, Ro w' (φ ++ σ.erase b) σ' z → Ro w' φ σ z := fun z hz => ⟨hz.1, fun h => hz.2.1 (by simp [h]), fun h => by
                  by_cases hzb : z = b
                  · subst hzb; exact hz.2.2 (List.mem_of_getElem? hb0)
                  · exact hz.2.1 (List.mem_append.2 (.inr ((List.mem_erase_of_ne hzb).2 h)))⟩
                have hoth : ∀ z : Nat, z ≠ b → z < w.heap.size → w'.heap[z]? = w.heap[z]? := fun z hz hlt => hkeep.block z hlt (by simpa using hz)
                refine ⟨v, nA av, m.set i (ty2, ck c y), σ, rfl, hQ, Ext.refl _ _, hkeep2, fun j b' hj hn => ?_, (nA_is (av_no hav hno)).ro hro2 σ, ?_⟩
                · refine hoth b' (fun e => ?_) (hmem.lt (List.mem_of_getElem? hj))
                  subst e
                  apply hn
                  obtain ⟨l1, e1⟩ := List.getElem?_eq_some_iff.1 hb
                  obtain ⟨l2, e2⟩ := List.getElem?_eq_some_iff.1 hj
                  have := (List.getElem_inj hmem.nodup).1 (e1.trans e2.symm)
                  subst this
                  refine mem_wrOf ?_
                  unfold wrDirect
                  simp [hk]
                · refine ⟨by simp [hmem.len], hmem.nodup, fun z hz => Nat.lt_of_lt_of_le (hmem.fo z hz) hkeep.size, hmem'.gl.mono fun z hz => ⟨hro2 z hz, rfl⟩, fun j t cs' b' hj hb' => ?_⟩
                  rw [List.getElem?_set] at hj
                  by_cases e : i = j
                  · subst e
                    rw [if_pos rfl] at hj
                    split at hj
                    · cases hj
                      rw [hb] at hb'
                      cases hb'
                      exact ⟨va, hbl2, j1.mono (fun z hz => ⟨hro2 z hz, rfl⟩) (fun _ _ h => by simp at h)⟩
                    · cases hj
                  · rw [if_neg e] at hj
                    obtain ⟨us3, g1, g2⟩ := hmem.blk j t cs' b' hj hb'
                    have hne : b' ≠ b := by
                      rintro rfl
                      obtain ⟨l1, e1⟩ := List.getElem?_eq_some_iff.1 hb
                      obtain ⟨l2, e2⟩ := List.getElem?_eq_some_iff.1 hb'
                      exact e ((List.getElem_inj hmem.nodup).1 (e1.trans e2.symm))
                    exact ⟨us3, (hoth b' hne (hmem.lt (List.mem_of_getElem? hb'))).trans g1, g2.mono (hkeep2.ro (Ext.refl _ _)) (fun _ _ h => h)⟩
              · exact hQ.elim
            · rw [if_neg hty2] at hQ; exact hQ.elim
          · exact hQ.elim
        · exact hrun.elim
      · rw [if_neg hty] at hrun; exact hrun.elim
    · exact hrun.elim
  · exact hrun.elim

/-! ### the argument is a row of the caller's own, that may be put in another order or written -/
def row1 {P : Program} (E : Env P) (L : Loops) (fn : Func) (ty : TypeId) (c : Cd) (xs : List (El c)) (n cap : Nat) : T (Av × List (El c)) :=
  (fnRun E L fn [.one (.os 0 n cap)] [(ty, [.row c xs cap])]).bind fun (r : Av × Mem) => match noA r.1, r.2[0]? with
    | true, some (ty', [Ck.row c' ys cap']) => if ty' = ty then optT (castRow c' c ys) fun ys => .need (cap' = cap) (.ret (nA r.1, ys)) else .fail
    | _, _ => .fail
def row1Run (ty : TypeId) (c : Cd) (sp : List (El c) → Nat → Nat → T (Av × List (El c))) (args : List Av) (m : Mem) : T (Av × Mem) :=
  match args with
  | [.one (.os i n cap)] => match m[i]? with
    | some (ty', [.row c' xs cap']) => if ty' = ty then optT (castRow c' c xs) fun xs => .need (cap' = cap) ((sp xs n cap).bind fun r => .ret (r.1, m.set i (ty, [.row c r.2 cap]))) else .fail
    | _ => .fail
  | _ => .fail
theorem castRow_is {w : World} {R : Nat → Prop} {σ : List Nat} {c c' : Cd} {xs : List (El c)} {ys : List (El c')} {cap : Nat} {us : List Value} (h : castRow c c' xs = some ys) (hi : Is w R σ [.row c xs cap] us) : Is w R σ [.row c' ys cap] us := by
  unfold castRow at h
  split at h
  · rename_i e; subst e; cases h; exact hi
  · cases h
theorem row_none {w : World} {R : Nat → Prop} {σ : List Nat} {c : Cd} {xs : List (El c)} {cap : Nat} {us : List Value} (h : Is w R σ [.row c xs cap] us) (σ' : List Nat) : Is w R σ' [.row c xs cap] us := by
  obtain ⟨g, h1, h2, h3, h4, h5, h6, h7⟩ := is_row h
  exact .row g h1 h2 h3 h4 h5 h6 h7 .nil (List.append_nil _).symm
theorem row1_ok {P : Program} {E : Env P} {L : Loops} {f : FuncId} {fn : Func} (hm : P.follows .mixedOrders = true) (hf : P.funcs[f]? = some fn) (hL : ∀ c, fn.body = some c → LoopsOk P 1 L c) (ty : TypeId) (c : Cd) (sp : List (El c) → Nat → Nat → T (Av × List (El c)))
    (h : ∀ xs n cap Q, (sp xs n cap).wp Q → (row1 E L fn ty c xs n cap).wp Q) : ConOk P f [0] (row1Run ty c sp) := by
  intro w φ σ m args vs Q hmem hlen hargs hrun
  unfold row1Run at hrun
  split at hrun
  · rename_i i n cap
    split at hrun
    · rename_i ty' c' xs cap' hmi
      by_cases hty : ty' = ty
      · rw [if_pos hty] at hrun
        subst hty
        obtain ⟨xs', hcast, hcap, hrun⟩ := optT_wp hrun
        subst hcap
        rw [T.wp_bind] at hrun
        have hrun := h xs' n cap' _ hrun
        unfold row1 at hrun
        rw [T.wp_bind] at hrun
        obtain ⟨v0, rfl⟩ : ∃ v, vs = [v] := by
          match vs, hlen with
          | [v], _ => exact ⟨v, rfl⟩
        obtain ⟨b, hb, hncap, hve⟩ := is_one_os (hargs 0 _ _ rfl rfl)
        have hbm : b ∈ σ := List.mem_of_getElem? hb
        have hblt := hmem.lt hbm
        obtain ⟨us, hbl, his⟩ := hmem.blk i _ _ b hmi hb
        have his := castRow_is hcast his
        have hro : ∀ z, Ro w φ σ z → Ro w (φ ++ σ.erase b) [b] z := fun z hz => ⟨hz.1, by
          intro hm
          rcases List.mem_append.1 hm with h1 | h1
          · exact hz.2.1 h1
          · exact hz.2.2 (List.mem_of_mem_erase h1), by
          intro hm
          rw [List.mem_singleton] at hm
          subst hm
          exact hz.2.2 hbm⟩
        have hmem0 : MemOk w (φ ++ σ.erase b) [b] [(ty', [.row c xs' cap'])] := ⟨rfl, by simp, fun z hz => by
            rcases List.mem_append.1 hz with h1 | h1
            · exact hmem.fo z h1
            · exact hmem.lt (List.mem_of_mem_erase h1), hmem.gl.mono fun z hz => ⟨hro z hz, rfl⟩, fun j t cs' b' hj hb' => by
            rcases j with _ | j
            · simp only [List.getElem?_cons_zero, Option.some.injEq] at hj hb'
              cases hj; subst hb'
              exact ⟨us, hbl, (row_none his []).mono (fun z hz => ⟨hro z hz, rfl⟩) (fun _ _ h => by simp at h)⟩
            · simp at hj⟩
        have hargs2 : ∀ (j : Nat) a v, ([.one (.os 0 n cap')] : List Av)[j]? = some a → [v0][j]? = some v → AvIs w (Ro w (φ ++ σ.erase b) [b]) [b] a v := by
          intro j a v ha hv
          rcases j with _ | j
          · cases ha; cases hv
            rw [hve]
            exact .one rfl (.os rfl hncap .nil)
          · simp at ha
        refine (fn_ok (E := E) (L := L) hm hf hL (Nat.le_refl _) hmem0 rfl hargs2 hrun).mono fun e w' hr => ?_
        obtain ⟨v, av, m', σ', rfl, hQ, hext, hkeep, hav, hmem'⟩ := hr
        split at hQ
        · rename_i ty2 c2 ys cap2 hno hm0
          by_cases hty2 : ty2 = ty'
          · rw [if_pos hty2] at hQ
            subst hty2
            obtain ⟨ys', hcast2, hcap2, hQ⟩ := optT_wp hQ
            subst hcap2
            have hb0 : σ'[0]? = some b := hext.get rfl
            obtain ⟨us2, hbl2, his2⟩ := hmem'.blk 0 ty2 _ b hm0 hb0
            have his2 := castRow_is hcast2 his2
            have hkeep2 : Keep w σ w' := ⟨hkeep.os, hkeep.tape, hkeep.output, hkeep.size, fun z hz hn => hkeep.block z hz (fun h => by
              rw [List.mem_singleton] at h
              subst h
              exact hn hbm)⟩
            have hro2 : ∀ z, Ro w' (φ ++ σ.erase b) σ' z → Ro w' φ σ z := fun z hz => ⟨hz.1, fun h => hz.2.1 (by simp [h]), fun h => by
              by_cases hzb : z = b
              · subst hzb; exact hz.2.2 (List.mem_of_getElem? hb0)
              · exact hz.2.1 (List.mem_append.2 (.inr ((List.mem_erase_of_ne hzb).2 h)))⟩
            have hoth : ∀ z : Nat, z ≠ b → z < w.heap.size → w'.heap[z]? = w.heap[z]? := fun z hz hlt => hkeep.block z hlt (by simpa using hz)
            refine ⟨v, nA av, m.set i (ty2, [.row c ys' cap2]), σ, rfl, hQ, Ext.refl _ _, hkeep2, fun j b' hj hn => ?_, (nA_is (av_no hav hno)).ro hro2 σ, ?_⟩
            · refine hoth b' (fun e => ?_) (hmem.lt (List.mem_of_getElem? hj))
              subst e
              apply hn
              obtain ⟨l1, e1⟩ := List.getElem?_eq_some_iff.1 hb
              obtain ⟨l2, e2⟩ := List.getElem?_eq_some_iff.1 hj
              have := (List.getElem_inj hmem.nodup).1 (e1.trans e2.symm)
              subst this
              exact mem_wrOf (by simp [wrDirect])
            · refine ⟨by simp [hmem.len], hmem.nodup, fun z hz => Nat.lt_of_lt_of_le (hmem.fo z hz) hkeep.size, hmem'.gl.mono fun z hz => ⟨hro2 z hz, rfl⟩, fun j t cs' b' hj hb' => ?_⟩
              rw [List.getElem?_set] at hj
              by_cases e : i = j
              · subst e
                rw [if_pos rfl] at hj
                split at hj
                · cases hj
                  rw [hb] at hb'
                  cases hb'
                  exact ⟨us2, hbl2, (row_none his2 []).mono (fun z hz => ⟨hro2 z hz, rfl⟩) (fun _ _ h => by simp at h)⟩
                · cases hj
              · rw [if_neg e] at hj
                obtain ⟨us3, g1, g2⟩ := hmem.blk j t cs' b' hj hb'
                have hne : b' ≠ b := by
                  rintro rfl
                  obtain ⟨l1, e1⟩ := List.getElem?_eq_some_iff.1 hb
                  obtain ⟨l2, e2⟩ := List.getElem?_eq_some_iff.1 hb'
                  exact e ((List.getElem_inj hmem.nodup).1 (e1.trans e2.symm))
                exact ⟨us3, (hoth b' hne (hmem.lt (List.mem_of_getElem? hb'))).trans g1, g2.mono (hkeep2.ro (Ext.refl _ _)) (fun _ _ h => h)⟩
          · rw [if_neg hty2] at hQ; exact hQ.elim
        · exact hQ.elim
      · rw [if_neg hty] at hrun; exact hrun.elim
    · exact hrun.elim
  · exact hrun.elim
end Ax
/-
Loops: a round is run from what varies, typed; blocks that a round makes are let go.
-/
set_option linter.unusedSimpArgs false
set_option linter.unusedVariables false
namespace Ax
open Go Go.RowKit
structure LSpec where
  n : Nat
  vs : List (Nat × Bool × Cd)
  ps : List (Nat × Nat × Nat)
  bs : List (TypeId × Cd)
  ex : Exit → List Nat

def bts (bs : List (TypeId × Cd)) : List (Bool × Cd) := bs.map fun b => (true, b.2)
def vts (vs : List (Nat × Bool × Cd)) : List (Bool × Cd) := vs.map (·.2)
abbrev LSpec.X (sp : LSpec) : Type := Els (vts sp.vs)
abbrev LSpec.Y (sp : LSpec) : Type := Els (bts sp.bs)

def look : List (Nat × Av) → Nat → Av
  | [], _ => .any
  | (i, a) :: r, t => if i = t then a else look r t
def mkFr (n : Nat) (l : List (Nat × Av)) : List Av := (List.range n).map (look l)
def mkMem : (bs : List (TypeId × Cd)) → Els (bts bs) → Mem
  | [], _ => []
  | b :: r, y => (b.1, ck b.2 y.1) :: mkMem r y.2
def decMem : (bs : List (TypeId × Cd)) → Mem → Option (Els (bts bs))
  | [], _ => some ()
  | b :: r, (t, cs) :: m => if t = b.1 then (match parse b.2 cs, decMem r m with
    | some (x, []), some y => some (x, y)
    | _, _ => none) else none
  | _ :: _, [] => none
def pList (ps : List (Nat × Nat × Nat)) : List (Nat × Av) := ps.map fun p => (p.1, .one (.p p.2.1 p.2.2))
def LSpec.head (sp : LSpec) (x : sp.X) (y : sp.Y) : St := ⟨mkFr sp.n ((sp.vs.map (·.1)).zip (encs (vts sp.vs) x) ++ pList sp.ps), mkMem sp.bs y⟩
def LSpec.exitSt (sp : LSpec) (e : Exit) (avs : List Av) (y : sp.Y) : St := ⟨mkFr sp.n ((sp.ex e).zip avs ++ pList sp.ps), mkMem sp.bs y⟩
def ptrsOk (k : Nat) (fr : List Av) : List (Nat × Nat × Nat) → Bool
  | [] => true
  | (s, i, o) :: r => (match fr[s]? with
    | some (.one (.p i' o')) => decide (i' = i) && decide (o' = o) && decide (i < k)
    | _ => false) && ptrsOk k fr r
def getsA (fr : List Av) : List Nat → Option (List Av)
  | [] => some []
  | s :: r => match fr[s]?, getsA fr r with
    | some a, some l => some (a :: l)
    | _, _ => none
def LSpec.dec (sp : LSpec) (st : St) : Option (sp.X × sp.Y) :=
  match decide (st.fr.length = sp.n) && ptrsOk sp.bs.length st.fr sp.ps with
  | true => match getsA st.fr (sp.vs.map (·.1)) with
    | some l => match decs (vts sp.vs) l, decMem sp.bs st.mem with
      | some x, some y => some (x, y)
      | _, _ => none
    | none => none
  | false => none
def LSpec.decE (sp : LSpec) (e : Exit) (st : St) : Option (List Av × sp.Y) :=
  match decide (st.fr.length = sp.n) && ptrsOk sp.bs.length st.fr sp.ps with
  | true => match getsA st.fr (sp.ex e) with
    | some l => match l.all noA, decMem sp.bs st.mem with
      | true, some y => some (l.map nA, y)
      | _, _ => none
    | none => none
  | false => none

section
variable {P : Program} {E : Env P} {L : Loops} {w0 w : World} {φ σ0 σ : List Nat} {st : St} {a : Act}

theorem look_in {l : List (Nat × Av)} {t : Nat} : look l t = .any ∨ ∃ p ∈ l, p.1 = t ∧ look l t = p.2 := by
  induction l with
  | nil => exact .inl rfl
  | cons p l ih =>
    obtain ⟨i, b⟩ := p
    unfold look
    by_cases h : i = t
    · rw [if_pos h]; exact .inr ⟨(i, b), by simp, h, rfl⟩
    · rw [if_neg h]
      rcases ih with h1 | ⟨q, h1, h2, h3⟩
      · exact .inl h1
      · exact .inr ⟨q, by simp [h1], h2, h3⟩

theorem gets_ok : ∀ (ss : List Nat) (l : List Av) (fr : List Av), getsA fr ss = some l → l.length = ss.length ∧ ∀ (j s : Nat) (b : Av), ss[j]? = some s → l[j]? = some b → fr[s]? = some b
  | [], l, fr, h => by cases h; exact ⟨rfl, by simp⟩
  | s :: r, l, fr, h => by
    unfold getsA at h
    split at h
    · rename_i b l' h1 h2
      cases h
      obtain ⟨g1, g2⟩ := gets_ok r l' fr h2
      refine ⟨by simp [g1], fun j t c hj hc => ?_⟩
      rcases j with _ | j
      · cases hj; cases hc; exact h1
      · exact g2 j t c (by simpa using hj) (by simpa using hc)
    · cases h
theorem ptrs_ok {k : Nat} {fr : List Av} : ∀ (ps : List (Nat × Nat × Nat)), ptrsOk k fr ps = true → ∀ p ∈ ps, fr[p.1]? = some (.one (.p p.2.1 p.2.2)) ∧ p.2.1 < k
  | [], _, p, hp => by cases hp
  | (s, i, o) :: r, h, p, hp => by
    simp only [ptrsOk, Bool.and_eq_true] at h
    rcases List.mem_cons.1 hp with rfl | hp
    · have h1 := h.1
      split at h1
      · rename_i i' o' hf
        simp only [Bool.and_eq_true, decide_eq_true_eq] at h1
        obtain ⟨⟨rfl, rfl⟩, h3⟩ := h1
        exact ⟨hf, h3⟩
      · cases h1
    · exact ptrs_ok r h.2 p hp
theorem decMem_ok : ∀ (bs : List (TypeId × Cd)) (m : Mem) (y : Els (bts bs)), decMem bs m = some y → bs.length ≤ m.length ∧ (mkMem bs y).length = bs.length ∧
    ∀ (i : Nat) t cs, (mkMem bs y)[i]? = some (t, cs) → ∃ cs', m[i]? = some (t, cs') ∧ ∀ w R σ us, Is w R σ cs' us → Is w R [] cs us
  | [], m, y, _ => ⟨Nat.zero_le _, rfl, by simp [mkMem]⟩
  | b :: r, [], y, h => by simp [decMem] at h
  | b :: r, (t, cs) :: m, y, h => by
    unfold decMem at h
    by_cases ht : t = b.1
    · rw [if_pos ht] at h
      split at h
      · rename_i x y' hp hy
        cases h
        obtain ⟨g1, g2, g3⟩ := decMem_ok r m y' hy
        refine ⟨by simp; omega, by simp [mkMem, g2], fun i t' cs' hi => ?_⟩
        rcases i with _ | i
        · simp only [mkMem, List.getElem?_cons_zero, Option.some.injEq, Prod.mk.injEq] at hi
          obtain ⟨rfl, rfl⟩ := hi
          refine ⟨cs, by simp [ht], fun w R σ us hi => ?_⟩
          obtain ⟨ua, ub, rfl, i1, i2⟩ := parse_ok b.2 cs x [] us hp hi
          cases i2
          rw [List.append_nil]; exact i1
        · simp only [mkMem, List.getElem?_cons_succ] at hi ⊢
          exact g3 i t' cs' hi
      · cases h
    · rw [if_neg ht] at h; cases h

theorem take_sat (k : Nat) {fr' : List Av} {m' : Mem} (hS : Sat w0 φ σ0 σ st a w) (h0 : σ0.length ≤ k) (hk : k ≤ st.mem.length) (hlen : fr'.length = st.fr.length) (hfr : ∀ (t : Nat) av, fr'[t]? = some av → AvIs w (Ro w φ (σ.take k)) (σ.take k) av (a.tmps.getD t undef))
    (hml : m'.length = k) (hm : ∀ (i : Nat) t cs, m'[i]? = some (t, cs) → ∃ cs', st.mem[i]? = some (t, cs') ∧ ∀ w R σ us, Is w R σ cs' us → Is w R [] cs us) : Sat w0 φ σ0 (σ.take k) ⟨fr', m'⟩ a w := by
  have hsl := hS.mem.len
  have hro : ∀ b, Ro w φ σ b → Ro w φ (σ.take k) b := fun b hb => ⟨hb.1, hb.2.1, fun h => hb.2.2 (List.mem_of_mem_take h)⟩
  refine ⟨⟨by rw [hlen]; exact hS.fr.len, hfr⟩, ⟨by rw [hml]; simp; omega, hS.mem.nodup.sublist (List.take_sublist _ _), hS.mem.fo, hS.mem.gl.mono fun z hz => ⟨hro z hz, rfl⟩, fun i t cs b hi hb => ?_⟩, ?_, hS.keep, hS.df⟩
  · have hb' : σ[i]? = some b := by
      rw [List.getElem?_take] at hb
      split at hb
      · exact hb
      · cases hb
    obtain ⟨cs', h1, h2⟩ := hm i t cs hi
    obtain ⟨us, h3, h4⟩ := hS.mem.blk i t cs' b h1 hb'
    exact ⟨us, h3, (h2 _ _ _ _ h4).mono (fun z hz => ⟨hro z hz, rfl⟩) (fun _ _ h => by simp at h)⟩
  · obtain ⟨τ, e, ht⟩ := hS.ext.pre
    refine ⟨⟨τ.take (k - σ0.length), ?_, fun b hb => ht b (List.mem_of_mem_take hb)⟩⟩
    rw [e, List.take_append, List.take_of_length_le h0]

theorem fr_len (n : Nat) (l : List (Nat × Av)) : (mkFr n l).length = n := by simp [mkFr]
theorem fr_at {n : Nat} {l : List (Nat × Av)} {t : Nat} {av : Av} (h : (mkFr n l)[t]? = some av) : av = .any ∨ ∃ p ∈ l, p.1 = t ∧ av = p.2 := by
  unfold mkFr at h
  rw [List.getElem?_map] at h
  cases hr : (List.range n)[t]? with
  | none => rw [hr] at h; simp at h
  | some s =>
    rw [hr] at h
    simp only [Option.map_some, Option.some.injEq] at h
    have hs : s = t := by
      have := List.getElem?_eq_some_iff.1 hr
      obtain ⟨h1, h2⟩ := this
      simp at h2; exact h2.symm
    subst hs
    subst h
    exact look_in

theorem head_ok (sp : LSpec) {x : sp.X} {y : sp.Y} (hS : Sat w0 φ σ0 σ st a w) (h0 : σ0.length ≤ sp.bs.length) (h : sp.dec st = some (x, y)) : Sat w0 φ σ0 (σ.take sp.bs.length) (sp.head x y) a w := by
  unfold LSpec.dec at h
  split at h
  · rename_i hc
    simp only [Bool.and_eq_true, decide_eq_true_eq] at hc
    split at h
    · rename_i l hl
      split at h
      · rename_i x' y' hd hy
        cases h
        obtain ⟨g1, g2, g3⟩ := decMem_ok sp.bs st.mem y hy
        obtain ⟨k1, k2⟩ := gets_ok _ _ _ hl
        have hro : ∀ b, Ro w φ σ b → Ro w φ (σ.take sp.bs.length) b := fun b hb => ⟨hb.1, hb.2.1, fun h => hb.2.2 (List.mem_of_mem_take h)⟩
        obtain ⟨d1, d2⟩ := decs_ok (w := w) (R := Ro w φ σ) (σ := σ) (vts sp.vs) l x ((sp.vs.map (·.1)).map fun s => a.tmps.getD s undef) hd (by simp at k1 ⊢; omega) (fun i b v hb hv => by
          rw [List.getElem?_map] at hv
          cases hq : (sp.vs.map (·.1))[i]? with
          | none => rw [hq] at hv; simp at hv
          | some s =>
            rw [hq] at hv
            simp only [Option.map_some, Option.some.injEq] at hv
            subst hv
            exact hS.fr.at_ s b (k2 i s b hq hb))
        refine take_sat _ hS h0 g1 ((fr_len _ _).trans hc.1.symm) (fun t av ht => ?_) g2 g3
        rcases fr_at ht with rfl | ⟨p, hp, rfl, rfl⟩
        · exact .any
        · rcases List.mem_append.1 hp with hp | hp
          · obtain ⟨i, hi, e⟩ := List.getElem_of_mem hp
            have hz : ((sp.vs.map (·.1)).zip (encs (vts sp.vs) x))[i]? = some p := by rw [List.getElem?_eq_getElem hi, e]
            rw [List.getElem?_zip_eq_some] at hz
            have hv : ((sp.vs.map (·.1)).map fun s => a.tmps.getD s undef)[i]? = some (a.tmps.getD p.1 undef) := by rw [List.getElem?_map, hz.1]; rfl
            exact (d2 i _ _ hz.2 hv).ro hro _
          · unfold pList at hp
            obtain ⟨q, hq, rfl⟩ := List.mem_map.1 hp
            obtain ⟨hf, hlt⟩ := ptrs_ok sp.ps hc.2 q hq
            have := hS.fr.at_ _ _ hf
            obtain ⟨b, hb, e⟩ := is_one_p this
            simp only at e ⊢
            rw [e]
            exact .one rfl (.p (by rw [List.getElem?_take, if_pos hlt]; exact hb) .nil)
      · cases h
    · cases h
  · cases h

theorem exit_ok (sp : LSpec) {e : Exit} {avs : List Av} {y : sp.Y} (hS : Sat w0 φ σ0 σ st a w) (h0 : σ0.length ≤ sp.bs.length) (h : sp.decE e st = some (avs, y)) : Sat w0 φ σ0 (σ.take sp.bs.length) (sp.exitSt e avs y) a w := by
  unfold LSpec.decE at h
  split at h
  · rename_i hc
    simp only [Bool.and_eq_true, decide_eq_true_eq] at hc
    split at h
    · rename_i l hl
      split at h
      · rename_i y' hno hy
        cases h
        obtain ⟨g1, g2, g3⟩ := decMem_ok sp.bs st.mem y hy
        obtain ⟨k1, k2⟩ := gets_ok _ _ _ hl
        have hro : ∀ b, Ro w φ σ b → Ro w φ (σ.take sp.bs.length) b := fun b hb => ⟨hb.1, hb.2.1, fun h => hb.2.2 (List.mem_of_mem_take h)⟩
        refine take_sat _ hS h0 g1 ((fr_len _ _).trans hc.1.symm) (fun t av ht => ?_) g2 g3
        rcases fr_at ht with rfl | ⟨p, hp, rfl, rfl⟩
        · exact .any
        · rcases List.mem_append.1 hp with hp | hp
          · obtain ⟨i, hi, e1⟩ := List.getElem_of_mem hp
            have hz : ((sp.ex e).zip (l.map nA))[i]? = some p := by rw [List.getElem?_eq_getElem hi, e1]
            rw [List.getElem?_zip_eq_some] at hz
            have hz2 := hz.2
            rw [List.getElem?_map] at hz2
            cases hq : l[i]? with
            | none => rw [hq] at hz2; simp at hz2
            | some b =>
              rw [hq] at hz2
              simp only [Option.map_some, Option.some.injEq] at hz2
              rw [← hz2]
              have hb := hS.fr.at_ _ _ (k2 i _ b hz.1 hq)
              have hn := List.all_eq_true.1 hno b (List.mem_of_getElem? hq)
              exact (nA_is (av_no hb hn)).ro hro _
          · unfold pList at hp
            obtain ⟨q, hq, rfl⟩ := List.mem_map.1 hp
            obtain ⟨hf, hlt⟩ := ptrs_ok sp.ps hc.2 q hq
            have := hS.fr.at_ _ _ hf
            obtain ⟨b, hb, e⟩ := is_one_p this
            simp only at e ⊢
            rw [e]
            exact .one rfl (.p (by rw [List.getElem?_take, if_pos hlt]; exact hb) .nil)
      · cases h
    · cases h
  · cases h
inductive Rd (sp : LSpec) : Type
  | again (x : sp.X) (y : sp.Y)
  | out (e : Exit) (avs : List Av) (y : sp.Y)
def LSpec.round {P : Program} (sp : LSpec) (E : Env P) (L : Loops) (body : Code) (x : sp.X) (y : sp.Y) : T (Rd sp) :=
  (code (E.at_ sp.bs.length) L body (sp.head x y)).bind fun r => match r.1 with
    | .normal => match sp.dec r.2 with
      | some (x', y') => .ret (.again x' y')
      | none => .fail
    | e => match sp.decE e r.2 with
      | some (avs, y') => .ret (.out e avs y')
      | none => .fail
def LSpec.run (sp : LSpec) (out : sp.X → sp.Y → T (Exit × List Av × sp.Y)) (st : St) : T (Exit × St) :=
  match sp.dec st with
  | some (x, y) => (out x y).bind fun r => .ret (r.1, sp.exitSt r.1 r.2.1 r.2.2)
  | none => .fail
theorem loop_ok (hm : P.follows .mixedOrders = true) (k : Nat) {body : Code} (hL : LoopsOk P k L body) (sp : LSpec) (hk : k ≤ sp.bs.length) (out : sp.X → sp.Y → T (Exit × List Av × sp.Y)) (μ : sp.X → sp.Y → Nat)
    (hb : ∀ x y Q, (out x y).wp Q → (sp.round E L body x y).wp fun r => match r with
      | .again x' y' => μ x' y' < μ x y ∧ (out x' y').wp Q
      | .out e avs y' => Q (e, avs, y')) : LoopOk P k body (sp.run out) := by
  intro w0 φ σ0 σ st a w Q hσ hφ hS hrun
  unfold LSpec.run at hrun
  split at hrun
  · rename_i x y hd
    rw [T.wp_bind] at hrun
    have h0 := head_ok sp hS (by omega) hd
    refine wp_loop_ghost (fun n a w => ∃ x y σ, n = μ x y ∧ Sat w0 φ σ0 σ (sp.head x y) a w ∧ (out x y).wp fun r => (T.ret (r.1, sp.exitSt r.1 r.2.1 r.2.2)).wp Q) _ ⟨x, y, _, rfl, h0, hrun⟩ fun n a w hI => ?_
    obtain ⟨x, y, σ, rfl, hS, hout⟩ := hI
    have h1 := hb x y _ hout
    unfold LSpec.round at h1
    rw [T.wp_bind] at h1
    refine wp_mono (code_ok (E := E.at_ sp.bs.length) hm hσ (by show σ0.length ≤ sp.bs.length; omega) hφ body _ σ a w _ hL hS h1) fun e a' w' hr => ?_
    obtain ⟨hq, st', σ', h2, h3⟩ := hr
    cases e with
    | normal =>
      simp only [Exit.then]
      simp only at h2
      split at h2
      · rename_i x' y' hd'
        exact ⟨_, h2.1, x', y', _, rfl, head_ok sp h3 (by omega) hd', h2.2⟩
      · exact h2.elim
    | panic _ => cases hq
    | outgrown => cases hq
    | exit id =>
      simp only [Exit.then]
      simp only at h2
      split at h2
      · rename_i avs y' hd'
        exact ⟨rfl, _, _, h2, exit_ok sp h3 (by omega) hd'⟩
      · exact h2.elim
    | ret =>
      simp only [Exit.then]
      simp only at h2
      split at h2
      · rename_i avs y' hd'
        exact ⟨rfl, _, _, h2, exit_ok sp h3 (by omega) hd'⟩
      · exact h2.elim
    | goto l =>
      simp only [Exit.then]
      simp only at h2
      split at h2
      · rename_i avs y' hd'
        exact ⟨rfl, _, _, h2, exit_ok sp h3 (by omega) hd'⟩
      · exact h2.elim
  · exact hrun.elim
end
def loopsOf : Code → List Code
  | .seq a b => loopsOf a ++ loopsOf b
  | .cond _ a b => loopsOf a ++ loopsOf b
  | .block _ a => loopsOf a
  | .loop a => [a]
  | _ => []
theorem loops_of {P : Program} {n : Nat} {L : Loops} : ∀ {c : Code}, (∀ b ∈ loopsOf c, ∀ run, L (Code.first b) = some run → LoopOk P n b run) → LoopsOk P n L c := by
  intro c
  unfold LoopsOk
  induction c with
  | seq a b iha ihb => intro h; exact ⟨iha fun x hx => h x (by simp [loopsOf, hx]), ihb fun x hx => h x (by simp [loopsOf, hx])⟩
  | cond _ a b iha ihb => intro h; exact ⟨iha fun x hx => h x (by simp [loopsOf, hx]), ihb fun x hx => h x (by simp [loopsOf, hx])⟩
  | block _ a ih => intro h; exact ih fun x hx => h x (by simpa [loopsOf] using hx)
  | loop a _ => intro h; exact h a (by simp [loopsOf])
  | _ => intro _; trivial
def bodyOf (fn : Func) (i : Nat) : Code := match fn.body with
  | some c => (loopsOf c).getD i .skip
  | none => .skip
def oneL (key : Nat) (run : St → T (Exit × St)) : Loops := fun k => if k = key then some run else none
theorem one_loop {P : Program} {n key : Nat} {run : St → T (Exit × St)} {fn : Func} (h : LoopOk P n (bodyOf fn 0) run) (hl : (match fn.body with | some c => (loopsOf c).length | none => 1) = 1) : ∀ c, fn.body = some c → LoopsOk P n (oneL key run) c := by
  intro c hc
  rw [hc] at hl
  refine loops_of fun b hb r hr => ?_
  have : b = bodyOf fn 0 := by
    unfold bodyOf
    rw [hc]
    simp only at hl ⊢
    match hq : loopsOf c, hl with
    | [x], _ =>
      rw [hq] at hb
      simpa using hb
  subst this
  unfold oneL at hr
  split at hr
  · cases hr; exact h
  · cases hr
theorem no_loops {P : Program} {n : Nat} {fn : Func} : ∀ c, fn.body = some c → LoopsOk P n (fun _ => none) c := fun c _ => loops_none P n c
theorem val_con {P : Program} {E : Env P} {L : Loops} {f : FuncId} {fn : Func} (hm : P.follows .mixedOrders = true) (hf : P.funcs[f]? = some fn) (hL : ∀ c, fn.body = some c → LoopsOk P 0 L c) (ts : List (Bool × Cd)) (pre : Els ts → Prop) (F : Els ts → Av)
    (h : ∀ x, pre x → (fnP E L fn (encs ts x)).wp (· = F x)) : ConOk P f [] (pureRun' ts fun x => .need (pre x) (.ret (F x))) :=
  con_ok hm hf hL ts _ fun x Q hq => T.wp_mono (fun a ha => by rw [ha]; exact hq.2) (h x hq.1)
theorem tot_con {P : Program} {E : Env P} {L : Loops} {f : FuncId} {fn : Func} (hm : P.follows .mixedOrders = true) (hf : P.funcs[f]? = some fn) (hL : ∀ c, fn.body = some c → LoopsOk P 0 L c) (ts : List (Bool × Cd)) (F : Els ts → Av)
    (h : ∀ x, (fnP E L fn (encs ts x)).wp (· = F x)) : ConOk P f [] (pureRun' ts fun x => .ret (F x)) :=
  con_ok hm hf hL ts _ fun x Q hq => T.wp_mono (fun a ha => by rw [ha]; exact hq) (h x)

theorem con_weaken {P : Program} {f : FuncId} {pos : List Nat} {r0 r1 : List Av → Mem → T (Av × Mem)} (h0 : ConOk P f pos r0)
    (h : ∀ args m Q, (r1 args m).wp Q → (r0 args m).wp fun r => ∃ a', Q (a', r.2) ∧ ∀ w R σ v, AvIs w R σ r.1 v → AvIs w R σ a' v) : ConOk P f pos r1 := by
  intro w φ σ m args vs Q hmem hlen hargs hrun
  refine (h0 w φ σ m args vs _ hmem hlen hargs (h args m Q hrun)).mono fun e w' hr => ?_
  obtain ⟨v, av, m', σ', he, ⟨a', hQ, ha⟩, h1, h2, h3, h4, h5⟩ := hr
  exact ⟨v, a', m', σ', he, hQ, h1, h2, h3, ha _ _ _ _ h4, h5⟩
def ansA (row : Bool) (c : Cd) (b : Bool) (f d : El c) : Av := .tup [encA row c (if b = true then f else d), .one (.v (.bool b))]
def ansT (row : Bool) (c : Cd) (b : Bool) (f d : El c) : T Av := .ite b (.lt f fun g => .ret (.tup [encA row c g, .one (.kb true)])) (.ret (.tup [encA row c d, .one (.kb false)]))
theorem kb_av {w : World} {R : Nat → Prop} {σ : List Nat} {a : Av} {b : Bool} {v : Value} (h : AvIs w R σ (.tup [a, .one (.v (.bool b))]) v) : AvIs w R σ (.tup [a, .one (.kb b)]) v := by
  cases h with
  | tup us hl hi =>
    refine .tup us hl fun i x u hx hu => ?_
    match i, hx with
    | 0, rfl => exact hi 0 _ u rfl hu
    | 1, rfl =>
      have := hi 1 _ u rfl hu
      rw [val_of this rfl]
      exact .one rfl (.kb .nil)
theorem ans_weaken {row : Bool} {c : Cd} {b : Bool} {f d : El c} {Q : Av → Prop} (h : (ansT row c b f d).wp Q) : ∃ a', Q a' ∧ ∀ w R σ v, AvIs w R σ (ansA row c b f d) v → AvIs w R σ a' v := by
  unfold ansT at h
  cases b with
  | true => exact ⟨_, h.1 rfl, fun w R σ v hv => kb_av hv⟩
  | false => exact ⟨_, h.2 rfl, fun w R σ v hv => kb_av hv⟩
theorem ans_con {P : Program} {E : Env P} {L : Loops} {f : FuncId} {fn : Func} (hm : P.follows .mixedOrders = true) (hf : P.funcs[f]? = some fn) (hL : ∀ c, fn.body = some c → LoopsOk P 0 L c) (ts : List (Bool × Cd)) (pre : Els ts → Prop) (row : Bool) (c : Cd) (b : Els ts → Bool) (F d : Els ts → El c)
    (h : ∀ x, pre x → (fnP E L fn (encs ts x)).wp (· = ansA row c (b x) (F x) (d x))) : ConOk P f [] (pureRun' ts fun x => .need (pre x) (ansT row c (b x) (F x) (d x))) := by
  refine con_weaken (val_con (E := E) (L := L) hm hf hL ts pre (fun x => ansA row c (b x) (F x) (d x)) h) fun args m Q hq => ?_
  unfold pureRun' at hq ⊢
  split at hq
  · rw [T.wp_bind] at hq ⊢
    obtain ⟨a', h1, h2⟩ := ans_weaken hq.2
    exact ⟨hq.1, a', h1, h2⟩
  · exact hq.elim
theorem ans_con0 {P : Program} {E : Env P} {L : Loops} {f : FuncId} {fn : Func} (hm : P.follows .mixedOrders = true) (hf : P.funcs[f]? = some fn) (hL : ∀ c, fn.body = some c → LoopsOk P 0 L c) (ts : List (Bool × Cd)) (row : Bool) (c : Cd) (b : Els ts → Bool) (F d : Els ts → El c)
    (h : ∀ x, (fnP E L fn (encs ts x)).wp (· = ansA row c (b x) (F x) (d x))) : ConOk P f [] (pureRun' ts fun x => ansT row c (b x) (F x) (d x)) := by
  refine con_weaken (tot_con (E := E) (L := L) hm hf hL ts (fun x => ansA row c (b x) (F x) (d x)) h) fun args m Q hq => ?_
  unfold pureRun' at hq ⊢
  split at hq
  · rw [T.wp_bind] at hq ⊢
    exact ans_weaken hq
  · exact hq.elim
def lenOk (n : Nat) : Prop := (n : Int) ≤ 4611686018427387904
theorem wrap_next {i : Int} {n : Nat} (h0 : 0 ≤ i) (h : i < n) (hn : lenOk n) : IntKind.i64.wrap (i + 1) = i + 1 := IntWalk.i64_in _ (by unfold lenOk at hn; omega)
theorem drop_at {α : Type} {l : List α} {i : Int} {x : α} (h0 : 0 ≤ i) (h : l[i.toNat]? = some x) : l.drop i.toNat = x :: l.drop (i + 1).toNat := by
  obtain ⟨hlt, rfl⟩ := List.getElem?_eq_some_iff.1 h
  rw [show (i + 1).toNat = i.toNat + 1 from by omega, List.drop_eq_getElem_cons hlt]
theorem elem_at {α : Type} {l : List α} {i : Int} (h0 : 0 ≤ i) (h : i < l.length) : ∃ x, l[i.toNat]? = some x := ⟨l[i.toNat]'(by omega), List.getElem?_eq_getElem _⟩
theorem drop_end {α : Type} {l : List α} {i : Int} (h : (l.length : Int) ≤ i) : l.drop i.toNat = [] := List.drop_eq_nil_of_le (by omega)
end Ax
/-
Loops that build a row (append), or write one in place.
-/
set_option linter.unusedSimpArgs false
set_option linter.unusedVariables false
namespace Ax
open Go Go.RowKit
structure RSpec where
  n : Nat
  vs : List (Nat × Bool × Cd)
  ps : List (Nat × Nat × Nat)
  bs : List (TypeId × Cd)
  ex : Exit → List Nat
  slot : Nat
  ty : TypeId
  c : Cd
  fixed : Bool
  sl : Exit → Nat
abbrev RSpec.X (sp : RSpec) : Type := Els (vts sp.vs)
abbrev RSpec.Y (sp : RSpec) : Type := Els (bts sp.bs)
abbrev RSpec.G (sp : RSpec) : Type := Option (List (El sp.c) × Nat)
def RSpec.rowFr (sp : RSpec) : sp.G → Av
  | none => .one (.v (.slice none 0 0))
  | some r => .one (.os sp.bs.length r.1.length r.2)
def RSpec.rowMem (sp : RSpec) : sp.G → Mem
  | none => []
  | some r => [(sp.ty, [.row sp.c r.1 r.2])]
def RSpec.head (sp : RSpec) (x : sp.X) (y : sp.Y) (g : sp.G) : St := ⟨mkFr sp.n ((sp.slot, sp.rowFr g) :: ((sp.vs.map (·.1)).zip (encs (vts sp.vs) x) ++ pList sp.ps)), mkMem sp.bs y ++ sp.rowMem g⟩
def RSpec.exitSt (sp : RSpec) (e : Exit) (avs : List Av) (y : sp.Y) (g : sp.G) : St := ⟨mkFr sp.n ((sp.sl e, sp.rowFr g) :: ((sp.ex e).zip avs ++ pList sp.ps)), mkMem sp.bs y ++ sp.rowMem g⟩
def RSpec.decR (sp : RSpec) (sl : Nat) (st : St) : Option (sp.G × Nat × Prop) :=
  match st.fr[sl]? with
  | some (.one (.v (.slice none 0 0))) => match sp.fixed with
    | true => none
    | false => some (none, 0, True)
  | some (.one (.os j n cap)) => match decide (sp.bs.length ≤ j) && (!sp.fixed || decide (j = sp.bs.length)), st.mem[j]? with
    | true, some (ty, [.row c xs cap']) => match decide (ty = sp.ty), castRow c sp.c xs with
      | true, some ys => some (some (ys, cap), j, n = ys.length ∧ cap' = cap)
      | _, _ => none
    | _, _ => none
  | _ => none
def RSpec.dec (sp : RSpec) (st : St) : Option (sp.X × sp.Y × sp.G × Prop) :=
  match decide (st.fr.length = sp.n) && ptrsOk sp.bs.length st.fr sp.ps with
  | true => match getsA st.fr (sp.vs.map (·.1)), sp.decR sp.slot st with
    | some l, some (g, _, p) => match decs (vts sp.vs) l, decMem sp.bs st.mem with
      | some x, some y => some (x, y, g, p)
      | _, _ => none
    | _, _ => none
  | false => none
def RSpec.decE (sp : RSpec) (e : Exit) (st : St) : Option (List Av × sp.Y × sp.G × Prop) :=
  match decide (st.fr.length = sp.n) && ptrsOk sp.bs.length st.fr sp.ps with
  | true => match getsA st.fr (sp.ex e), sp.decR (sp.sl e) st with
    | some l, some (g, _, p) => match l.all noA, decMem sp.bs st.mem with
      | true, some y => some (l.map nA, y, g, p)
      | _, _ => none
    | _, _ => none
  | false => none

section
variable {P : Program} {E : Env P} {L : Loops} {w0 w : World} {φ σ0 σ : List Nat} {st : St} {a : Act}

theorem row_view (sp : RSpec) {sl : Nat} {y : sp.Y} {g : sp.G} {j : Nat} {p : Prop} (hS : Sat w0 φ σ0 σ st a w) (h0 : σ0.length ≤ sp.bs.length + (if sp.fixed then 1 else 0)) (hlen : st.fr.length = sp.n) (hps : ptrsOk sp.bs.length st.fr sp.ps = true)
    (hy : decMem sp.bs st.mem = some y) (hr : sp.decR sl st = some (g, j, p)) (hp : p) (l : List (Nat × Av)) (hl : ∀ q ∈ l, AvIs w (Ro w φ σ) [] q.2 (a.tmps.getD q.1 undef)) :
    ∃ σ', Sat w0 φ σ0 σ' ⟨mkFr sp.n ((sl, sp.rowFr g) :: (l ++ pList sp.ps)), mkMem sp.bs y ++ sp.rowMem g⟩ a w := by
  obtain ⟨g1, g2, g3⟩ := decMem_ok sp.bs st.mem y hy
  have hsl := hS.mem.len
  have hk : sp.bs.length ≤ σ.length := by omega
  obtain ⟨τ, eτ, hτ⟩ := hS.ext.pre
  -- the blocks that stay, and that of the row
  have core : ∀ (σ' : List Nat) (rest : List Nat), σ' = σ.take sp.bs.length ++ rest → rest.length = (sp.rowMem g).length → σ'.Nodup → (∀ b ∈ σ', b ∈ σ) → Ext w0 σ0 σ' →
      (∀ (i : Nat) t cs b, (sp.rowMem g)[i]? = some (t, cs) → rest[i]? = some b → ∃ us : List Value, w.heap[b]? = some (.cells us.toArray t (0, 0)) ∧ Is w (Ro w φ σ) [] cs us) →
      AvIs w (Ro w φ σ') σ' (sp.rowFr g) (a.tmps.getD sl undef) → Sat w0 φ σ0 σ' ⟨mkFr sp.n ((sl, sp.rowFr g) :: (l ++ pList sp.ps)), mkMem sp.bs y ++ sp.rowMem g⟩ a w := by
    intro σ' rest e hrl hnd hsub hext hrow hslot
    have hro : ∀ b, Ro w φ σ b → Ro w φ σ' b := fun b hb => ⟨hb.1, hb.2.1, fun h => hb.2.2 (hsub b h)⟩
    have htl : (σ.take sp.bs.length).length = sp.bs.length := by rw [List.length_take]; omega
    refine ⟨⟨(fr_len _ _).trans (hlen.symm.trans hS.fr.len), fun t av ht => ?_⟩, ⟨by rw [List.length_append, g2, e, List.length_append, htl, hrl], hnd, hS.mem.fo, hS.mem.gl.mono fun z hz => ⟨hro z hz, rfl⟩, fun i t cs b hi hb => ?_⟩, hext, hS.keep, hS.df⟩
    · rcases fr_at ht with rfl | ⟨q, hq, rfl, rfl⟩
      · exact .any
      · rcases List.mem_cons.1 hq with rfl | hq
        · exact hslot
        · rcases List.mem_append.1 hq with hq | hq
          · exact (hl q hq).ro hro _
          · unfold pList at hq
            obtain ⟨r, hr, rfl⟩ := List.mem_map.1 hq
            obtain ⟨hf, hlt⟩ := ptrs_ok sp.ps hps r hr
            have := hS.fr.at_ _ _ hf
            obtain ⟨b, hb, e1⟩ := is_one_p this
            simp only at e1 ⊢
            rw [e1]
            exact .one rfl (.p (by rw [e, List.getElem?_append_left (by omega), List.getElem?_take, if_pos hlt]; exact hb) .nil)
    · rcases Nat.lt_or_ge i sp.bs.length with hlt | hge
      · rw [List.getElem?_append_left (by omega)] at hi
        rw [e, List.getElem?_append_left (by omega), List.getElem?_take, if_pos hlt] at hb
        obtain ⟨cs', h1, h2⟩ := g3 i t cs hi
        obtain ⟨us, h3, h4⟩ := hS.mem.blk i t cs' b h1 hb
        exact ⟨us, h3, (h2 _ _ _ _ h4).mono (fun z hz => ⟨hro z hz, rfl⟩) (fun _ _ h => by simp at h)⟩
      · rw [List.getElem?_append_right (by omega), g2] at hi
        rw [e, List.getElem?_append_right (by omega), htl] at hb
        obtain ⟨us, h3, h4⟩ := hrow _ t cs b hi hb
        exact ⟨us, h3, h4.mono (fun z hz => ⟨hro z hz, rfl⟩) (fun _ _ h => by simp at h)⟩
  unfold RSpec.decR at hr
  split at hr
  · rename_i hfr
    split at hr
    · cases hr
    · rename_i hfx
      cases hr
      rw [if_neg (by rw [hfx]; simp), Nat.add_zero] at h0
      refine ⟨σ.take sp.bs.length ++ [], core _ [] rfl rfl ?_ ?_ ?_ (fun i t cs b hi _ => by simp [RSpec.rowMem] at hi) ?_⟩
      · rw [List.append_nil]; exact hS.mem.nodup.sublist (List.take_sublist _ _)
      · intro b hb; rw [List.append_nil] at hb; exact List.mem_of_mem_take hb
      · refine ⟨τ.take (sp.bs.length - σ0.length), ?_, fun b hb => hτ b (List.mem_of_mem_take hb)⟩
        rw [List.append_nil, eτ, List.take_append, List.take_of_length_le h0]
      · have := hS.fr.at_ _ _ hfr
        rw [val_of this rfl]
        exact .val rfl
  · rename_i j' n cap hfr
    split at hr
    · rename_i ty c xs cap' hc hmj
      split at hr
      · rename_i ys hty hcast
        cases hr
        have hty := of_decide_eq_true hty
        subst hty
        obtain ⟨hn, hcap⟩ := hp
        subst hn
        subst hcap
        simp only [Bool.and_eq_true, decide_eq_true_eq] at hc
        obtain ⟨b, hb, hncap, hve⟩ := is_one_os (hS.fr.at_ _ _ hfr)
        obtain ⟨us, hbl, his⟩ := hS.mem.blk j _ _ b hmj hb
        have his := castRow_is hcast his
        have hjl : j < σ.length := (List.getElem?_eq_some_iff.1 hb).1
        have hnot : b ∉ σ.take sp.bs.length := fun hm => by
          obtain ⟨i, hi, e⟩ := List.getElem_of_mem hm
          rw [List.getElem_take] at e
          obtain ⟨l2, e2⟩ := List.getElem?_eq_some_iff.1 hb
          rw [List.length_take] at hi
          have := (List.getElem_inj hS.mem.nodup).1 (e.trans e2.symm)
          omega
        refine ⟨σ.take sp.bs.length ++ [b], core _ [b] rfl rfl ?_ ?_ ?_ (fun i t cs b' hi hb' => ?_) ?_⟩
        · rw [List.nodup_append]
          exact ⟨hS.mem.nodup.sublist (List.take_sublist _ _), by simp, fun x hx z hz e => hnot (by
            rw [List.mem_singleton] at hz
            rw [← hz, ← e]; exact hx)⟩
        · intro z hz
          rcases List.mem_append.1 hz with h1 | h1
          · exact List.mem_of_mem_take h1
          · rw [List.mem_singleton.1 h1]; exact List.mem_of_getElem? hb
        · by_cases hcase : σ0.length ≤ sp.bs.length
          · refine ⟨τ.take (sp.bs.length - σ0.length) ++ [b], ?_, fun z hz => ?_⟩
            · rw [eτ, List.take_append, List.take_of_length_le hcase, List.append_assoc]
            · rcases List.mem_append.1 hz with h1 | h1
              · exact hτ z (List.mem_of_mem_take h1)
              · rw [List.mem_singleton.1 h1]
                refine hτ b ?_
                rw [eτ, List.getElem?_append_right (by omega)] at hb
                exact List.mem_of_getElem? hb
          · have hfx : sp.fixed = true := by
              cases hq : sp.fixed with
              | true => rfl
              | false => rw [hq] at h0; simp at h0; omega
            have hj : j = sp.bs.length := by
              have h2 := hc.2
              rw [hfx] at h2
              simpa using h2
            rw [hfx] at h0
            simp at h0
            have h0' : σ0.length = sp.bs.length + 1 := by omega
            have e2 : σ.take sp.bs.length ++ [b] = σ0 := by
              have : σ.take (sp.bs.length + 1) = σ.take sp.bs.length ++ [b] := by
                rw [List.take_add_one, ← hj, hb]; rfl
              rw [← this, eτ, ← h0', List.take_left']
              rfl
            rw [e2]
            exact Ext.refl _ _
        · rcases i with _ | i
          · simp only [RSpec.rowMem, List.getElem?_cons_zero, Option.some.injEq, Prod.mk.injEq] at hi hb'
            obtain ⟨rfl, rfl⟩ := hi
            subst hb'
            exact ⟨us, hbl, row_none his []⟩
          · simp [RSpec.rowMem] at hi
        · rw [hve]
          refine .one rfl (.os ?_ hncap .nil)
          have htl : (σ.take sp.bs.length).length = sp.bs.length := by rw [List.length_take]; omega
          rw [List.getElem?_append_right (by omega), htl, Nat.sub_self]; rfl
      · cases hr
    · cases hr
  · cases hr

theorem headR_ok (sp : RSpec) {x : sp.X} {y : sp.Y} {g : sp.G} {p : Prop} (hS : Sat w0 φ σ0 σ st a w) (h0 : σ0.length ≤ sp.bs.length + (if sp.fixed then 1 else 0)) (h : sp.dec st = some (x, y, g, p)) (hp : p) : ∃ σ', Sat w0 φ σ0 σ' (sp.head x y g) a w := by
  unfold RSpec.dec at h
  split at h
  · rename_i hc
    simp only [Bool.and_eq_true, decide_eq_true_eq] at hc
    split at h
    · rename_i l g' j p' hl hr
      split at h
      · rename_i x' y' hd hy
        cases h
        obtain ⟨k1, k2⟩ := gets_ok _ _ _ hl
        obtain ⟨d1, d2⟩ := decs_ok (w := w) (R := Ro w φ σ) (σ := σ) (vts sp.vs) l x ((sp.vs.map (·.1)).map fun s => a.tmps.getD s undef) hd (by simp at k1 ⊢; omega) (fun i b v hb hv => by
          rw [List.getElem?_map] at hv
          cases hq : (sp.vs.map (·.1))[i]? with
          | none => rw [hq] at hv; simp at hv
          | some s =>
            rw [hq] at hv
            simp only [Option.map_some, Option.some.injEq] at hv
            subst hv
            exact hS.fr.at_ s b (k2 i s b hq hb))
        refine row_view sp hS h0 hc.1 hc.2 hy hr hp _ fun q hq => ?_
        obtain ⟨i, hi, e⟩ := List.getElem_of_mem hq
        have hz : ((sp.vs.map (·.1)).zip (encs (vts sp.vs) x))[i]? = some q := by rw [List.getElem?_eq_getElem hi, e]
        rw [List.getElem?_zip_eq_some] at hz
        have hv : ((sp.vs.map (·.1)).map fun s => a.tmps.getD s undef)[i]? = some (a.tmps.getD q.1 undef) := by rw [List.getElem?_map, hz.1]; rfl
        exact d2 i _ _ hz.2 hv
      · cases h
    · cases h
  · cases h
theorem exitR_ok (sp : RSpec) {e : Exit} {avs : List Av} {y : sp.Y} {g : sp.G} {p : Prop} (hS : Sat w0 φ σ0 σ st a w) (h0 : σ0.length ≤ sp.bs.length + (if sp.fixed then 1 else 0)) (h : sp.decE e st = some (avs, y, g, p)) (hp : p) : ∃ σ', Sat w0 φ σ0 σ' (sp.exitSt e avs y g) a w := by
  unfold RSpec.decE at h
  split at h
  · rename_i hc
    simp only [Bool.and_eq_true, decide_eq_true_eq] at hc
    split at h
    · rename_i l g' j p' hl hr
      split at h
      · rename_i y' hno hy
        cases h
        obtain ⟨k1, k2⟩ := gets_ok _ _ _ hl
        refine row_view sp hS h0 hc.1 hc.2 hy hr hp _ fun q hq => ?_
        obtain ⟨i, hi, e1⟩ := List.getElem_of_mem hq
        have hz : ((sp.ex e).zip (l.map nA))[i]? = some q := by rw [List.getElem?_eq_getElem hi, e1]
        rw [List.getElem?_zip_eq_some] at hz
        have hz2 := hz.2
        rw [List.getElem?_map] at hz2
        cases hq : l[i]? with
        | none => rw [hq] at hz2; simp at hz2
        | some b =>
          rw [hq] at hz2
          simp only [Option.map_some, Option.some.injEq] at hz2
          rw [← hz2]
          have hb := hS.fr.at_ _ _ (k2 i _ b hz.1 hq)
          have hn := List.all_eq_true.1 hno b (List.mem_of_getElem? hq)
          exact nA_is (av_no hb hn)
      · cases h
    · cases h
  · cases h

inductive RRd (sp : RSpec) : Type
  | again (x : sp.X) (y : sp.Y) (g : sp.G)
  | out (e : Exit) (avs : List Av) (y : sp.Y) (g : sp.G)
def RSpec.round {P : Program} (sp : RSpec) (E : Env P) (L : Loops) (body : Code) (x : sp.X) (y : sp.Y) (g : sp.G) : T (RRd sp) :=
  (code (E.at_ (sp.bs.length + (if sp.fixed then 1 else 0))) L body (sp.head x y g)).bind fun r => match r.1 with
    | .normal => match sp.dec r.2 with
      | some (x', y', g', p) => .need p (.ret (.again x' y' g'))
      | none => .fail
    | e => match sp.decE e r.2 with
      | some (avs, y', g', p) => .need p (.ret (.out e avs y' g'))
      | none => .fail
def RSpec.run (sp : RSpec) (out : sp.X → sp.Y → sp.G → T (Exit × List Av × sp.Y × sp.G)) (st : St) : T (Exit × St) :=
  match sp.dec st with
  | some (x, y, g, p) => .need p ((out x y g).bind fun r => .ret (r.1, sp.exitSt r.1 r.2.1 r.2.2.1 r.2.2.2))
  | none => .fail
theorem loopR_ok (hm : P.follows .mixedOrders = true) (k : Nat) {body : Code} (hL : LoopsOk P k L body) (sp : RSpec) (hk : k ≤ sp.bs.length + (if sp.fixed then 1 else 0)) (out : sp.X → sp.Y → sp.G → T (Exit × List Av × sp.Y × sp.G)) (μ : sp.X → sp.Y → sp.G → Nat)
    (hb : ∀ x y g Q, (out x y g).wp Q → (sp.round E L body x y g).wp fun r => match r with
      | .again x' y' g' => μ x' y' g' < μ x y g ∧ (out x' y' g').wp Q
      | .out e avs y' g' => Q (e, avs, y', g')) : LoopOk P k body (sp.run out) := by
  intro w0 φ σ0 σ st a w Q hσ hφ hS hrun
  unfold RSpec.run at hrun
  split at hrun
  · rename_i x y g p hd
    obtain ⟨hp, hrun⟩ := hrun
    rw [T.wp_bind] at hrun
    obtain ⟨σ1, h0⟩ := headR_ok sp hS (by omega) hd hp
    refine wp_loop_ghost (fun n a w => ∃ x y g σ, n = μ x y g ∧ Sat w0 φ σ0 σ (sp.head x y g) a w ∧ (out x y g).wp fun r => (T.ret (r.1, sp.exitSt r.1 r.2.1 r.2.2.1 r.2.2.2)).wp Q) _ ⟨x, y, g, _, rfl, h0, hrun⟩ fun n a w hI => ?_
    obtain ⟨x, y, g, σ, rfl, hS, hout⟩ := hI
    have h1 := hb x y g _ hout
    unfold RSpec.round at h1
    rw [T.wp_bind] at h1
    refine wp_mono (code_ok (E := E.at_ (sp.bs.length + (if sp.fixed then 1 else 0))) hm hσ (by show σ0.length ≤ sp.bs.length + _; omega) hφ body _ σ a w _ hL hS h1) fun e a' w' hr => ?_
    obtain ⟨hq, st', σ', h2, h3⟩ := hr
    cases e with
    | normal =>
      simp only [Exit.then]
      simp only at h2
      split at h2
      · rename_i x' y' g' p' hd'
        obtain ⟨hp', h2⟩ := h2
        obtain ⟨σ2, h4⟩ := headR_ok sp h3 (by omega) hd' hp'
        exact ⟨_, h2.1, x', y', g', _, rfl, h4, h2.2⟩
      · exact h2.elim
    | panic _ => cases hq
    | outgrown => cases hq
    | exit id =>
      simp only [Exit.then]
      simp only at h2
      split at h2
      · rename_i avs y' g' p' hd'
        obtain ⟨hp', h2⟩ := h2
        obtain ⟨σ2, h4⟩ := exitR_ok sp h3 (by omega) hd' hp'
        exact ⟨rfl, _, _, h2, h4⟩
      · exact h2.elim
    | ret =>
      simp only [Exit.then]
      simp only at h2
      split at h2
      · rename_i avs y' g' p' hd'
        obtain ⟨hp', h2⟩ := h2
        obtain ⟨σ2, h4⟩ := exitR_ok sp h3 (by omega) hd' hp'
        exact ⟨rfl, _, _, h2, h4⟩
      · exact h2.elim
    | goto l =>
      simp only [Exit.then]
      simp only at h2
      split at h2
      · rename_i avs y' g' p' hd'
        obtain ⟨hp', h2⟩ := h2
        obtain ⟨σ2, h4⟩ := exitR_ok sp h3 (by omega) hd' hp'
        exact ⟨rfl, _, _, h2, h4⟩
      · exact h2.elim
  · exact hrun.elim
end
end Ax
namespace Go.Proofs.YtokgbcachcmeaaaGreatDoor
open Go.RowKit
theorem u_am : Tryz.prog.underlying 111 = some (.array 32 23) := by kernel_rfl
theorem u_arr : Tryz.prog.underlying 24 = some (.array 32 23) := by kernel_rfl
theorem s_am (x : Nat) : (Tryz.prog.info? 111).map (·.size) = some (Pq.am 32 x).length := by rw [Pq.am_length]; kernel_rfl
theorem s_arr (x : Nat) : (Tryz.prog.info? 24).map (·.size) = some (Pq.am 32 x).length := by rw [Pq.am_length]; kernel_rfl
theorem u_wide : Tryz.prog.underlying 26 = some (.struct ((match Tryz.prog.underlying 26 with | some (.struct fs) => fs | _ => #[]))) := by kernel_rfl
theorem s_wide (n : Bool) (x : Nat) : (Tryz.prog.info? 26).map (·.size) = some (Pq.wl n x).length := by rw [Pq.wl_length]; kernel_rfl
theorem s_widea (n : Bool) (x : Nat) : (Tryz.prog.info? 26).map (·.size) = some (Pq.wc n x).size := by rw [Pq.wc_size]; kernel_rfl
theorem built_wide (n : Bool) (x : Nat) : Tryz.prog.built 26 [(0, .bool n), (1, .agg (Pq.am 32 x).toArray)] = some (Pq.wc n x) := by kernel_rfl
theorem al_wide (w : World) : (Instr.alloc 26 true (.tuple #[])).run Tryz.prog w = .ok (.pointer (some ⟨w.heap.size, 0, none⟩)) (w.alloc (.cells (Pq.wc false 0) 26)) := by kernel_rfl
theorem al_am (w : World) : (Instr.alloc 111 true (.tuple #[])).run Tryz.prog w = .ok (.pointer (some ⟨w.heap.size, 0, none⟩)) (w.alloc (.cells (Pq.am 32 0).toArray 111)) := by kernel_rfl
theorem u_u32 : Tryz.prog.underlying 23 = some (.int .u32) := by kernel_rfl
theorem u_bool : Tryz.prog.underlying 4 = some .bool := by kernel_rfl
theorem built_none : Tryz.prog.built 26 [] = some (Pq.wc false 0) := by kernel_rfl
theorem bx_wide (n : Bool) (x : Nat) (w : World) : (Instr.box 26 (.agg (Pq.wc n x))).run Tryz.prog w = .ok (.pointer (some ⟨w.heap.size, 0, none⟩)) (w.alloc (.cells (Pq.wc n x) 26)) := by kernel_rfl
theorem built_am2 {a b : Nat} (ha : a < 4294967296) (hb : b < 4294967296) : Tryz.prog.built 111 [(0, .int .u32 (a : Int)), (1, .int .u32 (b : Int))] = some (Pq.am 32 (a + Pq.bp 1 * b)).toArray := by
  rw [Pq.am_two ha hb]; kernel_rfl
theorem built_am1' {a : Nat} : Tryz.prog.built 111 [(0, .int .u32 (a : Int))] = some ((Value.int .u32 (a : Int) :: Value.int .u32 ((0 : Nat) : Int) :: List.replicate 30 (Value.int .u32 0)).toArray) := by kernel_rfl
theorem built_am1 {a : Nat} (ha : a < 4294967296) : Tryz.prog.built 111 [(0, .int .u32 (a : Int))] = some (Pq.am 32 a).toArray := by
  have h := Pq.am_two ha (show 0 < 4294967296 by decide)
  rw [Nat.mul_zero, Nat.add_zero] at h
  rw [h]; exact built_am1'
theorem built_am0 : Tryz.prog.built 111 [] = some (Pq.am 32 0).toArray := by kernel_rfl
theorem bx_am (x : Nat) (w : World) : (Instr.box 111 (.agg (Pq.am 32 x).toArray)).run Tryz.prog w = .ok (.pointer (some ⟨w.heap.size, 0, none⟩)) (w.alloc (.cells (Pq.am 32 x).toArray 111)) := by kernel_rfl
theorem made_zero (n : Nat) : madeCells #[Value.int .u32 0] (n * 1) = (Pq.am n 0).toArray := by
  apply Array.ext (by simp [madeCells, Pq.am_length])
  intro i h1 h2
  have hi : i < n := by simpa [Pq.am_length] using h2
  have e : (Pq.am n 0)[i]? = some (.int .u32 0) := by rw [Pq.am_get hi, Pq.wd_zero]; rfl
  have e2 : (Pq.am n 0).toArray[i] = .int .u32 0 := by
    have := (List.getElem?_eq_some_iff.1 e).2; simpa using this
  rw [e2]
  simp only [madeCells, Array.getElem_map]
  simp [Nat.mod_one]
theorem mk_u32 (n : Nat) (hn : n ≤ 1000000) (w : World) : (Instr.makeSlice 84 (.int .i64 (n : Int)) (.int .i64 (n : Int))).run Tryz.prog w = .ok (.slice (some ⟨w.heap.size, 0, none⟩) n n) (w.alloc (.cells (Pq.am n 0).toArray 23)) := by
  have hinfo : (Tryz.prog.info? 23).map (fun i => (i.zero, i.size, i.bytes)) = some (some (.int .u32 0), 1, 4) := by kernel_rfl
  obtain ⟨i, hi, hz0, hz1, hz2⟩ := info_parts hinfo
  have := run_make (P := Tryz.prog) w 84 23 i (.int .u32 0) (by kernel_rfl) hi hz0 .i64 .i64 (n : Int) (n : Int) (by omega) (by omega) (by rw [hz2]; omega) (by omega)
  rw [hz1, Int.toNat_natCast] at this
  rw [this, ← made_zero]
  rfl
end Go.Proofs.YtokgbcachcmeaaaGreatDoor
set_option linter.unusedSimpArgs false
set_option linter.unusedVariables false
namespace Go.Proofs.YtokgbcachcmeaaaGreatDoor
open Go.RowKit
theorem cf_size (xs : Array Value) (w : World) : (callFunc 78 xs).run Tryz.prog w = .ok (.enter 78 xs) w := by kernel_rfl
theorem cf_of (xs : Array Value) (w : World) : (callFunc 75 xs).run Tryz.prog w = .ok (.enter 75 xs) w := by kernel_rfl
set_option maxHeartbeats 400000 in
theorem size_any (b o : Nat) (x s : Nat) (hs : s = Pq.szn 32 x) (w : World) (hc : w.rangeAt b o (Pq.am 32 x)) :
    Calls Tryz.prog 78 #[.pointer (some ⟨b, o, none⟩)] w fun e w' => e = .returned (.int .i64 s) ∧ w = w' := by
  subst hs
  have HC := Lib.hid hc; clear hc
  go_enter Tryz.func78, Tryz.ntmps78
  go_wp2
  go_loop [3] (fun n => ∃ k : Nat, n = .int .i64 k ∧ k ≤ 32 ∧ Hid (Pq.szn 32 x = Pq.szn k x)) (fun n => (intOf n).toNat)
  case atStart => exact ⟨32, rfl, by omega, Lib.hid rfl⟩
  case round =>
    obtain ⟨k, rfl, hk, hz⟩ := hrel
    rcases k with _ | k
    · go_wp2
      go_ret
      exact ⟨by rw [hz.out]; rfl, rfl⟩
    · have hcell := HC.out k _ (Pq.am_get (x := x) (show k < 32 by omega))
      by_cases hz0 : Pq.wd x k = 0
      · have hb : (((Pq.wd x k : Nat) : Int) == 0) = true := by rw [hz0]; rfl
        go_wp2
        exact ⟨⟨k, rfl, by omega, Lib.hid (by rw [hz.out, Pq.szn, if_pos hz0])⟩, by simp [intOf]⟩
      · have hb : (((Pq.wd x k : Nat) : Int) == 0) = false := by simp; omega
        go_wp2
        go_ret
        exact ⟨by rw [hz.out, Pq.szn, if_neg hz0]; rfl, rfl⟩

set_option maxHeartbeats 400000 in
theorem of_any (n : Bool) (x : Nat) (w : World) :
    Calls Tryz.prog 75 #[.agg (Pq.wc n x)] w fun e w' => e = .returned (.pointer (some ⟨w.heap.size + 1, 0, none⟩)) ∧ (w.alloc (.cells (Pq.wc n x) 26)).alloc (.cells (Pq.am 32 x).toArray 111) = w' := by
  go_enter Tryz.func75, Tryz.ntmps75
  have hr : (w.alloc (.cells (Pq.wc n x) 26)).rangeAt w.heap.size 1 (Pq.am 32 x) := (Pq.range_cons (Pq.range_block (heap_alloc_new _ _))).2
  have HR := Lib.hid hr; clear hr
  go_wp2_with (first | (refine wpList_load_mid rfl 24 _ rfl _ _ rfl _ _ HR.out u_arr rfl (s_arr x) ?_) | (refine Pq.wpList_store_new rfl 111 _ _ rfl _ (Pq.am 32 x).toArray _ _ rfl ?_ rfl ?_ ?_ (Pq.am_one _ _) ?_; (simp); (simp only [List.size_toArray]; exact s_am x); (simp [Pq.am_length])))
  go_ret
  exact ⟨rfl, rfl⟩


set_option maxRecDepth 100000 in
set_option maxHeartbeats 400000 in
theorem told_any (n : Bool) (b o : Nat) (x : Nat) (w : World) (hx : x < Pq.bp 32) (hc : w.rangeAt b o (Pq.am 32 x)) (hb : b < w.heap.size) :
    Calls Tryz.prog 61 #[.bool n, .pointer (some ⟨b, o, none⟩)] w (Pq.Ret w (.agg (Pq.wc (Pq.ng n x) x))) := by
  have HC := Lib.hid hc; clear hc
  have HX := Lib.hid hx; clear hx
  have hbl : Below w.heap.size w (w.alloc (.cells (Pq.wc false 0) 26)) := (Below.refl _ _).alloc (Nat.le_refl _) _
  have HR := Lib.hid (Pq.range_in HC.out hbl)
  have HB := Lib.hid hbl; clear hbl
  have HG : Hid ((w.alloc (.cells (Pq.wc false 0) 26)).heap[w.heap.size]? = some (.cells (Pq.wc false 0) 26)) := Lib.hid (heap_alloc_new _ _)
  by_cases h0 : n = true ∧ x ≠ 0
  · obtain ⟨rfl, h0⟩ := h0
    obtain ⟨s, hs⟩ : ∃ s, s = Pq.szn 32 x := ⟨_, rfl⟩
    have hp : decide (0 < s) = true := by have := (Pq.szn_pos HX.out).2 h0; rw [← hs] at this; simpa using this
    have HS := Lib.hid hs; clear hs
    go_enter Tryz.func61, Tryz.ntmps61
    go_wp2_with (refine Pq.wpList_alloc rfl _ rfl (Pq.wc false 0) al_wide ?_; try simp only [Pq.size_alloc])
    refine Pq.wp_region_grown (some w.heap.size) [(0, true), (1, true), (2, true), (6, true), (7, true), (8, true), (3, false), (4, true), (5, true), (9, true), (10, false)] (by kernel_rfl) (by kernel_rfl) (fun _ _ d _ _ h => by cases d <;> exact h) (fun hS => ?_)
    simp only [Pq.pick, List.filterMap_cons, List.filterMap_nil, List.getElem?_cons_zero, List.getElem?_cons_succ, Option.map_some]
    iterate 5
      refine Pq.wpO_step (by rfl) ?_
      apply Exists.intro
      refine ⟨fun w' hw' => ?_, ?_⟩
      · go_simp; first | done | with_reducible rfl | exact ⟨rfl, rfl⟩
      simp only [Act.put, List.setIfInBounds_toArray, List.set_cons_zero, List.set_cons_succ]
    refine Pq.wpO_load b o (Pq.am 32 x) HR.out (by simp; omega) (by rfl) _ _ rfl rfl _ u_am rfl (s_am x) ?_
    simp only [Act.put, List.setIfInBounds_toArray, List.set_cons_zero, List.set_cons_succ]
    refine Pq.wpO_call (by rfl) cf_size (size_any b o x s HS.out _ (Pq.range_by HR.out hS (by simp; omega))) rfl rfl ?_; rintro e w1 ⟨rfl, rfl⟩; refine ⟨_, rfl, hS, ?_⟩
    simp only [Act.put, List.setIfInBounds_toArray, List.set_cons_zero, List.set_cons_succ]
    iterate 2
      refine Pq.wpO_step (by rfl) ?_
      apply Exists.intro
      refine ⟨fun w' hw' => ?_, ?_⟩
      · go_simp; first | done | with_reducible rfl | exact ⟨rfl, rfl⟩
      simp only [Act.put, List.setIfInBounds_toArray, List.set_cons_zero, List.set_cons_succ]
    refine Pq.wpO_build (by rfl) _ _ rfl [(0, .bool true), (1, .agg (Pq.am 32 x).toArray)] rfl _ (built_wide _ _) ?_
    simp only [Act.put, List.setIfInBounds_toArray, List.set_cons_zero, List.set_cons_succ]
    refine Pq.wpO_store (by rfl) 26 _ _ rfl w.heap.size (Pq.wc _ _) rfl rfl 26 (Pq.wc false 0) HG.out (s_widea _ _) (by simp only [Pq.wc_size]) (Pq.wc_one _ _) (Pq.grown_setRow hS) ?_
    try simp only [Act.put, List.setIfInBounds_toArray, List.set_cons_zero, List.set_cons_succ]
    refine Pq.wpO_nil ?_
    go_wp2
    refine Pq.ret_cell rfl _ _ _ _ _ rfl (Pq.setRow_at HG.out) u_wide rfl (s_widea _ _) rfl ⟨?_, Pq.below_setRow (Pq.below_drew HB.out) (Nat.le_refl _)⟩
    rw [show Pq.ng true x = true from by simp [Pq.ng, h0]]
  · have hf : Pq.ng n x = false := by
      unfold Pq.ng
      cases n
      · rfl
      · simp at h0; simp [h0]
    cases n
    · go_enter Tryz.func61, Tryz.ntmps61
      go_wp2_with (refine Pq.wpList_alloc rfl _ rfl (Pq.wc false 0) al_wide ?_; try simp only [Pq.size_alloc])
      refine Pq.wp_region_grown (some w.heap.size) [(0, true), (1, true), (2, true), (6, true), (7, true), (8, true), (3, false), (4, true), (5, true), (9, true), (10, false)] (by kernel_rfl) (by kernel_rfl) (fun _ _ d _ _ h => by cases d <;> exact h) (fun hS => ?_)
      simp only [Pq.pick, List.filterMap_cons, List.filterMap_nil, List.getElem?_cons_zero, List.getElem?_cons_succ, Option.map_some]
      iterate 2
        refine Pq.wpO_step (by rfl) ?_
        apply Exists.intro
        refine ⟨fun w' hw' => ?_, ?_⟩
        · go_simp; first | done | with_reducible rfl | exact ⟨rfl, rfl⟩
        simp only [Act.put, List.setIfInBounds_toArray, List.set_cons_zero, List.set_cons_succ]
      refine Pq.wpO_skip (by kernel_rfl) ?_
      simp only [Act.put, List.setIfInBounds_toArray, List.set_cons_zero, List.set_cons_succ]
      iterate 2
        refine Pq.wpO_step (by rfl) ?_
        apply Exists.intro
        refine ⟨fun w' hw' => ?_, ?_⟩
        · go_simp; first | done | with_reducible rfl | exact ⟨rfl, rfl⟩
        simp only [Act.put, List.setIfInBounds_toArray, List.set_cons_zero, List.set_cons_succ]
      refine Pq.wpO_load b o (Pq.am 32 x) HR.out (by simp; omega) (by rfl) _ _ rfl rfl _ u_am rfl (s_am x) ?_
      simp only [Act.put, List.setIfInBounds_toArray, List.set_cons_zero, List.set_cons_succ]
      refine Pq.wpO_skip (by kernel_rfl) ?_
      simp only [Act.put, List.setIfInBounds_toArray, List.set_cons_zero, List.set_cons_succ]
      refine Pq.wpO_skip (by kernel_rfl) ?_
      simp only [Act.put, List.setIfInBounds_toArray, List.set_cons_zero, List.set_cons_succ]
      refine Pq.wpO_step (by rfl) ?_
      apply Exists.intro
      refine ⟨fun w' hw' => ?_, ?_⟩
      · go_simp; first | done | with_reducible rfl | exact ⟨rfl, rfl⟩
      simp only [Act.put, List.setIfInBounds_toArray, List.set_cons_zero, List.set_cons_succ]
      refine Pq.wpO_build (by rfl) _ _ rfl [(0, .bool false), (1, .agg (Pq.am 32 x).toArray)] rfl _ (built_wide _ _) ?_
      simp only [Act.put, List.setIfInBounds_toArray, List.set_cons_zero, List.set_cons_succ]
      refine Pq.wpO_store (by rfl) 26 _ _ rfl w.heap.size (Pq.wc _ _) rfl rfl 26 (Pq.wc false 0) HG.out (s_widea _ _) (by simp only [Pq.wc_size]) (Pq.wc_one _ _) (Pq.grown_setRow hS) ?_
      try simp only [Act.put, List.setIfInBounds_toArray, List.set_cons_zero, List.set_cons_succ]
      refine Pq.wpO_nil ?_
      go_wp2
      refine Pq.ret_cell rfl _ _ _ _ _ rfl (Pq.setRow_at HG.out) u_wide rfl (s_widea _ _) rfl ⟨?_, Pq.below_setRow (Pq.below_drew HB.out) (Nat.le_refl _)⟩
      rw [hf]
    · obtain rfl : x = 0 := by simpa using h0
      go_enter Tryz.func61, Tryz.ntmps61
      go_wp2_with (refine Pq.wpList_alloc rfl _ rfl (Pq.wc false 0) al_wide ?_; try simp only [Pq.size_alloc])
      refine Pq.wp_region_grown (some w.heap.size) [(0, true), (1, true), (2, true), (6, true), (7, true), (8, true), (3, false), (4, true), (5, true), (9, true), (10, false)] (by kernel_rfl) (by kernel_rfl) (fun _ _ d _ _ h => by cases d <;> exact h) (fun hS => ?_)
      simp only [Pq.pick, List.filterMap_cons, List.filterMap_nil, List.getElem?_cons_zero, List.getElem?_cons_succ, Option.map_some]
      iterate 5
        refine Pq.wpO_step (by rfl) ?_
        apply Exists.intro
        refine ⟨fun w' hw' => ?_, ?_⟩
        · go_simp; first | done | with_reducible rfl | exact ⟨rfl, rfl⟩
        simp only [Act.put, List.setIfInBounds_toArray, List.set_cons_zero, List.set_cons_succ]
      refine Pq.wpO_load b o (Pq.am 32 0) HR.out (by simp; omega) (by rfl) _ _ rfl rfl _ u_am rfl (s_am 0) ?_
      simp only [Act.put, List.setIfInBounds_toArray, List.set_cons_zero, List.set_cons_succ]
      refine Pq.wpO_call (by rfl) cf_size (size_any b o 0 0 (by decide +kernel) _ (Pq.range_by HR.out hS (by simp; omega))) rfl rfl ?_; rintro e w1 ⟨rfl, rfl⟩; refine ⟨_, rfl, hS, ?_⟩
      simp only [Act.put, List.setIfInBounds_toArray, List.set_cons_zero, List.set_cons_succ]
      iterate 2
        refine Pq.wpO_step (by rfl) ?_
        apply Exists.intro
        refine ⟨fun w' hw' => ?_, ?_⟩
        · go_simp; first | done | with_reducible rfl | exact ⟨rfl, rfl⟩
        simp only [Act.put, List.setIfInBounds_toArray, List.set_cons_zero, List.set_cons_succ]
      refine Pq.wpO_build (by rfl) _ _ rfl [(0, .bool false), (1, .agg (Pq.am 32 0).toArray)] rfl _ (built_wide _ _) ?_
      simp only [Act.put, List.setIfInBounds_toArray, List.set_cons_zero, List.set_cons_succ]
      refine Pq.wpO_store (by rfl) 26 _ _ rfl w.heap.size (Pq.wc _ _) rfl rfl 26 (Pq.wc false 0) HG.out (s_widea _ _) (by simp only [Pq.wc_size]) (Pq.wc_one _ _) (Pq.grown_setRow hS) ?_
      try simp only [Act.put, List.setIfInBounds_toArray, List.set_cons_zero, List.set_cons_succ]
      refine Pq.wpO_nil ?_
      go_wp2
      refine Pq.ret_cell rfl _ _ _ _ _ rfl (Pq.setRow_at HG.out) u_wide rfl (s_widea _ _) rfl ⟨?_, Pq.below_setRow (Pq.below_drew HB.out) (Nat.le_refl _)⟩
      rw [hf]
end Go.Proofs.YtokgbcachcmeaaaGreatDoor
set_option linter.unusedSimpArgs false
set_option linter.unusedVariables false
namespace Go.Proofs.YtokgbcachcmeaaaGreatDoor
open Go.RowKit
theorem cf_told (xs : Array Value) (w : World) : (callFunc 61 xs).run Tryz.prog w = .ok (.enter 61 xs) w := by kernel_rfl
theorem cf_below (xs : Array Value) (w : World) : (callFunc 74 xs).run Tryz.prog w = .ok (.enter 74 xs) w := by kernel_rfl

set_option maxRecDepth 100000 in
set_option maxHeartbeats 400000 in
theorem below_any (n : Bool) (x : Nat) (w : World) (hx : x < Pq.bp 32) :
    Calls Tryz.prog 74 #[.agg (Pq.wc n x)] w (Pq.Ret w (.bool (Pq.ng n x))) := by
  have HX := Lib.hid hx; clear hx
  have hb1 : Below w.heap.size w (w.alloc (.cells (Pq.wc n x) 26)) := (Below.refl _ _).alloc (Nat.le_refl _) _
  have HR := Lib.hid (Pq.range_block (heap_alloc_new w (.cells (Pq.wl n x).toArray 26)))
  have HB := Lib.hid hb1; clear hb1
  have h0 := Pq.wc_zero n x
  cases n
  · go_enter Tryz.func74, Tryz.ntmps74
    go_wp2
    go_ret
    exact ⟨rfl, HB.out⟩
  · obtain ⟨s, hs⟩ : ∃ s, s = Pq.szn 32 x := ⟨_, rfl⟩
    have hp : decide (0 < s) = Pq.ng true x := by
      have := Pq.szn_pos HX.out; rw [← hs] at this
      rw [Bool.eq_iff_iff]; simp [Pq.ng]; omega
    have HS := Lib.hid hs; clear hs
    have HP := Lib.hid hp; clear hp
    go_enter Tryz.func74, Tryz.ntmps74
    go_upto_region 1 with fail
    apply wp_region_lit
    iterate 3
      refine Pq.wpL_step (by rfl) ?_
      apply Exists.intro
      apply Exists.intro
      refine ⟨?_, ?_⟩
      · go_simp; first | done | with_reducible rfl | exact ⟨rfl, rfl⟩
      simp only [Act.put, List.setIfInBounds_toArray, List.set_cons_zero, List.set_cons_succ]
    refine Pq.wpL_load w.heap.size 0 (Pq.wl true x) HR.out (by rfl) _ _ rfl rfl _ u_wide rfl (s_wide _ _) ?_
    simp only [Act.put, List.setIfInBounds_toArray, List.set_cons_zero, List.set_cons_succ]
    refine Pq.wpL_call (by rfl) cf_of (of_any true x _) rfl rfl ?_; rintro e w1 ⟨rfl, rfl⟩; refine ⟨_, rfl, ?_⟩
    simp only [Act.put, List.setIfInBounds_toArray, List.set_cons_zero, List.set_cons_succ]
    refine Pq.wpL_call (by rfl) cf_size (size_any _ 0 x s HS.out _ (Pq.range_block (heap_alloc2_new _ _ _))) rfl rfl ?_; rintro e w1 ⟨rfl, rfl⟩; refine ⟨_, rfl, ?_⟩
    simp only [Act.put, List.setIfInBounds_toArray, List.set_cons_zero, List.set_cons_succ]
    iterate 3
      refine Pq.wpL_step (by rfl) ?_
      apply Exists.intro
      apply Exists.intro
      refine ⟨?_, ?_⟩
      · go_simp; first | done | with_reducible rfl | exact ⟨rfl, rfl⟩
      simp only [Act.put, List.setIfInBounds_toArray, List.set_cons_zero, List.set_cons_succ]
    refine Pq.wpL_nil ?_
    go_wp2
    go_ret
    exact ⟨by rw [HP.out]; rfl, Pq.below_alloc (Pq.below_alloc HB.out (Nat.le_refl _) _) (Nat.le_refl _) _⟩

theorem of_ptr (n : Bool) (x : Nat) (w : World) : Calls Tryz.prog 75 #[.agg (Pq.wc n x)] w (Pq.Ptr w x) :=
  (of_any n x w).mono fun e w' ⟨he, hw⟩ => by
    subst hw
    exact ⟨_, he, Pq.range_block (heap_alloc2_new _ _ _), ((Below.refl _ _).alloc (Nat.le_refl _) _).alloc (by simp) _, by omega, by simp⟩

set_option maxRecDepth 100000 in
set_option maxHeartbeats 400000 in
theorem is_any (n : Bool) (x : Nat) (w : World) (hx : x < Pq.bp 32) :
    Calls Tryz.prog 57 #[.agg (Pq.wc n x)] w (Pq.Ret w (.bool (!n || !(x == 0)))) := by
  have HX := Lib.hid hx; clear hx
  have hb1 : Below w.heap.size w (w.alloc (.cells (Pq.wc n x) 26)) := (Below.refl _ _).alloc (Nat.le_refl _) _
  have HR := Lib.hid (Pq.range_block (heap_alloc_new w (.cells (Pq.wl n x).toArray 26)))
  have HB := Lib.hid hb1; clear hb1
  have h0 := Pq.wc_zero n x
  cases n
  · go_enter Tryz.func57, Tryz.ntmps57
    go_wp2
    go_ret
    exact ⟨rfl, HB.out⟩
  · obtain ⟨s, hs⟩ : ∃ s, s = Pq.szn 32 x := ⟨_, rfl⟩
    have hp : decide (0 < s) = (!true || !(x == 0)) := by
      have := Pq.szn_pos HX.out; rw [← hs] at this
      rw [Bool.eq_iff_iff]; simp; omega
    have HS := Lib.hid hs; clear hs
    have HP := Lib.hid hp; clear hp
    go_enter Tryz.func57, Tryz.ntmps57
    go_upto_region 1 with fail
    apply wp_region_lit
    iterate 4
      refine Pq.wpL_step (by rfl) ?_
      apply Exists.intro
      apply Exists.intro
      refine ⟨?_, ?_⟩
      · go_simp; first | done | with_reducible rfl | exact ⟨rfl, rfl⟩
      simp only [Act.put, List.setIfInBounds_toArray, List.set_cons_zero, List.set_cons_succ]
    refine Pq.wpL_load w.heap.size 0 (Pq.wl true x) HR.out (by rfl) _ _ rfl rfl _ u_wide rfl (s_wide _ _) ?_
    simp only [Act.put, List.setIfInBounds_toArray, List.set_cons_zero, List.set_cons_succ]
    refine Pq.wpL_call (by rfl) cf_of (of_any true x _) rfl rfl ?_; rintro e w1 ⟨rfl, rfl⟩; refine ⟨_, rfl, ?_⟩
    simp only [Act.put, List.setIfInBounds_toArray, List.set_cons_zero, List.set_cons_succ]
    refine Pq.wpL_call (by rfl) cf_size (size_any _ 0 x s HS.out _ (Pq.range_block (heap_alloc2_new _ _ _))) rfl rfl ?_; rintro e w1 ⟨rfl, rfl⟩; refine ⟨_, rfl, ?_⟩
    simp only [Act.put, List.setIfInBounds_toArray, List.set_cons_zero, List.set_cons_succ]
    iterate 3
      refine Pq.wpL_step (by rfl) ?_
      apply Exists.intro
      apply Exists.intro
      refine ⟨?_, ?_⟩
      · go_simp; first | done | with_reducible rfl | exact ⟨rfl, rfl⟩
      simp only [Act.put, List.setIfInBounds_toArray, List.set_cons_zero, List.set_cons_succ]
    refine Pq.wpL_nil ?_
    go_wp2
    go_ret
    exact ⟨by rw [HP.out]; rfl, Pq.below_alloc (Pq.below_alloc HB.out (Nat.le_refl _) _) (Nat.le_refl _) _⟩

set_option maxRecDepth 100000 in
set_option maxHeartbeats 400000 in
theorem neg_any (n : Bool) (x : Nat) (w : World) (hx : x < Pq.bp 32) :
    Calls Tryz.prog 58 #[.agg (Pq.wc n x)] w (Pq.Ret w (.agg (Pq.wz (-(Pq.zv n x))))) := by
  have HX := Lib.hid hx; clear hx
  have HR := Lib.hid (Pq.range_in (Pq.range_block (heap_alloc_new w (.cells (Pq.wl n x).toArray 26))) (Pq.below_alloc (Below.refl _ _) (Nat.le_refl _) (.cells (Pq.wc false 0) 26)))
  have HG := Lib.hid (heap_alloc2_new w (.cells (Pq.wc n x) 26) (.cells (Pq.wc false 0) 26))
  have HB := Lib.hid (Pq.below_alloc (Pq.below_alloc (Below.refl _ w) (Nat.le_refl _) (.cells (Pq.wc n x) 26)) (Nat.le_refl _) (.cells (Pq.wc false 0) 26))
  obtain ⟨m, hm⟩ : ∃ m, m = Pq.ng n x := ⟨_, rfl⟩
  have HM := Lib.hid hm; clear hm
  go_enter Tryz.func58, Tryz.ntmps58
  go_upto_region 0 with fail
  apply wp_region_lit
  refine Pq.wpL_step (by rfl) ?_
  apply Exists.intro
  apply Exists.intro
  refine ⟨?_, ?_⟩
  · go_simp; first | done | with_reducible rfl | exact ⟨rfl, rfl⟩
  simp only [Act.put, List.setIfInBounds_toArray, List.set_cons_zero, List.set_cons_succ]
  refine Pq.wpL_alloc (w.heap.size + 1) (by simp) (by rfl) _ rfl (Pq.wc false 0) al_wide ?_
  simp only [Act.put, List.setIfInBounds_toArray, List.set_cons_zero, List.set_cons_succ]
  refine Pq.wpL_nil ?_
  go_upto_region 1 with fail
  refine Pq.wp_region_grown (some (w.heap.size + 1)) [(0, true), (3, true), (1, false), (2, true), (4, false), (5, false), (6, false)] (by kernel_rfl) (by kernel_rfl) (fun _ _ d _ _ h => by cases d <;> exact h) (fun hS => ?_)
  simp only [Pq.pick, List.filterMap_cons, List.filterMap_nil, List.getElem?_cons_zero, List.getElem?_cons_succ, Option.map_some]
  refine Pq.wpO_load w.heap.size 0 (Pq.wl n x) HR.out (by simp) (by rfl) _ _ rfl rfl _ u_wide rfl (s_wide _ _) ?_
  simp only [Act.put, List.setIfInBounds_toArray, List.set_cons_zero, List.set_cons_succ]
  refine Pq.wpO_load w.heap.size 0 (Pq.wl n x) HR.out (by simp) (by rfl) _ _ rfl rfl _ u_wide rfl (s_wide _ _) ?_
  simp only [Act.put, List.setIfInBounds_toArray, List.set_cons_zero, List.set_cons_succ]
  refine Pq.wpO_ret (by rfl) cf_below (below_any n x _ HX.out) rfl rfl hS ?_; intro w1 hb1 hS1; rw [← HM.out]
  simp only [Act.put, List.setIfInBounds_toArray, List.set_cons_zero, List.set_cons_succ]
  refine Pq.wpO_step (by rfl) ?_
  apply Exists.intro
  refine ⟨fun w' hw' => ?_, ?_⟩
  · go_simp; first | done | with_reducible rfl | exact ⟨rfl, rfl⟩
  simp only [Act.put, List.setIfInBounds_toArray, List.set_cons_zero, List.set_cons_succ]
  refine Pq.wpO_call (by rfl) cf_of (of_ptr n x _) rfl rfl ?_; rintro e w2 ⟨b, rfl, hr, hb2, _, hlt⟩; have HR2 := Lib.hid hr; clear hr; have hS2 := Pq.grown_then hS1 hb2; refine ⟨_, rfl, hS2, ?_⟩
  simp only [Act.put, List.setIfInBounds_toArray, List.set_cons_zero, List.set_cons_succ]
  refine Pq.wpO_ret (by rfl) cf_told (told_any (!m) b 0 x _ HX.out HR2.out hlt) rfl rfl hS2 ?_; intro w3 hb3 hS3
  simp only [Act.put, List.setIfInBounds_toArray, List.set_cons_zero, List.set_cons_succ]
  refine Pq.wpO_store (by rfl) 26 _ _ rfl (w.heap.size + 1) (Pq.wc _ _) rfl rfl 26 (Pq.wc _ _) ((hb3.block _ (Nat.lt_of_lt_of_le (by simp) (Nat.le_trans hb1.size hb2.size))).trans ((hb2.block _ (Nat.lt_of_lt_of_le (by simp) hb1.size)).trans ((hb1.block _ (by simp)).trans HG.out))) (s_widea _ _) (by simp only [Pq.wc_size]) (Pq.wc_one _ _) (Pq.grown_setRow hS3) ?_
  try simp only [Act.put, List.setIfInBounds_toArray, List.set_cons_zero, List.set_cons_succ]
  refine Pq.wpO_nil ?_
  go_wp2
  refine Pq.ret_cell rfl _ _ _ _ _ rfl (Pq.setRow_at ((hb3.block _ (Nat.lt_of_lt_of_le (by simp) (Nat.le_trans hb1.size hb2.size))).trans ((hb2.block _ (Nat.lt_of_lt_of_le (by simp) hb1.size)).trans ((hb1.block _ (by simp)).trans HG.out)))) u_wide rfl (s_widea _ _) rfl ⟨?_, Pq.below_setRow (Pq.below_next (Pq.below_next (Pq.below_next (Pq.below_drew HB.out) (Nat.le_refl _) hb1) (Nat.le_refl _) hb2) (Nat.le_refl _) hb3) (by omega)⟩
  rw [HM.out, Pq.wc_not]

set_option maxRecDepth 100000 in
set_option maxHeartbeats 400000 in
theorem acmp_any (b o c q : Nat) (x y : Nat) (w : World) (hx : x < Pq.bp 32) (hy : y < Pq.bp 32) (hb : w.rangeAt b o (Pq.am 32 x)) (hc : w.rangeAt c q (Pq.am 32 y)) :
    Calls Tryz.prog 76 #[.pointer (some ⟨b, o, none⟩), .pointer (some ⟨c, q, none⟩)] w (Pq.Ret w (.int .i64 (Pq.cm x y))) := by
  have HBx := Lib.hid hb; clear hb
  have HCy := Lib.hid hc; clear hc
  have HX := Lib.hid hx; clear hx
  have HY := Lib.hid hy; clear hy
  go_enter Tryz.func76, Tryz.ntmps76
  go_wp2
  go_loopw [5] (fun i wr => ∃ (k : Nat) (z : Int), i = .int .i64 z ∧ Hid (z + 1 = k) ∧ k ≤ 32 ∧ Hid (∀ j, k ≤ j → j < 32 → Pq.wd x j = Pq.wd y j) ∧ Below w.heap.size w wr) (fun i _ => (intOf i + 1).toNat)
  case atStart => exact ⟨32, 31, rfl, Lib.hid rfl, by omega, Lib.hid (fun j h1 h2 => by omega), Below.refl _ _⟩
  case round =>
    obtain ⟨k, z, rfl, hz, hk, he, hbl⟩ := hrel
    rcases k with _ | k
    · obtain rfl : z = -1 := by have := hz.out; omega
      clear hz
      go_wp2
      go_ret
      have : x = y := Pq.eq_of_wd HX.out HY.out (fun j hj => he.out j (by omega) hj)
      subst this
      exact ⟨by rw [Pq.cm_eq]; rfl, hbl⟩
    · obtain rfl : z = (k : Int) := by have := hz.out; omega
      clear hz
      have c1 := Pq.range_in HBx.out hbl k _ (Pq.am_get (x := x) (show k < 32 by omega))
      have c2 := Pq.range_in HCy.out hbl k _ (Pq.am_get (x := y) (show k < 32 by omega))
      have C1 := Lib.hid c1; clear c1
      have hk2 : (k : Int) < 32 := by omega
      have C2 := Lib.hid c2; clear c2
      rcases Nat.lt_trichotomy (Pq.wd x k) (Pq.wd y k) with hlt | heq | hgt
      · have hd : decide (Pq.wd x k < Pq.wd y k) = true := by simpa using hlt
        have hres := Lib.hid (Pq.lt_of_wd HX.out HY.out he.out hlt)
        go_upto_region 4 with fail
        refine Pq.wp_region_grown none [(0, true), (1, true), (2, true), (3, true), (4, true), (5, true), (6, true), (7, true), (8, true), (9, true), (10, true), (11, true)] (by kernel_rfl) (by kernel_rfl) (fun _ _ d _ _ h => by cases d <;> exact h) (fun hS => ?_)
        simp only [Pq.pick, List.filterMap_cons, List.filterMap_nil, List.getElem?_cons_zero, List.getElem?_cons_succ, Option.map_some]
        iterate 4
          refine Pq.wpO_step (by rfl) ?_
          apply Exists.intro
          refine ⟨fun w' hw' => ?_, ?_⟩
          · go_simp; first | done | with_reducible rfl | exact ⟨rfl, rfl⟩
          simp only [Act.put, List.setIfInBounds_toArray, List.set_cons_zero, List.set_cons_succ]
        refine Pq.wpO_cell ⟨b, o + k, none⟩ _ C1.out (by simp) (by rfl) _ _ rfl rfl _ u_u32 rfl ?_
        simp only [Act.put, List.setIfInBounds_toArray, List.set_cons_zero, List.set_cons_succ]
        iterate 4
          refine Pq.wpO_step (by rfl) ?_
          apply Exists.intro
          refine ⟨fun w' hw' => ?_, ?_⟩
          · go_simp; first | done | with_reducible rfl | exact ⟨rfl, rfl⟩
          simp only [Act.put, List.setIfInBounds_toArray, List.set_cons_zero, List.set_cons_succ]
        refine Pq.wpO_cell ⟨c, q + k, none⟩ _ C2.out (by simp) (by rfl) _ _ rfl rfl _ u_u32 rfl ?_
        simp only [Act.put, List.setIfInBounds_toArray, List.set_cons_zero, List.set_cons_succ]
        iterate 2
          refine Pq.wpO_step (by rfl) ?_
          apply Exists.intro
          refine ⟨fun w' hw' => ?_, ?_⟩
          · go_simp; first | done | with_reducible rfl | exact ⟨rfl, rfl⟩
          simp only [Act.put, List.setIfInBounds_toArray, List.set_cons_zero, List.set_cons_succ]
        refine Pq.wpO_nil ?_
        go_wp2
        go_ret
        exact ⟨by rw [Pq.cm_lt hres.out]; rfl, Pq.below_drew hbl⟩
      · have hd : decide (Pq.wd x k < Pq.wd y k) = false := by simpa using Nat.le_of_eq heq.symm
        have hd2 : decide (Pq.wd y k < Pq.wd x k) = false := by simpa using Nat.le_of_eq heq
        have HE := Lib.hid heq; clear heq
        go_upto_region 4 with fail
        refine Pq.wp_region_grown none [(0, true), (1, true), (2, true), (3, true), (4, true), (5, true), (6, true), (7, true), (8, true), (9, true), (10, true), (11, true)] (by kernel_rfl) (by kernel_rfl) (fun _ _ d _ _ h => by cases d <;> exact h) (fun hS => ?_)
        simp only [Pq.pick, List.filterMap_cons, List.filterMap_nil, List.getElem?_cons_zero, List.getElem?_cons_succ, Option.map_some]
        iterate 4
          refine Pq.wpO_step (by rfl) ?_
          apply Exists.intro
          refine ⟨fun w' hw' => ?_, ?_⟩
          · go_simp; first | done | with_reducible rfl | exact ⟨rfl, rfl⟩
          simp only [Act.put, List.setIfInBounds_toArray, List.set_cons_zero, List.set_cons_succ]
        refine Pq.wpO_cell ⟨b, o + k, none⟩ _ C1.out (by simp) (by rfl) _ _ rfl rfl _ u_u32 rfl ?_
        simp only [Act.put, List.setIfInBounds_toArray, List.set_cons_zero, List.set_cons_succ]
        iterate 4
          refine Pq.wpO_step (by rfl) ?_
          apply Exists.intro
          refine ⟨fun w' hw' => ?_, ?_⟩
          · go_simp; first | done | with_reducible rfl | exact ⟨rfl, rfl⟩
          simp only [Act.put, List.setIfInBounds_toArray, List.set_cons_zero, List.set_cons_succ]
        refine Pq.wpO_cell ⟨c, q + k, none⟩ _ C2.out (by simp) (by rfl) _ _ rfl rfl _ u_u32 rfl ?_
        simp only [Act.put, List.setIfInBounds_toArray, List.set_cons_zero, List.set_cons_succ]
        iterate 2
          refine Pq.wpO_step (by rfl) ?_
          apply Exists.intro
          refine ⟨fun w' hw' => ?_, ?_⟩
          · go_simp; first | done | with_reducible rfl | exact ⟨rfl, rfl⟩
          simp only [Act.put, List.setIfInBounds_toArray, List.set_cons_zero, List.set_cons_succ]
        refine Pq.wpO_nil ?_
        go_upto_region 6 with fail
        refine Pq.wp_region_grown none [(0, true), (1, true), (2, true), (3, true), (4, true), (5, true), (6, true), (7, true), (8, true), (9, true), (10, true), (11, true)] (by kernel_rfl) (by kernel_rfl) (fun _ _ d _ _ h => by cases d <;> exact h) (fun hS => ?_)
        simp only [Pq.pick, List.filterMap_cons, List.filterMap_nil, List.getElem?_cons_zero, List.getElem?_cons_succ, Option.map_some]
        iterate 4
          refine Pq.wpO_step (by rfl) ?_
          apply Exists.intro
          refine ⟨fun w' hw' => ?_, ?_⟩
          · go_simp; first | done | with_reducible rfl | exact ⟨rfl, rfl⟩
          simp only [Act.put, List.setIfInBounds_toArray, List.set_cons_zero, List.set_cons_succ]
        refine Pq.wpO_cell ⟨b, o + k, none⟩ _ C1.out (by simp) (by rfl) _ _ rfl rfl _ u_u32 rfl ?_
        simp only [Act.put, List.setIfInBounds_toArray, List.set_cons_zero, List.set_cons_succ]
        iterate 4
          refine Pq.wpO_step (by rfl) ?_
          apply Exists.intro
          refine ⟨fun w' hw' => ?_, ?_⟩
          · go_simp; first | done | with_reducible rfl | exact ⟨rfl, rfl⟩
          simp only [Act.put, List.setIfInBounds_toArray, List.set_cons_zero, List.set_cons_succ]
        refine Pq.wpO_cell ⟨c, q + k, none⟩ _ C2.out (by simp) (by rfl) _ _ rfl rfl _ u_u32 rfl ?_
        simp only [Act.put, List.setIfInBounds_toArray, List.set_cons_zero, List.set_cons_succ]
        iterate 2
          refine Pq.wpO_step (by rfl) ?_
          apply Exists.intro
          refine ⟨fun w' hw' => ?_, ?_⟩
          · go_simp; first | done | with_reducible rfl | exact ⟨rfl, rfl⟩
          simp only [Act.put, List.setIfInBounds_toArray, List.set_cons_zero, List.set_cons_succ]
        refine Pq.wpO_nil ?_
        go_wp2
        go_roundw
        case rel => exact ⟨k, (k : Int) - 1, rfl, Lib.hid (by omega), by omega, Lib.hid (fun j h1 h2 => by
          rcases Nat.eq_or_lt_of_le h1 with rfl | h3
          · exact HE.out
          · exact he.out j h3 h2), Pq.below_drew (Pq.below_drew hbl)⟩
        case measure => simp [intOf]
      · have hd : decide (Pq.wd x k < Pq.wd y k) = false := by simpa using Nat.le_of_lt hgt
        have hd2 : decide (Pq.wd y k < Pq.wd x k) = true := by simpa using hgt
        have hres := Lib.hid (Pq.lt_of_wd HY.out HX.out (fun j h1 h2 => (he.out j h1 h2).symm) hgt)
        go_upto_region 4 with fail
        refine Pq.wp_region_grown none [(0, true), (1, true), (2, true), (3, true), (4, true), (5, true), (6, true), (7, true), (8, true), (9, true), (10, true), (11, true)] (by kernel_rfl) (by kernel_rfl) (fun _ _ d _ _ h => by cases d <;> exact h) (fun hS => ?_)
        simp only [Pq.pick, List.filterMap_cons, List.filterMap_nil, List.getElem?_cons_zero, List.getElem?_cons_succ, Option.map_some]
        iterate 4
          refine Pq.wpO_step (by rfl) ?_
          apply Exists.intro
          refine ⟨fun w' hw' => ?_, ?_⟩
          · go_simp; first | done | with_reducible rfl | exact ⟨rfl, rfl⟩
          simp only [Act.put, List.setIfInBounds_toArray, List.set_cons_zero, List.set_cons_succ]
        refine Pq.wpO_cell ⟨b, o + k, none⟩ _ C1.out (by simp) (by rfl) _ _ rfl rfl _ u_u32 rfl ?_
        simp only [Act.put, List.setIfInBounds_toArray, List.set_cons_zero, List.set_cons_succ]
        iterate 4
          refine Pq.wpO_step (by rfl) ?_
          apply Exists.intro
          refine ⟨fun w' hw' => ?_, ?_⟩
          · go_simp; first | done | with_reducible rfl | exact ⟨rfl, rfl⟩
          simp only [Act.put, List.setIfInBounds_toArray, List.set_cons_zero, List.set_cons_succ]
        refine Pq.wpO_cell ⟨c, q + k, none⟩ _ C2.out (by simp) (by rfl) _ _ rfl rfl _ u_u32 rfl ?_
        simp only [Act.put, List.setIfInBounds_toArray, List.set_cons_zero, List.set_cons_succ]
        iterate 2
          refine Pq.wpO_step (by rfl) ?_
          apply Exists.intro
          refine ⟨fun w' hw' => ?_, ?_⟩
          · go_simp; first | done | with_reducible rfl | exact ⟨rfl, rfl⟩
          simp only [Act.put, List.setIfInBounds_toArray, List.set_cons_zero, List.set_cons_succ]
        refine Pq.wpO_nil ?_
        go_upto_region 6 with fail
        refine Pq.wp_region_grown none [(0, true), (1, true), (2, true), (3, true), (4, true), (5, true), (6, true), (7, true), (8, true), (9, true), (10, true), (11, true)] (by kernel_rfl) (by kernel_rfl) (fun _ _ d _ _ h => by cases d <;> exact h) (fun hS => ?_)
        simp only [Pq.pick, List.filterMap_cons, List.filterMap_nil, List.getElem?_cons_zero, List.getElem?_cons_succ, Option.map_some]
        iterate 4
          refine Pq.wpO_step (by rfl) ?_
          apply Exists.intro
          refine ⟨fun w' hw' => ?_, ?_⟩
          · go_simp; first | done | with_reducible rfl | exact ⟨rfl, rfl⟩
          simp only [Act.put, List.setIfInBounds_toArray, List.set_cons_zero, List.set_cons_succ]
        refine Pq.wpO_cell ⟨b, o + k, none⟩ _ C1.out (by simp) (by rfl) _ _ rfl rfl _ u_u32 rfl ?_
        simp only [Act.put, List.setIfInBounds_toArray, List.set_cons_zero, List.set_cons_succ]
        iterate 4
          refine Pq.wpO_step (by rfl) ?_
          apply Exists.intro
          refine ⟨fun w' hw' => ?_, ?_⟩
          · go_simp; first | done | with_reducible rfl | exact ⟨rfl, rfl⟩
          simp only [Act.put, List.setIfInBounds_toArray, List.set_cons_zero, List.set_cons_succ]
        refine Pq.wpO_cell ⟨c, q + k, none⟩ _ C2.out (by simp) (by rfl) _ _ rfl rfl _ u_u32 rfl ?_
        simp only [Act.put, List.setIfInBounds_toArray, List.set_cons_zero, List.set_cons_succ]
        iterate 2
          refine Pq.wpO_step (by rfl) ?_
          apply Exists.intro
          refine ⟨fun w' hw' => ?_, ?_⟩
          · go_simp; first | done | with_reducible rfl | exact ⟨rfl, rfl⟩
          simp only [Act.put, List.setIfInBounds_toArray, List.set_cons_zero, List.set_cons_succ]
        refine Pq.wpO_nil ?_
        go_wp2
        go_ret
        exact ⟨by rw [Pq.cm_gt hres.out]; rfl, Pq.below_drew (Pq.below_drew hbl)⟩
end Go.Proofs.YtokgbcachcmeaaaGreatDoor
set_option linter.unusedSimpArgs false
set_option linter.unusedVariables false
namespace Go.Proofs.YtokgbcachcmeaaaGreatDoor
open Go.RowKit
theorem cf_acmp (xs : Array Value) (w : World) : (callFunc 76 xs).run Tryz.prog w = .ok (.enter 76 xs) w := by kernel_rfl

set_option maxRecDepth 100000 in
set_option maxHeartbeats 400000 in
theorem cmp_any (n : Bool) (x : Nat) (m : Bool) (y : Nat) (w : World) (hx : x < Pq.bp 32) (hy : y < Pq.bp 32) :
    Calls Tryz.prog 46 #[.agg (Pq.wc n x), .agg (Pq.wc m y)] w (Pq.Ret w (.int .i64 (Pq.cz (Pq.zv n x) (Pq.zv m y)))) := by
  have HX := Lib.hid hx; clear hx
  have HY := Lib.hid hy; clear hy
  have HB := Lib.hid (Pq.below_alloc (Pq.below_alloc (Below.refl _ w) (Nat.le_refl _) (.cells (Pq.wc n x) 26)) (Nat.le_refl _) (.cells (Pq.wc m y) 26))
  have HR1 := Lib.hid (Pq.al_range (Pq.al_new w (Pq.wl n x) 26) (.cells (Pq.wc m y) 26))
  have HR2 := Lib.hid (Pq.al_new_at (w.alloc (.cells (Pq.wc n x) 26)) (Pq.wl m y) 26 (w.heap.size + 1) (by simp))
  obtain ⟨r, hr⟩ : ∃ r, r = Pq.cz (Pq.zv n x) (Pq.zv m y) := ⟨_, rfl⟩
  obtain ⟨p, hp⟩ : ∃ p, p = Pq.ng n x := ⟨_, rfl⟩
  obtain ⟨q, hq⟩ : ∃ q, q = Pq.ng m y := ⟨_, rfl⟩
  rw [← hr]
  have HP := Lib.hid hp; clear hp
  have HQ := Lib.hid hq; clear hq
  have HRR := Lib.hid hr; clear hr
  go_enter Tryz.func46, Tryz.ntmps46
  go_upto_region 1 with fail
  refine Pq.wp_region_grown none [(0, true), (2, true), (1, false), (3, false), (4, true), (5, true)] (by kernel_rfl) (by kernel_rfl) (fun _ _ d _ _ h => by cases d <;> exact h) (fun hS => ?_)
  simp only [Pq.pick, List.filterMap_cons, List.filterMap_nil, List.getElem?_cons_zero, List.getElem?_cons_succ, Option.map_some]
  refine Pq.wpO_load w.heap.size 0 (Pq.wl n x) HR1.out (by simp) (by rfl) _ _ rfl rfl _ u_wide rfl (s_wide _ _) ?_
  simp only [Act.put, List.setIfInBounds_toArray, List.set_cons_zero, List.set_cons_succ]
  refine Pq.wpO_load (w.heap.size + 1) 0 (Pq.wl m y) HR2.out (by simp) (by rfl) _ _ rfl rfl _ u_wide rfl (s_wide _ _) ?_
  simp only [Act.put, List.setIfInBounds_toArray, List.set_cons_zero, List.set_cons_succ]
  refine Pq.wpO_ret (by rfl) cf_below (below_any n x _ HX.out) rfl rfl hS ?_; intro w1 hb1 hS1; rw [← HP.out]
  simp only [Act.put, List.setIfInBounds_toArray, List.set_cons_zero, List.set_cons_succ]
  refine Pq.wpO_ret (by rfl) cf_below (below_any m y _ HY.out) rfl rfl hS1 ?_; intro w2 hb2 hS2; rw [← HQ.out]
  simp only [Act.put, List.setIfInBounds_toArray, List.set_cons_zero, List.set_cons_succ]
  iterate 2
    refine Pq.wpO_step (by rfl) ?_
    apply Exists.intro
    refine ⟨fun w' hw' => ?_, ?_⟩
    · go_simp; first | done | with_reducible rfl | exact ⟨rfl, rfl⟩
    simp only [Act.put, List.setIfInBounds_toArray, List.set_cons_zero, List.set_cons_succ]
  refine Pq.wpO_nil ?_
  have HB2 := Lib.hid (Pq.grown_below hS2)
  have HB3 := Lib.hid (Pq.below_next HB.out (Nat.le_refl _) HB2.out)
  have HR1' := Lib.hid (Pq.range_in HR1.out HB2.out)
  have HR2' := Lib.hid (Pq.range_in HR2.out HB2.out)
  clear hS hS1 hS2 hb1 hb2 HR1 HR2 HB2
  have hz : w.heap.size + 1 < w2.heap.size := by have := HB3.out.size; have := Pq.range_in HR2'.out (Below.refl _ _); exact block_lt_of_cell (this 0 _ rfl)
  rcases p with _ | _ <;> rcases q with _ | _
  · go_upto_region 8 with fail
    refine Pq.wp_region_grown none [(0, true), (2, true), (1, false), (3, false), (4, false), (5, true)] (by kernel_rfl) (by kernel_rfl) (fun _ _ d _ _ h => by cases d <;> exact h) (fun hS => ?_)
    simp only [Pq.pick, List.filterMap_cons, List.filterMap_nil, List.getElem?_cons_zero, List.getElem?_cons_succ, Option.map_some]
    refine Pq.wpO_load w.heap.size 0 (Pq.wl n x) HR1'.out (by simp) (by rfl) _ _ rfl rfl _ u_wide rfl (s_wide _ _) ?_
    simp only [Act.put, List.setIfInBounds_toArray, List.set_cons_zero, List.set_cons_succ]
    refine Pq.wpO_load (w.heap.size + 1) 0 (Pq.wl m y) HR2'.out (by simp) (by rfl) _ _ rfl rfl _ u_wide rfl (s_wide _ _) ?_
    simp only [Act.put, List.setIfInBounds_toArray, List.set_cons_zero, List.set_cons_succ]
    refine Pq.wpO_call (by rfl) cf_of (of_ptr n x _) rfl rfl ?_; rintro e w3 ⟨b, rfl, hr3, hb3, _, hl3⟩; have HR3 := Lib.hid hr3; clear hr3; have hS3 := Pq.grown_then hS hb3; refine ⟨_, rfl, hS3, ?_⟩
    simp only [Act.put, List.setIfInBounds_toArray, List.set_cons_zero, List.set_cons_succ]
    refine Pq.wpO_call (by rfl) cf_of (of_ptr m y _) rfl rfl ?_; rintro e w4 ⟨c, rfl, hr4, hb4, _, hl4⟩; have HR4 := Lib.hid hr4; clear hr4; have hS4 := Pq.grown_then hS3 hb4; refine ⟨_, rfl, hS4, ?_⟩
    simp only [Act.put, List.setIfInBounds_toArray, List.set_cons_zero, List.set_cons_succ]
    refine Pq.wpO_ret (by rfl) cf_acmp (acmp_any b 0 c 0 x y _ HX.out HY.out (Pq.range_in HR3.out hb4) HR4.out) rfl rfl hS4 ?_; intro w5 hb5 hS5
    simp only [Act.put, List.setIfInBounds_toArray, List.set_cons_zero, List.set_cons_succ]
    refine Pq.wpO_step (by rfl) ?_
    apply Exists.intro
    refine ⟨fun w' hw' => ?_, ?_⟩
    · go_simp; first | done | with_reducible rfl | exact ⟨rfl, rfl⟩
    simp only [Act.put, List.setIfInBounds_toArray, List.set_cons_zero, List.set_cons_succ]
    refine Pq.wpO_nil ?_
    go_wp2
    go_ret
    refine ⟨?_, Pq.below_next HB3.out (Nat.le_refl _) (Pq.grown_below hS5)⟩
    rw [HRR.out, Pq.cz_pp HP.out.symm HQ.out.symm]; rfl
  · go_wp2
    go_ret
    exact ⟨by rw [HRR.out, Pq.cz_hi HP.out.symm HQ.out.symm]; rfl, HB3.out⟩
  · go_wp2
    go_ret
    exact ⟨by rw [HRR.out, Pq.cz_lo HP.out.symm HQ.out.symm]; rfl, HB3.out⟩
  · go_upto_region 7 with fail
    refine Pq.wp_region_grown none [(0, true), (2, true), (1, false), (3, false), (4, false), (5, true)] (by kernel_rfl) (by kernel_rfl) (fun _ _ d _ _ h => by cases d <;> exact h) (fun hS => ?_)
    simp only [Pq.pick, List.filterMap_cons, List.filterMap_nil, List.getElem?_cons_zero, List.getElem?_cons_succ, Option.map_some]
    refine Pq.wpO_load (w.heap.size + 1) 0 (Pq.wl m y) HR2'.out (by simp) (by rfl) _ _ rfl rfl _ u_wide rfl (s_wide _ _) ?_
    simp only [Act.put, List.setIfInBounds_toArray, List.set_cons_zero, List.set_cons_succ]
    refine Pq.wpO_load w.heap.size 0 (Pq.wl n x) HR1'.out (by simp) (by rfl) _ _ rfl rfl _ u_wide rfl (s_wide _ _) ?_
    simp only [Act.put, List.setIfInBounds_toArray, List.set_cons_zero, List.set_cons_succ]
    refine Pq.wpO_call (by rfl) cf_of (of_ptr m y _) rfl rfl ?_; rintro e w3 ⟨b, rfl, hr3, hb3, _, hl3⟩; have HR3 := Lib.hid hr3; clear hr3; have hS3 := Pq.grown_then hS hb3; refine ⟨_, rfl, hS3, ?_⟩
    simp only [Act.put, List.setIfInBounds_toArray, List.set_cons_zero, List.set_cons_succ]
    refine Pq.wpO_call (by rfl) cf_of (of_ptr n x _) rfl rfl ?_; rintro e w4 ⟨c, rfl, hr4, hb4, _, hl4⟩; have HR4 := Lib.hid hr4; clear hr4; have hS4 := Pq.grown_then hS3 hb4; refine ⟨_, rfl, hS4, ?_⟩
    simp only [Act.put, List.setIfInBounds_toArray, List.set_cons_zero, List.set_cons_succ]
    refine Pq.wpO_ret (by rfl) cf_acmp (acmp_any b 0 c 0 y x _ HY.out HX.out (Pq.range_in HR3.out hb4) HR4.out) rfl rfl hS4 ?_; intro w5 hb5 hS5
    simp only [Act.put, List.setIfInBounds_toArray, List.set_cons_zero, List.set_cons_succ]
    refine Pq.wpO_step (by rfl) ?_
    apply Exists.intro
    refine ⟨fun w' hw' => ?_, ?_⟩
    · go_simp; first | done | with_reducible rfl | exact ⟨rfl, rfl⟩
    simp only [Act.put, List.setIfInBounds_toArray, List.set_cons_zero, List.set_cons_succ]
    refine Pq.wpO_nil ?_
    go_wp2
    go_ret
    refine ⟨?_, Pq.below_next HB3.out (Nat.le_refl _) (Pq.grown_below hS5)⟩
    rw [HRR.out, Pq.cz_mm HP.out.symm HQ.out.symm]; rfl
end Go.Proofs.YtokgbcachcmeaaaGreatDoor
set_option linter.unusedSimpArgs false
set_option linter.unusedVariables false
namespace Go.Proofs.YtokgbcachcmeaaaGreatDoor
open Go.RowKit
open Go.Proofs
theorem cf_add32 (xs : Array Value) (w : World) : (callFunc 110 xs).run Tryz.prog w = .ok (.enter 110 xs) w := by kernel_rfl
theorem cf_sub32 (xs : Array Value) (w : World) : (callFunc 111 xs).run Tryz.prog w = .ok (.enter 111 xs) w := by kernel_rfl
theorem cf_less (xs : Array Value) (w : World) : (callFunc 90 xs).run Tryz.prog w = .ok (.enter 90 xs) w := by kernel_rfl

theorem tup2 {a b c d : Value} (h1 : a = b) (h2 : c = d) : Ending.returned (.tuple #[a, c]) = .returned (.tuple #[b, d]) := by rw [h1, h2]
set_option maxHeartbeats 400000 in
theorem add32_any (x y c : Nat) (w : World) (hx : x < 4294967296) (hy : y < 4294967296) (hc : c ≤ 1) :
    Calls Tryz.prog 110 #[.int .u32 x, .int .u32 y, .int .u32 c] w fun e w' => e = .returned (.tuple #[.int .u32 (Pq.sww x y c : Nat), .int .u32 (Pq.swc x y c : Nat)]) ∧ w = w' := by
  go_enter Tryz.func110, Tryz.ntmps110
  go_wp2
  go_ret2
  exact ⟨tup2 (by unfold Pq.sww; simp) (by unfold Pq.swc; simp), rfl⟩
set_option maxHeartbeats 400000 in
theorem sub32_any (x y c : Nat) (w : World) (hx : x < 4294967296) (hy : y < 4294967296) (hc : c ≤ 1) :
    Calls Tryz.prog 111 #[.int .u32 x, .int .u32 y, .int .u32 c] w fun e w' => e = .returned (.tuple #[.int .u32 (Pq.dif x y c : Nat), .int .u32 (Pq.bor x y c : Nat)]) ∧ w = w' := by
  have hd : ((x : Int) - (y : Int) - (c : Int)) % 4294967296 = ((Pq.dif x y c : Nat) : Int) := by unfold Pq.dif; omega
  have HD := Lib.hid hd; clear hd
  have hb := Pq.borrow_bit hx hy hc
  have HBb := Lib.hid hb; clear hb
  have hl := Pq.dif_lt x y c
  have HL := Lib.hid hl; clear hl
  go_enter Tryz.func111, Tryz.ntmps111
  go_wp2
  go_ret2
  refine ⟨tup2 (by rw [HD.out]; rfl) ?_, rfl⟩
  rw [HD.out]
  have em : IntKind.u32.max = ((4294967295 : Nat) : Int) := by decide
  rw [em, u32_xor_nat x y hx hy, u32_xor_nat 4294967295 x (by decide) hx,
    u32_xor_nat 4294967295 (x ^^^ y) (by decide) (Nat.xor_lt_two_pow (n := 32) hx hy),
    u32_and_nat (4294967295 ^^^ x) y (Nat.xor_lt_two_pow (n := 32) (by decide) hx) hy,
    u32_and_nat (4294967295 ^^^ (x ^^^ y)) _ (Nat.xor_lt_two_pow (n := 32) (by decide) (Nat.xor_lt_two_pow (n := 32) hx hy)) HL.out,
    u32_or_nat _ _ (Nat.lt_of_le_of_lt Nat.and_le_right hy) (Nat.lt_of_le_of_lt Nat.and_le_right HL.out)]
  rw [← HBb.out]
  rfl

set_option maxRecDepth 100000 in
set_option maxHeartbeats 400000 in
theorem plus_any (b o c q : Nat) (x y : Nat) (w : World) (hx : x < Pq.bp 32) (hy : y < Pq.bp 32) (hb : w.rangeAt b o (Pq.am 32 x)) (hc : w.rangeAt c q (Pq.am 32 y)) :
    Calls Tryz.prog 89 #[.pointer (some ⟨b, o, none⟩), .pointer (some ⟨c, q, none⟩)] w (Pq.PtrOk w ((x + y) % Pq.bp 32) (decide (x + y < Pq.bp 32))) := by
  have HX := Lib.hid hx; clear hx
  have HY := Lib.hid hy; clear hy
  have hlb : b < w.heap.size := block_lt_of_cell (hb 0 _ (Pq.am_get (by omega)))
  have hlc : c < w.heap.size := block_lt_of_cell (hc 0 _ (Pq.am_get (by omega)))
  have HBx := Lib.hid hb; clear hb
  have HCy := Lib.hid hc; clear hc
  obtain ⟨g, hg⟩ : ∃ g, g = w.heap.size := ⟨_, rfl⟩
  have HG := Lib.hid hg; clear hg
  go_enter Tryz.func89, Tryz.ntmps89
  go_upto_region 1 with fail
  go_upto_region 1 with fail
  apply wp_region_lit
  refine Pq.wpL_alloc g HG.out.symm (by rfl) _ rfl _ al_am ?_
  simp only [Act.put, List.setIfInBounds_toArray, List.set_cons_zero, List.set_cons_succ]
  refine Pq.wpL_nil ?_
  have hrow : (w.alloc (.cells (Pq.am 32 0).toArray 111)).heap[g]? = some (.cells (Pq.am 32 (Pq.lo ((Pq.lo x 0) + (Pq.lo y 0)) 0)).toArray 111) := by rw [Pq.lo_zero]; exact Pq.al_block w _ g HG.out
  have hbel := Pq.below_alloc (Below.refl w.heap.size w) (Nat.le_refl _) (.cells (Pq.am 32 0).toArray 111)
  have HROW := Lib.hid hrow; clear hrow
  have HBEL := Lib.hid hbel; clear hbel
  generalize w.alloc (.cells (Pq.am 32 0).toArray 111) = w1 at *
  go_wp2
  go_loopw [7, 9] (fun cy i wr => ∃ (k : Nat), i = .int .i64 k ∧ k ≤ 32 ∧ cy = .int .u32 (((Pq.lo x k + Pq.lo y k) / Pq.bp k : Nat) : Int) ∧ Hid (wr.heap[g]? = some (.cells (Pq.am 32 (Pq.lo (Pq.lo x k + Pq.lo y k) k)).toArray 111)) ∧ Hid (Below w.heap.size w wr)) (fun _ i _ => 32 - (intOf i).toNat)
  case atStart => exact ⟨0, rfl, by omega, by simp [Pq.lo_zero], HROW, HBEL⟩
  case round =>
    obtain ⟨k, rfl, hk, rfl, hrow, hbl⟩ := hrel
    have hcy := Pq.carry_le x y k
    obtain ⟨cy, hcye⟩ : ∃ cy, cy = (Pq.lo x k + Pq.lo y k) / Pq.bp k := ⟨_, rfl⟩
    rw [← hcye] at hcy ⊢
    have HCE := Lib.hid hcye; clear hcye
    by_cases hlt : k < 32
    · have hk2 : (k : Int) < 32 := by omega
      have C1 := Lib.hid (Pq.range_in HBx.out hbl.out k _ (Pq.am_get (x := x) hlt))
      have C2 := Lib.hid (Pq.range_in HCy.out hbl.out k _ (Pq.am_get (x := y) hlt))
      go_upto_region 6 with fail
      refine Pq.wp_region_grown (some g) [(0, true), (1, true), (2, true), (3, true), (4, true), (5, true), (6, true), (7, true), (8, true), (9, true), (10, true), (11, true), (12, false), (13, true), (14, true), (15, true), (16, true), (17, false), (18, true)] (by kernel_rfl) (by kernel_rfl) (fun _ _ d _ _ h => by cases d <;> exact h) (fun hS => ?_)
      simp only [Pq.pick, List.filterMap_cons, List.filterMap_nil, List.getElem?_cons_zero, List.getElem?_cons_succ, Option.map_some]
      iterate 5
        refine Pq.wpO_step (by rfl) ?_
        apply Exists.intro
        refine ⟨fun w' hw' => ?_, ?_⟩
        · go_simp; first | done | with_reducible rfl | exact ⟨rfl, rfl⟩
        simp only [Act.put, List.setIfInBounds_toArray, List.set_cons_zero, List.set_cons_succ]
      refine Pq.wpO_cell ⟨b, o + k, none⟩ _ C1.out (by have := HG.out; simp; omega) (by rfl) _ _ rfl rfl _ u_u32 rfl ?_
      simp only [Act.put, List.setIfInBounds_toArray, List.set_cons_zero, List.set_cons_succ]
      iterate 4
        refine Pq.wpO_step (by rfl) ?_
        apply Exists.intro
        refine ⟨fun w' hw' => ?_, ?_⟩
        · go_simp; first | done | with_reducible rfl | exact ⟨rfl, rfl⟩
        simp only [Act.put, List.setIfInBounds_toArray, List.set_cons_zero, List.set_cons_succ]
      refine Pq.wpO_cell ⟨c, q + k, none⟩ _ C2.out (by have := HG.out; simp; omega) (by rfl) _ _ rfl rfl _ u_u32 rfl ?_
      simp only [Act.put, List.setIfInBounds_toArray, List.set_cons_zero, List.set_cons_succ]
      refine Pq.wpO_step (by rfl) ?_
      apply Exists.intro
      refine ⟨fun w' hw' => ?_, ?_⟩
      · go_simp; first | done | with_reducible rfl | exact ⟨rfl, rfl⟩
      simp only [Act.put, List.setIfInBounds_toArray, List.set_cons_zero, List.set_cons_succ]
      refine Pq.wpO_call (by rfl) cf_add32 (add32_any (Pq.wd x k) (Pq.wd y k) cy _ (Pq.wd_lt _ _) (Pq.wd_lt _ _) hcy) rfl rfl ?_; rintro e w1 ⟨rfl, rfl⟩; refine ⟨_, rfl, hS, ?_⟩
      simp only [Act.put, List.setIfInBounds_toArray, List.set_cons_zero, List.set_cons_succ]
      iterate 4
        refine Pq.wpO_step (by rfl) ?_
        apply Exists.intro
        refine ⟨fun w' hw' => ?_, ?_⟩
        · go_simp; first | done | with_reducible rfl | exact ⟨rfl, rfl⟩
        simp only [Act.put, List.setIfInBounds_toArray, List.set_cons_zero, List.set_cons_succ]
      refine Pq.wpO_put (.int .u32 (Pq.sww (Pq.wd x k) (Pq.wd y k) cy : Nat)) hrow.out (by rw [Pq.am_length]; exact hlt) (by rfl) 23 _ _ rfl rfl rfl rfl rfl (by kernel_rfl) (Pq.grown_setRow hS) ?_
      try simp only [Act.put, List.setIfInBounds_toArray, List.set_cons_zero, List.set_cons_succ]
      refine Pq.wpO_step (by rfl) ?_
      apply Exists.intro
      refine ⟨fun w' hw' => ?_, ?_⟩
      · go_simp; first | done | with_reducible rfl | exact ⟨rfl, rfl⟩
      simp only [Act.put, List.setIfInBounds_toArray, List.set_cons_zero, List.set_cons_succ]
      refine Pq.wpO_nil ?_
      go_wp2
      go_roundw
      case rel => exact ⟨k + 1, by go_num, by omega, by rw [HCE.out, Pq.plus_carry], by
        have := Pq.setRow_at (cs := ((Pq.am 32 (Pq.lo (Pq.lo x k + Pq.lo y k) k)).set k (.int .u32 ((Pq.sww (Pq.wd x k) (Pq.wd y k) cy : Nat) : Int))).toArray) hrow.out
        rw [HCE.out, Pq.plus_row hlt] at this; rw [HCE.out, Pq.plus_row hlt]; exact this, Lib.hid (Pq.below_setRow (Pq.below_drew hbl.out) (by rw [← HG.out]; exact Nat.le_refl _))⟩
      case measure => simp [intOf]; omega
    · obtain rfl : k = 32 := by omega
      have hz : (((cy : Nat) : Int) == 0) = decide (x + y < Pq.bp 32) := by
        have e := HCE.out
        rw [Pq.lo_self HX.out, Pq.lo_self HY.out] at e
        rw [e, Bool.eq_iff_iff]
        simp only [beq_iff_eq, decide_eq_true_eq]
        constructor
        · intro h; exact (Nat.div_eq_zero_iff_lt (Pq.bp_pos 32)).1 (by omega)
        · intro h; rw [Nat.div_eq_of_lt h]; rfl
      have HZ := Lib.hid hz; clear hz
      go_wp2
      go_ret2
      refine ⟨g, ?_, ?_, hbl.out, by rw [HG.out]; exact Nat.le_refl _, ?_⟩
      · rw [← HZ.out]; rfl
      · have := hrow.out
        rw [Pq.lo_self HX.out, Pq.lo_self HY.out] at this
        exact Pq.range_block this
      · exact (Array.getElem?_eq_some_iff.1 hrow.out).1

set_option maxRecDepth 100000 in
set_option maxHeartbeats 400000 in
theorem less_any (b o c q : Nat) (x y : Nat) (w : World) (hx : x < Pq.bp 32) (hy : y ≤ x) (hb : w.rangeAt b o (Pq.am 32 x)) (hc : w.rangeAt c q (Pq.am 32 y)) :
    Calls Tryz.prog 90 #[.pointer (some ⟨b, o, none⟩), .pointer (some ⟨c, q, none⟩)] w (Pq.Ptr w (x - y)) := by
  have HX := Lib.hid hx; clear hx
  have HY := Lib.hid hy; clear hy
  have hlb : b < w.heap.size := block_lt_of_cell (hb 0 _ (Pq.am_get (by omega)))
  have hlc : c < w.heap.size := block_lt_of_cell (hc 0 _ (Pq.am_get (by omega)))
  have HBx := Lib.hid hb; clear hb
  have HCy := Lib.hid hc; clear hc
  obtain ⟨g, hg⟩ : ∃ g, g = w.heap.size := ⟨_, rfl⟩
  have HG := Lib.hid hg; clear hg
  go_enter Tryz.func90, Tryz.ntmps90
  go_upto_region 1 with fail
  go_upto_region 1 with fail
  apply wp_region_lit
  refine Pq.wpL_alloc g HG.out.symm (by rfl) _ rfl _ al_am ?_
  simp only [Act.put, List.setIfInBounds_toArray, List.set_cons_zero, List.set_cons_succ]
  refine Pq.wpL_nil ?_
  have hrow : (w.alloc (.cells (Pq.am 32 0).toArray 111)).heap[g]? = some (.cells (Pq.am 32 0).toArray 111) := Pq.al_block w _ g HG.out
  have hbel := Pq.below_alloc (Below.refl w.heap.size w) (Nat.le_refl _) (.cells (Pq.am 32 0).toArray 111)
  have HROW := Lib.hid hrow; clear hrow
  have HBEL := Lib.hid hbel; clear hbel
  generalize w.alloc (.cells (Pq.am 32 0).toArray 111) = w1 at *
  go_wp2
  go_loopw [6, 8] (fun cy i wr => ∃ (k z bo : Nat), i = .int .i64 k ∧ k ≤ 32 ∧ cy = .int .u32 (bo : Int) ∧ bo ≤ 1 ∧ Hid (z < Pq.bp k) ∧ Hid (z + Pq.lo y k = Pq.lo x k + Pq.bp k * bo) ∧ Hid (wr.heap[g]? = some (.cells (Pq.am 32 z).toArray 111)) ∧ Hid (Below w.heap.size w wr)) (fun _ i _ => 32 - (intOf i).toNat)
  case atStart => exact ⟨0, 0, 0, rfl, by omega, rfl, by omega, Lib.hid (Pq.bp_pos 0), Lib.hid (by simp [Pq.lo_zero]), HROW, HBEL⟩
  case round =>
    obtain ⟨k, z, bo, rfl, hk, rfl, hbo, hz, he, hrow, hbl⟩ := hrel
    by_cases hlt : k < 32
    · have hk2 : (k : Int) < 32 := by omega
      have C1 := Lib.hid (Pq.range_in HBx.out hbl.out k _ (Pq.am_get (x := x) hlt))
      have C2 := Lib.hid (Pq.range_in HCy.out hbl.out k _ (Pq.am_get (x := y) hlt))
      go_upto_region 6 with fail
      refine Pq.wp_region_grown (some g) [(0, true), (1, true), (2, true), (3, true), (4, true), (5, true), (6, true), (7, true), (8, true), (9, true), (10, true), (11, true), (12, false), (13, true), (14, true), (15, true), (16, true), (17, false), (18, true)] (by kernel_rfl) (by kernel_rfl) (fun _ _ d _ _ h => by cases d <;> exact h) (fun hS => ?_)
      simp only [Pq.pick, List.filterMap_cons, List.filterMap_nil, List.getElem?_cons_zero, List.getElem?_cons_succ, Option.map_some]
      iterate 5
        refine Pq.wpO_step (by rfl) ?_
        apply Exists.intro
        refine ⟨fun w' hw' => ?_, ?_⟩
        · go_simp; first | done | with_reducible rfl | exact ⟨rfl, rfl⟩
        simp only [Act.put, List.setIfInBounds_toArray, List.set_cons_zero, List.set_cons_succ]
      refine Pq.wpO_cell ⟨b, o + k, none⟩ _ C1.out (by have := HG.out; simp; omega) (by rfl) _ _ rfl rfl _ u_u32 rfl ?_
      simp only [Act.put, List.setIfInBounds_toArray, List.set_cons_zero, List.set_cons_succ]
      iterate 4
        refine Pq.wpO_step (by rfl) ?_
        apply Exists.intro
        refine ⟨fun w' hw' => ?_, ?_⟩
        · go_simp; first | done | with_reducible rfl | exact ⟨rfl, rfl⟩
        simp only [Act.put, List.setIfInBounds_toArray, List.set_cons_zero, List.set_cons_succ]
      refine Pq.wpO_cell ⟨c, q + k, none⟩ _ C2.out (by have := HG.out; simp; omega) (by rfl) _ _ rfl rfl _ u_u32 rfl ?_
      simp only [Act.put, List.setIfInBounds_toArray, List.set_cons_zero, List.set_cons_succ]
      refine Pq.wpO_step (by rfl) ?_
      apply Exists.intro
      refine ⟨fun w' hw' => ?_, ?_⟩
      · go_simp; first | done | with_reducible rfl | exact ⟨rfl, rfl⟩
      simp only [Act.put, List.setIfInBounds_toArray, List.set_cons_zero, List.set_cons_succ]
      refine Pq.wpO_call (by rfl) cf_sub32 (sub32_any (Pq.wd x k) (Pq.wd y k) bo _ (Pq.wd_lt _ _) (Pq.wd_lt _ _) hbo) rfl rfl ?_; rintro e w1 ⟨rfl, rfl⟩; refine ⟨_, rfl, hS, ?_⟩
      simp only [Act.put, List.setIfInBounds_toArray, List.set_cons_zero, List.set_cons_succ]
      iterate 4
        refine Pq.wpO_step (by rfl) ?_
        apply Exists.intro
        refine ⟨fun w' hw' => ?_, ?_⟩
        · go_simp; first | done | with_reducible rfl | exact ⟨rfl, rfl⟩
        simp only [Act.put, List.setIfInBounds_toArray, List.set_cons_zero, List.set_cons_succ]
      refine Pq.wpO_put (.int .u32 (Pq.dif (Pq.wd x k) (Pq.wd y k) bo : Nat)) hrow.out (by rw [Pq.am_length]; exact hlt) (by rfl) 23 _ _ rfl rfl rfl rfl rfl (by kernel_rfl) (Pq.grown_setRow hS) ?_
      try simp only [Act.put, List.setIfInBounds_toArray, List.set_cons_zero, List.set_cons_succ]
      refine Pq.wpO_step (by rfl) ?_
      apply Exists.intro
      refine ⟨fun w' hw' => ?_, ?_⟩
      · go_simp; first | done | with_reducible rfl | exact ⟨rfl, rfl⟩
      simp only [Act.put, List.setIfInBounds_toArray, List.set_cons_zero, List.set_cons_succ]
      refine Pq.wpO_nil ?_
      go_wp2
      go_roundw
      case rel => exact ⟨k + 1, z + Pq.bp k * Pq.dif (Pq.wd x k) (Pq.wd y k) bo, Pq.bor (Pq.wd x k) (Pq.wd y k) bo, by go_num, by omega, rfl, Pq.bor_le _ _ _, Lib.hid (Pq.less_lt hz.out (Pq.dif_lt _ _ _)), Lib.hid (Pq.less_step k z bo hz.out he.out hbo), by
        have := Pq.setRow_at (cs := ((Pq.am 32 z).set k (.int .u32 ((Pq.dif (Pq.wd x k) (Pq.wd y k) bo : Nat) : Int))).toArray) hrow.out
        rw [Pq.less_row hlt hz.out (Pq.dif_lt _ _ _)] at this; rw [Pq.less_row hlt hz.out (Pq.dif_lt _ _ _)]; exact this, Lib.hid (Pq.below_setRow (Pq.below_drew hbl.out) (by rw [← HG.out]; exact Nat.le_refl _))⟩
      case measure => simp [intOf]; omega
    · obtain rfl : k = 32 := by omega
      have hzz : z = x - y := by
        have e := he.out
        rw [Pq.lo_self HX.out, Pq.lo_self (Nat.lt_of_le_of_lt HY.out HX.out)] at e
        have h1 := hz.out; have h2 := HY.out; have h3 := HX.out
        generalize Pq.bp 32 = B at *
        match bo, hbo with
        | 0, _ => omega
        | 1, _ => omega
      subst hzz
      go_wp2
      go_ret
      exact ⟨g, rfl, Pq.range_block hrow.out, hbl.out, by rw [HG.out]; exact Nat.le_refl _, (Array.getElem?_eq_some_iff.1 hrow.out).1⟩
end Go.Proofs.YtokgbcachcmeaaaGreatDoor
set_option linter.unusedSimpArgs false
set_option linter.unusedVariables false
namespace Go.Proofs.YtokgbcachcmeaaaGreatDoor
open Go.RowKit
theorem cf_neg (xs : Array Value) (w : World) : (callFunc 58 xs).run Tryz.prog w = .ok (.enter 58 xs) w := by kernel_rfl
theorem cf_add (xs : Array Value) (w : World) : (callFunc 62 xs).run Tryz.prog w = .ok (.enter 62 xs) w := by kernel_rfl

set_option maxRecDepth 100000 in
set_option maxHeartbeats 1000000 in
theorem add_any (n : Bool) (x : Nat) (m : Bool) (y : Nat) (w : World) (hx : x < Pq.bp 32) (hy : y < Pq.bp 32) :
    Calls Tryz.prog 62 #[.agg (Pq.wc n x), .agg (Pq.wc m y)] w (Pq.Ret w (Pq.rz (Pq.zv n x + Pq.zv m y))) := by
  have HX := Lib.hid hx; clear hx
  have HY := Lib.hid hy; clear hy
  obtain ⟨r, hr⟩ : ∃ r, r = Pq.rz (Pq.zv n x + Pq.zv m y) := ⟨_, rfl⟩
  obtain ⟨p, hp⟩ : ∃ p, p = Pq.ng n x := ⟨_, rfl⟩
  obtain ⟨q, hq⟩ : ∃ q, q = Pq.ng m y := ⟨_, rfl⟩
  obtain ⟨g, hg⟩ : ∃ g, g = w.heap.size := ⟨_, rfl⟩
  rw [← hr]
  have HP := Lib.hid hp; clear hp
  have HQ := Lib.hid hq; clear hq
  have HRR := Lib.hid hr; clear hr
  have HG := Lib.hid hg; clear hg
  go_enter Tryz.func62, Tryz.ntmps62
  go_upto_region 0 with fail
  go_upto_region 0 with fail
  apply wp_region_lit
  refine Pq.wpL_box g HG.out.symm (Pq.wc n x) (by rfl) _ _ rfl rfl (bx_wide n x) ?_
  simp only [Act.put, List.setIfInBounds_toArray, List.set_cons_zero, List.set_cons_succ]
  refine Pq.wpL_box (g + 1) (by simp [HG.out]) (Pq.wc m y) (by rfl) _ _ rfl rfl (bx_wide m y) ?_
  simp only [Act.put, List.setIfInBounds_toArray, List.set_cons_zero, List.set_cons_succ]
  refine Pq.wpL_alloc (g + 2) (by simp [HG.out]) (by rfl) _ rfl (Pq.wc false 0) al_wide ?_
  simp only [Act.put, List.setIfInBounds_toArray, List.set_cons_zero, List.set_cons_succ]
  refine Pq.wpL_step (by rfl) ?_
  apply Exists.intro
  apply Exists.intro
  refine ⟨?_, ?_⟩
  · go_simp; first | done | with_reducible rfl | exact ⟨rfl, rfl⟩
  simp only [Act.put, List.setIfInBounds_toArray, List.set_cons_zero, List.set_cons_succ]
  refine Pq.wpL_nil ?_
  have HB := Lib.hid (Pq.below_alloc (Pq.below_alloc (Pq.below_alloc (Below.refl _ w) (Nat.le_refl _) (.cells (Pq.wc n x) 26)) (Nat.le_refl _) (.cells (Pq.wc m y) 26)) (Nat.le_refl _) (.cells (Pq.wc false 0) 26))
  have HR1 := Lib.hid (Pq.al_range (Pq.al_range (Pq.al_wnew w n x 26 g HG.out) (.cells (Pq.wc m y) 26)) (.cells (Pq.wc false 0) 26))
  have HR2 := Lib.hid (Pq.al_range (Pq.al_wnew (w.alloc (.cells (Pq.wc n x) 26)) m y 26 (g + 1) (by simp [HG.out])) (.cells (Pq.wc false 0) 26))
  have HG2 := Lib.hid (Pq.al_block ((w.alloc (.cells (Pq.wc n x) 26)).alloc (.cells (Pq.wc m y) 26)) (.cells (Pq.wc false 0) 26) (g + 2) (by simp [HG.out]))
  generalize ((w.alloc (.cells (Pq.wc n x) 26)).alloc (.cells (Pq.wc m y) 26)).alloc (.cells (Pq.wc false 0) 26) = w0 at *
  go_upto_region 1 with fail
  refine Pq.wp_region_grown none [(0, true), (2, true), (1, false), (3, false), (4, true), (5, true)] (by kernel_rfl) (by kernel_rfl) (fun _ _ d _ _ h => by cases d <;> exact h) (fun hS => ?_)
  simp only [Pq.pick, List.filterMap_cons, List.filterMap_nil, List.getElem?_cons_zero, List.getElem?_cons_succ, Option.map_some]
  refine Pq.wpO_load g 0 (Pq.wl n x) HR1.out (by simp) (by rfl) _ _ rfl rfl _ u_wide rfl (s_wide _ _) ?_
  simp only [Act.put, List.setIfInBounds_toArray, List.set_cons_zero, List.set_cons_succ]
  refine Pq.wpO_load (g + 1) 0 (Pq.wl m y) HR2.out (by simp) (by rfl) _ _ rfl rfl _ u_wide rfl (s_wide _ _) ?_
  simp only [Act.put, List.setIfInBounds_toArray, List.set_cons_zero, List.set_cons_succ]
  refine Pq.wpO_call (by rfl) cf_of (of_ptr n x _) rfl rfl ?_; rintro e w3 ⟨b, rfl, hr3, hb3, _, hl3⟩; have HR3 := Lib.hid hr3; clear hr3; have hS3 := Pq.grown_then hS hb3; refine ⟨_, rfl, hS3, ?_⟩
  simp only [Act.put, List.setIfInBounds_toArray, List.set_cons_zero, List.set_cons_succ]
  refine Pq.wpO_call (by rfl) cf_of (of_ptr m y _) rfl rfl ?_; rintro e w4 ⟨c, rfl, hr4, hb4, _, hl4⟩; have HR4 := Lib.hid hr4; clear hr4; have hS4 := Pq.grown_then hS3 hb4; refine ⟨_, rfl, hS4, ?_⟩
  simp only [Act.put, List.setIfInBounds_toArray, List.set_cons_zero, List.set_cons_succ]
  iterate 2
    refine Pq.wpO_step (by rfl) ?_
    apply Exists.intro
    refine ⟨fun w' hw' => ?_, ?_⟩
    · go_simp; first | done | with_reducible rfl | exact ⟨rfl, rfl⟩
    simp only [Act.put, List.setIfInBounds_toArray, List.set_cons_zero, List.set_cons_succ]
  refine Pq.wpO_nil ?_
  have HR3' := Lib.hid (Pq.range_in HR3.out hb4)
  have hl3' := Nat.lt_of_lt_of_le hl3 hb4.size
  clear HR3 hb3 hb4 hS hS3 hl3
  go_upto_region 2 with fail
  refine Pq.wp_region_grown none [(0, true), (2, true), (1, false), (3, false), (4, true)] (by kernel_rfl) (by kernel_rfl) (fun _ _ d _ _ h => by cases d <;> exact h) (fun hS => ?_)
  simp only [Pq.pick, List.filterMap_cons, List.filterMap_nil, List.getElem?_cons_zero, List.getElem?_cons_succ, Option.map_some]
  refine Pq.wpO_load g 0 (Pq.wl n x) (Pq.range_in HR1.out (Pq.grown_below hS4)) (by simp) (by rfl) _ _ rfl rfl _ u_wide rfl (s_wide _ _) ?_
  simp only [Act.put, List.setIfInBounds_toArray, List.set_cons_zero, List.set_cons_succ]
  refine Pq.wpO_load (g + 1) 0 (Pq.wl m y) (Pq.range_in HR2.out (Pq.grown_below hS4)) (by simp) (by rfl) _ _ rfl rfl _ u_wide rfl (s_wide _ _) ?_
  simp only [Act.put, List.setIfInBounds_toArray, List.set_cons_zero, List.set_cons_succ]
  refine Pq.wpO_ret (by rfl) cf_below (below_any n x _ HX.out) rfl rfl hS ?_; intro w5 hb5 hS5; rw [← HP.out]
  simp only [Act.put, List.setIfInBounds_toArray, List.set_cons_zero, List.set_cons_succ]
  refine Pq.wpO_ret (by rfl) cf_below (below_any m y _ HY.out) rfl rfl hS5 ?_; intro w6 hb6 hS6; rw [← HQ.out]
  simp only [Act.put, List.setIfInBounds_toArray, List.set_cons_zero, List.set_cons_succ]
  refine Pq.wpO_step (by rfl) ?_
  apply Exists.intro
  refine ⟨fun w' hw' => ?_, ?_⟩
  · go_simp; first | done | with_reducible rfl | exact ⟨rfl, rfl⟩
  simp only [Act.put, List.setIfInBounds_toArray, List.set_cons_zero, List.set_cons_succ]
  refine Pq.wpO_nil ?_
  have K := Pq.grown_below hS6
  have HBx := Lib.hid (Pq.range_in HR3'.out K)
  have HCy := Lib.hid (Pq.range_in HR4.out K)
  have hlb := Nat.lt_of_lt_of_le hl3' K.size
  have hlc := Nat.lt_of_lt_of_le hl4 K.size
  have K2 := Pq.below_next (Pq.grown_below hS4) (Nat.le_refl _) K
  have HA1 := Lib.hid (Pq.range_in HR1.out K2)
  have HA2 := Lib.hid (Pq.range_in HR2.out K2)
  have HG3 := Lib.hid (Pq.keep_block HG2.out K2)
  have HB3 := Lib.hid (Pq.below_next HB.out (Nat.le_refl _) K2)
  clear HR3' HR4 HR1 HR2 HG2 HB hl3' hl4 hS hS4 hS5 hS6 hb5 hb6 K K2
  generalize HWW : w0.heap.size = h0 at *
  clear HWW
  have hgg : w.heap.size ≤ g + 2 := by rw [← HG.out]; omega
  rcases hpq : (p == q) with _ | _
  · have hne : Pq.ng n x ≠ Pq.ng m y := by rw [← HP.out, ← HQ.out]; intro h; rw [h] at hpq; simp at hpq
    have HNE := Lib.hid hne; clear hne
    rcases Nat.lt_or_ge x y with hxy | hxy
    · have hc : decide (Pq.cm x y ≥ 0) = false := by rw [Pq.cm_lt hxy]; rfl
      have HXY := Lib.hid hxy; clear hxy
      obtain ⟨cc, hcc⟩ : ∃ cc, cc = Pq.cm x y := ⟨_, rfl⟩
      rw [← hcc] at hc
      have HCC := Lib.hid hcc; clear hcc
      go_upto_region 9 with (go_at_call 76; refine (acmp_any b 0 c 0 x y _ HX.out HY.out HBx.out HCy.out).mono ?_; rw [← HCC.out]; rintro e w7 ⟨rfl, hb7⟩)
      have HA' := Lib.hid (Pq.range_in HA2.out hb7)
      have HB' := Lib.hid (Pq.range_in HBx.out hb7)
      have HC' := Lib.hid (Pq.range_in HCy.out hb7)
      have HG4 := Lib.hid (Pq.keep_block HG3.out hb7)
      have HB4 := Lib.hid (Pq.below_next HB3.out (Nat.le_refl _) hb7)
      clear hb7 HBx HCy HA1 HA2 HG3 HB3
      go_upto_region 9 with fail
      apply wp_region_lit
      refine Pq.wpL_load (g + 1) 0 (Pq.wl m y) HA'.out (by rfl) _ _ rfl rfl _ u_wide rfl (s_wide _ _) ?_
      simp only [Act.put, List.setIfInBounds_toArray, List.set_cons_zero, List.set_cons_succ]
      refine Pq.wpL_ret (by rfl) cf_below (below_any m y _ HY.out) rfl rfl ?_; intro w8 hb8; rw [← HQ.out]
      simp only [Act.put, List.setIfInBounds_toArray, List.set_cons_zero, List.set_cons_succ]
      iterate 2
        refine Pq.wpL_step (by rfl) ?_
        apply Exists.intro
        apply Exists.intro
        refine ⟨?_, ?_⟩
        · go_simp; first | done | with_reducible rfl | exact ⟨rfl, rfl⟩
        simp only [Act.put, List.setIfInBounds_toArray, List.set_cons_zero, List.set_cons_succ]
      refine Pq.wpL_call (by rfl) cf_less (less_any c 0 b 0 y x _ HY.out (Nat.le_of_lt HXY.out) (Pq.range_in HC'.out hb8) (Pq.range_in HB'.out hb8)) rfl rfl ?_; rintro e w9 ⟨d, rfl, hr9, hb9, _, hl9⟩; have HR9 := Lib.hid hr9; clear hr9; refine ⟨_, rfl, ?_⟩
      simp only [Act.put, List.setIfInBounds_toArray, List.set_cons_zero, List.set_cons_succ]
      refine Pq.wpL_ret (by rfl) cf_told (told_any _ d 0 (y - x) _ (Nat.lt_of_le_of_lt (Nat.sub_le _ _) HY.out) HR9.out hl9) rfl rfl ?_; intro w10 hb10
      simp only [Act.put, List.setIfInBounds_toArray, List.set_cons_zero, List.set_cons_succ]
      refine Pq.wpL_store (by rfl) 26 _ _ rfl (g + 2) (Pq.wc _ _) rfl rfl 26 (Pq.wc _ _) (Pq.keep_block (Pq.keep_block (Pq.keep_block HG4.out hb8) hb9) hb10) (s_widea _ _) (by simp only [Pq.wc_size]) (Pq.wc_one _ _) ?_
      try simp only [Act.put, List.setIfInBounds_toArray, List.set_cons_zero, List.set_cons_succ]
      refine Pq.wpL_step (by rfl) ?_
      apply Exists.intro
      apply Exists.intro
      refine ⟨?_, ?_⟩
      · go_simp; first | done | with_reducible rfl | exact ⟨rfl, rfl⟩
      simp only [Act.put, List.setIfInBounds_toArray, List.set_cons_zero, List.set_cons_succ]
      refine Pq.wpL_nil ?_
      go_wp2
      refine Pq.ret_cell_tmp rfl _ _ _ _ _ _ rfl rfl (Pq.setRow_at (Pq.keep_block (Pq.keep_block (Pq.keep_block HG4.out hb8) hb9) hb10)) u_wide rfl (s_widea _ _) rfl ⟨?_, Pq.below_setRow (Pq.below_next (Pq.below_next (Pq.below_next HB4.out (Nat.le_refl _) hb8) (Nat.le_refl _) hb9) (Nat.le_refl _) hb10) hgg⟩
      have e := Pq.wc_dif (Ne.symm HNE.out) (Nat.le_of_lt HXY.out)
      rw [← HQ.out] at e
      rw [HRR.out, Int.add_comm, Pq.rz_ok (by rw [e.2]; exact Nat.lt_of_le_of_lt (Nat.sub_le _ _) HY.out), ← e.1]; rfl
    · have hc : decide (Pq.cm x y ≥ 0) = true := by
        rcases Nat.eq_or_lt_of_le hxy with h | h
        · subst h; rw [Pq.cm_eq]; rfl
        · rw [Pq.cm_gt h]; rfl
      have HXY := Lib.hid hxy; clear hxy
      obtain ⟨cc, hcc⟩ : ∃ cc, cc = Pq.cm x y := ⟨_, rfl⟩
      rw [← hcc] at hc
      have HCC := Lib.hid hcc; clear hcc
      go_upto_region 8 with (go_at_call 76; refine (acmp_any b 0 c 0 x y _ HX.out HY.out HBx.out HCy.out).mono ?_; rw [← HCC.out]; rintro e w7 ⟨rfl, hb7⟩)
      have HA' := Lib.hid (Pq.range_in HA1.out hb7)
      have HB' := Lib.hid (Pq.range_in HBx.out hb7)
      have HC' := Lib.hid (Pq.range_in HCy.out hb7)
      have HG4 := Lib.hid (Pq.keep_block HG3.out hb7)
      have HB4 := Lib.hid (Pq.below_next HB3.out (Nat.le_refl _) hb7)
      clear hb7 HBx HCy HA1 HA2 HG3 HB3
      go_upto_region 8 with fail
      apply wp_region_lit
      refine Pq.wpL_load g 0 (Pq.wl n x) HA'.out (by rfl) _ _ rfl rfl _ u_wide rfl (s_wide _ _) ?_
      simp only [Act.put, List.setIfInBounds_toArray, List.set_cons_zero, List.set_cons_succ]
      refine Pq.wpL_ret (by rfl) cf_below (below_any n x _ HX.out) rfl rfl ?_; intro w8 hb8; rw [← HP.out]
      simp only [Act.put, List.setIfInBounds_toArray, List.set_cons_zero, List.set_cons_succ]
      iterate 2
        refine Pq.wpL_step (by rfl) ?_
        apply Exists.intro
        apply Exists.intro
        refine ⟨?_, ?_⟩
        · go_simp; first | done | with_reducible rfl | exact ⟨rfl, rfl⟩
        simp only [Act.put, List.setIfInBounds_toArray, List.set_cons_zero, List.set_cons_succ]
      refine Pq.wpL_call (by rfl) cf_less (less_any b 0 c 0 x y _ HX.out HXY.out (Pq.range_in HB'.out hb8) (Pq.range_in HC'.out hb8)) rfl rfl ?_; rintro e w9 ⟨d, rfl, hr9, hb9, _, hl9⟩; have HR9 := Lib.hid hr9; clear hr9; refine ⟨_, rfl, ?_⟩
      simp only [Act.put, List.setIfInBounds_toArray, List.set_cons_zero, List.set_cons_succ]
      refine Pq.wpL_ret (by rfl) cf_told (told_any _ d 0 (x - y) _ (Nat.lt_of_le_of_lt (Nat.sub_le _ _) HX.out) HR9.out hl9) rfl rfl ?_; intro w10 hb10
      simp only [Act.put, List.setIfInBounds_toArray, List.set_cons_zero, List.set_cons_succ]
      refine Pq.wpL_store (by rfl) 26 _ _ rfl (g + 2) (Pq.wc _ _) rfl rfl 26 (Pq.wc _ _) (Pq.keep_block (Pq.keep_block (Pq.keep_block HG4.out hb8) hb9) hb10) (s_widea _ _) (by simp only [Pq.wc_size]) (Pq.wc_one _ _) ?_
      try simp only [Act.put, List.setIfInBounds_toArray, List.set_cons_zero, List.set_cons_succ]
      refine Pq.wpL_step (by rfl) ?_
      apply Exists.intro
      apply Exists.intro
      refine ⟨?_, ?_⟩
      · go_simp; first | done | with_reducible rfl | exact ⟨rfl, rfl⟩
      simp only [Act.put, List.setIfInBounds_toArray, List.set_cons_zero, List.set_cons_succ]
      refine Pq.wpL_nil ?_
      go_wp2
      refine Pq.ret_cell_tmp rfl _ _ _ _ _ _ rfl rfl (Pq.setRow_at (Pq.keep_block (Pq.keep_block (Pq.keep_block HG4.out hb8) hb9) hb10)) u_wide rfl (s_widea _ _) rfl ⟨?_, Pq.below_setRow (Pq.below_next (Pq.below_next (Pq.below_next HB4.out (Nat.le_refl _) hb8) (Nat.le_refl _) hb9) (Nat.le_refl _) hb10) hgg⟩
      have e := Pq.wc_dif HNE.out HXY.out
      rw [← HP.out] at e
      rw [HRR.out, Pq.rz_ok (by rw [e.2]; exact Nat.lt_of_le_of_lt (Nat.sub_le _ _) HX.out), ← e.1]; rfl
  · have hpq' : p = q := by simpa using hpq
    have heq : Pq.ng n x = Pq.ng m y := by rw [← HP.out, ← HQ.out]; exact hpq'
    have e := Pq.wc_sum heq
    rw [← HP.out] at e
    have HE := Lib.hid e; clear e heq hpq'
    obtain ⟨ok, hok⟩ : ∃ ok, ok = decide (x + y < Pq.bp 32) := ⟨_, rfl⟩
    have HOK := Lib.hid hok; clear hok
    cases ok
    · go_upto_region 5 with (go_at_call 89; refine (plus_any b 0 c 0 x y _ HX.out HY.out HBx.out HCy.out).mono ?_; rw [← HOK.out]; rintro e w7 ⟨d, rfl, hr7, hb7, _, hl7⟩)
      go_upto_region 5 with fail
      apply wp_region_lit
      refine Pq.wpL_build (by rfl) _ [] rfl [] rfl _ built_none ?_
      simp only [Act.put, List.setIfInBounds_toArray, List.set_cons_zero, List.set_cons_succ]
      refine Pq.wpL_store (by rfl) 26 _ _ rfl (g + 2) (Pq.wc _ _) rfl rfl 26 (Pq.wc _ _) (Pq.keep_block HG3.out hb7) (s_widea _ _) (by simp only [Pq.wc_size]) (Pq.wc_one _ _) ?_
      try simp only [Act.put, List.setIfInBounds_toArray, List.set_cons_zero, List.set_cons_succ]
      refine Pq.wpL_step (by rfl) ?_
      apply Exists.intro
      apply Exists.intro
      refine ⟨?_, ?_⟩
      · go_simp; first | done | with_reducible rfl | exact ⟨rfl, rfl⟩
      simp only [Act.put, List.setIfInBounds_toArray, List.set_cons_zero, List.set_cons_succ]
      refine Pq.wpL_nil ?_
      go_wp2
      refine Pq.ret_cell_tmp rfl _ _ _ _ _ _ rfl rfl (Pq.setRow_at (Pq.keep_block HG3.out hb7)) u_wide rfl (s_widea _ _) rfl ⟨?_, Pq.below_setRow (Pq.below_next HB3.out (Nat.le_refl _) hb7) hgg⟩
      rw [HRR.out, Pq.rz_no (by rw [HE.out.2]; exact of_decide_eq_false HOK.out.symm)]; rfl
    · have hlt : x + y < Pq.bp 32 := of_decide_eq_true HOK.out.symm
      have HLT := Lib.hid hlt; clear hlt
      go_upto_region 6 with (go_at_call 89; refine (plus_any b 0 c 0 x y _ HX.out HY.out HBx.out HCy.out).mono ?_; rw [← HOK.out, Nat.mod_eq_of_lt HLT.out]; rintro e w7 ⟨d, rfl, hr7, hb7, _, hl7⟩)
      have HR7 := Lib.hid hr7; clear hr7
      go_upto_region 6 with fail
      apply wp_region_lit
      refine Pq.wpL_load g 0 (Pq.wl n x) (Pq.range_in HA1.out hb7) (by rfl) _ _ rfl rfl _ u_wide rfl (s_wide _ _) ?_
      simp only [Act.put, List.setIfInBounds_toArray, List.set_cons_zero, List.set_cons_succ]
      refine Pq.wpL_ret (by rfl) cf_below (below_any n x _ HX.out) rfl rfl ?_; intro w8 hb8; rw [← HP.out]
      simp only [Act.put, List.setIfInBounds_toArray, List.set_cons_zero, List.set_cons_succ]
      refine Pq.wpL_step (by rfl) ?_
      apply Exists.intro
      apply Exists.intro
      refine ⟨?_, ?_⟩
      · go_simp; first | done | with_reducible rfl | exact ⟨rfl, rfl⟩
      simp only [Act.put, List.setIfInBounds_toArray, List.set_cons_zero, List.set_cons_succ]
      refine Pq.wpL_ret (by rfl) cf_told (told_any _ d 0 (x + y) _ HLT.out (Pq.range_in HR7.out hb8) (Nat.lt_of_lt_of_le hl7 hb8.size)) rfl rfl ?_; intro w10 hb10
      simp only [Act.put, List.setIfInBounds_toArray, List.set_cons_zero, List.set_cons_succ]
      refine Pq.wpL_store (by rfl) 26 _ _ rfl (g + 2) (Pq.wc _ _) rfl rfl 26 (Pq.wc _ _) (Pq.keep_block (Pq.keep_block (Pq.keep_block HG3.out hb7) hb8) hb10) (s_widea _ _) (by simp only [Pq.wc_size]) (Pq.wc_one _ _) ?_
      try simp only [Act.put, List.setIfInBounds_toArray, List.set_cons_zero, List.set_cons_succ]
      refine Pq.wpL_step (by rfl) ?_
      apply Exists.intro
      apply Exists.intro
      refine ⟨?_, ?_⟩
      · go_simp; first | done | with_reducible rfl | exact ⟨rfl, rfl⟩
      simp only [Act.put, List.setIfInBounds_toArray, List.set_cons_zero, List.set_cons_succ]
      refine Pq.wpL_nil ?_
      go_wp2
      refine Pq.ret_cell_tmp rfl _ _ _ _ _ _ rfl rfl (Pq.setRow_at (Pq.keep_block (Pq.keep_block (Pq.keep_block HG3.out hb7) hb8) hb10)) u_wide rfl (s_widea _ _) rfl ⟨?_, Pq.below_setRow (Pq.below_next (Pq.below_next (Pq.below_next HB3.out (Nat.le_refl _) hb7) (Nat.le_refl _) hb8) (Nat.le_refl _) hb10) hgg⟩
      rw [HRR.out, Pq.rz_ok (by rw [HE.out.2]; exact HLT.out), ← HE.out.1]; rfl
end Go.Proofs.YtokgbcachcmeaaaGreatDoor
/-
  DERIVED: THE SHELF's CONTRACTS AT THIS DUMP, IN PLAIN WORDS (tools/lay-plain.mjs out of 'TryzShelf.lean', which tools/lay-shelf.mjs wrote): THE SAME DECLARATIONS UNDER THE SAME NAMES: 'import', 'namespace', 'open', 'def', 'theorem' AND NOTHING ELSE: no command of the shelf's: FOR A HAND-IN. Each laying: the table of numbers ('.._ren') and one theorem, a field a fact of the dump's own or the kernel's comparison; each contract: ONE APPLICATION.
-/
namespace Go.Proofs
open Go.Shelf
def Tryz.lays128_ren : Go.Shelf.Ren := ⟨fun | 128 => 87 | n => n, fun | 51 => 23 | 3 => 3 | 4 => 4 | 46 => 90 | 5 => 5 | 9 => 9 | n => n, fun | n => n⟩
theorem Tryz.lays128 : Go.Proofs.Lays.n128 Tryz.prog Tryz.lays128_ren := {
  mixed := by kernel_rfl
  f128 := Tryz.func87.trans (congrArg some (by kernel_rfl))
  t3 := Tryz.underlying3
  a3 := Tryz.isAgg3
  z3 := Tryz.sizeOf3
  v3 := Tryz.zeroValue3
  t4 := Tryz.underlying4
  a4 := Tryz.isAgg4
  z4 := Tryz.sizeOf4
  v4 := Tryz.zeroValue4
  t5 := Tryz.underlying5
  a5 := Tryz.isAgg5
  z5 := Tryz.sizeOf5
  v5 := Tryz.zeroValue5
  t9 := Tryz.underlying9
  a9 := Tryz.isAgg9
  z9 := Tryz.sizeOf9
  v9 := Tryz.zeroValue9
  t46 := Tryz.underlying90
  a46 := Tryz.isAgg90
  z46 := Tryz.sizeOf90
  v46 := Tryz.zeroValue90
  t51 := Tryz.underlying23
  a51 := Tryz.isAgg23
  z51 := Tryz.sizeOf23
  v51 := Tryz.zeroValue23 }
theorem Tryz.bits_Len32 (x : Int) (w : World) (h0 : 0 ≤ x) (h1 : x ≤ 4294967295) :
    Calls Tryz.prog 87 #[.int .u32 x] w fun e w' => e = .returned (.int .i64 (Lib.bitLen x.toNat)) ∧ w' = w := Any.bits_Len32 Tryz.lays128 x w h0 h1
def Tryz.lays133_ren : Go.Shelf.Ren := ⟨fun | 133 => 105 | 128 => 87 | n => n, fun | 51 => 23 | 3 => 3 | 4 => 4 | 46 => 90 | 5 => 5 | 9 => 9 | n => n, fun | n => n⟩
theorem Tryz.lays133 : Go.Proofs.Lays.n133 Tryz.prog Tryz.lays133_ren := {
  mixed := by kernel_rfl
  f128 := Tryz.func87.trans (congrArg some (by kernel_rfl))
  f133 := Tryz.func105.trans (congrArg some (by kernel_rfl))
  t3 := Tryz.underlying3
  a3 := Tryz.isAgg3
  z3 := Tryz.sizeOf3
  v3 := Tryz.zeroValue3
  t4 := Tryz.underlying4
  a4 := Tryz.isAgg4
  z4 := Tryz.sizeOf4
  v4 := Tryz.zeroValue4
  t5 := Tryz.underlying5
  a5 := Tryz.isAgg5
  z5 := Tryz.sizeOf5
  v5 := Tryz.zeroValue5
  t9 := Tryz.underlying9
  a9 := Tryz.isAgg9
  z9 := Tryz.sizeOf9
  v9 := Tryz.zeroValue9
  t46 := Tryz.underlying90
  a46 := Tryz.isAgg90
  z46 := Tryz.sizeOf90
  v46 := Tryz.zeroValue90
  t51 := Tryz.underlying23
  a51 := Tryz.isAgg23
  z51 := Tryz.sizeOf23
  v51 := Tryz.zeroValue23 }
theorem Tryz.bits_LeadingZeros32 (x : Int) (w : World) (h0 : 0 ≤ x) (h1 : x ≤ 4294967295) :
    Calls Tryz.prog 105 #[.int .u32 x] w fun e w' => e = .returned (.int .i64 (32 - (Lib.bitLen x.toNat : Int))) ∧ w' = w := Any.bits_LeadingZeros32 Tryz.lays133 x w h0 h1
open Go.Lib in
open Go.Lib in
open Go.Lib in
open Go.Lib in
open Go.RowKit Go.Sort Go.Lib in
open Go.RowKit Go.Sort Go.Lib in
open Go.RowKit Go.Sort Go.Lib in
open Go.RowKit Go.Sort Go.Lib in
open Go.RowKit Go.Sort Go.Lib in
open Go.RowKit Go.Sort Go.Lib in
def Tryz.lays171_ren : Go.Shelf.Ren := ⟨fun | 171 => 21 | 243 => 47 | 246 => 77 | 283 => 95 | 284 => 96 | 285 => 97 | 286 => 98 | 129 => 113 | 317 => 112 | 318 => 114 | 319 => 115 | 320 => 116 | 337 => 120 | 338 => 121 | n => n, fun | 3 => 3 | 9 => 9 | 2 => 2 | 4 => 4 | 171 => 152 | 0 => 0 | 53 => 87 | 37 => 127 | 5 => 5 | 173 => 155 | 212 => 171 | 51 => 23 | 20 => 20 | 213 => 172 | 46 => 90 | 232 => 179 | 233 => 180 | n => n, fun | 17 => 0 | 18 => 2 | 19 => 3 | n => n⟩
theorem Tryz.lays171 : Go.Proofs.Lays.n171 Tryz.prog Tryz.lays171_ren := {
  mixed := by kernel_rfl
  f129 := Tryz.func113.trans (congrArg some (by kernel_rfl))
  f171 := Tryz.func21.trans (congrArg some (by kernel_rfl))
  f243 := Tryz.func47.trans (congrArg some (by kernel_rfl))
  f246 := Tryz.func77.trans (congrArg some (by kernel_rfl))
  f283 := Tryz.func95.trans (congrArg some (by kernel_rfl))
  f284 := Tryz.func96.trans (congrArg some (by kernel_rfl))
  f285 := Tryz.func97.trans (congrArg some (by kernel_rfl))
  f286 := Tryz.func98.trans (congrArg some (by kernel_rfl))
  f317 := Tryz.func112.trans (congrArg some (by kernel_rfl))
  f318 := Tryz.func114.trans (congrArg some (by kernel_rfl))
  f319 := Tryz.func115.trans (congrArg some (by kernel_rfl))
  f320 := Tryz.func116.trans (congrArg some (by kernel_rfl))
  f337 := Tryz.func120.trans (congrArg some (by kernel_rfl))
  f338 := Tryz.func121.trans (congrArg some (by kernel_rfl))
  t0 := Tryz.underlying0
  a0 := Tryz.isAgg0
  z0 := Tryz.sizeOf0
  v0 := Tryz.zeroValue0
  t2 := Tryz.underlying2
  a2 := Tryz.isAgg2
  z2 := Tryz.sizeOf2
  v2 := Tryz.zeroValue2
  t3 := Tryz.underlying3
  a3 := Tryz.isAgg3
  z3 := Tryz.sizeOf3
  v3 := Tryz.zeroValue3
  t4 := Tryz.underlying4
  a4 := Tryz.isAgg4
  z4 := Tryz.sizeOf4
  v4 := Tryz.zeroValue4
  t5 := Tryz.underlying5
  a5 := Tryz.isAgg5
  z5 := Tryz.sizeOf5
  v5 := Tryz.zeroValue5
  t9 := Tryz.underlying9
  a9 := Tryz.isAgg9
  z9 := Tryz.sizeOf9
  v9 := Tryz.zeroValue9
  t20 := Tryz.underlying20
  a20 := Tryz.isAgg20
  z20 := Tryz.sizeOf20
  v20 := Tryz.zeroValue20
  t37 := Tryz.underlying127
  a37 := Tryz.isAgg127
  z37 := Tryz.sizeOf127
  v37 := Tryz.zeroValue127
  t46 := Tryz.underlying90
  a46 := Tryz.isAgg90
  z46 := Tryz.sizeOf90
  v46 := Tryz.zeroValue90
  t51 := Tryz.underlying23
  a51 := Tryz.isAgg23
  z51 := Tryz.sizeOf23
  v51 := Tryz.zeroValue23
  t53 := Tryz.underlying87
  a53 := Tryz.isAgg87
  z53 := Tryz.sizeOf87
  v53 := Tryz.zeroValue87
  t171 := Tryz.underlying152
  a171 := Tryz.isAgg152
  z171 := Tryz.sizeOf152
  v171 := Tryz.zeroValue152
  t173 := Tryz.underlying155
  a173 := Tryz.isAgg155
  z173 := Tryz.sizeOf155
  v173 := Tryz.zeroValue155
  t212 := Tryz.underlying171
  a212 := Tryz.isAgg171
  z212 := Tryz.sizeOf171
  v212 := Tryz.zeroValue171
  t213 := Tryz.underlying172
  a213 := Tryz.isAgg172
  z213 := Tryz.sizeOf172
  t232 := Tryz.underlying179
  a232 := Tryz.isAgg179
  z232 := Tryz.sizeOf179
  v232 := Tryz.zeroValue179
  t233 := Tryz.underlying180
  a233 := Tryz.isAgg180
  z233 := Tryz.sizeOf180
  v233 := Tryz.zeroValue180
  g17 := by kernel_rfl
  g18 := by kernel_rfl
  g19 := by kernel_rfl }
open Go.RowKit Go.Sort Go.Lib in
theorem Tryz.strconv_Itoa_small (i : Nat) (hi : i < 100) (w : World) :
    Calls Tryz.prog 21 #[.int .i64 i] w fun e w' => e = .returned (.string ⟨(Lib.decDigits i).toArray⟩) ∧ w' = w := Any.strconv_Itoa_small Tryz.lays171 i hi w
end Go.Proofs
set_option linter.unusedSimpArgs false
set_option linter.unusedVariables false
namespace Go.Proofs.YtokgbcachcmeaaaGreatDoor
open Go.RowKit
theorem cf_from (xs : Array Value) (w : World) : (callFunc 29 xs).run Tryz.prog w = .ok (.enter 29 xs) w := by kernel_rfl
theorem cf_bits (xs : Array Value) (w : World) : (callFunc 56 xs).run Tryz.prog w = .ok (.enter 56 xs) w := by kernel_rfl
theorem cf_wcmp (xs : Array Value) (w : World) : (callFunc 46 xs).run Tryz.prog w = .ok (.enter 46 xs) w := by kernel_rfl
theorem cf_is (xs : Array Value) (w : World) : (callFunc 57 xs).run Tryz.prog w = .ok (.enter 57 xs) w := by kernel_rfl

set_option maxRecDepth 100000 in
set_option maxHeartbeats 400000 in
theorem bits_any (n : Bool) (x : Nat) (w : World) (hx : x < Pq.bp 32) :
    Calls Tryz.prog 56 #[.agg (Pq.wc n x)] w (Pq.Ret w (.int .i64 (Pq.bitn x))) := by
  have HX := Lib.hid hx; clear hx
  obtain ⟨g, hg⟩ : ∃ g, g = w.heap.size := ⟨_, rfl⟩
  have HG := Lib.hid hg; clear hg
  obtain ⟨s, hs⟩ : ∃ s, s = Pq.szn 32 x := ⟨_, rfl⟩
  have HS := Lib.hid hs; clear hs
  obtain ⟨r, hr⟩ : ∃ r, r = Pq.bitn x := ⟨_, rfl⟩
  rw [← hr]
  have HRr := Lib.hid hr; clear hr
  go_enter Tryz.func56, Tryz.ntmps56
  go_upto_region 0 with fail
  go_upto_region 0 with fail
  apply wp_region_lit
  refine Pq.wpL_box g HG.out.symm (Pq.wc n x) (by rfl) _ _ rfl rfl (bx_wide n x) ?_
  simp only [Act.put, List.setIfInBounds_toArray, List.set_cons_zero, List.set_cons_succ]
  refine Pq.wpL_step (by rfl) ?_
  apply Exists.intro
  apply Exists.intro
  refine ⟨?_, ?_⟩
  · go_simp; first | done | with_reducible rfl | exact ⟨rfl, rfl⟩
  simp only [Act.put, List.setIfInBounds_toArray, List.set_cons_zero, List.set_cons_succ]
  refine Pq.wpL_nil ?_
  have HB := Lib.hid (Pq.below_alloc (Below.refl _ w) (Nat.le_refl _) (.cells (Pq.wc n x) 26))
  have HR1 := Lib.hid (Pq.al_wnew w n x 26 g HG.out)
  generalize w.alloc (.cells (Pq.wc n x) 26) = w0 at *
  go_upto_region 1 with fail
  go_upto_region 1 with fail
  apply wp_region_lit
  refine Pq.wpL_load g 0 (Pq.wl n x) HR1.out (by rfl) _ _ rfl rfl _ u_wide rfl (s_wide _ _) ?_
  simp only [Act.put, List.setIfInBounds_toArray, List.set_cons_zero, List.set_cons_succ]
  refine Pq.wpL_call (by rfl) cf_of (of_ptr n x _) rfl rfl ?_; rintro e w3 ⟨b, rfl, hr3, hb3, _, hl3⟩; have HR3 := Lib.hid hr3; clear hr3; refine ⟨_, rfl, ?_⟩
  simp only [Act.put, List.setIfInBounds_toArray, List.set_cons_zero, List.set_cons_succ]
  refine Pq.wpL_step (by rfl) ?_
  apply Exists.intro
  apply Exists.intro
  refine ⟨?_, ?_⟩
  · go_simp; first | done | with_reducible rfl | exact ⟨rfl, rfl⟩
  simp only [Act.put, List.setIfInBounds_toArray, List.set_cons_zero, List.set_cons_succ]
  refine Pq.wpL_nil ?_
  have HB3 := Lib.hid (Pq.below_next HB.out (Nat.le_refl _) hb3)
  clear HB hb3 HR1
  by_cases h0 : x = 0
  · subst h0
    obtain rfl : s = 0 := by rw [HS.out]; decide +kernel
    go_wp2_with (go_at_call 78; refine (size_any b 0 0 0 (by decide +kernel) _ HR3.out).mono ?_; rintro e w1 ⟨rfl, rfl⟩)
    go_ret
    exact ⟨by rw [HRr.out]; rfl, HB3.out⟩
  · obtain ⟨hw1, hw2⟩ := Pq.szn_word HX.out h0
    have hsp := (Pq.szn_pos HX.out).2 h0
    have hsl := Pq.szn_le 32 x
    rw [← HS.out] at hw1 hw2 hsp hsl
    obtain ⟨k, rfl⟩ : ∃ k, s = k + 1 := ⟨s - 1, by omega⟩
    rw [Nat.add_sub_cancel] at hw1 hw2
    have hres := Pq.bitn_word hw1 hw2
    rw [← HRr.out] at hres
    have HRES := Lib.hid hres; clear hres hw1 hw2
    have hk2 : (k : Int) < 32 := by omega
    have hc := HR3.out k _ (Pq.am_get (x := x) (show k < 32 by omega))
    have hwl := Pq.wd_lt x k
    obtain ⟨q, hq⟩ : ∃ q, q = Pq.wd x k := ⟨_, rfl⟩
    rw [← hq] at hc hwl
    have HQ := Lib.hid hq; clear hq
    rw [Nat.zero_add] at hc
    obtain ⟨bl, hbl⟩ : ∃ bl, bl = Lib.bitLen q := ⟨_, rfl⟩
    rw [← HQ.out, ← hbl] at HRES
    have hbl2 : bl ≤ 64 := by rw [hbl]; exact Pq.bitLen_le q
    have HBL := Lib.hid hbl; clear hbl
    clear HX
    go_wp2_with (first | (go_at_call 78; refine (size_any b 0 x (k + 1) HS.out _ HR3.out).mono ?_; rintro e w1 ⟨rfl, rfl⟩) | (go_at_call 87; refine (Tryz.bits_Len32 (q : Int) _ (by omega) (by omega)).mono ?_; rw [Int.toNat_natCast, ← HBL.out]; rintro e w1 ⟨rfl, rfl⟩))
    go_ret
    exact ⟨by rw [HRES.out]; simp, HB3.out⟩
end Go.Proofs.YtokgbcachcmeaaaGreatDoor
set_option linter.unusedSimpArgs false
set_option linter.unusedVariables false
namespace Go.Proofs.YtokgbcachcmeaaaGreatDoor
open Go.RowKit
theorem cf_div32 (xs : Array Value) (w : World) : (callFunc 99 xs).run Tryz.prog w = .ok (.enter 99 xs) w := by kernel_rfl

set_option maxHeartbeats 400000 in
theorem div32_any (h l y : Nat) (w : World) (hl : l < 4294967296) (hy : y < 4294967296) (hlt : h < y) :
    Calls Tryz.prog 99 #[.int .u32 h, .int .u32 l, .int .u32 y] w (Pq.Ret w (.tuple #[.int .u32 (((h * 4294967296 + l) / y : Nat) : Int), .int .u32 (((h * 4294967296 + l) % y : Nat) : Int)])) := by
  have h1 : ((y : Int) != 0) = true := by simp; omega
  have h2 : decide (y ≤ h) = false := by simp; omega
  have h3 : (h : Int) < 4294967296 := by omega
  obtain ⟨z, hz⟩ : ∃ z, z = h * 4294967296 + l := ⟨_, rfl⟩
  have hor : bits .or .u64 ((h : Int) * 4294967296) (l : Int) = (z : Int) := by rw [hz]; exact Pq.or_hl (by omega) hl
  have hzl : (z : Int) < 18446744073709551616 := by omega
  have hzb : z / y < 4294967296 := by rw [Nat.div_lt_iff_lt_mul (by omega), hz]; have : (h + 1) * 4294967296 ≤ y * 4294967296 := Nat.mul_le_mul_right _ (by omega); omega
  have hzm : z % y < 4294967296 := Nat.lt_trans (Nat.mod_lt _ (by omega)) hy
  rw [← hz]
  clear hz
  have hy0 : 0 < (y : Int) := by omega
  have e1 : (z : Int) / (y : Int) = ((z / y : Nat) : Int) := by simp
  have e2 : (z : Int) % (y : Int) = ((z % y : Nat) : Int) := by simp
  have hq1 : (z : Int) / (y : Int) < 4294967296 := by rw [e1]; omega
  have hq2 : (z : Int) % (y : Int) < 4294967296 := by rw [e2]; omega
  have hq3 : 0 ≤ (z : Int) / (y : Int) := by rw [e1]; exact Int.natCast_nonneg _
  have hq4 : 0 ≤ (z : Int) % (y : Int) := by rw [e2]; exact Int.natCast_nonneg _
  have w1 : IntKind.u64.wrap (y : Int) = (y : Int) := IntWalk.u64_in _ (by omega)
  have w2 : IntKind.u64.wrap ((z : Int) / (y : Int)) = (z : Int) / (y : Int) := IntWalk.u64_in _ (by omega)
  have w3 : IntKind.u64.wrap ((z : Int) % (y : Int)) = (z : Int) % (y : Int) := IntWalk.u64_in _ (by omega)
  have w4 : IntKind.u32.wrap ((z : Int) / (y : Int)) = (z : Int) / (y : Int) := IntWalk.u32_in _ (by omega)
  have w5 : IntKind.u32.wrap ((z : Int) % (y : Int)) = (z : Int) % (y : Int) := IntWalk.u32_in _ (by omega)
  have w6 : ¬ (y = 0) := by omega
  have w7 : (z : Int).tmod (y : Int) = (z : Int) % (y : Int) := Int.tmod_eq_emod_of_nonneg (by omega)
  have E1 := Lib.hid e1; clear e1
  have E2 := Lib.hid e2; clear e2
  go_enter Tryz.func99, Tryz.ntmps99
  go_upto_region 4 with fail
  refine Pq.wp_region_grown none [(0, true), (1, true), (2, true), (3, true), (4, true), (5, true), (6, true), (7, true), (8, true), (9, true), (10, true), (11, true)] (by kernel_rfl) (by kernel_rfl) (fun _ _ d _ _ h => by cases d <;> exact h) (fun hS => ?_)
  simp only [Pq.pick, List.filterMap_cons, List.filterMap_nil, List.getElem?_cons_zero, List.getElem?_cons_succ, Option.map_some]
  iterate 12
    refine Pq.wpO_step (by rfl) ?_
    apply Exists.intro
    refine ⟨fun w' hw' => ?_, ?_⟩
    · go_simp; first | done | with_reducible rfl | exact ⟨rfl, rfl⟩
    simp only [Act.put, List.setIfInBounds_toArray, List.set_cons_zero, List.set_cons_succ]
  refine Pq.wpO_nil ?_
  go_wp2
  go_ret2
  exact ⟨tup2 (by rw [← E1.out]; rfl) (by rw [← E2.out]; rfl), Pq.grown_below hS⟩
theorem cf_byw (xs : Array Value) (w : World) : (callFunc 79 xs).run Tryz.prog w = .ok (.enter 79 xs) w := by kernel_rfl

set_option maxRecDepth 100000 in
set_option maxHeartbeats 400000 in
theorem byword_any (b o : Nat) (x d : Nat) (w : World) (hx : x < Pq.bp 32) (hd : 0 < d) (hd2 : d < 4294967296) (hb : w.rangeAt b o (Pq.am 32 x)) :
    Calls Tryz.prog 79 #[.pointer (some ⟨b, o, none⟩), .int .u32 d] w (Pq.PtrVal w (x / d) (.int .u32 ((x % d : Nat) : Int))) := by
  have HX := Lib.hid hx; clear hx
  have hlb : b < w.heap.size := block_lt_of_cell (hb 0 _ (Pq.am_get (by omega)))
  have HBx := Lib.hid hb; clear hb
  obtain ⟨g, hg⟩ : ∃ g, g = w.heap.size := ⟨_, rfl⟩
  have HG := Lib.hid hg; clear hg
  obtain ⟨s, hs⟩ : ∃ s, s = Pq.szn 32 x := ⟨_, rfl⟩
  have hsl : s ≤ 32 := by rw [hs]; exact Pq.szn_le 32 x
  have HS := Lib.hid hs; clear hs
  go_enter Tryz.func79, Tryz.ntmps79
  go_upto_region 1 with fail
  go_upto_region 1 with fail
  apply wp_region_lit
  refine Pq.wpL_alloc g HG.out.symm (by rfl) _ rfl _ al_am ?_
  simp only [Act.put, List.setIfInBounds_toArray, List.set_cons_zero, List.set_cons_succ]
  refine Pq.wpL_nil ?_
  have hrow : (w.alloc (.cells (Pq.am 32 0).toArray 111)).heap[g]? = some (.cells (Pq.am 32 (Pq.bp s * (x / Pq.bp s / d))).toArray 111) := by
    have : x / Pq.bp s = 0 := Nat.div_eq_of_lt (by rw [HS.out]; exact Pq.szn_lt' HX.out)
    rw [this, Nat.zero_div, Nat.mul_zero]; exact Pq.al_block w _ g HG.out
  have hbel := Pq.below_alloc (Below.refl w.heap.size w) (Nat.le_refl _) (.cells (Pq.am 32 0).toArray 111)
  have HROW := Lib.hid hrow; clear hrow
  have HBEL := Lib.hid hbel; clear hbel
  have HBy := Lib.hid (Pq.al_range HBx.out (.cells (Pq.am 32 0).toArray 111))
  generalize w.alloc (.cells (Pq.am 32 0).toArray 111) = w1 at *
  go_wp2_with (go_at_call 78; refine (size_any b o x s HS.out _ HBy.out).mono ?_; rintro e w2 ⟨rfl, rfl⟩)
  go_loopw [7, 8] (fun rs i wr => ∃ (k : Nat) (z : Int) (r : Nat), i = .int .i64 z ∧ Hid (z + 1 = k) ∧ k ≤ 32 ∧ rs = .int .u32 (r : Int) ∧ Hid (r = x / Pq.bp k % d) ∧ Hid (wr.heap[g]? = some (.cells (Pq.am 32 (Pq.bp k * (x / Pq.bp k / d))).toArray 111)) ∧ Hid (Below w.heap.size w wr)) (fun _ i _ => (intOf i + 1).toNat)
  case atStart => exact ⟨s, (s : Int) - 1, 0, rfl, Lib.hid (by omega), hsl, rfl, Lib.hid (by rw [Nat.div_eq_of_lt (by rw [HS.out]; exact Pq.szn_lt' HX.out)]; simp), HROW, HBEL⟩
  case round =>
    obtain ⟨k, z, r, rfl, hz, hk, rfl, hr, hrow, hbl⟩ := hrel
    have hrd : r < d := by rw [hr.out]; exact Nat.mod_lt _ hd
    rcases k with _ | k
    · obtain rfl : z = -1 := by have := hz.out; omega
      clear hz
      go_wp2
      go_ret2
      have e1 : x / Pq.bp 0 = x := by rw [Pq.bp_zero, Nat.div_one]
      refine ⟨g, ?_, ?_, hbl.out, by rw [HG.out]; exact Nat.le_refl _, (Array.getElem?_eq_some_iff.1 hrow.out).1⟩
      · rw [hr.out, e1]; rfl
      · have := hrow.out
        rw [e1, Pq.bp_zero, Nat.one_mul] at this
        exact Pq.range_block this
    · obtain rfl : z = (k : Int) := by have := hz.out; omega
      clear hz
      have hk2 : (k : Int) < 32 := by omega
      have C1 := Lib.hid (Pq.range_in HBx.out hbl.out k _ (Pq.am_get (x := x) (show k < 32 by omega)))
      obtain ⟨qq, hqq⟩ : ∃ qq, qq = (r * 4294967296 + Pq.wd x k) / d := ⟨_, rfl⟩
      obtain ⟨rr, hrr⟩ : ∃ rr, rr = (r * 4294967296 + Pq.wd x k) % d := ⟨_, rfl⟩
      have hcall := div32_any r (Pq.wd x k) d wr (Pq.wd_lt _ _) hd2 hrd
      rw [← hqq, ← hrr] at hcall
      have HQQ := Lib.hid hqq; clear hqq
      have HRR := Lib.hid hrr; clear hrr
      have HC := Lib.hid hcall; clear hcall
      go_upto_region 6 with fail
      go_upto_region 6 with fail
      apply wp_region_lit
      iterate 6
        refine Pq.wpL_step (by rfl) ?_
        apply Exists.intro
        apply Exists.intro
        refine ⟨?_, ?_⟩
        · go_simp; first | done | with_reducible rfl | exact ⟨rfl, rfl⟩
        simp only [Act.put, List.setIfInBounds_toArray, List.set_cons_zero, List.set_cons_succ]
      refine Pq.wpL_cell ⟨b, o + k, none⟩ _ C1.out (by rfl) _ _ rfl rfl _ u_u32 rfl ?_
      simp only [Act.put, List.setIfInBounds_toArray, List.set_cons_zero, List.set_cons_succ]
      refine Pq.wpL_step (by rfl) ?_
      apply Exists.intro
      apply Exists.intro
      refine ⟨?_, ?_⟩
      · go_simp; first | done | with_reducible rfl | exact ⟨rfl, rfl⟩
      simp only [Act.put, List.setIfInBounds_toArray, List.set_cons_zero, List.set_cons_succ]
      refine Pq.wpL_ret (by rfl) cf_div32 HC.out rfl rfl ?_; intro w3 hb3
      simp only [Act.put, List.setIfInBounds_toArray, List.set_cons_zero, List.set_cons_succ]
      iterate 4
        refine Pq.wpL_step (by rfl) ?_
        apply Exists.intro
        apply Exists.intro
        refine ⟨?_, ?_⟩
        · go_simp; first | done | with_reducible rfl | exact ⟨rfl, rfl⟩
        simp only [Act.put, List.setIfInBounds_toArray, List.set_cons_zero, List.set_cons_succ]
      refine Pq.wpL_put (.int .u32 (qq : Int)) (Pq.keep_block hrow.out hb3) (by rw [Pq.am_length]; omega) (by rfl) 23 _ _ rfl rfl rfl rfl rfl (by kernel_rfl) ?_
      try simp only [Act.put, List.setIfInBounds_toArray, List.set_cons_zero, List.set_cons_succ]
      refine Pq.wpL_step (by rfl) ?_
      apply Exists.intro
      apply Exists.intro
      refine ⟨?_, ?_⟩
      · go_simp; first | done | with_reducible rfl | exact ⟨rfl, rfl⟩
      simp only [Act.put, List.setIfInBounds_toArray, List.set_cons_zero, List.set_cons_succ]
      refine Pq.wpL_nil ?_
      go_wp2
      go_roundw
      case rel => exact ⟨k, (k : Int) - 1, rr, rfl, Lib.hid (by omega), by omega, rfl, Lib.hid (by rw [HRR.out, hr.out]; exact (Pq.div_step x k d hd).1), by
        have := Pq.setRow_at (cs := ((Pq.am 32 (Pq.bp (k + 1) * (x / Pq.bp (k + 1) / d))).set k (.int .u32 (qq : Int))).toArray) (Pq.keep_block hrow.out hb3)
        rw [HQQ.out, hr.out, Pq.div_row x k d hd (by omega)] at this; rw [HQQ.out, hr.out, Pq.div_row x k d hd (by omega)]; exact this, Lib.hid (Pq.below_setRow (Pq.below_next hbl.out (Nat.le_refl _) hb3) (by rw [← HG.out]; exact Nat.le_refl _))⟩
      case measure => simp [intOf]
end Go.Proofs.YtokgbcachcmeaaaGreatDoor
set_option linter.unusedSimpArgs false
set_option linter.unusedVariables false
namespace Go.Proofs.YtokgbcachcmeaaaGreatDoor
open Go.RowKit
theorem cf_shifted (xs : Array Value) (w : World) : (callFunc 106 xs).run Tryz.prog w = .ok (.enter 106 xs) w := by kernel_rfl

set_option maxRecDepth 100000 in
set_option maxHeartbeats 400000 in
theorem shifted_any (b o L c : Nat) (X n : Nat) (w : World) (hL : L ≤ 64) (hX : X < Pq.bp L) (hn : n < 32) (hb : w.rangeAt b o (Pq.am L X)) :
    Calls Tryz.prog 106 #[.slice (some ⟨b, o, none⟩) L c, .int .i64 n] w (Pq.SlOf w 23 (L + 1) (X * 2 ^ n)) := by
  have HX := Lib.hid hX; clear hX
  have HBx := Lib.hid hb; clear hb
  obtain ⟨g, hg⟩ : ∃ g, g = w.heap.size := ⟨_, rfl⟩
  have HG := Lib.hid hg; clear hg
  have hLI : (L : Int) ≤ 64 := by omega
  obtain ⟨L1, hL1⟩ : ∃ L1, L1 = L + 1 := ⟨_, rfl⟩
  rw [← hL1]
  have hw1 : (L : Int) + 1 = (L1 : Int) := by omega
  have hw2 : IntKind.i64.wrap (L1 : Int) = (L1 : Int) := IntWalk.i64_in _ (by omega)
  have HL1 := Lib.hid hL1; clear hL1
  go_enter Tryz.func106, Tryz.ntmps106
  go_upto_region 1 with fail
  go_upto_region 1 with fail
  apply wp_region_lit
  iterate 3
    refine Pq.wpL_step (by rfl) ?_
    apply Exists.intro
    apply Exists.intro
    refine ⟨?_, ?_⟩
    · go_simp; first | done | with_reducible rfl | exact ⟨rfl, rfl⟩
    simp only [Act.put, List.setIfInBounds_toArray, List.set_cons_zero, List.set_cons_succ]
  refine Pq.wpL_make g HG.out.symm (by rfl) _ _ _ rfl L1 rfl rfl _ _ (mk_u32 L1 (by have := HL1.out; omega)) ?_
  simp only [Act.put, List.setIfInBounds_toArray, List.set_cons_zero, List.set_cons_succ]
  refine Pq.wpL_step (by rfl) ?_
  apply Exists.intro
  apply Exists.intro
  refine ⟨?_, ?_⟩
  · go_simp; first | done | with_reducible rfl | exact ⟨rfl, rfl⟩
  simp only [Act.put, List.setIfInBounds_toArray, List.set_cons_zero, List.set_cons_succ]
  refine Pq.wpL_nil ?_
  clear hw1 hw2
  have hrow : (w.alloc (.cells (Pq.am L1 0).toArray 23)).heap[g]? = some (.cells (Pq.am L1 (Pq.lo X 0 * 2 ^ n)).toArray 23) := by rw [Pq.lo_zero, Nat.zero_mul]; exact Pq.al_block w _ g HG.out
  have HROW := Lib.hid hrow; clear hrow
  have HBEL := Lib.hid (Pq.below_alloc (Below.refl w.heap.size w) (Nat.le_refl _) (.cells (Pq.am L1 0).toArray 23))
  generalize w.alloc (.cells (Pq.am L1 0).toArray 23) = w1 at *
  go_wp2
  go_loopw [15] (fun i wr => ∃ (k : Nat), i = .int .i64 k ∧ k ≤ L ∧ Hid (wr.heap[g]? = some (.cells (Pq.am L1 (Pq.lo X k * 2 ^ n)).toArray 23)) ∧ Hid (Below w.heap.size w wr)) (fun i _ => L - (intOf i).toNat)
  case atStart => exact ⟨0, rfl, by omega, HROW, HBEL⟩
  case round =>
    obtain ⟨k, rfl, hk, hrow, hbl⟩ := hrel
    by_cases hlt : k < L
    · have hk2 : (k : Int) < L := by omega
      have c1 := Pq.range_in HBx.out hbl.out k _ (Pq.am_get (x := X) hlt)
      have hwl := Pq.wd_lt X k
      obtain ⟨q, hq⟩ : ∃ q, q = Pq.wd X k := ⟨_, rfl⟩
      rw [← hq] at c1 hwl
      obtain ⟨hs1, hs2, hs3, hs4, hs5⟩ := Pq.shl_step (X := X) (k := k) hn
      rw [← hq] at hs2 hs3 hs4 hs5
      obtain ⟨V, hV⟩ : ∃ V, V = Pq.lo X k * 2 ^ n := ⟨_, rfl⟩
      rw [← hV] at hs1 hs2 hs3 hs5 hrow
      have h2n : 2 ^ n ≤ 2147483648 := by have := Nat.pow_le_pow_right (n := 2) (by decide) (show n ≤ 31 by omega); simpa using this
      obtain ⟨t, ht⟩ : ∃ t, t = q * 2 ^ n := ⟨_, rfl⟩
      rw [← ht] at hs2 hs3 hs4 hs5
      have htl : t < 9223372036854775808 := by
        have h1 : q * 2 ^ n ≤ q * 2147483648 := Nat.mul_le_mul_left _ h2n
        omega
      have hw3 : IntKind.u64.wrap ((q : Int) * 2 ^ n) = (t : Int) := by
        have e : (q : Int) * 2 ^ n = (t : Int) := by rw [ht]; simp
        rw [e]; exact IntWalk.u64_in _ (by omega)
      have c2 : wr.cell? ⟨g, k, none⟩ = some (.int .u32 (Pq.wd V k : Nat)) := by
        have := Pq.range_block hrow.out k _ (Pq.am_get (x := V) (show k < L1 by have := HL1.out; omega))
        rwa [Nat.zero_add] at this
      obtain ⟨p, hp⟩ : ∃ p, p = t % 4294967296 := ⟨_, rfl⟩
      obtain ⟨u, hu⟩ : ∃ u, u = t / 4294967296 := ⟨_, rfl⟩
      obtain ⟨a, ha⟩ : ∃ a, a = Pq.wd V k := ⟨_, rfl⟩
      rw [← hp, ← ha] at hs2 hs3 hs5
      rw [← hu] at hs4 hs5
      rw [← ha] at hs1 c2
      have hal : a < 4294967296 := by rw [ha]; exact Pq.wd_lt _ _
      have htp : (t : Int) % 4294967296 = (p : Int) := by rw [hp]; simp
      have htu : (t : Int) / 4294967296 = (u : Int) := by rw [hu]; simp
      have hpl : p < 4294967296 := by omega
      have hand : bits .and .u64 (t : Int) 4294967295 = (p : Int) := by rw [Pq.and_lo (by omega), hp]
      have hwp : IntKind.u32.wrap (p : Int) = (p : Int) := IntWalk.u32_in _ (by omega)
      have hwu : IntKind.u32.wrap (u : Int) = (u : Int) := IntWalk.u32_in _ (by omega)
      have hor : bits .or .u32 (a : Int) (p : Int) = ((a + p : Nat) : Int) := by rw [u32_or_nat a p hal hpl, hs2]
      obtain ⟨s, hs⟩ : ∃ s, s = a + p := ⟨_, rfl⟩
      rw [← hs] at hs3 hs5 hor
      have HS5 := Lib.hid hs5
      have HQ := Lib.hid hq
      have HVV := Lib.hid hV
      have hk3 : (k : Int) + 1 < L1 := by have := HL1.out; omega
      have hk4 : (k : Int) < L1 := by omega
      have hg1 := hrow.out
      have HG1 := Lib.hid hg1
      have HS3 := Lib.hid hs3
      have HS4 := Lib.hid hs4
      clear hs1 hs2 hs5 hV hq ht hp hu ha hs hg1 hrow htl hs3 hs4
      go_upto_region 6 with fail
      go_upto_region 6 with fail
      apply wp_region_lit
      iterate 3
        refine Pq.wpL_step (by rfl) ?_
        apply Exists.intro
        apply Exists.intro
        refine ⟨?_, ?_⟩
        · go_simp; first | done | with_reducible rfl | exact ⟨rfl, rfl⟩
        simp only [Act.put, List.setIfInBounds_toArray, List.set_cons_zero, List.set_cons_succ]
      refine Pq.wpL_cell ⟨g, k, none⟩ _ c2 (by rfl) _ _ rfl rfl _ u_u32 rfl ?_
      simp only [Act.put, List.setIfInBounds_toArray, List.set_cons_zero, List.set_cons_succ]
      iterate 5
        refine Pq.wpL_step (by rfl) ?_
        apply Exists.intro
        apply Exists.intro
        refine ⟨?_, ?_⟩
        · go_simp; first | done | with_reducible rfl | exact ⟨rfl, rfl⟩
        simp only [Act.put, List.setIfInBounds_toArray, List.set_cons_zero, List.set_cons_succ]
      refine Pq.wpL_put (.int .u32 (s : Int)) HG1.out (by rw [Pq.am_length]; omega) (by rfl) 23 _ _ rfl rfl rfl rfl rfl (by kernel_rfl) ?_
      try simp only [Act.put, List.setIfInBounds_toArray, List.set_cons_zero, List.set_cons_succ]
      refine Pq.wpL_nil ?_
      have hwk : IntKind.i64.wrap ((k : Int) + 1) = (k : Int) + 1 := IntWalk.i64_in _ (by omega)
      have hwk2 : (0 : Int) ≤ (k : Int) + 1 := by omega
      have hwk3 : ((k : Int) + 1).toNat = k + 1 := by omega
      go_upto_region 7 with fail
      go_upto_region 7 with fail
      apply wp_region_lit
      iterate 7
        refine Pq.wpL_step (by rfl) ?_
        apply Exists.intro
        apply Exists.intro
        refine ⟨?_, ?_⟩
        · go_simp; first | done | with_reducible rfl | exact ⟨rfl, rfl⟩
        simp only [Act.put, List.setIfInBounds_toArray, List.set_cons_zero, List.set_cons_succ]
      refine Pq.wpL_put (.int .u32 (u : Int)) (Pq.setRow_at HG1.out) (by rw [List.length_set, Pq.am_length]; omega) (by rfl) 23 _ _ rfl rfl rfl rfl rfl (by kernel_rfl) ?_
      try simp only [Act.put, List.setIfInBounds_toArray, List.set_cons_zero, List.set_cons_succ]
      refine Pq.wpL_nil ?_
      clear hwk hwk2 hwk3
      go_wp2
      go_roundw
      case rel => exact ⟨k + 1, by go_num, by omega, by
        have e := Pq.setRow_at (cs := (((Pq.am L1 V).set k (.int .u32 (s : Int))).set (k + 1) (.int .u32 (u : Int))).toArray) (Pq.setRow_at (cs := ((Pq.am L1 V).set k (.int .u32 (s : Int))).toArray) HG1.out)
        rw [Pq.am_set HS3.out (by omega), Pq.am_set HS4.out (by omega), HS5.out] at e
        rw [Pq.am_set HS3.out (by omega), Pq.am_set HS4.out (by omega), HS5.out]; exact e, Lib.hid (Pq.below_setRow (Pq.below_setRow hbl.out (by rw [← HG.out]; exact Nat.le_refl _)) (by rw [← HG.out]; exact Nat.le_refl _))⟩
      case measure => simp [intOf]; omega
    · obtain rfl : k = L := by omega
      go_wp2
      go_ret
      refine ⟨g, rfl, ?_, hbl.out, by rw [HG.out]; exact Nat.le_refl _⟩
      have := hrow.out
      rwa [Pq.lo_self HX.out] at this
end Go.Proofs.YtokgbcachcmeaaaGreatDoor
