/- The engine, BS. -/
import Derived.Test.YtnjeogcgfoabhaaGreatE0BR
set_option linter.unusedVariables false
set_option linter.unusedSimpArgs false
namespace Go.Abs
open Go
section
variable {P : Program} {T : Tab} {an : Ann} {E : dX} {st : St} {G : Gh} {a : Act} {w : World}
theorem qZ (n : Nat) : ow n [] = List.range n := by
 have : ∀ n l, ow n l = List.range n ++ l := by
  intro n
  induction n with
  | zero => intro l; simp [ow]
  | succ n ih => intro l; simp [ow, ih, List.range_succ]
 simpa using this n []
theorem Inv.seen (h : Inv E st G a w) {d : Nat} {b : Bool} (hd : iS st.slots d = .val (.bool b)) : a.tmps[d]? = some (.bool b) ∧ Inv E ⟨jc st.slots d (.val (.bool b)), st.objs⟩ G a w := by
 have hlt : d < st.slots.length := by
  rcases Nat.lt_or_ge d st.slots.length with h | h
  ·exact h
  ·rw [ez, List.getD_eq_getElem?_getD, List.getElem?_eq_none h] at hd; simp at hd
 obtain ⟨v, h1, h2⟩ := h.slots.get (List.getElem?_eq_getElem hlt);have he : st.slots[d] = .val (.bool b) := by
  rw [ez, List.getD_eq_getElem?_getD, List.getElem?_eq_getElem hlt] at hd;exact hd
 rw [he] at h2;simp only [Rep] at h2;subst h2;refine ⟨by simpa using h1, ⟨?_, h.defers, h.wr, h.le, h.ext, h.newb⟩⟩;have : jc st.slots d (.val (.bool b)) = st.slots := by rw [px, ← he, List.set_getElem_self]
 rw [this]; exact h.slots
theorem Inv.seenT (h : Inv E st G a w) {d : Nat} {x : Array Value} (hd : iS st.slots d = .val (.tuple x)) : a.tmps[d]? = some (.tuple x) := by
 have hlt : d < st.slots.length := by
  rcases Nat.lt_or_ge d st.slots.length with h | h
  ·exact h
  ·rw [ez, List.getD_eq_getElem?_getD, List.getElem?_eq_none h] at hd; simp at hd
 obtain ⟨v, h1, h2⟩ := h.slots.get (List.getElem?_eq_getElem hlt);have he : st.slots[d] = .val (.tuple x) := by
  rw [ez, List.getD_eq_getElem?_getD, List.getElem?_eq_getElem hlt] at hd;exact hd
 rw [he] at h2;simp only [Rep] at h2;subst h2;simpa using h1
end
def gI (dst : Option Tmp) (v : AV) (s : List AV) : List AV :=
 match dst with
 | none => s
 | some d => jc s d v
theorem uw {s : List AV} {objs : List (Nm × aF)} {dst : Option Tmp} {v : AV} {k : St → Prop} : put ⟨s, objs⟩ dst v k = k ⟨gI dst v s, objs⟩ := by
 cases dst with
 | none => rfl
 | some d => rw [BD]; rfl
def iG : List (Nm × aF) → Nm → aF → List (Nm × aF)
 | [], n, x => [(n, x)]
 | (m, o) :: l, n, x => match Nat.blt n m with
  | true => (n, x) :: (m, o) :: l
  | false => (m, o) :: iG l n x
theorem LT {n : Nm} {x : aF} : ∀ {l : List (Nm × aF)} {K : List (Nm × aF) → Prop}, xh l n x K = K (iG l n x) := by
 intro l
 induction l with
 | nil => intro K; rfl
 | cons y l ih =>
  obtain ⟨m, o⟩ := y;intro K;unfold xh iG
  cases Nat.blt n m
  ·exact ih
  ·rfl
theorem oY {l : List (Nm × aF)} {n : Nm} {x : aF} {K : List (Nm × aF) → Prop} : eQ l n x K ↔ az l n = none ∧ K (iG l n x) := by
 unfold eQ
 cases az l n with
 | none => simp [LT]
 | some _ => simp
theorem fN {l : List (Nm × aF)} {n : Nm} (x : aF) (h : az l n = none) (m : Nm) : az (iG l n x) m = if m = n then some x else az l m := by
 obtain ⟨l', h1, _, h2⟩ := dQ (k := fun l' => l' = iG l n x) (oY.2 ⟨h, rfl⟩);rw [← h1]; exact h2 m
theorem yx {n m : Nat} {x y : aF} (hne : n ≠ m) : ∀ (l : List (Nm × aF)), iG (iG l n x) m y = iG (iG l m y) n x := by
 have blt : ∀ a b : Nat, Nat.blt a b = decide (a < b) := fun a b => by
  rw [Bool.eq_iff_iff, Nat.blt_eq, decide_eq_true_eq]
 intro l
 induction l with
 | nil =>
  simp only [iG, blt];rcases Nat.lt_or_gt_of_ne hne with h | h
  ·have h' : ¬ m < n := Nat.not_lt.2 (Nat.le_of_lt h);simp [h, h']
  ·have h' : ¬ n < m := Nat.not_lt.2 (Nat.le_of_lt h);simp [h, h']
 | cons z l ih =>
  obtain ⟨p, o⟩ := z;simp only [iG, blt];rcases Nat.lt_or_gt_of_ne hne with h | h
  ·have h' : ¬ m < n := Nat.not_lt.2 (Nat.le_of_lt h);by_cases h1 : (n : Nat) < (p : Nat) <;> by_cases h2 : (m : Nat) < (p : Nat) <;> simp [iG, blt, h, h', h1, h2, ih]
   exact absurd (Nat.lt_trans h h2) h1
  ·have h' : ¬ n < m := Nat.not_lt.2 (Nat.le_of_lt h);by_cases h1 : (n : Nat) < (p : Nat) <;> by_cases h2 : (m : Nat) < (p : Nat) <;> simp [iG, blt, h, h', h1, h2, ih]
   exact absurd (Nat.lt_trans h h1) h2
theorem z6 {s : List AV} {d t : Nat} {v : AV} (h : d ≠ t) : iS (jc s d v) t = iS s t := by
 rw [ez, ez, px, List.getD_eq_getElem?_getD, List.getD_eq_getElem?_getD, List.getElem?_set_ne h]
theorem GS {s : List AV} {d e : Nat} {v u : AV} (h : d ≠ e) : jc (jc s d v) e u = jc (jc s e u) d v := by
 simp only [px];exact List.set_comm _ _ h
theorem GR {s : List AV} {d : Nat} {v : AV} (h : iS s d = v) (hv : v ≠ .junk) : jc s d v = s := by
 rw [ez, List.getD_eq_getElem?_getD] at h;rw [px]
 cases e : s[d]? with
 | none => rw [e] at h; exact absurd h.symm hv
 | some x =>
  rw [e] at h;simp at h;subst h;obtain ⟨hlt, rfl⟩ := List.getElem?_eq_some_iff.1 e;exact List.set_getElem_self hlt
section
variable (P : Program) (T : Tab) (an : Ann) (ops : Array Oper)
def runs (o : Oper) (s : List AV) : Option Bool :=
 match o.guard with
 | none => some true
 | some (j, want) => (match ops[j]? with
  | none => none
  | some oj => (match oj.dst with
   | none => none
   | some d => (match iS s d with
    | .val (.bool b) => some (b == want)
    | .val (.tuple _) => some false
    | _ => none)))
def W (o : Oper) (st : St) (k : St → Prop) : Prop := o9 ops o st (fun st => ck P T an o st k) (fun st => put st o.dst (.val undef) k)
def kcls (o : Oper) (s : List AV) : Cls :=
 match runs ops o s with
 | some true => bI an o.op o.dst (evA s)
 | _ => ku (bI an o.op o.dst (evA s))
end
section
variable {P : Program} {T : Tab} {an : Ann} {ops : Array Oper} {E : dX} {o : Oper}
theorem qC {s : List AV} {objs : List (Nm × aF)} {yes no : St → Prop} : o9 ops o ⟨s, objs⟩ yes no ↔ (match runs ops o s with
  | some true => yes ⟨s, objs⟩
  | some false => no ⟨s, objs⟩
  | none => False) := by
 unfold o9 runs
 cases o.guard with
 | none => exact Iff.rfl
 | some g =>
  obtain ⟨j, want⟩ := g;simp only
  cases ops[j]? with
  | none => exact Iff.rfl
  | some oj =>
   simp only
   cases oj.dst with
   | none => exact Iff.rfl
   | some d =>
    simp only
    cases hg : iS s d <;> try exact Iff.rfl
    rename_i v
    cases v <;> try exact Iff.rfl
    rename_i b;have e := GR hg (by simp)
    cases b <;> cases want <;> simp [OI, OJ, gm, e]
theorem oo {s : List AV} {objs : List (Nm × aF)} {k : St → Prop} : W P T an ops o ⟨s, objs⟩ k ↔ (match runs ops o s with
  | some true => aR P T an o.op o.dst (evA s) objs fun v objs' => k ⟨gI o.dst v s, objs'⟩
  | some false => k ⟨gI o.dst (.val undef) s, objs⟩
  | none => False) := by
 unfold W;rw [qC]
 cases runs ops o s with
 | none => exact Iff.rfl
 | some b =>
  cases b
  ·simp only; rw [uw]
  ·simp only [ck];have : (fun v objs' => put ⟨s, objs'⟩ o.dst v k) = fun v objs' => k ⟨gI o.dst v s, objs'⟩ := by
    funext v objs';exact uw
   rw [this]
def bV (ops : Array Oper) (o : Oper) (s s' : List AV) : Prop := ∀ t ∈ o.looksAt ops, iS s' t = iS s t
theorem bV.refl (s : List AV) : bV ops o s s := fun _ _ => rfl
theorem bV.trans {s s' s'' : List AV} (h : bV ops o s s') (h' : bV ops o s' s'') : bV ops o s s'' := fun t ht => (h' t ht).trans (h t ht)
theorem bV.symm {s s' : List AV} (h : bV ops o s s') : bV ops o s' s := fun t ht => (h t ht).symm
theorem bV.ev {s s' : List AV} (h : bV ops o s s') : ∀ x ∈ o.op.operands.toList, evA s' x = evA s x := by
 intro x hx
 cases x with
 | tmp t => exact h t (by unfold Oper.looksAt; exact List.mem_append_left _ (List.mem_filterMap.2 ⟨_, hx, rfl⟩))
 | _ => rfl
theorem bV.runs {s s' : List AV} (h : bV ops o s s') : runs ops o s' = runs ops o s := by
 unfold Go.Abs.runs
 cases hg : o.guard with
 | none => rfl
 | some g =>
  obtain ⟨j, want⟩ := g;simp only
  cases hj : ops[j]? with
  | none => rfl
  | some oj =>
   simp only
   cases hd : oj.dst with
   | none => rfl
   | some d =>
    have : iS s' d = iS s d := h d (by unfold Oper.looksAt; simp [hg, hj, hd]);simp only [this]
theorem bV.kcls {s s' : List AV} (h : bV ops o s s') : kcls an ops o s' = kcls an ops o s := by
 unfold Go.Abs.kcls;rw [h.runs, tY h.ev]
theorem bV.app {s : List AV} {dst : Option Tmp} {v : AV} (h : ∀ d, dst = some d → d ∉ o.looksAt ops) : bV ops o s (gI dst v s) := by
 intro t ht
 cases dst with
 | none => rfl
 | some d => exact z6 (fun e => h d rfl (e ▸ ht))
theorem ky {s : List AV} {objs : List (Nm × aF)} {k : St → Prop} (h : W P T an ops o ⟨s, objs⟩ k) : W P T an ops o ⟨s, objs⟩ fun st => k st ∧ ∃ v, st.slots = gI o.dst v s := by
 rw [oo] at h ⊢;split at h
 ·have : (fun v objs' => (fun st : St => k st ∧ ∃ v, st.slots = gI o.dst v s) ⟨gI o.dst v s, objs'⟩) = fun v objs' => k ⟨gI o.dst v s, objs'⟩ := by
   funext v objs';exact propext ⟨fun h => h.1, fun h => ⟨h, v, rfl⟩⟩
  rw [this]; exact h
 ·exact ⟨h, _, rfl⟩
 ·exact h
theorem y0 {s : List AV} {d e : Option Tmp} {v u : AV} (h : ∀ x, d = some x → e ≠ some x) : gI e u (gI d v s) = gI d v (gI e u s) := by
 cases d with
 | none => rfl
 | some d => cases e with
  | none => rfl
  | some e => exact GS (fun x => h d rfl (by rw [x]))
theorem uB {s : List AV} {objs : List (Nm × aF)} {d : Option Tmp} {v : AV} {k : St → Prop} (h1 : ∀ x, d = some x → x ∉ o.looksAt ops) (h2 : ∀ x, d = some x → o.dst ≠ some x) :
  W P T an ops o ⟨gI d v s, objs⟩ k ↔ W P T an ops o ⟨s, objs⟩ fun st => k ⟨gI d v st.slots, st.objs⟩ := by
 have ha : bV ops o s (gI d v s) := bV.app h1;rw [oo, oo, ha.runs]
 cases runs ops o s with
 | none => exact Iff.rfl
 | some b =>
  cases b
  ·simp only; rw [y0 h2]
  ·simp only;rw [mn ha.ev];simp only [y0 h2]
end
end Go.Abs
