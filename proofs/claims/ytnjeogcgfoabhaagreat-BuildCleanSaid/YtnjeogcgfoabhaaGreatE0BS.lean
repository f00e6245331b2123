/- The engine, BS. -/
import Derived.Test.YtnjeogcgfoabhaaGreatE0BR
set_option linter.unusedVariables false
set_option linter.unusedSimpArgs false
namespace Go.Abs
open Go
section
variable {P : Program} {T : Tab} {an : Ann} {E : dY} {st : St} {G : Gh} {a : Act} {w : World}
theorem ry (n : Nat) : oH n [] = List.range n := by
 have : ∀ n l, oH n l = List.range n ++ l := by
  intro n
  induction n with
  | zero => intro l; simp [oH]
  | succ n ih => intro l; simp [oH, ih, List.range_succ]
 simpa using this n []
theorem Inv.seen (h : Inv E st G a w) {d : Nat} {b : Bool} (hd : iZ st.slots d = .val (.bool b)) : a.tmps[d]? = some (.bool b) ∧ Inv E ⟨ji st.slots d (.val (.bool b)), st.objs⟩ G a w := by
 have hlt : d < st.slots.length := by
  rcases Nat.lt_or_ge d st.slots.length with h | h
  ·exact h
  ·rw [eD, List.getD_eq_getElem?_getD, List.getElem?_eq_none h] at hd; simp at hd
 obtain ⟨v, h1, h2⟩ := h.slots.get (List.getElem?_eq_getElem hlt);have he : st.slots[d] = .val (.bool b) := by
  rw [eD, List.getD_eq_getElem?_getD, List.getElem?_eq_getElem hlt] at hd;exact hd
 rw [he] at h2;simp only [Rep] at h2;subst h2;refine ⟨by simpa using h1, ⟨?_, h.defers, h.wr, h.le, h.ext, h.newb⟩⟩;have : ji st.slots d (.val (.bool b)) = st.slots := by rw [pK, ← he, List.set_getElem_self]
 rw [this]; exact h.slots
theorem Inv.seenT (h : Inv E st G a w) {d : Nat} {x : Array Value} (hd : iZ st.slots d = .val (.tuple x)) : a.tmps[d]? = some (.tuple x) := by
 have hlt : d < st.slots.length := by
  rcases Nat.lt_or_ge d st.slots.length with h | h
  ·exact h
  ·rw [eD, List.getD_eq_getElem?_getD, List.getElem?_eq_none h] at hd; simp at hd
 obtain ⟨v, h1, h2⟩ := h.slots.get (List.getElem?_eq_getElem hlt);have he : st.slots[d] = .val (.tuple x) := by
  rw [eD, List.getD_eq_getElem?_getD, List.getElem?_eq_getElem hlt] at hd;exact hd
 rw [he] at h2;simp only [Rep] at h2;subst h2;simpa using h1
end
def gO (dst : Option Tmp) (v : AV) (s : List AV) : List AV :=
 match dst with
 | none => s
 | some d => ji s d v
theorem uP {s : List AV} {objs : List (Nm × aF)} {dst : Option Tmp} {v : AV} {k : St → Prop} : put ⟨s, objs⟩ dst v k = k ⟨gO dst v s, objs⟩ := by
 cases dst with
 | none => rfl
 | some d => rw [BW]; rfl
def iN : List (Nm × aF) → Nm → aF → List (Nm × aF)
 | [], n, x => [(n, x)]
 | (m, o) :: l, n, x => match Nat.blt n m with
  | true => (n, x) :: (m, o) :: l
  | false => (m, o) :: iN l n x
theorem Mi {n : Nm} {x : aF} : ∀ {l : List (Nm × aF)} {K : List (Nm × aF) → Prop}, xC l n x K = K (iN l n x) := by
 intro l
 induction l with
 | nil => intro K; rfl
 | cons y l ih =>
  obtain ⟨m, o⟩ := y;intro K;unfold xC iN
  cases Nat.blt n m
  ·exact ih
  ·rfl
theorem pf {l : List (Nm × aF)} {n : Nm} {x : aF} {K : List (Nm × aF) → Prop} : eU l n x K ↔ az l n = none ∧ K (iN l n x) := by
 unfold eU
 cases az l n with
 | none => simp [Mi]
 | some _ => simp
theorem fP {l : List (Nm × aF)} {n : Nm} (x : aF) (h : az l n = none) (m : Nm) : az (iN l n x) m = if m = n then some x else az l m := by
 obtain ⟨l', h1, _, h2⟩ := dR (k := fun l' => l' = iN l n x) (pf.2 ⟨h, rfl⟩);rw [← h1]; exact h2 m
theorem yO {n m : Nat} {x y : aF} (hne : n ≠ m) : ∀ (l : List (Nm × aF)), iN (iN l n x) m y = iN (iN l m y) n x := by
 have blt : ∀ a b : Nat, Nat.blt a b = decide (a < b) := fun a b => by
  rw [Bool.eq_iff_iff, Nat.blt_eq, decide_eq_true_eq]
 intro l
 induction l with
 | nil =>
  simp only [iN, blt];rcases Nat.lt_or_gt_of_ne hne with h | h
  ·have h' : ¬ m < n := Nat.not_lt.2 (Nat.le_of_lt h);simp [h, h']
  ·have h' : ¬ n < m := Nat.not_lt.2 (Nat.le_of_lt h);simp [h, h']
 | cons z l ih =>
  obtain ⟨p, o⟩ := z;simp only [iN, blt];rcases Nat.lt_or_gt_of_ne hne with h | h
  ·have h' : ¬ m < n := Nat.not_lt.2 (Nat.le_of_lt h);by_cases h1 : (n : Nat) < (p : Nat) <;> by_cases h2 : (m : Nat) < (p : Nat) <;> simp [iN, blt, h, h', h1, h2, ih]
   exact absurd (Nat.lt_trans h h2) h1
  ·have h' : ¬ n < m := Nat.not_lt.2 (Nat.le_of_lt h);by_cases h1 : (n : Nat) < (p : Nat) <;> by_cases h2 : (m : Nat) < (p : Nat) <;> simp [iN, blt, h, h', h1, h2, ih]
   exact absurd (Nat.lt_trans h h1) h2
theorem Ao {s : List AV} {d t : Nat} {v : AV} (h : d ≠ t) : iZ (ji s d v) t = iZ s t := by
 rw [eD, eD, pK, List.getD_eq_getElem?_getD, List.getD_eq_getElem?_getD, List.getElem?_set_ne h]
theorem Hm {s : List AV} {d e : Nat} {v u : AV} (h : d ≠ e) : ji (ji s d v) e u = ji (ji s e u) d v := by
 simp only [pK];exact List.set_comm _ _ h
theorem Hl {s : List AV} {d : Nat} {v : AV} (h : iZ s d = v) (hv : v ≠ .junk) : ji s d v = s := by
 rw [eD, List.getD_eq_getElem?_getD] at h;rw [pK]
 cases e : s[d]? with
 | none => rw [e] at h; exact absurd h.symm hv
 | some x =>
  rw [e] at h;simp at h;subst h;obtain ⟨hlt, rfl⟩ := List.getElem?_eq_some_iff.1 e;exact List.set_getElem_self hlt
section
variable (P : Program) (T : Tab) (an : Ann) (ops : Array Oper)
def runs (o : Oper) (s : List AV) : Option Bool :=
 match o.guard with
 | none => some true
 | some (j, want) => (match ops[j]? with
  | none => none
  | some oj => (match oj.dst with
   | none => none
   | some d => (match iZ s d with
    | .val (.bool b) => some (b == want)
    | .val (.tuple _) => some false
    | _ => none)))
def W (o : Oper) (st : St) (k : St → Prop) : Prop := pl ops o st (fun st => cn P T an o st k) (fun st => put st o.dst (.val undef) k)
def kcls (o : Oper) (s : List AV) : Cls :=
 match runs ops o s with
 | some true => bJ an o.op o.dst (evA s)
 | _ => kD (bJ an o.op o.dst (evA s))
end
section
variable {P : Program} {T : Tab} {an : Ann} {ops : Array Oper} {E : dY} {o : Oper}
theorem qQ {s : List AV} {objs : List (Nm × aF)} {yes no : St → Prop} : pl ops o ⟨s, objs⟩ yes no ↔ (match runs ops o s with
  | some true => yes ⟨s, objs⟩
  | some false => no ⟨s, objs⟩
  | none => False) := by
 unfold pl runs
 cases o.guard with
 | none => exact Iff.rfl
 | some g =>
  obtain ⟨j, want⟩ := g;simp only
  cases ops[j]? with
  | none => exact Iff.rfl
  | some oj =>
   simp only
   cases oj.dst with
   | none => exact Iff.rfl
   | some d =>
    simp only
    cases hg : iZ s d <;> try exact Iff.rfl
    rename_i v
    cases v <;> try exact Iff.rfl
    rename_i b;have e := Hl hg (by simp)
    cases b <;> cases want <;> simp [O2, O3, gw, e]
theorem oF {s : List AV} {objs : List (Nm × aF)} {k : St → Prop} : W P T an ops o ⟨s, objs⟩ k ↔ (match runs ops o s with
  | some true => aT P T an o.op o.dst (evA s) objs fun v objs' => k ⟨gO o.dst v s, objs'⟩
  | some false => k ⟨gO o.dst (.val undef) s, objs⟩
  | none => False) := by
 unfold W;rw [qQ]
 cases runs ops o s with
 | none => exact Iff.rfl
 | some b =>
  cases b
  ·simp only; rw [uP]
  ·simp only [cn];have : (fun v objs' => put ⟨s, objs'⟩ o.dst v k) = fun v objs' => k ⟨gO o.dst v s, objs'⟩ := by
    funext v objs';exact uP
   rw [this]
def bW (ops : Array Oper) (o : Oper) (s s' : List AV) : Prop := ∀ t ∈ o.looksAt ops, iZ s' t = iZ s t
theorem bW.refl (s : List AV) : bW ops o s s := fun _ _ => rfl
theorem bW.trans {s s' s'' : List AV} (h : bW ops o s s') (h' : bW ops o s' s'') : bW ops o s s'' := fun t ht => (h' t ht).trans (h t ht)
theorem bW.symm {s s' : List AV} (h : bW ops o s s') : bW ops o s' s := fun t ht => (h t ht).symm
theorem bW.ev {s s' : List AV} (h : bW ops o s s') : ∀ x ∈ o.op.operands.toList, evA s' x = evA s x := by
 intro x hx
 cases x with
 | tmp t => exact h t (by unfold Oper.looksAt; exact List.mem_append_left _ (List.mem_filterMap.2 ⟨_, hx, rfl⟩))
 | _ => rfl
theorem bW.runs {s s' : List AV} (h : bW ops o s s') : runs ops o s' = runs ops o s := by
 unfold Go.Abs.runs
 cases hg : o.guard with
 | none => rfl
 | some g =>
  obtain ⟨j, want⟩ := g;simp only
  cases hj : ops[j]? with
  | none => rfl
  | some oj =>
   simp only
   cases hd : oj.dst with
   | none => rfl
   | some d =>
    have : iZ s' d = iZ s d := h d (by unfold Oper.looksAt; simp [hg, hj, hd]);simp only [this]
theorem bW.kcls {s s' : List AV} (h : bW ops o s s') : kcls an ops o s' = kcls an ops o s := by
 unfold Go.Abs.kcls;rw [h.runs, ul h.ev]
theorem bW.app {s : List AV} {dst : Option Tmp} {v : AV} (h : ∀ d, dst = some d → d ∉ o.looksAt ops) : bW ops o s (gO dst v s) := by
 intro t ht
 cases dst with
 | none => rfl
 | some d => exact Ao (fun e => h d rfl (e ▸ ht))
theorem kF {s : List AV} {objs : List (Nm × aF)} {k : St → Prop} (h : W P T an ops o ⟨s, objs⟩ k) : W P T an ops o ⟨s, objs⟩ fun st => k st ∧ ∃ v, st.slots = gO o.dst v s := by
 rw [oF] at h ⊢;split at h
 ·have : (fun v objs' => (fun st : St => k st ∧ ∃ v, st.slots = gO o.dst v s) ⟨gO o.dst v s, objs'⟩) = fun v objs' => k ⟨gO o.dst v s, objs'⟩ := by
   funext v objs';exact propext ⟨fun h => h.1, fun h => ⟨h, v, rfl⟩⟩
  rw [this]; exact h
 ·exact ⟨h, _, rfl⟩
 ·exact h
theorem zj {s : List AV} {d e : Option Tmp} {v u : AV} (h : ∀ x, d = some x → e ≠ some x) : gO e u (gO d v s) = gO d v (gO e u s) := by
 cases d with
 | none => rfl
 | some d => cases e with
  | none => rfl
  | some e => exact Hm (fun x => h d rfl (by rw [x]))
theorem uV {s : List AV} {objs : List (Nm × aF)} {d : Option Tmp} {v : AV} {k : St → Prop} (h1 : ∀ x, d = some x → x ∉ o.looksAt ops) (h2 : ∀ x, d = some x → o.dst ≠ some x) :
  W P T an ops o ⟨gO d v s, objs⟩ k ↔ W P T an ops o ⟨s, objs⟩ fun st => k ⟨gO d v st.slots, st.objs⟩ := by
 have ha : bW ops o s (gO d v s) := bW.app h1;rw [oF, oF, ha.runs]
 cases runs ops o s with
 | none => exact Iff.rfl
 | some b =>
  cases b
  ·simp only; rw [zj h2]
  ·simp only;rw [mB ha.ev];simp only [zj h2]
end
end Go.Abs
