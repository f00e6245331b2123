/- The engine, BS. -/
import Derived.Test.YtnjeogcgfoabhaaGreatE0BR
set_option linter.unusedVariables false
set_option linter.unusedSimpArgs false
namespace Go.Abs
open Go
section
variable {P : Program} {T : Tab} {an : Ann} {E : dQ} {st : St} {G : Gh} {a : Act} {w : World}
theorem rm (n : Nat) : oD n [] = List.range n := by
 have : ∀ n l, oD n l = List.range n ++ l := by
  intro n
  induction n with
  | zero => intro l; simp [oD]
  | succ n ih => intro l; simp [oD, ih, List.range_succ]
 simpa using this n []
theorem Inv.seen (h : Inv E st G a w) {d : Nat} {b : Bool} (hd : iW st.slots d = .val (.bool b)) : a.tmps[d]? = some (.bool b) ∧ Inv E ⟨jb st.slots d (.val (.bool b)), st.objs⟩ G a w := by
 have hlt : d < st.slots.length := by
  rcases aaN d st.slots.length with h | h
  ·exact h
  ·rw [eo, aas, aaP h] at hd; simp at hd
 obtain ⟨v, h1, h2⟩ := h.slots.get (aad hlt);have he : st.slots[d] = .val (.bool b) := by
  rw [eo, aas, aad hlt] at hd;exact hd
 rw [he] at h2;simp only [Rep] at h2;subst h2;refine ⟨by simpa using h1, ⟨?_, h.defers, h.wr, h.le, h.ext, h.newb⟩⟩;have : jb st.slots d (.val (.bool b)) = st.slots := by rw [pI, ← he, abE]
 rw [this]; exact h.slots
theorem Inv.seenT (h : Inv E st G a w) {d : Nat} {x : Array Value} (hd : iW st.slots d = .val (.tuple x)) : a.tmps[d]? = some (.tuple x) := by
 have hlt : d < st.slots.length := by
  rcases aaN d st.slots.length with h | h
  ·exact h
  ·rw [eo, aas, aaP h] at hd; simp at hd
 obtain ⟨v, h1, h2⟩ := h.slots.get (aad hlt);have he : st.slots[d] = .val (.tuple x) := by
  rw [eo, aas, aad hlt] at hd;exact hd
 rw [he] at h2;simp only [Rep] at h2;subst h2;simpa using h1
end
def gJ (dst : Option Tmp) (v : AV) (s : List AV) : List AV :=
 match dst with
 | none => s
 | some d => jb s d v
theorem uJ {s : List AV} {objs : List (Nm × aE)} {dst : Option Tmp} {v : AV} {k : St → Prop} : put ⟨s, objs⟩ dst v k = k ⟨gJ dst v s, objs⟩ := by
 cases dst with
 | none => rfl
 | some d => rw [BT]; rfl
def iL : List (Nm × aE) → Nm → aE → List (Nm × aE)
 | [], n, x => [(n, x)]
 | (m, o) :: l, n, x => match Nat.blt n m with
  | true => (n, x) :: (m, o) :: l
  | false => (m, o) :: iL l n x
theorem Mi {n : Nm} {x : aE} : ∀ {l : List (Nm × aE)} {K : List (Nm × aE) → Prop}, xx l n x K = K (iL l n x) := by
 intro l
 induction l with
 | nil => intro K; rfl
 | cons y l ih =>
  obtain ⟨m, o⟩ := y;intro K;unfold xx iL
  cases Nat.blt n m
  ·exact ih
  ·rfl
theorem pa {l : List (Nm × aE)} {n : Nm} {x : aE} {K : List (Nm × aE) → Prop} : eK l n x K ↔ ax l n = none ∧ K (iL l n x) := by
 unfold eK
 cases ax l n with
 | none => simp [Mi]
 | some _ => simp
theorem fK {l : List (Nm × aE)} {n : Nm} (x : aE) (h : ax l n = none) (m : Nm) : ax (iL l n x) m = if m = n then some x else ax l m := by
 obtain ⟨l', h1, _, h2⟩ := dK (k := fun l' => l' = iL l n x) (pa.2 ⟨h, rfl⟩);rw [← h1]; exact h2 m
theorem yJ {n m : Nat} {x y : aE} (hne : n ≠ m) : ∀ (l : List (Nm × aE)), iL (iL l n x) m y = iL (iL l m y) n x := by
 have blt : ∀ a b : Nat, Nat.blt a b = decide (a < b) := fun a b => by
  rw [Bool.eq_iff_iff, abP, aa0]
 intro l
 induction l with
 | nil =>
  simp only [iL, blt];rcases Nat.lt_or_gt_of_ne hne with h | h
  ·have h' : ¬ m < n := Nat.not_lt.2 (abw h);simp [h, h']
  ·have h' : ¬ n < m := Nat.not_lt.2 (abw h);simp [h, h']
 | cons z l ih =>
  obtain ⟨p, o⟩ := z;simp only [iL, blt];rcases Nat.lt_or_gt_of_ne hne with h | h
  ·have h' : ¬ m < n := Nat.not_lt.2 (abw h);by_cases h1 : (n : Nat) < (p : Nat) <;> by_cases h2 : (m : Nat) < (p : Nat) <;> simp [iL, blt, h, h', h1, h2, ih]
   exact absurd (Nat.lt_trans h h2) h1
  ·have h' : ¬ n < m := Nat.not_lt.2 (abw h);by_cases h1 : (n : Nat) < (p : Nat) <;> by_cases h2 : (m : Nat) < (p : Nat) <;> simp [iL, blt, h, h', h1, h2, ih]
   exact absurd (Nat.lt_trans h h1) h2
theorem Ak {s : List AV} {d t : Nat} {v : AV} (h : d ≠ t) : iW (jb s d v) t = iW s t := by
 rw [eo, eo, pI, aas, aas, List.getElem?_set_ne h]
theorem Hl {s : List AV} {d e : Nat} {v u : AV} (h : d ≠ e) : jb (jb s d v) e u = jb (jb s e u) d v := by
 simp only [pI];exact List.set_comm _ _ h
theorem Hk {s : List AV} {d : Nat} {v : AV} (h : iW s d = v) (hv : v ≠ .junk) : jb s d v = s := by
 rw [eo, aas] at h;rw [pI]
 cases e : s[d]? with
 | none => rw [e] at h; exact absurd h.symm hv
 | some x =>
  rw [e] at h;simp at h;subst h;obtain ⟨hlt, rfl⟩ := List.getElem?_eq_some_iff.1 e;exact abE hlt
section
variable (P : Program) (T : Tab) (an : Ann) (ops : Array Oper)
def runs (o : Oper) (s : List AV) : Option Bool :=
 match o.guard with
 | none => some true
 | some (j, want) => (match ops[j]? with
  | none => none
  | some oj => (match oj.dst with
   | none => none
   | some d => (match iW s d with
    | .val (.bool b) => some (b == want)
    | .val (.tuple _) => some false
    | _ => none)))
def W (o : Oper) (st : St) (k : St → Prop) : Prop := ph ops o st (fun st => ck P T an o st k) (fun st => put st o.dst (.val undef) k)
def kcls (o : Oper) (s : List AV) : Cls :=
 match runs ops o s with
 | some true => bH an o.op o.dst (evA s)
 | _ => kg (bH an o.op o.dst (evA s))
end
section
variable {P : Program} {T : Tab} {an : Ann} {ops : Array Oper} {E : dQ} {o : Oper}
theorem qN {s : List AV} {objs : List (Nm × aE)} {yes no : St → Prop} : ph ops o ⟨s, objs⟩ yes no ↔ (match runs ops o s with
  | some true => yes ⟨s, objs⟩
  | some false => no ⟨s, objs⟩
  | none => False) := by
 unfold ph runs
 cases o.guard with
 | none => exact Iff.rfl
 | some g =>
  obtain ⟨j, want⟩ := g;simp only
  cases ops[j]? with
  | none => exact Iff.rfl
  | some oj =>
   simp only
   cases oj.dst with
   | none => exact Iff.rfl
   | some d =>
    simp only
    cases hg : iW s d <;> try exact Iff.rfl
    rename_i v
    cases v <;> try exact Iff.rfl
    rename_i b;have e := Hk hg (by simp)
    cases b <;> cases want <;> simp [O2, O3, gm, e]
theorem oB {s : List AV} {objs : List (Nm × aE)} {k : St → Prop} : W P T an ops o ⟨s, objs⟩ k ↔ (match runs ops o s with
  | some true => aQ P T an o.op o.dst (evA s) objs fun v objs' => k ⟨gJ o.dst v s, objs'⟩
  | some false => k ⟨gJ o.dst (.val undef) s, objs⟩
  | none => False) := by
 unfold W;rw [qN]
 cases runs ops o s with
 | none => exact Iff.rfl
 | some b =>
  cases b
  ·simp only; rw [uJ]
  ·simp only [ck];have : (fun v objs' => put ⟨s, objs'⟩ o.dst v k) = fun v objs' => k ⟨gJ o.dst v s, objs'⟩ := by
    funext v objs';exact uJ
   rw [this]
def bS (ops : Array Oper) (o : Oper) (s s' : List AV) : Prop := ∀ t ∈ o.looksAt ops, iW s' t = iW s t
theorem bS.refl (s : List AV) : bS ops o s s := fun _ _ => rfl
theorem bS.trans {s s' s'' : List AV} (h : bS ops o s s') (h' : bS ops o s' s'') : bS ops o s s'' := fun t ht => (h' t ht).trans (h t ht)
theorem bS.symm {s s' : List AV} (h : bS ops o s s') : bS ops o s' s := fun t ht => (h t ht).symm
theorem bS.ev {s s' : List AV} (h : bS ops o s s') : ∀ x ∈ o.op.operands.toList, evA s' x = evA s x := by
 intro x hx
 cases x with
 | tmp t => exact h t (by unfold Oper.looksAt; exact aa3 _ (List.mem_filterMap.2 ⟨_, hx, rfl⟩))
 | _ => rfl
theorem bS.runs {s s' : List AV} (h : bS ops o s s') : runs ops o s' = runs ops o s := by
 unfold Go.Abs.runs
 cases hg : o.guard with
 | none => rfl
 | some g =>
  obtain ⟨j, want⟩ := g;simp only
  cases hj : ops[j]? with
  | none => rfl
  | some oj =>
   simp only
   cases hd : oj.dst with
   | none => rfl
   | some d =>
    have : iW s' d = iW s d := h d (by unfold Oper.looksAt; simp [hg, hj, hd]);simp only [this]
theorem bS.kcls {s s' : List AV} (h : bS ops o s s') : kcls an ops o s' = kcls an ops o s := by
 unfold Go.Abs.kcls;rw [h.runs, ug h.ev]
theorem bS.app {s : List AV} {dst : Option Tmp} {v : AV} (h : ∀ d, dst = some d → d ∉ o.looksAt ops) : bS ops o s (gJ dst v s) := by
 intro t ht
 cases dst with
 | none => rfl
 | some d => exact Ak (fun e => h d rfl (e ▸ ht))
theorem kh {s : List AV} {objs : List (Nm × aE)} {k : St → Prop} (h : W P T an ops o ⟨s, objs⟩ k) : W P T an ops o ⟨s, objs⟩ fun st => k st ∧ ∃ v, st.slots = gJ o.dst v s := by
 rw [oB] at h ⊢;split at h
 ·have : (fun v objs' => (fun st : St => k st ∧ ∃ v, st.slots = gJ o.dst v s) ⟨gJ o.dst v s, objs'⟩) = fun v objs' => k ⟨gJ o.dst v s, objs'⟩ := by
   funext v objs';exact propext ⟨fun h => h.1, fun h => ⟨h, v, rfl⟩⟩
  rw [this]; exact h
 ·exact ⟨h, _, rfl⟩
 ·exact h
theorem ze {s : List AV} {d e : Option Tmp} {v u : AV} (h : ∀ x, d = some x → e ≠ some x) : gJ e u (gJ d v s) = gJ d v (gJ e u s) := by
 cases d with
 | none => rfl
 | some d => cases e with
  | none => rfl
  | some e => exact Hl (fun x => h d rfl (by rw [x]))
theorem uQ {s : List AV} {objs : List (Nm × aE)} {d : Option Tmp} {v : AV} {k : St → Prop} (h1 : ∀ x, d = some x → x ∉ o.looksAt ops) (h2 : ∀ x, d = some x → o.dst ≠ some x) : W P T an ops o ⟨gJ d v s, objs⟩ k ↔ W P T an ops o ⟨s, objs⟩ fun st => k ⟨gJ d v st.slots, st.objs⟩ := by
 have ha : bS ops o s (gJ d v s) := bS.app h1;rw [oB, oB, ha.runs]
 cases runs ops o s with
 | none => exact Iff.rfl
 | some b =>
  cases b
  ·simp only; rw [ze h2]
  ·simp only;rw [mj ha.ev];simp only [ze h2]
end
end Go.Abs
