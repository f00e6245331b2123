/- The engine, part 18e: regions that draw their order. -/
import Derived.Test.YtpkocgpcdddleaaGreatBR
set_option linter.unusedVariables false
set_option linter.unusedSimpArgs false
namespace Go.Abs
open Go

section
variable {P : Program} {T : Tab} {an : Ann} {E : Entry} {st : St} {G : Gh} {a : Act} {w : World}

theorem upto_eq (n : Nat) : upto n [] = List.range n := by
 have : ∀ n l, upto n l = List.range n ++ l := by
  intro n
  induction n with
  | zero => intro l; simp [upto]
  | succ n ih => intro l; simp [upto, ih, List.range_succ]
 simpa using this n []

theorem Inv.seen (h : Inv E st G a w) {d : Nat} {b : Bool} (hd : getL st.slots d = .val (.bool b)) : a.tmps[d]? = some (.bool b) ∧ Inv E ⟨setL st.slots d (.val (.bool b)), st.objs⟩ G a w := by
 have hlt : d < st.slots.length := by
  rcases Nat.lt_or_ge d st.slots.length with h | h
  ·exact h
  ·rw [getL_eq, List.getD_eq_getElem?_getD, List.getElem?_eq_none h] at hd; simp at hd
 obtain ⟨v, h1, h2⟩ := h.slots.get (List.getElem?_eq_getElem hlt)
 have he : st.slots[d] = .val (.bool b) := by
  rw [getL_eq, List.getD_eq_getElem?_getD, List.getElem?_eq_getElem hlt] at hd
  exact hd
 rw [he] at h2
 simp only [Rep] at h2
 subst h2
 refine ⟨by simpa using h1, ⟨?_, h.defers, h.wr, h.le, h.ext, h.newb⟩⟩
 have : setL st.slots d (.val (.bool b)) = st.slots := by rw [setL_eq, ← he, List.set_getElem_self]
 rw [this]; exact h.slots

theorem Inv.seenT (h : Inv E st G a w) {d : Nat} {x : Array Value} (hd : getL st.slots d = .val (.tuple x)) : a.tmps[d]? = some (.tuple x) := by
 have hlt : d < st.slots.length := by
  rcases Nat.lt_or_ge d st.slots.length with h | h
  ·exact h
  ·rw [getL_eq, List.getD_eq_getElem?_getD, List.getElem?_eq_none h] at hd; simp at hd
 obtain ⟨v, h1, h2⟩ := h.slots.get (List.getElem?_eq_getElem hlt)
 have he : st.slots[d] = .val (.tuple x) := by
  rw [getL_eq, List.getD_eq_getElem?_getD, List.getElem?_eq_getElem hlt] at hd
  exact hd
 rw [he] at h2
 simp only [Rep] at h2
 subst h2
 simpa using h1
end

def appD (dst : Option Tmp) (v : AV) (s : List AV) : List AV :=
 match dst with
 | none => s
 | some d => setL s d v
theorem put_iff {s : List AV} {objs : List (Nm × AObj)} {dst : Option Tmp} {v : AV} {k : St → Prop} : put ⟨s, objs⟩ dst v k = k ⟨appD dst v s, objs⟩ := by
 cases dst with
 | none => rfl
 | some d => rw [put_some]; rfl

def insL : List (Nm × AObj) → Nm → AObj → List (Nm × AObj)
 | [], n, x => [(n, x)]
 | (m, o) :: l, n, x => match Nat.blt n m with
  | true => (n, x) :: (m, o) :: l
  | false => (m, o) :: insL l n x
theorem insK_eq {n : Nm} {x : AObj} : ∀ {l : List (Nm × AObj)} {K : List (Nm × AObj) → Prop}, insK l n x K = K (insL l n x) := by
 intro l
 induction l with
 | nil => intro K; rfl
 | cons y l ih =>
  obtain ⟨m, o⟩ := y
  intro K
  unfold insK insL
  cases Nat.blt n m
  ·exact ih
  ·rfl
theorem objInsK_iff {l : List (Nm × AObj)} {n : Nm} {x : AObj} {K : List (Nm × AObj) → Prop} : objInsK l n x K ↔ objGet l n = none ∧ K (insL l n x) := by
 unfold objInsK
 cases objGet l n with
 | none => simp [insK_eq]
 | some _ => simp
theorem objGet_insL {l : List (Nm × AObj)} {n : Nm} (x : AObj) (h : objGet l n = none) (m : Nm) : objGet (insL l n x) m = if m = n then some x else objGet l m := by
 obtain ⟨l', h1, _, h2⟩ := objGet_ins (k := fun l' => l' = insL l n x) (objInsK_iff.2 ⟨h, rfl⟩)
 rw [← h1]; exact h2 m
theorem insL_comm {n m : Nat} {x y : AObj} (hne : n ≠ m) : ∀ (l : List (Nm × AObj)), insL (insL l n x) m y = insL (insL l m y) n x := by
 have blt : ∀ a b : Nat, Nat.blt a b = decide (a < b) := fun a b => by
  rw [Bool.eq_iff_iff, Nat.blt_eq, decide_eq_true_eq]
 intro l
 induction l with
 | nil =>
  simp only [insL, blt]
  rcases Nat.lt_or_gt_of_ne hne with h | h
  ·have h' : ¬ m < n := Nat.not_lt.2 (Nat.le_of_lt h)
   simp [h, h']
  ·have h' : ¬ n < m := Nat.not_lt.2 (Nat.le_of_lt h)
   simp [h, h']
 | cons z l ih =>
  obtain ⟨p, o⟩ := z
  simp only [insL, blt]
  rcases Nat.lt_or_gt_of_ne hne with h | h
  ·have h' : ¬ m < n := Nat.not_lt.2 (Nat.le_of_lt h)
   by_cases h1 : (n : Nat) < (p : Nat) <;> by_cases h2 : (m : Nat) < (p : Nat) <;> simp [insL, blt, h, h', h1, h2, ih]
   exact absurd (Nat.lt_trans h h2) h1
  ·have h' : ¬ n < m := Nat.not_lt.2 (Nat.le_of_lt h)
   by_cases h1 : (n : Nat) < (p : Nat) <;> by_cases h2 : (m : Nat) < (p : Nat) <;> simp [insL, blt, h, h', h1, h2, ih]
   exact absurd (Nat.lt_trans h h1) h2

theorem getL_setL_ne {s : List AV} {d t : Nat} {v : AV} (h : d ≠ t) : getL (setL s d v) t = getL s t := by
 rw [getL_eq, getL_eq, setL_eq, List.getD_eq_getElem?_getD, List.getD_eq_getElem?_getD, List.getElem?_set_ne h]
theorem setL_comm {s : List AV} {d e : Nat} {v u : AV} (h : d ≠ e) : setL (setL s d v) e u = setL (setL s e u) d v := by
 simp only [setL_eq]
 exact List.set_comm _ _ h
theorem setL_getL {s : List AV} {d : Nat} {v : AV} (h : getL s d = v) (hv : v ≠ .junk) : setL s d v = s := by
 rw [getL_eq, List.getD_eq_getElem?_getD] at h
 rw [setL_eq]
 cases e : s[d]? with
 | none => rw [e] at h; exact absurd h.symm hv
 | some x =>
  rw [e] at h
  simp at h
  subst h
  obtain ⟨hlt, rfl⟩ := List.getElem?_eq_some_iff.1 e
  exact List.set_getElem_self hlt

section
variable (P : Program) (T : Tab) (an : Ann) (ops : Array Oper)

def runs (o : Oper) (s : List AV) : Option Bool :=
 match o.guard with
 | none => some true
 | some (j, want) => (match ops[j]? with
  | none => none
  | some oj => (match oj.dst with
   | none => none
   | some d => (match getL s d with
    | .val (.bool b) => some (b == want)
    | .val (.tuple _) => some false
    | _ => none)))

def W (o : Oper) (st : St) (k : St → Prop) : Prop := guardK ops o st (fun st => awpOp P T an o st k) (fun st => put st o.dst (.val undef) k)

def kcls (o : Oper) (s : List AV) : Cls :=
 match runs ops o s with
 | some true => clsOf an o.op o.dst (evA s)
 | _ => skipCls (clsOf an o.op o.dst (evA s))
end

section
variable {P : Program} {T : Tab} {an : Ann} {ops : Array Oper} {E : Entry} {o : Oper}

theorem guardK_iff {s : List AV} {objs : List (Nm × AObj)} {yes no : St → Prop} : guardK ops o ⟨s, objs⟩ yes no ↔ (match runs ops o s with
  | some true => yes ⟨s, objs⟩
  | some false => no ⟨s, objs⟩
  | none => False) := by
 unfold guardK runs
 cases o.guard with
 | none => exact Iff.rfl
 | some g =>
  obtain ⟨j, want⟩ := g
  simp only
  cases ops[j]? with
  | none => exact Iff.rfl
  | some oj =>
   simp only
   cases oj.dst with
   | none => exact Iff.rfl
   | some d =>
    simp only
    cases hg : getL s d <;> try exact Iff.rfl
    rename_i v
    cases v <;> try exact Iff.rfl
    rename_i b
    have e := setL_getL hg (by simp)
    cases b <;> cases want <;> simp [br_t, br_f, setK_eq, e]

theorem W_iff {s : List AV} {objs : List (Nm × AObj)} {k : St → Prop} : W P T an ops o ⟨s, objs⟩ k ↔ (match runs ops o s with
  | some true => genOp P T an o.op o.dst (evA s) objs fun v objs' => k ⟨appD o.dst v s, objs'⟩
  | some false => k ⟨appD o.dst (.val undef) s, objs⟩
  | none => False) := by
 unfold W
 rw [guardK_iff]
 cases runs ops o s with
 | none => exact Iff.rfl
 | some b =>
  cases b
  ·simp only; rw [put_iff]
  ·simp only [awpOp]
   have : (fun v objs' => put ⟨s, objs'⟩ o.dst v k) = fun v objs' => k ⟨appD o.dst v s, objs'⟩ := by
    funext v objs'
    exact put_iff
   rw [this]

def Agree (ops : Array Oper) (o : Oper) (s s' : List AV) : Prop := ∀ t ∈ o.looksAt ops, getL s' t = getL s t

theorem Agree.refl (s : List AV) : Agree ops o s s := fun _ _ => rfl
theorem Agree.trans {s s' s'' : List AV} (h : Agree ops o s s') (h' : Agree ops o s' s'') : Agree ops o s s'' := fun t ht => (h' t ht).trans (h t ht)
theorem Agree.symm {s s' : List AV} (h : Agree ops o s s') : Agree ops o s' s := fun t ht => (h t ht).symm
theorem Agree.ev {s s' : List AV} (h : Agree ops o s s') : ∀ x ∈ o.op.operands.toList, evA s' x = evA s x := by
 intro x hx
 cases x with
 | tmp t => exact h t (by unfold Oper.looksAt; exact List.mem_append_left _ (List.mem_filterMap.2 ⟨_, hx, rfl⟩))
 | _ => rfl
theorem Agree.runs {s s' : List AV} (h : Agree ops o s s') : runs ops o s' = runs ops o s := by
 unfold Go.Abs.runs
 cases hg : o.guard with
 | none => rfl
 | some g =>
  obtain ⟨j, want⟩ := g
  simp only
  cases hj : ops[j]? with
  | none => rfl
  | some oj =>
   simp only
   cases hd : oj.dst with
   | none => rfl
   | some d =>
    have : getL s' d = getL s d := h d (by unfold Oper.looksAt; simp [hg, hj, hd])
    simp only [this]
theorem Agree.kcls {s s' : List AV} (h : Agree ops o s s') : kcls an ops o s' = kcls an ops o s := by
 unfold Go.Abs.kcls
 rw [h.runs, clsOf_congr h.ev]
theorem Agree.app {s : List AV} {dst : Option Tmp} {v : AV} (h : ∀ d, dst = some d → d ∉ o.looksAt ops) : Agree ops o s (appD dst v s) := by
 intro t ht
 cases dst with
 | none => rfl
 | some d => exact getL_setL_ne (fun e => h d rfl (e ▸ ht))

theorem W_slots {s : List AV} {objs : List (Nm × AObj)} {k : St → Prop} (h : W P T an ops o ⟨s, objs⟩ k) : W P T an ops o ⟨s, objs⟩ fun st => k st ∧ ∃ v, st.slots = appD o.dst v s := by
 rw [W_iff] at h ⊢
 split at h
 ·have : (fun v objs' => (fun st : St => k st ∧ ∃ v, st.slots = appD o.dst v s) ⟨appD o.dst v s, objs'⟩) = fun v objs' => k ⟨appD o.dst v s, objs'⟩ := by
   funext v objs'
   exact propext ⟨fun h => h.1, fun h => ⟨h, v, rfl⟩⟩
  rw [this]; exact h
 ·exact ⟨h, _, rfl⟩
 ·exact h

theorem appD_comm {s : List AV} {d e : Option Tmp} {v u : AV} (h : ∀ x, d = some x → e ≠ some x) : appD e u (appD d v s) = appD d v (appD e u s) := by
 cases d with
 | none => rfl
 | some d => cases e with
  | none => rfl
  | some e => exact setL_comm (fun x => h d rfl (by rw [x]))

theorem W_frame {s : List AV} {objs : List (Nm × AObj)} {d : Option Tmp} {v : AV} {k : St → Prop} (h1 : ∀ x, d = some x → x ∉ o.looksAt ops) (h2 : ∀ x, d = some x → o.dst ≠ some x) :
  W P T an ops o ⟨appD d v s, objs⟩ k ↔ W P T an ops o ⟨s, objs⟩ fun st => k ⟨appD d v st.slots, st.objs⟩ := by
 have ha : Agree ops o s (appD d v s) := Agree.app h1
 rw [W_iff, W_iff, ha.runs]
 cases runs ops o s with
 | none => exact Iff.rfl
 | some b =>
  cases b
  ·simp only; rw [appD_comm h2]
  ·simp only
   rw [genOp_congr ha.ev]
   simp only [appD_comm h2]
end
end Go.Abs
