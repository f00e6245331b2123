/- The engine, part 6: a state and the world; operations that touch no memory. -/
import Derived.Test.YtpkocgpcdddleaaGreatA5
set_option linter.unusedVariables false
set_option linter.unusedSimpArgs false
namespace Go.Abs
open Go

structure Entry where
 G : Gh
 w : World
 T : Nat → Prop
 M : Prop

def Marks (E : Entry) (G : Gh) (ds : List Deferred) (w : World) : Prop :=
 ds.Nodup ∧ ∀ d ∈ ds, ∃ D, d = { target := .collected D, args := #[] } ∧ (E.M ∧ E.w.heap.size ≤ D) ∧ w.heap[D]? = some (.deferred (some [])) ∧ ∀ n, ¬ G.at n D
theorem Marks.nil (E : Entry) (G : Gh) (w : World) : Marks E G [] w := ⟨List.nodup_nil, fun _ h => by cases h⟩
theorem Marks.keep {E : Entry} {G G' : Gh} {ds : List Deferred} {w w' : World} (h : Marks E G ds w) (hb : ∀ D, D < w.heap.size → (∀ n, ¬ G.at n D) → w'.heap[D]? = w.heap[D]?)
  (hg : ∀ n D, D < w.heap.size → G'.at n D → ∃ m, G.at m D) : Marks E G' ds w' :=
 ⟨h.1, fun d hd => by
  obtain ⟨D, h1, h2, h3, h4⟩ := h.2 d hd
  have hlt := (Array.getElem?_eq_some_iff.1 h3).1
  exact ⟨D, h1, h2, by rw [hb D hlt h4, h3], fun n hn => let ⟨m, hm⟩ := hg n D hlt hn; h4 m hm⟩⟩

structure Inv (E : Entry) (st : St) (G : Gh) (a : Act) (w : World) : Prop where
 slots : RepL G st.slots a.tmps.toList
 defers : Marks E G a.defers w
 wr : WR G st.objs w
 le : E.G.le G
 ext : Ext E.T E.G.K E.w G.K w
 newb : ∀ n b, G.at n b → E.T b ∨ E.w.heap.size ≤ b

theorem nbeq_false {a b : Nat} : Nat.beq a b = false ↔ a ≠ b := by
 rw [← Bool.not_eq_true, Nat.beq_eq]

theorem objGet_ins {l : List (Nm × AObj)} {n : Nm} {x : AObj} {k : List (Nm × AObj) → Prop} (h : objInsK l n x k) :
  ∃ l', k l' ∧ objGet l n = none ∧ ∀ m, objGet l' m = if m = n then some x else objGet l m := by
 unfold objInsK at h
 split at h
 ·rename_i hn
  have key : ∀ (l : List (Nm × AObj)) (k : List (Nm × AObj) → Prop), objGet l n = none → insK l n x k → ∃ l', k l' ∧ ∀ m, objGet l' m = if m = n then some x else objGet l m := by
   intro l
   induction l with
   | nil =>
    intro k _ h
    refine ⟨_, h, fun m => ?_⟩
    by_cases hm : m = n
    ·subst hm; simp [objGet]
    ·have : Nat.beq n m = false := by
      rw [nbeq_false]; exact fun e => hm e.symm
     simp [objGet, this, hm]
   | cons y l ih =>
    obtain ⟨m', o⟩ := y
    intro k hn h
    unfold insK at h
    have hne : Nat.beq m' n = false := by
     cases hb : Nat.beq m' n
     ·rfl
     ·simp [objGet, hb] at hn
    have hn' : objGet l n = none := by simpa [objGet, hne] using hn
    split at h
    ·refine ⟨_, h, fun m => ?_⟩
     by_cases hm : m = n
     ·subst hm; simp [objGet]
     ·have : Nat.beq n m = false := by
       rw [nbeq_false]; exact fun e => hm e.symm
      simp [objGet, this, hm]
    ·obtain ⟨l', h1, h2⟩ := ih (fun l' => k ((m', o) :: l')) hn' h
     refine ⟨_, h1, fun m => ?_⟩
     cases hb : Nat.beq m' m
     ·simp [objGet, hb, h2 m]
     ·have e := Nat.eq_of_beq_eq_true hb
      subst e
      have : m' ≠ n := fun e => by subst e; simp at hne
      simp [objGet, this]
  obtain ⟨l', h1, h2⟩ := key l k hn h
  exact ⟨l', h1, hn, h2⟩
 ·exact h.elim

theorem objGet_set {l : List (Nm × AObj)} {n : Nm} {x : AObj} {k : List (Nm × AObj) → Prop} (h : objSetK l n x k) :
  ∃ l', k l' ∧ ∀ m, objGet l' m = if m = n then some x else objGet l m := by
 induction l generalizing k with
 | nil => exact h.elim
 | cons y l ih =>
  obtain ⟨m', o⟩ := y
  unfold objSetK at h
  split at h
  ·rename_i hb
   have e := Nat.eq_of_beq_eq_true hb
   subst e
   refine ⟨_, h, fun m => ?_⟩
   by_cases hm : m = m'
   ·subst hm; simp [objGet]
   ·have : Nat.beq m' m = false := by
     rw [nbeq_false]; exact fun e => hm e.symm
    simp [objGet, this, hm]
  ·rename_i hb
   obtain ⟨l', h1, h2⟩ := ih h
   refine ⟨_, h1, fun m => ?_⟩
   have hne : m' ≠ n := by
    rw [nbeq_false] at hb; exact hb
   cases hb' : Nat.beq m' m
   ·simp [objGet, hb', h2 m]
   ·have e := Nat.eq_of_beq_eq_true hb'
    subst e
    simp [objGet, hne]

section
variable {P : Program} {T : Tab} {an : Ann} {E : Entry} {st : St} {G : Gh} {a : Act} {w : World}

theorem Inv.eval (h : Inv E st G a w) (x : Operand) : Rep G (evA st.slots x) (a.eval x) := by
 cases x with
 | tmp t =>
  simp only [evA, Act.eval, getL_eq]
  rcases Nat.lt_or_ge t st.slots.length with ht | ht
  ·obtain ⟨v, h1, h2⟩ := h.slots.get (List.getElem?_eq_getElem ht)
   have : a.tmps.getD t undef = v := by
    have h3 : a.tmps[t]? = some v := by simpa using h1
    simp [Array.getD_eq_getD_getElem?, h3]
   rw [this]
   simpa [List.getD_eq_getElem?_getD, List.getElem?_eq_getElem ht] using h2
  ·simp [List.getD_eq_getElem?_getD, List.getElem?_eq_none ht, Rep]
 | const v => simp [evA, Act.eval, Rep]
 | global g => simp [evA, Rep]
 | func f => simp [evA, Act.eval, Rep, RepL]

theorem Inv.evals (h : Inv E st G a w) (l : List Operand) : RepL G (l.map (evA st.slots)) (l.map a.eval) := by
 induction l with
 | nil => simp [RepL]
 | cons x l ih => simp only [List.map_cons, RepL]; exact ⟨_, _, rfl, h.eval x, ih⟩

theorem Inv.put (h : Inv E st G a w) (d : Nat) {v : AV} {x : Value} (hv : Rep G v x) : Inv E ⟨setL st.slots d v, st.objs⟩ G (a.put (some d) x) w :=
 ⟨by simpa [Act.put] using h.slots.set d hv, h.defers, h.wr, h.le, h.ext, h.newb⟩

theorem put_some {st : St} {d : Nat} {v : AV} {k : St → Prop} : put st (some d) v k = k ⟨setL st.slots d v, st.objs⟩ := by
 simp [Go.Abs.put, force_eq, setK_eq]
theorem put_none {st : St} {v : AV} {k : St → Prop} : put st none v k = k st := rfl

theorem put_sound {dst : Option Tmp} {v : AV} {x : Value} {k : St → Prop} {next : Act → World → Prop} (h : Inv E st G a w) (hv : Rep G v x) (hk : put st dst v k)
  (hn : ∀ st' G' a' w', Inv E st' G' a' w' → k st' → next a' w') : next (a.put dst x) w := by
 cases dst with
 | none => rw [put_none] at hk; exact hn _ _ _ _ h hk
 | some d => rw [put_some] at hk; exact hn _ _ _ _ (h.put d hv) hk

theorem wp_value {o : Oper} {v : AV} {x : Value} {k : St → Prop} {next : Act → World → Prop} {Q : Exit → Act → World → Prop} (h : Inv E st G a w)
  (hr : (execOp a.eval o).run P w = .ok (.value x) w) (hv : Rep G v x) (hk : put st o.dst v k)
  (hn : ∀ st' G' a' w', Inv E st' G' a' w' → k st' → next a' w') : o.wp P a w next Q := by
 unfold Oper.wp
 rw [hr, Oper.upon_value]
 exact put_sound h hv hk hn

theorem ti_facts (hT : TabOk P T) {t : TypeId} (h : (T.ti t).ok = true) : ∃ i d, P.info? t = some i ∧ P.underlying t = some d ∧ (T.ti t).size = i.size ∧ (T.ti t).bytes = i.bytes ∧
  (T.ti t).d = TD.of d ∧ (T.ti t).agg = isAggD d ∧ (T.ti t).zero = (match i.zero with | some z => z.cells.toList | none => []) := by
 have e := hT.ti t h
 rw [e] at h ⊢
 unfold tiOf at h ⊢
 split
 ·rename_i i d h1 h2
  exact ⟨i, d, h1, h2, rfl, rfl, rfl, rfl, rfl⟩
 ·rename_i hno
  exfalso
  split at h
  ·rename_i i d h1 h2
   exact hno i d h1 h2
  ·cases h

theorem tyOk_elim {t : TypeId} {k : TI → Prop} (h : tyOk T t k) : (T.ti t).ok = true ∧ k (T.ti t) := by
 unfold tyOk at h
 split at h
 ·rename_i h1; exact ⟨h1, h⟩
 ·exact h.elim

theorem run_isAgg {t : TypeId} {d : TypeDesc} (h : P.underlying t = some d) (w : World) : (isAgg t).run P w = .ok (isAggD d) w := by
 simp only [isAgg, Sem.run_bind, run_underlying h, Result.andThen_ok]
 cases d <;> rfl

theorem addr_add (b o n : Nat) : (⟨b, o, none⟩ : Addr).add n = ⟨b, o + n, none⟩ := by
 unfold Addr.add
 split
 ·subst_vars; rfl
 ·rfl

theorem run_loadCellsFrom' (b o : Nat) : ∀ (vs : List Value) (i : Nat) (acc : Array Value), (∀ j v, vs[j]? = some v → w.cell? ⟨b, o + i + j, none⟩ = some v) →
  (loadCellsFrom ⟨b, o, none⟩ i vs.length acc).run P w = .ok (acc ++ vs.toArray) w := by
 intro vs
 induction vs with
 | nil => intro i acc _; simp [loadCellsFrom]
 | cons v vs ih =>
  intro i acc h
  have h0 := h 0 v rfl
  simp only [List.length_cons, loadCellsFrom, Sem.run_bind, run_load, addr_add]
  simp only [Nat.add_zero] at h0
  rw [h0]
  simp only [Result.andThen_ok]
  rw [ih (i + 1) (acc.push v) (fun j u hj => by
   have := h (j + 1) u (by simpa using hj)
   rwa [show o + (i + 1) + j = o + i + (j + 1) by omega])]
  simp

theorem run_loadCells' (b o : Nat) (vs : List Value) (h : ∀ j v, vs[j]? = some v → w.cell? ⟨b, o + j, none⟩ = some v) : (loadCells ⟨b, o, none⟩ vs.length).run P w = .ok vs.toArray w := by
 unfold loadCells
 rw [run_loadCellsFrom' b o vs 0 #[] (fun j v hj => by simpa using h j v hj)]
 simp

theorem aload_sound (hT : TabOk P T) {t : TypeId} {l : List AV} {K : AV → Prop} (h : aload T t l K) {vs : List Value} (hl : RepL G l vs) (b o : Nat)
  (hc : ∀ j v, vs[j]? = some v → w.cell? ⟨b, o + j, none⟩ = some v) : ∃ v x, K v ∧ Rep G v x ∧ (loadVar t ⟨b, o, none⟩).run P w = .ok x w := by
 unfold aload at h
 split at h
 ·rename_i hok
  obtain ⟨i, d, hi, hd, hs, hb, htd, hag, hz⟩ := ti_facts hT hok
  split at h
  ·rename_i ha
   rw [takeK_iff] at h
   obtain ⟨hle, hk⟩ := h
   refine ⟨_, .agg (vs.take (T.ti t).size).toArray, hk, ?_, ?_⟩
   ·simp only [Rep]
    exact ⟨_, rfl, hl.take _⟩
   ·have hlen : (vs.take (T.ti t).size).length = i.size := by
     rw [List.length_take, hl.length, ← hs]; omega
    have hrl := run_loadCells' (P := P) (w := w) b o (vs.take (T.ti t).size) (fun j v hj => hc j v (by
     rw [List.getElem?_take] at hj
     split at hj
     ·exact hj
     ·cases hj))
    rw [hlen] at hrl
    rw [hag] at ha
    simp [loadVar, run_isAgg hd, sizeOf, typeInfo, hi, ha, hrl]
  ·rename_i ha
   split at h
   ·rename_i x xs
    rw [force_eq] at h
    simp only [RepL] at hl
    obtain ⟨v, us, rfl, h1, h2⟩ := hl
    refine ⟨_, v, h, h1, ?_⟩
    have h0 := hc 0 v rfl
    simp only [Nat.add_zero] at h0
    rw [hag] at ha
    simp only [loadVar, Sem.run_bind, run_isAgg hd, Result.andThen_ok, ha, if_false, Bool.false_eq_true, run_load, h0]
   ·exact h.elim
 ·exact h.elim

end
end Go.Abs
