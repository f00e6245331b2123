/- The engine, A6. -/
import Derived.Test.YtnjeogcgfoabhaaGreatE0A5
set_option linter.unusedVariables false
set_option linter.unusedSimpArgs false
namespace Go.Abs
open Go
structure dQ where
 G : Gh
 w : World
 T : Nat → Prop
 M : Prop
def nw (E : dQ) (G : Gh) (ds : List Deferred) (w : World) : Prop :=
 ds.Nodup ∧ ∀ d ∈ ds, ∃ D, d = { target := .collected D, args := #[] } ∧ (E.M ∧ E.w.heap.size ≤ D) ∧ w.heap[D]? = some (.deferred (some [])) ∧ ∀ n, ¬ G.at n D
theorem nw.nil (E : dQ) (G : Gh) (w : World) : nw E G [] w := ⟨List.nodup_nil, fun _ h => by cases h⟩
theorem nw.keep {E : dQ} {G G' : Gh} {ds : List Deferred} {w w' : World} (h : nw E G ds w) (hb : ∀ D, D < w.heap.size → (∀ n, ¬ G.at n D) → w'.heap[D]? = w.heap[D]?)
  (hg : ∀ n D, D < w.heap.size → G'.at n D → ∃ m, G.at m D) : nw E G' ds w' :=
 ⟨h.1, fun d hd => by
  obtain ⟨D, h1, h2, h3, h4⟩ := h.2 d hd;have hlt := (Array.getElem?_eq_some_iff.1 h3).1;exact ⟨D, h1, h2, by rw [hb D hlt h4, h3], fun n hn => let ⟨m, hm⟩ := hg n D hlt hn; h4 m hm⟩⟩
structure Inv (E : dQ) (st : St) (G : Gh) (a : Act) (w : World) : Prop where
 slots : aB G st.slots a.tmps.toList
 defers : nw E G a.defers w
 wr : WR G st.objs w
 le : E.G.le G
 ext : Ext E.T E.G.K E.w G.K w
 newb : ∀ n b, G.at n b → E.T b ∨ E.w.heap.size ≤ b
theorem gt {a b : Nat} : Nat.beq a b = false ↔ a ≠ b := by
 rw [← Bool.not_eq_true, Nat.beq_eq]
theorem dK {l : List (Nm × aE)} {n : Nm} {x : aE} {k : List (Nm × aE) → Prop} (h : eK l n x k) : ∃ l', k l' ∧ ax l n = none ∧ ∀ m, ax l' m = if m = n then some x else ax l m := by
 unfold eK at h;split at h
 ·rename_i hn;have key : ∀ (l : List (Nm × aE)) (k : List (Nm × aE) → Prop), ax l n = none → xx l n x k → ∃ l', k l' ∧ ∀ m, ax l' m = if m = n then some x else ax l m := by
   intro l
   induction l with
   | nil =>
    intro k _ h;refine ⟨_, h, fun m => ?_⟩;by_cases hm : m = n
    ·subst hm; simp [ax]
    ·have : Nat.beq n m = false := by
      rw [gt]; exact fun e => hm e.symm
     simp [ax, this, hm]
   | cons y l ih =>
    obtain ⟨m', o⟩ := y;intro k hn h;unfold xx at h;have hne : Nat.beq m' n = false := by
     cases hb : Nat.beq m' n
     ·rfl
     ·simp [ax, hb] at hn
    have hn' : ax l n = none := by simpa [ax, hne] using hn
    split at h
    ·refine ⟨_, h, fun m => ?_⟩;by_cases hm : m = n
     ·subst hm; simp [ax]
     ·have : Nat.beq n m = false := by
       rw [gt]; exact fun e => hm e.symm
      simp [ax, this, hm]
    ·obtain ⟨l', h1, h2⟩ := ih (fun l' => k ((m', o) :: l')) hn' h;refine ⟨_, h1, fun m => ?_⟩
     cases hb : Nat.beq m' m
     ·simp [ax, hb, h2 m]
     ·have e := aah hb;subst e;have : m' ≠ n := fun e => by subst e; simp at hne
      simp [ax, this]
  obtain ⟨l', h1, h2⟩ := key l k hn h;exact ⟨l', h1, hn, h2⟩
 ·exact h.elim
theorem cu {l : List (Nm × aE)} {n : Nm} {x : aE} {k : List (Nm × aE) → Prop} (h : dx l n x k) : ∃ l', k l' ∧ ∀ m, ax l' m = if m = n then some x else ax l m := by
 induction l generalizing k with
 | nil => exact h.elim
 | cons y l ih =>
  obtain ⟨m', o⟩ := y;unfold dx at h;split at h
  ·rename_i hb;have e := aah hb;subst e;refine ⟨_, h, fun m => ?_⟩;by_cases hm : m = m'
   ·subst hm; simp [ax]
   ·have : Nat.beq m' m = false := by
     rw [gt]; exact fun e => hm e.symm
    simp [ax, this, hm]
  ·rename_i hb;obtain ⟨l', h1, h2⟩ := ih h;refine ⟨_, h1, fun m => ?_⟩;have hne : m' ≠ n := by
    rw [gt] at hb; exact hb
   cases hb' : Nat.beq m' m
   ·simp [ax, hb', h2 m]
   ·have e := aah hb';subst e;simp [ax, hne]
section
variable {P : Program} {T : Tab} {an : Ann} {E : dQ} {st : St} {G : Gh} {a : Act} {w : World}
theorem Inv.eval (h : Inv E st G a w) (x : Operand) : Rep G (evA st.slots x) (a.eval x) := by
 cases x with
 | tmp t =>
  simp only [evA, Act.eval, eo];rcases aaN t st.slots.length with ht | ht
  ·obtain ⟨v, h1, h2⟩ := h.slots.get (aad ht);have : a.tmps.getD t undef = v := by
    have h3 : a.tmps[t]? = some v := by simpa using h1
    simp [aaL, h3]
   rw [this];simpa [aas, aad ht] using h2
  ·simp [aas, aaP ht, Rep]
 | const v => simp [evA, Act.eval, Rep]
 | global g => simp [evA, Rep]
 | func f => simp [evA, Act.eval, Rep, aB]
theorem Inv.evals (h : Inv E st G a w) (l : List Operand) : aB G (l.map (evA st.slots)) (l.map a.eval) := by
 induction l with
 | nil => simp [aB]
 | cons x l ih => simp only [aaF, aB]; exact ⟨_, _, rfl, h.eval x, ih⟩
theorem Inv.put (h : Inv E st G a w) (d : Nat) {v : AV} {x : Value} (hv : Rep G v x) : Inv E ⟨jb st.slots d v, st.objs⟩ G (a.put (some d) x) w :=
 ⟨by simpa [Act.put] using h.slots.set d hv, h.defers, h.wr, h.le, h.ext, h.newb⟩
theorem BT {st : St} {d : Nat} {v : AV} {k : St → Prop} : put st (some d) v k = k ⟨jb st.slots d v, st.objs⟩ := by
 simp [Go.Abs.put, iY, gm]
theorem JH {st : St} {v : AV} {k : St → Prop} : put st none v k = k st := rfl
theorem jW {dst : Option Tmp} {v : AV} {x : Value} {k : St → Prop} {next : Act → World → Prop} (h : Inv E st G a w) (hv : Rep G v x) (hk : put st dst v k)
  (hn : ∀ st' G' a' w', Inv E st' G' a' w' → k st' → next a' w') : next (a.put dst x) w := by
 cases dst with
 | none => rw [JH] at hk; exact hn _ _ _ _ h hk
 | some d => rw [BT] at hk; exact hn _ _ _ _ (h.put d hv) hk
theorem ba {o : Oper} {v : AV} {x : Value} {k : St → Prop} {next : Act → World → Prop} {Q : Exit → Act → World → Prop} (h : Inv E st G a w)
  (hr : (execOp a.eval o).run P w = .ok (.value x) w) (hv : Rep G v x) (hk : put st o.dst v k)
  (hn : ∀ st' G' a' w', Inv E st' G' a' w' → k st' → next a' w') : o.wp P a w next Q := by
 unfold Oper.wp;rw [hr, Oper.upon_value];exact jW h hv hk hn
theorem bN (hT : cd P T) {t : TypeId} (h : (T.ti t).ok = true) : ∃ i d, P.info? t = some i ∧ P.underlying t = some d ∧ (T.ti t).size = i.size ∧ (T.ti t).bytes = i.bytes ∧
  (T.ti t).d = TD.of d ∧ (T.ti t).agg = qJ d ∧ (T.ti t).zero = (match i.zero with | some z => z.cells.toList | none => []) := by
 have e := hT.ti t h;rw [e] at h ⊢;unfold LE at h ⊢;split
 ·rename_i i d h1 h2;exact ⟨i, d, h1, h2, rfl, rfl, rfl, rfl, rfl⟩
 ·rename_i hno;exfalso;split at h
  ·rename_i i d h1 h2;exact hno i d h1 h2
  ·cases h
theorem bz {t : TypeId} {k : TI → Prop} (h : fW T t k) : (T.ti t).ok = true ∧ k (T.ti t) := by
 unfold fW at h;split at h
 ·rename_i h1; exact ⟨h1, h⟩
 ·exact h.elim
theorem jU {t : TypeId} {d : TypeDesc} (h : P.underlying t = some d) (w : World) : (isAgg t).run P w = .ok (qJ d) w := by
 simp only [isAgg, Sem.run_bind, run_underlying h, Result.andThen_ok]
 cases d <;> rfl
theorem cU (b o n : Nat) : (⟨b, o, none⟩ : Addr).add n = ⟨b, o + n, none⟩ := by
 unfold Addr.add;split
 ·subst_vars; rfl
 ·rfl
theorem qw (b o : Nat) : ∀ (vs : List Value) (i : Nat) (acc : Array Value), (∀ j v, vs[j]? = some v → w.cell? ⟨b, o + i + j, none⟩ = some v) →
  (loadCellsFrom ⟨b, o, none⟩ i vs.length acc).run P w = .ok (acc ++ vs.toArray) w := by
 intro vs
 induction vs with
 | nil => intro i acc _; simp [loadCellsFrom]
 | cons v vs ih =>
  intro i acc h;have h0 := h 0 v rfl;simp only [aag, loadCellsFrom, Sem.run_bind, run_load, cU];simp only [aa8] at h0;rw [h0];simp only [Result.andThen_ok];rw [ih (i + 1) (acc.push v) (fun j u hj => by
   have := h (j + 1) u (by simpa using hj);rwa [show o + (i + 1) + j = o + i + (j + 1) by omega])]
  simp
theorem vh (b o : Nat) (vs : List Value) (h : ∀ j v, vs[j]? = some v → w.cell? ⟨b, o + j, none⟩ = some v) : (loadCells ⟨b, o, none⟩ vs.length).run P w = .ok vs.toArray w := by
 unfold loadCells;rw [qw b o vs 0 #[] (fun j v hj => by simpa using h j v hj)];simp
theorem kw (hT : cd P T) {t : TypeId} {l : List AV} {K : AV → Prop} (h : nr T t l K) {vs : List Value} (hl : aB G l vs) (b o : Nat)
  (hc : ∀ j v, vs[j]? = some v → w.cell? ⟨b, o + j, none⟩ = some v) : ∃ v x, K v ∧ Rep G v x ∧ (loadVar t ⟨b, o, none⟩).run P w = .ok x w := by
 unfold nr at h;split at h
 ·rename_i hok;obtain ⟨i, d, hi, hd, hs, hb, htd, hag, hz⟩ := bN hT hok;split at h
  ·rename_i ha;rw [mT] at h;obtain ⟨hle, hk⟩ := h;refine ⟨_, .agg (vs.take (T.ti t).size).toArray, hk, ?_, ?_⟩
   ·simp only [Rep];exact ⟨_, rfl, hl.take _⟩
   ·have hlen : (vs.take (T.ti t).size).length = i.size := by
     rw [aan, hl.length, ← hs]; omega
    have hrl := vh (P := P) (w := w) b o (vs.take (T.ti t).size) (fun j v hj => hc j v (by
     rw [List.getElem?_take] at hj;split at hj
     ·exact hj
     ·cases hj))
    rw [hlen] at hrl;rw [hag] at ha;simp [loadVar, jU hd, sizeOf, typeInfo, hi, ha, hrl]
  ·rename_i ha;split at h
   ·rename_i x xs;rw [iY] at h;simp only [aB] at hl;obtain ⟨v, us, rfl, h1, h2⟩ := hl;refine ⟨_, v, h, h1, ?_⟩;have h0 := hc 0 v rfl;simp only [aa8] at h0;rw [hag] at ha;simp only [loadVar, Sem.run_bind, jU hd, Result.andThen_ok, ha, aaW, abQ, run_load, h0]
   ·exact h.elim
 ·exact h.elim
end
end Go.Abs
