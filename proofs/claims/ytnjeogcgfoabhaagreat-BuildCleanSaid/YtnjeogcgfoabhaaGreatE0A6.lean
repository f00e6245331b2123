/- The engine, A6. -/
import Derived.Test.YtnjeogcgfoabhaaGreatE0A5
set_option linter.unusedVariables false
set_option linter.unusedSimpArgs false
namespace Go.Abs
open Go
structure dY where
 G : Gh
 w : World
 T : Nat → Prop
 M : Prop
def nF (E : dY) (G : Gh) (ds : List Deferred) (w : World) : Prop :=
 ds.Nodup ∧ ∀ d ∈ ds, ∃ D, d = { target := .collected D, args := #[] } ∧ (E.M ∧ E.w.heap.size ≤ D) ∧ w.heap[D]? = some (.deferred (some [])) ∧ ∀ n, ¬ G.at n D
theorem nF.nil (E : dY) (G : Gh) (w : World) : nF E G [] w := ⟨List.nodup_nil, fun _ h => by cases h⟩
theorem nF.keep {E : dY} {G G' : Gh} {ds : List Deferred} {w w' : World} (h : nF E G ds w) (hb : ∀ D, D < w.heap.size → (∀ n, ¬ G.at n D) → w'.heap[D]? = w.heap[D]?)
  (hg : ∀ n D, D < w.heap.size → G'.at n D → ∃ m, G.at m D) : nF E G' ds w' :=
 ⟨h.1, fun d hd => by
  obtain ⟨D, h1, h2, h3, h4⟩ := h.2 d hd;have hlt := (Array.getElem?_eq_some_iff.1 h3).1;exact ⟨D, h1, h2, by rw [hb D hlt h4, h3], fun n hn => let ⟨m, hm⟩ := hg n D hlt hn; h4 m hm⟩⟩
structure Inv (E : dY) (st : St) (G : Gh) (a : Act) (w : World) : Prop where
 slots : aB G st.slots a.tmps.toList
 defers : nF E G a.defers w
 wr : WR G st.objs w
 le : E.G.le G
 ext : Ext E.T E.G.K E.w G.K w
 newb : ∀ n b, G.at n b → E.T b ∨ E.w.heap.size ≤ b
theorem gz {a b : Nat} : Nat.beq a b = false ↔ a ≠ b := by
 rw [← Bool.not_eq_true, Nat.beq_eq]
theorem dR {l : List (Nm × aF)} {n : Nm} {x : aF} {k : List (Nm × aF) → Prop} (h : eU l n x k) :
  ∃ l', k l' ∧ az l n = none ∧ ∀ m, az l' m = if m = n then some x else az l m := by
 unfold eU at h;split at h
 ·rename_i hn;have key : ∀ (l : List (Nm × aF)) (k : List (Nm × aF) → Prop), az l n = none → xC l n x k → ∃ l', k l' ∧ ∀ m, az l' m = if m = n then some x else az l m := by
   intro l
   induction l with
   | nil =>
    intro k _ h;refine ⟨_, h, fun m => ?_⟩;by_cases hm : m = n
    ·subst hm; simp [az]
    ·have : Nat.beq n m = false := by
      rw [gz]; exact fun e => hm e.symm
     simp [az, this, hm]
   | cons y l ih =>
    obtain ⟨m', o⟩ := y;intro k hn h;unfold xC at h;have hne : Nat.beq m' n = false := by
     cases hb : Nat.beq m' n
     ·rfl
     ·simp [az, hb] at hn
    have hn' : az l n = none := by simpa [az, hne] using hn
    split at h
    ·refine ⟨_, h, fun m => ?_⟩;by_cases hm : m = n
     ·subst hm; simp [az]
     ·have : Nat.beq n m = false := by
       rw [gz]; exact fun e => hm e.symm
      simp [az, this, hm]
    ·obtain ⟨l', h1, h2⟩ := ih (fun l' => k ((m', o) :: l')) hn' h;refine ⟨_, h1, fun m => ?_⟩
     cases hb : Nat.beq m' m
     ·simp [az, hb, h2 m]
     ·have e := Nat.eq_of_beq_eq_true hb;subst e;have : m' ≠ n := fun e => by subst e; simp at hne
      simp [az, this]
  obtain ⟨l', h1, h2⟩ := key l k hn h;exact ⟨l', h1, hn, h2⟩
 ·exact h.elim
theorem cw {l : List (Nm × aF)} {n : Nm} {x : aF} {k : List (Nm × aF) → Prop} (h : dC l n x k) :
  ∃ l', k l' ∧ ∀ m, az l' m = if m = n then some x else az l m := by
 induction l generalizing k with
 | nil => exact h.elim
 | cons y l ih =>
  obtain ⟨m', o⟩ := y;unfold dC at h;split at h
  ·rename_i hb;have e := Nat.eq_of_beq_eq_true hb;subst e;refine ⟨_, h, fun m => ?_⟩;by_cases hm : m = m'
   ·subst hm; simp [az]
   ·have : Nat.beq m' m = false := by
     rw [gz]; exact fun e => hm e.symm
    simp [az, this, hm]
  ·rename_i hb;obtain ⟨l', h1, h2⟩ := ih h;refine ⟨_, h1, fun m => ?_⟩;have hne : m' ≠ n := by
    rw [gz] at hb; exact hb
   cases hb' : Nat.beq m' m
   ·simp [az, hb', h2 m]
   ·have e := Nat.eq_of_beq_eq_true hb';subst e;simp [az, hne]
section
variable {P : Program} {T : Tab} {an : Ann} {E : dY} {st : St} {G : Gh} {a : Act} {w : World}
theorem Inv.eval (h : Inv E st G a w) (x : Operand) : Rep G (evA st.slots x) (a.eval x) := by
 cases x with
 | tmp t =>
  simp only [evA, Act.eval, eD];rcases Nat.lt_or_ge t st.slots.length with ht | ht
  ·obtain ⟨v, h1, h2⟩ := h.slots.get (List.getElem?_eq_getElem ht);have : a.tmps.getD t undef = v := by
    have h3 : a.tmps[t]? = some v := by simpa using h1
    simp [Array.getD_eq_getD_getElem?, h3]
   rw [this];simpa [List.getD_eq_getElem?_getD, List.getElem?_eq_getElem ht] using h2
  ·simp [List.getD_eq_getElem?_getD, List.getElem?_eq_none ht, Rep]
 | const v => simp [evA, Act.eval, Rep]
 | global g => simp [evA, Rep]
 | func f => simp [evA, Act.eval, Rep, aB]
theorem Inv.evals (h : Inv E st G a w) (l : List Operand) : aB G (l.map (evA st.slots)) (l.map a.eval) := by
 induction l with
 | nil => simp [aB]
 | cons x l ih => simp only [List.map_cons, aB]; exact ⟨_, _, rfl, h.eval x, ih⟩
theorem Inv.put (h : Inv E st G a w) (d : Nat) {v : AV} {x : Value} (hv : Rep G v x) : Inv E ⟨ji st.slots d v, st.objs⟩ G (a.put (some d) x) w :=
 ⟨by simpa [Act.put] using h.slots.set d hv, h.defers, h.wr, h.le, h.ext, h.newb⟩
theorem BW {st : St} {d : Nat} {v : AV} {k : St → Prop} : put st (some d) v k = k ⟨ji st.slots d v, st.objs⟩ := by
 simp [Go.Abs.put, i6, gw]
theorem JI {st : St} {v : AV} {k : St → Prop} : put st none v k = k st := rfl
theorem kn {dst : Option Tmp} {v : AV} {x : Value} {k : St → Prop} {next : Act → World → Prop} (h : Inv E st G a w) (hv : Rep G v x) (hk : put st dst v k)
  (hn : ∀ st' G' a' w', Inv E st' G' a' w' → k st' → next a' w') : next (a.put dst x) w := by
 cases dst with
 | none => rw [JI] at hk; exact hn _ _ _ _ h hk
 | some d => rw [BW] at hk; exact hn _ _ _ _ (h.put d hv) hk
theorem bd {o : Oper} {v : AV} {x : Value} {k : St → Prop} {next : Act → World → Prop} {Q : Exit → Act → World → Prop} (h : Inv E st G a w)
  (hr : (execOp a.eval o).run P w = .ok (.value x) w) (hv : Rep G v x) (hk : put st o.dst v k)
  (hn : ∀ st' G' a' w', Inv E st' G' a' w' → k st' → next a' w') : o.wp P a w next Q := by
 unfold Oper.wp;rw [hr, Oper.upon_value];exact kn h hv hk hn
theorem bP (hT : cg P T) {t : TypeId} (h : (T.ti t).ok = true) : ∃ i d, P.info? t = some i ∧ P.underlying t = some d ∧ (T.ti t).size = i.size ∧ (T.ti t).bytes = i.bytes ∧
  (T.ti t).d = TD.of d ∧ (T.ti t).agg = qM d ∧ (T.ti t).zero = (match i.zero with | some z => z.cells.toList | none => []) := by
 have e := hT.ti t h;rw [e] at h ⊢;unfold LE at h ⊢;split
 ·rename_i i d h1 h2;exact ⟨i, d, h1, h2, rfl, rfl, rfl, rfl, rfl⟩
 ·rename_i hno;exfalso;split at h
  ·rename_i i d h1 h2;exact hno i d h1 h2
  ·cases h
theorem bC {t : TypeId} {k : TI → Prop} (h : f7 T t k) : (T.ti t).ok = true ∧ k (T.ti t) := by
 unfold f7 at h;split at h
 ·rename_i h1; exact ⟨h1, h⟩
 ·exact h.elim
theorem kj {t : TypeId} {d : TypeDesc} (h : P.underlying t = some d) (w : World) : (isAgg t).run P w = .ok (qM d) w := by
 simp only [isAgg, Sem.run_bind, run_underlying h, Result.andThen_ok]
 cases d <;> rfl
theorem c7 (b o n : Nat) : (⟨b, o, none⟩ : Addr).add n = ⟨b, o + n, none⟩ := by
 unfold Addr.add;split
 ·subst_vars; rfl
 ·rfl
theorem qz (b o : Nat) : ∀ (vs : List Value) (i : Nat) (acc : Array Value), (∀ j v, vs[j]? = some v → w.cell? ⟨b, o + i + j, none⟩ = some v) →
  (loadCellsFrom ⟨b, o, none⟩ i vs.length acc).run P w = .ok (acc ++ vs.toArray) w := by
 intro vs
 induction vs with
 | nil => intro i acc _; simp [loadCellsFrom]
 | cons v vs ih =>
  intro i acc h;have h0 := h 0 v rfl;simp only [List.length_cons, loadCellsFrom, Sem.run_bind, run_load, c7];simp only [Nat.add_zero] at h0;rw [h0];simp only [Result.andThen_ok];rw [ih (i + 1) (acc.push v) (fun j u hj => by
   have := h (j + 1) u (by simpa using hj);rwa [show o + (i + 1) + j = o + i + (j + 1) by omega])]
  simp
theorem vn (b o : Nat) (vs : List Value) (h : ∀ j v, vs[j]? = some v → w.cell? ⟨b, o + j, none⟩ = some v) : (loadCells ⟨b, o, none⟩ vs.length).run P w = .ok vs.toArray w := by
 unfold loadCells;rw [qz b o vs 0 #[] (fun j v hj => by simpa using h j v hj)];simp
theorem kP (hT : cg P T) {t : TypeId} {l : List AV} {K : AV → Prop} (h : nB T t l K) {vs : List Value} (hl : aB G l vs) (b o : Nat)
  (hc : ∀ j v, vs[j]? = some v → w.cell? ⟨b, o + j, none⟩ = some v) : ∃ v x, K v ∧ Rep G v x ∧ (loadVar t ⟨b, o, none⟩).run P w = .ok x w := by
 unfold nB at h;split at h
 ·rename_i hok;obtain ⟨i, d, hi, hd, hs, hb, htd, hag, hz⟩ := bP hT hok;split at h
  ·rename_i ha;rw [m7] at h;obtain ⟨hle, hk⟩ := h;refine ⟨_, .agg (vs.take (T.ti t).size).toArray, hk, ?_, ?_⟩
   ·simp only [Rep];exact ⟨_, rfl, hl.take _⟩
   ·have hlen : (vs.take (T.ti t).size).length = i.size := by
     rw [List.length_take, hl.length, ← hs]; omega
    have hrl := vn (P := P) (w := w) b o (vs.take (T.ti t).size) (fun j v hj => hc j v (by
     rw [List.getElem?_take] at hj;split at hj
     ·exact hj
     ·cases hj))
    rw [hlen] at hrl;rw [hag] at ha;simp [loadVar, kj hd, sizeOf, typeInfo, hi, ha, hrl]
  ·rename_i ha;split at h
   ·rename_i x xs;rw [i6] at h;simp only [aB] at hl;obtain ⟨v, us, rfl, h1, h2⟩ := hl;refine ⟨_, v, h, h1, ?_⟩;have h0 := hc 0 v rfl;simp only [Nat.add_zero] at h0;rw [hag] at ha;simp only [loadVar, Sem.run_bind, kj hd, Result.andThen_ok, ha, if_false, Bool.false_eq_true, run_load, h0]
   ·exact h.elim
 ·exact h.elim
end
end Go.Abs
