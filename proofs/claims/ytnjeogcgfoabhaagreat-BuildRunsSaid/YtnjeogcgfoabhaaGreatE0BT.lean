/- The engine, BT. -/
import Derived.Test.YtnjeogcgfoabhaaGreatE0BS
set_option linter.unusedVariables false
set_option linter.unusedSimpArgs false
namespace Go.Abs
open Go
section
variable {P : Program} {T : Tab} {an : Ann} {ops : Array Oper} {E : dQ} {o : Oper}
theorem B3 {op : Op} {dst : Option Tmp} {ev : Operand → AV} {r : List Nm} (h : bH an op dst ev = .val r) : m9 op = false := by
 cases op with
 | call c =>
  simp only [bH] at h;simp only [m9];split at h
  ·split at h
   ·split at h <;> cases h
   ·cases h
  ·rename_i e; rw [e]
  ·rename_i h1 h2;split
   ·rename_i f hf; exact absurd hf (h1 f)
   ·rfl
 | _ => rfl
theorem Jb {op : Op} {dst : Option Tmp} {ev : Operand → AV} {r : List Nm} (hc : bH an op dst ev = .val r) {objs : List (Nm × aE)} {k : AV → List (Nm × aE) → Prop} (h : aQ P T an op dst ev objs k) : ∀ m ∈ r, ∃ x, ax objs m = some x := by
 intro m hm
 cases op with
 | load t x =>
  simp only [aQ, bH] at hc h;split at hc
  ·simp only [Cls.val.injEq] at hc;subst hc;rename_i n off he;simp only [aaA] at hm;subst hm;simp only [he] at h
   cases e : ax objs m with
   | none => rw [e] at h; exact h.elim
   | some y => exact ⟨y, rfl⟩
  ·simp only [Cls.val.injEq] at hc;subst hc;rename_i n size ver i off he;simp only [aaA] at hm;subst hm;simp only [he] at h
   cases e : ax objs m with
   | none => rw [e] at h; exact h.elim
   | some y => exact ⟨y, rfl⟩
  ·simp only [Cls.val.injEq] at hc; subst hc; cases hm
 | lookup t n x ok =>
  simp only [aQ, bH] at hc h;split at hc
  ·simp only [Cls.val.injEq] at hc;subst hc;rename_i n' he;simp only [aaA] at hm;subst hm;simp only [he] at h;split at h <;> try exact h.elim
   split at h <;> try exact h.elim
   obtain ⟨_, h⟩ := bz h;split at h <;> try exact h.elim
   rename_i e _
   cases e
   cases e : ax objs m with
   | none => rw [e] at h; exact h.elim
   | some y => exact ⟨y, rfl⟩
  ·simp only [Cls.val.injEq] at hc; subst hc; cases hm
 | call c =>
  simp only [aQ, bH] at hc h;split at hc
  ·split at hc
   ·split at hc <;> cases hc
   ·cases hc
  ·rename_i b hcal;simp only [hcal] at h;split at hc
   ·split at hc
    ·rename_i x hx;split at hc
     ·simp only [Cls.val.injEq] at hc;subst hc;rename_i n he;simp only [aaA] at hm;subst hm;simp only [hx] at h
      cases hts : c.argTypes.toList with
      | nil => simp only [hts] at h
      | cons t ts =>
       cases ts with
       | cons _ _ => simp only [hts] at h
       | nil =>
        simp only [hts] at h;obtain ⟨_, h⟩ := az h;rw [he] at h;simp only [xw] at h
        cases e : ax objs m with
        | none => rw [e] at h; exact h.elim
        | some y => exact ⟨y, rfl⟩
     ·simp only [Cls.val.injEq] at hc; subst hc; cases hm
    ·simp only [Cls.val.injEq] at hc; subst hc; cases hm
   ·simp only [Cls.val.injEq] at hc; subst hc; cases hm
   ·simp only [Cls.val.injEq] at hc; subst hc; cases hm
   ·cases hc
  ·cases hc
 | convert s d x =>
  simp only [aQ, bH] at hc h;split at hc
  ·simp only [Cls.val.injEq] at hc;subst hc;rename_i n size ver off len he;simp only [aaA] at hm;subst hm;obtain ⟨_, h⟩ := bz h;obtain ⟨_, h⟩ := bz h;rw [he] at h
   cases hD : (T.ti d).d <;> simp only [hD] at h
   split at h <;> try exact h.elim
   split at h <;> try exact h.elim
   cases e : ax objs m with
   | none => rw [e] at h; exact h.elim
   | some y => exact ⟨y, rfl⟩
  ·simp only [Cls.val.injEq] at hc; subst hc; cases hm
 | box t x =>
  simp only [bH] at hc;split at hc
  ·split at hc
   ·simp only [Cls.val.injEq] at hc; subst hc; cases hm
   ·cases hc
  ·cases hc
 | buildSlice t n ps =>
  simp only [bH] at hc;split at hc
  ·split at hc
   ·cases hc
   ·split at hc
    ·cases hc
    ·simp only [Cls.val.injEq] at hc; subst hc; cases hm
  ·cases hc
 | _ => first | (simp only [bH, Cls.val.injEq] at hc; subst hc; cases hm) | (simp [bH] at hc)
theorem zh {s : List AV} {objs : List (Nm × aE)} {k0 : St → Prop} {r : List Nm} (hk : kcls an ops o s = .val r) (h : W P T an ops o ⟨s, objs⟩ k0) : (∀ m ∈ r, ∃ x, ax objs m = some x) ∧ ∃ v, ∀ (s' : List AV) (objs' : List (Nm × aE)) (k : St → Prop), bS ops o s s' → (∀ m ∈ r, ax objs' m = ax objs m) →
   (W P T an ops o ⟨s', objs'⟩ k ↔ k ⟨gJ o.dst v s', objs'⟩) := by
 rw [oB] at h;unfold kcls at hk;split at h
 ·rename_i hr;rw [hr] at hk;simp only at hk;refine ⟨Jb hk h, ?_⟩;obtain ⟨⟨v, o'⟩, hd⟩ := yV (B3 hk) o.dst (evA s) objs (fun p => k0 ⟨gJ o.dst p.1 s, p.2⟩) h;refine ⟨v, fun s' objs' k ha hm => ?_⟩;rw [oB, ha.runs, hr];simp only;rw [mj ha.ev, Ja hk hm];exact hd fun p => k ⟨gJ o.dst p.1 s', objs'⟩
 ·rename_i hr;rw [hr] at hk;simp only at hk;have : r = [] := by
   unfold kg at hk;split at hk
   ·cases hk
   ·simp only [Cls.val.injEq] at hk; exact hk.symm
  subst this;refine ⟨fun m hm => absurd hm (by simp), AV.val undef, fun s' objs' k ha hm => ?_⟩;rw [oB, ha.runs, hr]
 ·exact h.elim
theorem Mb {op : Op} {dst : Option Tmp} {ev : Operand → AV} (hc : bH an op dst ev = .mk) {objs0 : List (Nm × aE)} {k0 : AV → List (Nm × aE) → Prop} (h : aQ P T an op dst ev objs0 k0) : ∃ d v X, dst = some d ∧ ∀ (objs : List (Nm × aE)) (k : AV → List (Nm × aE) → Prop), aQ P T an op dst ev objs k ↔ eK objs (al d) X fun o => k v o := by
 cases op with
 | alloc t =>
  simp only [aQ] at h ⊢;obtain ⟨hok, h⟩ := bz h
  cases dst with
  | none => exact h.elim
  | some d =>
   obtain ⟨hz, h⟩ := az h;refine ⟨d, .ptr (al d) 0, .cells t (rl (T.ti t).zero), rfl, fun objs k => ?_⟩;simp only [fW, hok, hz, vT]
 | makeMap t r =>
  cases r with
  | some _ => exact h.elim
  | none =>
   simp only [aQ] at h ⊢
   cases dst with
   | none => exact h.elim
   | some d => exact ⟨d, .mapv (al d), .map [], rfl, fun objs k => Iff.rfl⟩
 | box t x =>
  simp only [aQ, bH] at h hc ⊢
  cases dst with
  | none => exact h.elim
  | some d =>
   try simp only at h hc ⊢
   split at hc
   ·cases hc
   ·rename_i hm;simp only [hm, co] at h ⊢;obtain ⟨hz, h⟩ := az h;refine ⟨d, .ptr (al d) 0, .cells t (ev x).cells, rfl, fun objs k => ?_⟩;simp only [hz, vT]
 | buildSlice t n ps =>
  simp only [aQ, bH] at h hc ⊢;obtain ⟨hok, h⟩ := bz h
  cases dst with
  | none =>
   exfalso;split at h <;> try exact h.elim
   obtain ⟨hoke, h⟩ := bz h;obtain ⟨hz, h⟩ := az h;obtain ⟨hn, h⟩ := az h;obtain ⟨l, hl⟩ := qS ev _ ps.toList 0 _ h;exact (hl _).1 h
  | some d =>
   try simp only at hc
   simp only [fW, hok];split at h <;> try exact h.elim
   rename_i e hd
   try simp only [hd]
   obtain ⟨hoke, h⟩ := bz h
   try simp only [hoke]
   obtain ⟨hz, h⟩ := az h;obtain ⟨hn, h⟩ := az h;simp only [hz, hn, vT];obtain ⟨l, hl⟩ := qS ev (T.ti e).size ps.toList 0 _ h;split at hc
   ·rename_i hm;simp only [hm] at h hl ⊢;exact ⟨d, .sl (some (al d)) (T.ti e).size l, .row e (T.ti e).size l.length, rfl, fun objs k => hl _⟩
   ·rename_i hm;split at hc
    ·rename_i hm2;simp only [hm, hm2] at h hl ⊢;exact ⟨d, .slm (al d) 0 l.length l.length, .cells e l.flatten, rfl, fun objs k => hl _⟩
    ·cases hc
 | load t x => simp only [bH] at hc; split at hc <;> cases hc
 | lookup t n x ok => simp only [bH] at hc; split at hc <;> cases hc
 | convert s d x => simp only [bH] at hc; split at hc <;> cases hc
 | call c =>
  simp only [bH] at hc;split at hc
  ·split at hc
   ·split at hc <;> cases hc
   ·cases hc
  ·split at hc
   ·split at hc
    ·split at hc <;> cases hc
    ·cases hc
   ·cases hc
   ·cases hc
   ·cases hc
  ·cases hc
 | _ => simp [bH] at hc
theorem MP {s : List AV} {objs : List (Nm × aE)} {k0 : St → Prop} (hk : kcls an ops o s = .mk) (h : W P T an ops o ⟨s, objs⟩ k0) : ∃ d v X, o.dst = some d ∧ ∀ (s' : List AV) (objs' : List (Nm × aE)) (k : St → Prop), bS ops o s s' →
   (W P T an ops o ⟨s', objs'⟩ k ↔ ax objs' (al d) = none ∧ k ⟨gJ o.dst v s', iL objs' (al d) X⟩) := by
 rw [oB] at h;unfold kcls at hk;split at h
 ·rename_i hr;rw [hr] at hk;simp only at hk;obtain ⟨d, v, X, hd, hf⟩ := Mb hk h;refine ⟨d, v, X, hd, fun s' objs' k ha => ?_⟩;rw [oB, ha.runs, hr];simp only;rw [mj ha.ev, hf, pa]
 ·rename_i hr;rw [hr] at hk;simp only [kg] at hk;split at hk <;> cases hk
 ·exact h.elim
theorem IB {op : Op} {dst : Option Tmp} {ev : Operand → AV} (hc : bH an op dst ev = .call) (hp : eZ an op dst ev = true) {objs0 : List (Nm × aE)} {k0 : AV → List (Nm × aE) → Prop} (h : aQ P T an op dst ev objs0 k0) : ∃ d g args, dst = some d ∧ ∀ (objs : List (Nm × aE)) (k : AV → List (Nm × aE) → Prop), aQ P T an op dst ev objs k ↔ ag P g args [] fun r os => lJ (dI d [] 0) d [] os 0 objs fun o => k (kD (dI d [] 0) r) o := by
 cases op with
 | call c =>
  simp only [aQ, bH, eZ] at h hc hp ⊢;split at hp
  ·rename_i f hcal;simp only [hcal] at h hc ⊢;split at hc
   ·rename_i d;split at hp
    ·rename_i g first cap he
     simp only [he] at h ⊢;rw [co] at h;obtain ⟨hg, h⟩ := az h;split at hp
     ·rename_i hnm;refine ⟨d, g, nG (qK []) (q7 an (some d) ev c first cap), rfl, fun objs k => ?_⟩;simp only [co, hnm, hg, vT];exact Iff.rfl
     ·cases hp
    ·cases hp
   ·cases hc
  ·cases hp
 | load t x => simp only [bH] at hc; split at hc <;> cases hc
 | lookup t n x ok => simp only [bH] at hc; split at hc <;> cases hc
 | convert s d x => simp only [bH] at hc; split at hc <;> cases hc
 | box t x =>
  simp only [bH] at hc;split at hc
  ·split at hc <;> cases hc
  ·cases hc
 | buildSlice t n ps =>
  simp only [bH] at hc;split at hc
  ·split at hc
   ·cases hc
   ·split at hc <;> cases hc
  ·cases hc
 | _ => simp [bH] at hc
theorem FF {s : List AV} {objs : List (Nm × aE)} {k0 : St → Prop} (hk : kcls an ops o s = .call) (hp : eZ an o.op o.dst (evA s) = true) (h : W P T an ops o ⟨s, objs⟩ k0) : ∃ d g args, o.dst = some d ∧ ∀ (s' : List AV) (objs' : List (Nm × aE)) (k : St → Prop), bS ops o s s' →
   (W P T an ops o ⟨s', objs'⟩ k ↔ ag P g args [] fun r os => lJ (dI d [] 0) d [] os 0 objs' fun o' => k ⟨gJ o.dst (kD (dI d [] 0) r) s', o'⟩) := by
 rw [oB] at h;unfold kcls at hk;split at h
 ·rename_i hr;rw [hr] at hk;simp only at hk;obtain ⟨d, g, args, hd, hf⟩ := IB hk hp h;refine ⟨d, g, args, hd, fun s' objs' k ha => ?_⟩;rw [oB, ha.runs, hr];simp only;rw [mj ha.ev, hf]
 ·rename_i hr;rw [hr] at hk;simp only [kg] at hk;split at hk <;> cases hk
 ·exact h.elim
def mH (r : Nm → Nm) (d : Nat) : List aE → Nat → List (Nm × aE) → List (Nm × aE)
 | [], _, l => l
 | o :: os, j, l => mH r d os (j + 1) (iL l (ar d j) (rD r o))
def kN (r : Nm → Nm) (d : Nat) : List aE → Nat → List (Nm × aE) → Prop
 | [], _, _ => True
 | o :: os, j, l => ax l (ar d j) = none ∧ kN r d os (j + 1) (iL l (ar d j) (rD r o))
theorem tu {r : Nm → Nm} {d : Nat} : ∀ {os : List aE} {j : Nat} {l : List (Nm × aE)} {k : List (Nm × aE) → Prop}, lJ r d [] os j l k ↔ kN r d os j l ∧ k (mH r d os j l) := by
 intro os
 induction os with
 | nil => intro j l k; simp [lJ, kN, mH]
 | cons o os ih =>
  intro j l k;unfold lJ kN mH;rw [ij, pa, ih, and_assoc]
theorem ua {r : Nm → Nm} {d : Nat} {n : Nm} {X : aE} (hf : ∀ i, ar d i ≠ n) : ∀ {os : List aE} {j : Nat} {l : List (Nm × aE)}, ax l n = none → (kN r d os j (iL l n X) ↔ kN r d os j l) ∧ (kN r d os j l → mH r d os j (iL l n X) = iL (mH r d os j l) n X) := by
 intro os
 induction os with
 | nil => intro j l _; exact ⟨Iff.rfl, fun _ => rfl⟩
 | cons o os ih =>
  intro j l hn;unfold kN mH;by_cases hfr : ax l (ar d j) = none
  ·have h2 : ax (iL l (ar d j) (rD r o)) n = none := by
    rw [fK _ hfr]; simp [(hf j).symm, hn]
   obtain ⟨i1, i2⟩ := ih (j := j + 1) h2;have e : iL (iL l n X) (ar d j) (rD r o) = iL (iL l (ar d j) (rD r o)) n X := yJ (hf j).symm l;rw [e, i1, fK _ hn];exact ⟨by simp [hf j], fun h => i2 h.2⟩
  ·refine ⟨?_, fun h => absurd h.1 hfr⟩;rw [fK _ hn];simp [hf j, hfr]
theorem mE {r : Nm → Nm} {d : Nat} : ∀ {os : List aE} {j : Nat} {l : List (Nm × aE)}, kN r d os j l → ∀ m, (∀ x, ax l m = some x → ax (mH r d os j l) m = some x) ∧ ((∀ i, ar d i ≠ m) → ax (mH r d os j l) m = ax l m) := by
 intro os
 induction os with
 | nil => intro j l _ m; exact ⟨fun x h => h, fun _ => rfl⟩
 | cons o os ih =>
  intro j l h m;obtain ⟨h1, h2⟩ := h;obtain ⟨i1, i2⟩ := ih h2 m;unfold mH;refine ⟨fun x hx => i1 x ?_, fun hf => ?_⟩
  ·rw [fK _ h1];have : m ≠ ar d j := fun e => by rw [e, h1] at hx; cases hx
   simp [this, hx]
  ·rw [i2 hf, fK _ h1];simp [(hf j).symm]
end
end Go.Abs
