/- The engine, BT. -/
import Derived.Test.YtnjeogcgfoabhaaGreatE0BS
set_option linter.unusedVariables false
set_option linter.unusedSimpArgs false
namespace Go.Abs
open Go
section
variable {P : Program} {T : Tab} {an : Ann} {ops : Array Oper} {E : dX} {o : Oper}
theorem BN {op : Op} {dst : Option Tmp} {ev : Operand → AV} {r : List Nm} (h : bI an op dst ev = .val r) : m8 op = false := by
 cases op with
 | call c =>
  simp only [bI] at h;simp only [m8];split at h
  ·split at h
   ·split at h <;> cases h
   ·cases h
  ·rename_i e; rw [e]
  ·rename_i h1 h2;split
   ·rename_i f hf; exact absurd hf (h1 f)
   ·rfl
 | _ => rfl
theorem IP {op : Op} {dst : Option Tmp} {ev : Operand → AV} {r : List Nm} (hc : bI an op dst ev = .val r) {objs : List (Nm × aF)} {k : AV → List (Nm × aF) → Prop} (h : aR P T an op dst ev objs k) :
  ∀ m ∈ r, ∃ x, az objs m = some x := by
 intro m hm
 cases op with
 | load t x =>
  simp only [aR, bI] at hc h;split at hc
  ·simp only [Cls.val.injEq] at hc;subst hc;rename_i n off he;simp only [List.mem_singleton] at hm;subst hm;simp only [he] at h
   cases e : az objs m with
   | none => rw [e] at h; exact h.elim
   | some y => exact ⟨y, rfl⟩
  ·simp only [Cls.val.injEq] at hc;subst hc;rename_i n size ver i off he;simp only [List.mem_singleton] at hm;subst hm;simp only [he] at h
   cases e : az objs m with
   | none => rw [e] at h; exact h.elim
   | some y => exact ⟨y, rfl⟩
  ·simp only [Cls.val.injEq] at hc; subst hc; cases hm
 | lookup t n x ok =>
  simp only [aR, bI] at hc h;split at hc
  ·simp only [Cls.val.injEq] at hc;subst hc;rename_i n' he;simp only [List.mem_singleton] at hm;subst hm;simp only [he] at h;split at h <;> try exact h.elim
   split at h <;> try exact h.elim
   obtain ⟨_, h⟩ := bA h;split at h <;> try exact h.elim
   rename_i e _
   cases e
   cases e : az objs m with
   | none => rw [e] at h; exact h.elim
   | some y => exact ⟨y, rfl⟩
  ·simp only [Cls.val.injEq] at hc; subst hc; cases hm
 | call c =>
  simp only [aR, bI] at hc h;split at hc
  ·split at hc
   ·split at hc <;> cases hc
   ·cases hc
  ·rename_i b hcal;simp only [hcal] at h;split at hc
   ·split at hc
    ·rename_i x hx;split at hc
     ·simp only [Cls.val.injEq] at hc;subst hc;rename_i n he;simp only [List.mem_singleton] at hm;subst hm;simp only [hx] at h
      cases hts : c.argTypes.toList with
      | nil => simp only [hts] at h
      | cons t ts =>
       cases ts with
       | cons _ _ => simp only [hts] at h
       | nil =>
        simp only [hts] at h;obtain ⟨_, h⟩ := aA h;rw [he] at h;simp only [xg] at h
        cases e : az objs m with
        | none => rw [e] at h; exact h.elim
        | some y => exact ⟨y, rfl⟩
     ·simp only [Cls.val.injEq] at hc; subst hc; cases hm
    ·simp only [Cls.val.injEq] at hc; subst hc; cases hm
   ·simp only [Cls.val.injEq] at hc; subst hc; cases hm
   ·simp only [Cls.val.injEq] at hc; subst hc; cases hm
   ·cases hc
  ·cases hc
 | convert s d x =>
  simp only [aR, bI] at hc h;split at hc
  ·simp only [Cls.val.injEq] at hc;subst hc;rename_i n size ver off len he;simp only [List.mem_singleton] at hm;subst hm;obtain ⟨_, h⟩ := bA h;obtain ⟨_, h⟩ := bA h;rw [he] at h
   cases hD : (T.ti d).d <;> simp only [hD] at h
   split at h <;> try exact h.elim
   split at h <;> try exact h.elim
   cases e : az objs m with
   | none => rw [e] at h; exact h.elim
   | some y => exact ⟨y, rfl⟩
  ·simp only [Cls.val.injEq] at hc; subst hc; cases hm
 | box t x =>
  simp only [bI] at hc;split at hc
  ·split at hc
   ·simp only [Cls.val.injEq] at hc; subst hc; cases hm
   ·cases hc
  ·cases hc
 | buildSlice t n ps =>
  simp only [bI] at hc;split at hc
  ·split at hc
   ·cases hc
   ·split at hc
    ·cases hc
    ·simp only [Cls.val.injEq] at hc; subst hc; cases hm
  ·cases hc
 | _ => first | (simp only [bI, Cls.val.injEq] at hc; subst hc; cases hm) | (simp [bI] at hc)
theorem y5 {s : List AV} {objs : List (Nm × aF)} {k0 : St → Prop} {r : List Nm} (hk : kcls an ops o s = .val r) (h : W P T an ops o ⟨s, objs⟩ k0) :
  (∀ m ∈ r, ∃ x, az objs m = some x) ∧ ∃ v, ∀ (s' : List AV) (objs' : List (Nm × aF)) (k : St → Prop), bV ops o s s' → (∀ m ∈ r, az objs' m = az objs m) →
   (W P T an ops o ⟨s', objs'⟩ k ↔ k ⟨gI o.dst v s', objs'⟩) := by
 rw [oo] at h;unfold kcls at hk;split at h
 ·rename_i hr;rw [hr] at hk;simp only at hk;refine ⟨IP hk h, ?_⟩;obtain ⟨⟨v, o'⟩, hd⟩ := yL (BN hk) o.dst (evA s) objs (fun p => k0 ⟨gI o.dst p.1 s, p.2⟩) h;refine ⟨v, fun s' objs' k ha hm => ?_⟩;rw [oo, ha.runs, hr];simp only;rw [mn ha.ev, IN hk hm];exact hd fun p => k ⟨gI o.dst p.1 s', objs'⟩
 ·rename_i hr;rw [hr] at hk;simp only at hk;have : r = [] := by
   unfold ku at hk;split at hk
   ·cases hk
   ·simp only [Cls.val.injEq] at hk; exact hk.symm
  subst this;refine ⟨fun m hm => absurd hm (by simp), AV.val undef, fun s' objs' k ha hm => ?_⟩;rw [oo, ha.runs, hr]
 ·exact h.elim
theorem LM {op : Op} {dst : Option Tmp} {ev : Operand → AV} (hc : bI an op dst ev = .mk) {objs0 : List (Nm × aF)} {k0 : AV → List (Nm × aF) → Prop} (h : aR P T an op dst ev objs0 k0) :
  ∃ d v X, dst = some d ∧ ∀ (objs : List (Nm × aF)) (k : AV → List (Nm × aF) → Prop), aR P T an op dst ev objs k ↔ eQ objs (ak d) X fun o => k v o := by
 cases op with
 | alloc t =>
  simp only [aR] at h ⊢;obtain ⟨hok, h⟩ := bA h
  cases dst with
  | none => exact h.elim
  | some d =>
   obtain ⟨hz, h⟩ := aA h;refine ⟨d, .ptr (ak d) 0, .cells t (qY (T.ti t).zero), rfl, fun objs k => ?_⟩;simp only [fY, hok, hz, vD]
 | makeMap t r =>
  cases r with
  | some _ => exact h.elim
  | none =>
   simp only [aR] at h ⊢
   cases dst with
   | none => exact h.elim
   | some d => exact ⟨d, .mapv (ak d), .map [], rfl, fun objs k => Iff.rfl⟩
 | box t x =>
  simp only [aR, bI] at h hc ⊢
  cases dst with
  | none => exact h.elim
  | some d =>
   try simp only at h hc ⊢
   split at hc
   ·cases hc
   ·rename_i hm;simp only [hm, co] at h ⊢;obtain ⟨hz, h⟩ := aA h;refine ⟨d, .ptr (ak d) 0, .cells t (ev x).cells, rfl, fun objs k => ?_⟩;simp only [hz, vD]
 | buildSlice t n ps =>
  simp only [aR, bI] at h hc ⊢;obtain ⟨hok, h⟩ := bA h
  cases dst with
  | none =>
   exfalso;split at h <;> try exact h.elim
   obtain ⟨hoke, h⟩ := bA h;obtain ⟨hz, h⟩ := aA h;obtain ⟨hn, h⟩ := aA h;obtain ⟨l, hl⟩ := qH ev _ ps.toList 0 _ h;exact (hl _).1 h
  | some d =>
   try simp only at hc
   simp only [fY, hok];split at h <;> try exact h.elim
   rename_i e hd
   try simp only [hd]
   obtain ⟨hoke, h⟩ := bA h
   try simp only [hoke]
   obtain ⟨hz, h⟩ := aA h;obtain ⟨hn, h⟩ := aA h;simp only [hz, hn, vD];obtain ⟨l, hl⟩ := qH ev (T.ti e).size ps.toList 0 _ h;split at hc
   ·rename_i hm;simp only [hm] at h hl ⊢;exact ⟨d, .sl (some (ak d)) (T.ti e).size l, .row e (T.ti e).size l.length, rfl, fun objs k => hl _⟩
   ·rename_i hm;split at hc
    ·rename_i hm2;simp only [hm, hm2] at h hl ⊢;exact ⟨d, .slm (ak d) 0 l.length l.length, .cells e l.flatten, rfl, fun objs k => hl _⟩
    ·cases hc
 | load t x => simp only [bI] at hc; split at hc <;> cases hc
 | lookup t n x ok => simp only [bI] at hc; split at hc <;> cases hc
 | convert s d x => simp only [bI] at hc; split at hc <;> cases hc
 | call c =>
  simp only [bI] at hc;split at hc
  ·split at hc
   ·split at hc <;> cases hc
   ·cases hc
  ·split at hc
   ·split at hc
    ·split at hc <;> cases hc
    ·cases hc
   ·cases hc
   ·cases hc
   ·cases hc
  ·cases hc
 | _ => simp [bI] at hc
theorem Mv {s : List AV} {objs : List (Nm × aF)} {k0 : St → Prop} (hk : kcls an ops o s = .mk) (h : W P T an ops o ⟨s, objs⟩ k0) :
  ∃ d v X, o.dst = some d ∧ ∀ (s' : List AV) (objs' : List (Nm × aF)) (k : St → Prop), bV ops o s s' →
   (W P T an ops o ⟨s', objs'⟩ k ↔ az objs' (ak d) = none ∧ k ⟨gI o.dst v s', iG objs' (ak d) X⟩) := by
 rw [oo] at h;unfold kcls at hk;split at h
 ·rename_i hr;rw [hr] at hk;simp only at hk;obtain ⟨d, v, X, hd, hf⟩ := LM hk h;refine ⟨d, v, X, hd, fun s' objs' k ha => ?_⟩;rw [oo, ha.runs, hr];simp only;rw [mn ha.ev, hf, oY]
 ·rename_i hr;rw [hr] at hk;simp only [ku] at hk;split at hk <;> cases hk
 ·exact h.elim
theorem Ic {op : Op} {dst : Option Tmp} {ev : Operand → AV} (hc : bI an op dst ev = .call) (hp : fg an op dst ev = true) {objs0 : List (Nm × aF)} {k0 : AV → List (Nm × aF) → Prop} (h : aR P T an op dst ev objs0 k0) :
  ∃ d g args, dst = some d ∧ ∀ (objs : List (Nm × aF)) (k : AV → List (Nm × aF) → Prop), aR P T an op dst ev objs k ↔ ag P g args [] fun r os => lR (dO d [] 0) d [] os 0 objs fun o => k (kN (dO d [] 0) r) o := by
 cases op with
 | call c =>
  simp only [aR, bI, fg] at h hc hp ⊢;split at hp
  ·rename_i f hcal;simp only [hcal] at h hc ⊢;split at hc
   ·rename_i d;split at hp
    ·rename_i g first cap he
     simp only [he] at h ⊢;rw [co] at h;obtain ⟨hg, h⟩ := aA h;split at hp
     ·rename_i hnm;refine ⟨d, g, nD (qz []) (qO an (some d) ev c first cap), rfl, fun objs k => ?_⟩;simp only [co, hnm, hg, vD];exact Iff.rfl
     ·cases hp
    ·cases hp
   ·cases hc
  ·cases hp
 | load t x => simp only [bI] at hc; split at hc <;> cases hc
 | lookup t n x ok => simp only [bI] at hc; split at hc <;> cases hc
 | convert s d x => simp only [bI] at hc; split at hc <;> cases hc
 | box t x =>
  simp only [bI] at hc;split at hc
  ·split at hc <;> cases hc
  ·cases hc
 | buildSlice t n ps =>
  simp only [bI] at hc;split at hc
  ·split at hc
   ·cases hc
   ·split at hc <;> cases hc
  ·cases hc
 | _ => simp [bI] at hc
theorem Fo {s : List AV} {objs : List (Nm × aF)} {k0 : St → Prop} (hk : kcls an ops o s = .call) (hp : fg an o.op o.dst (evA s) = true) (h : W P T an ops o ⟨s, objs⟩ k0) :
  ∃ d g args, o.dst = some d ∧ ∀ (s' : List AV) (objs' : List (Nm × aF)) (k : St → Prop), bV ops o s s' →
   (W P T an ops o ⟨s', objs'⟩ k ↔ ag P g args [] fun r os => lR (dO d [] 0) d [] os 0 objs' fun o' => k ⟨gI o.dst (kN (dO d [] 0) r) s', o'⟩) := by
 rw [oo] at h;unfold kcls at hk;split at h
 ·rename_i hr;rw [hr] at hk;simp only at hk;obtain ⟨d, g, args, hd, hf⟩ := Ic hk hp h;refine ⟨d, g, args, hd, fun s' objs' k ha => ?_⟩;rw [oo, ha.runs, hr];simp only;rw [mn ha.ev, hf]
 ·rename_i hr;rw [hr] at hk;simp only [ku] at hk;split at hk <;> cases hk
 ·exact h.elim
def mI (r : Nm → Nm) (d : Nat) : List aF → Nat → List (Nm × aF) → List (Nm × aF)
 | [], _, l => l
 | o :: os, j, l => mI r d os (j + 1) (iG l (ay d j) (rj r o))
def kY (r : Nm → Nm) (d : Nat) : List aF → Nat → List (Nm × aF) → Prop
 | [], _, _ => True
 | o :: os, j, l => az l (ay d j) = none ∧ kY r d os (j + 1) (iG l (ay d j) (rj r o))
theorem td {r : Nm → Nm} {d : Nat} : ∀ {os : List aF} {j : Nat} {l : List (Nm × aF)} {k : List (Nm × aF) → Prop}, lR r d [] os j l k ↔ kY r d os j l ∧ k (mI r d os j l) := by
 intro os
 induction os with
 | nil => intro j l k; simp [lR, kY, mI]
 | cons o os ih =>
  intro j l k;unfold lR kY mI;rw [ic, oY, ih, and_assoc]
theorem tR {r : Nm → Nm} {d : Nat} {n : Nm} {X : aF} (hf : ∀ i, ay d i ≠ n) : ∀ {os : List aF} {j : Nat} {l : List (Nm × aF)}, az l n = none → (kY r d os j (iG l n X) ↔ kY r d os j l) ∧ (kY r d os j l → mI r d os j (iG l n X) = iG (mI r d os j l) n X) := by
 intro os
 induction os with
 | nil => intro j l _; exact ⟨Iff.rfl, fun _ => rfl⟩
 | cons o os ih =>
  intro j l hn;unfold kY mI;by_cases hfr : az l (ay d j) = none
  ·have h2 : az (iG l (ay d j) (rj r o)) n = none := by
    rw [fN _ hfr]; simp [(hf j).symm, hn]
   obtain ⟨i1, i2⟩ := ih (j := j + 1) h2;have e : iG (iG l n X) (ay d j) (rj r o) = iG (iG l (ay d j) (rj r o)) n X := yx (hf j).symm l;rw [e, i1, fN _ hn];exact ⟨by simp [hf j], fun h => i2 h.2⟩
  ·refine ⟨?_, fun h => absurd h.1 hfr⟩;rw [fN _ hn];simp [hf j, hfr]
theorem mE {r : Nm → Nm} {d : Nat} : ∀ {os : List aF} {j : Nat} {l : List (Nm × aF)}, kY r d os j l → ∀ m, (∀ x, az l m = some x → az (mI r d os j l) m = some x) ∧ ((∀ i, ay d i ≠ m) → az (mI r d os j l) m = az l m) := by
 intro os
 induction os with
 | nil => intro j l _ m; exact ⟨fun x h => h, fun _ => rfl⟩
 | cons o os ih =>
  intro j l h m;obtain ⟨h1, h2⟩ := h;obtain ⟨i1, i2⟩ := ih h2 m;unfold mI;refine ⟨fun x hx => i1 x ?_, fun hf => ?_⟩
  ·rw [fN _ h1];have : m ≠ ay d j := fun e => by rw [e, h1] at hx; cases hx
   simp [this, hx]
  ·rw [i2 hf, fN _ h1];simp [(hf j).symm]
end
end Go.Abs
