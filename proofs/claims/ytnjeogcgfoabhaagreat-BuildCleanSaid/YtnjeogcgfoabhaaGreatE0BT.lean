/- The engine, BT. -/
import Derived.Test.YtnjeogcgfoabhaaGreatE0BS
set_option linter.unusedVariables false
set_option linter.unusedSimpArgs false
namespace Go.Abs
open Go
section
variable {P : Program} {T : Tab} {an : Ann} {ops : Array Oper} {E : dY} {o : Oper}
theorem B6 {op : Op} {dst : Option Tmp} {ev : Operand → AV} {r : List Nm} (h : bJ an op dst ev = .val r) : np op = false := by
 cases op with
 | call c =>
  simp only [bJ] at h;simp only [np];split at h
  ·split at h
   ·split at h <;> cases h
   ·cases h
  ·rename_i e; rw [e]
  ·rename_i h1 h2;split
   ·rename_i f hf; exact absurd hf (h1 f)
   ·rfl
 | _ => rfl
theorem Jc {op : Op} {dst : Option Tmp} {ev : Operand → AV} {r : List Nm} (hc : bJ an op dst ev = .val r) {objs : List (Nm × aF)} {k : AV → List (Nm × aF) → Prop} (h : aT P T an op dst ev objs k) :
  ∀ m ∈ r, ∃ x, az objs m = some x := by
 intro m hm
 cases op with
 | load t x =>
  simp only [aT, bJ] at hc h;split at hc
  ·simp only [Cls.val.injEq] at hc;subst hc;rename_i n off he;simp only [List.mem_singleton] at hm;subst hm;simp only [he] at h
   cases e : az objs m with
   | none => rw [e] at h; exact h.elim
   | some y => exact ⟨y, rfl⟩
  ·simp only [Cls.val.injEq] at hc;subst hc;rename_i n size ver i off he;simp only [List.mem_singleton] at hm;subst hm;simp only [he] at h
   cases e : az objs m with
   | none => rw [e] at h; exact h.elim
   | some y => exact ⟨y, rfl⟩
  ·simp only [Cls.val.injEq] at hc; subst hc; cases hm
 | lookup t n x ok =>
  simp only [aT, bJ] at hc h;split at hc
  ·simp only [Cls.val.injEq] at hc;subst hc;rename_i n' he;simp only [List.mem_singleton] at hm;subst hm;simp only [he] at h;split at h <;> try exact h.elim
   split at h <;> try exact h.elim
   obtain ⟨_, h⟩ := bC h;split at h <;> try exact h.elim
   rename_i e _
   cases e
   cases e : az objs m with
   | none => rw [e] at h; exact h.elim
   | some y => exact ⟨y, rfl⟩
  ·simp only [Cls.val.injEq] at hc; subst hc; cases hm
 | call c =>
  simp only [aT, bJ] at hc h;split at hc
  ·split at hc
   ·split at hc <;> cases hc
   ·cases hc
  ·rename_i b hcal;simp only [hcal] at h;split at hc
   ·split at hc
    ·rename_i x hx;split at hc
     ·simp only [Cls.val.injEq] at hc;subst hc;rename_i n he;simp only [List.mem_singleton] at hm;subst hm;simp only [hx] at h
      cases hts : c.argTypes.toList with
      | nil => simp only [hts] at h
      | cons t ts =>
       cases ts with
       | cons _ _ => simp only [hts] at h
       | nil =>
        simp only [hts] at h;obtain ⟨_, h⟩ := aA h;rw [he] at h;simp only [xB] at h
        cases e : az objs m with
        | none => rw [e] at h; exact h.elim
        | some y => exact ⟨y, rfl⟩
     ·simp only [Cls.val.injEq] at hc; subst hc; cases hm
    ·simp only [Cls.val.injEq] at hc; subst hc; cases hm
   ·simp only [Cls.val.injEq] at hc; subst hc; cases hm
   ·simp only [Cls.val.injEq] at hc; subst hc; cases hm
   ·cases hc
  ·cases hc
 | convert s d x =>
  simp only [aT, bJ] at hc h;split at hc
  ·simp only [Cls.val.injEq] at hc;subst hc;rename_i n size ver off len he;simp only [List.mem_singleton] at hm;subst hm;obtain ⟨_, h⟩ := bC h;obtain ⟨_, h⟩ := bC h;rw [he] at h
   cases hD : (T.ti d).d <;> simp only [hD] at h
   split at h <;> try exact h.elim
   split at h <;> try exact h.elim
   cases e : az objs m with
   | none => rw [e] at h; exact h.elim
   | some y => exact ⟨y, rfl⟩
  ·simp only [Cls.val.injEq] at hc; subst hc; cases hm
 | box t x =>
  simp only [bJ] at hc;split at hc
  ·split at hc
   ·simp only [Cls.val.injEq] at hc; subst hc; cases hm
   ·cases hc
  ·cases hc
 | buildSlice t n ps =>
  simp only [bJ] at hc;split at hc
  ·split at hc
   ·cases hc
   ·split at hc
    ·cases hc
    ·simp only [Cls.val.injEq] at hc; subst hc; cases hm
  ·cases hc
 | _ => first | (simp only [bJ, Cls.val.injEq] at hc; subst hc; cases hm) | (simp [bJ] at hc)
theorem zm {s : List AV} {objs : List (Nm × aF)} {k0 : St → Prop} {r : List Nm} (hk : kcls an ops o s = .val r) (h : W P T an ops o ⟨s, objs⟩ k0) :
  (∀ m ∈ r, ∃ x, az objs m = some x) ∧ ∃ v, ∀ (s' : List AV) (objs' : List (Nm × aF)) (k : St → Prop), bW ops o s s' → (∀ m ∈ r, az objs' m = az objs m) →
   (W P T an ops o ⟨s', objs'⟩ k ↔ k ⟨gO o.dst v s', objs'⟩) := by
 rw [oF] at h;unfold kcls at hk;split at h
 ·rename_i hr;rw [hr] at hk;simp only at hk;refine ⟨Jc hk h, ?_⟩;obtain ⟨⟨v, o'⟩, hd⟩ := y0 (B6 hk) o.dst (evA s) objs (fun p => k0 ⟨gO o.dst p.1 s, p.2⟩) h;refine ⟨v, fun s' objs' k ha hm => ?_⟩;rw [oF, ha.runs, hr];simp only;rw [mB ha.ev, Jb hk hm];exact hd fun p => k ⟨gO o.dst p.1 s', objs'⟩
 ·rename_i hr;rw [hr] at hk;simp only at hk;have : r = [] := by
   unfold kD at hk;split at hk
   ·cases hk
   ·simp only [Cls.val.injEq] at hk; exact hk.symm
  subst this;refine ⟨fun m hm => absurd hm (by simp), AV.val undef, fun s' objs' k ha hm => ?_⟩;rw [oF, ha.runs, hr]
 ·exact h.elim
theorem Mb {op : Op} {dst : Option Tmp} {ev : Operand → AV} (hc : bJ an op dst ev = .mk) {objs0 : List (Nm × aF)} {k0 : AV → List (Nm × aF) → Prop} (h : aT P T an op dst ev objs0 k0) :
  ∃ d v X, dst = some d ∧ ∀ (objs : List (Nm × aF)) (k : AV → List (Nm × aF) → Prop), aT P T an op dst ev objs k ↔ eU objs (ak d) X fun o => k v o := by
 cases op with
 | alloc t =>
  simp only [aT] at h ⊢;obtain ⟨hok, h⟩ := bC h
  cases dst with
  | none => exact h.elim
  | some d =>
   obtain ⟨hz, h⟩ := aA h;refine ⟨d, .ptr (ak d) 0, .cells t (rv (T.ti t).zero), rfl, fun objs k => ?_⟩;simp only [f7, hok, hz, vZ]
 | makeMap t r =>
  cases r with
  | some _ => exact h.elim
  | none =>
   simp only [aT] at h ⊢
   cases dst with
   | none => exact h.elim
   | some d => exact ⟨d, .mapv (ak d), .map [], rfl, fun objs k => Iff.rfl⟩
 | box t x =>
  simp only [aT, bJ] at h hc ⊢
  cases dst with
  | none => exact h.elim
  | some d =>
   try simp only at h hc ⊢
   split at hc
   ·cases hc
   ·rename_i hm;simp only [hm, cq] at h ⊢;obtain ⟨hz, h⟩ := aA h;refine ⟨d, .ptr (ak d) 0, .cells t (ev x).cells, rfl, fun objs k => ?_⟩;simp only [hz, vZ]
 | buildSlice t n ps =>
  simp only [aT, bJ] at h hc ⊢;obtain ⟨hok, h⟩ := bC h
  cases dst with
  | none =>
   exfalso;split at h <;> try exact h.elim
   obtain ⟨hoke, h⟩ := bC h;obtain ⟨hz, h⟩ := aA h;obtain ⟨hn, h⟩ := aA h;obtain ⟨l, hl⟩ := qV ev _ ps.toList 0 _ h;exact (hl _).1 h
  | some d =>
   try simp only at hc
   simp only [f7, hok];split at h <;> try exact h.elim
   rename_i e hd
   try simp only [hd]
   obtain ⟨hoke, h⟩ := bC h
   try simp only [hoke]
   obtain ⟨hz, h⟩ := aA h;obtain ⟨hn, h⟩ := aA h;simp only [hz, hn, vZ];obtain ⟨l, hl⟩ := qV ev (T.ti e).size ps.toList 0 _ h;split at hc
   ·rename_i hm;simp only [hm] at h hl ⊢;exact ⟨d, .sl (some (ak d)) (T.ti e).size l, .row e (T.ti e).size l.length, rfl, fun objs k => hl _⟩
   ·rename_i hm;split at hc
    ·rename_i hm2;simp only [hm, hm2] at h hl ⊢;exact ⟨d, .slm (ak d) 0 l.length l.length, .cells e l.flatten, rfl, fun objs k => hl _⟩
    ·cases hc
 | load t x => simp only [bJ] at hc; split at hc <;> cases hc
 | lookup t n x ok => simp only [bJ] at hc; split at hc <;> cases hc
 | convert s d x => simp only [bJ] at hc; split at hc <;> cases hc
 | call c =>
  simp only [bJ] at hc;split at hc
  ·split at hc
   ·split at hc <;> cases hc
   ·cases hc
  ·split at hc
   ·split at hc
    ·split at hc <;> cases hc
    ·cases hc
   ·cases hc
   ·cases hc
   ·cases hc
  ·cases hc
 | _ => simp [bJ] at hc
theorem MP {s : List AV} {objs : List (Nm × aF)} {k0 : St → Prop} (hk : kcls an ops o s = .mk) (h : W P T an ops o ⟨s, objs⟩ k0) :
  ∃ d v X, o.dst = some d ∧ ∀ (s' : List AV) (objs' : List (Nm × aF)) (k : St → Prop), bW ops o s s' →
   (W P T an ops o ⟨s', objs'⟩ k ↔ az objs' (ak d) = none ∧ k ⟨gO o.dst v s', iN objs' (ak d) X⟩) := by
 rw [oF] at h;unfold kcls at hk;split at h
 ·rename_i hr;rw [hr] at hk;simp only at hk;obtain ⟨d, v, X, hd, hf⟩ := Mb hk h;refine ⟨d, v, X, hd, fun s' objs' k ha => ?_⟩;rw [oF, ha.runs, hr];simp only;rw [mB ha.ev, hf, pf]
 ·rename_i hr;rw [hr] at hk;simp only [kD] at hk;split at hk <;> cases hk
 ·exact h.elim
theorem IC {op : Op} {dst : Option Tmp} {ev : Operand → AV} (hc : bJ an op dst ev = .call) (hp : fj an op dst ev = true) {objs0 : List (Nm × aF)} {k0 : AV → List (Nm × aF) → Prop} (h : aT P T an op dst ev objs0 k0) :
  ∃ d g args, dst = some d ∧ ∀ (objs : List (Nm × aF)) (k : AV → List (Nm × aF) → Prop), aT P T an op dst ev objs k ↔ ag P g args [] fun r os => lZ (dP d [] 0) d [] os 0 objs fun o => k (kU (dP d [] 0) r) o := by
 cases op with
 | call c =>
  simp only [aT, bJ, fj] at h hc hp ⊢;split at hp
  ·rename_i f hcal;simp only [hcal] at h hc ⊢;split at hc
   ·rename_i d;split at hp
    ·rename_i g first cap he
     simp only [he] at h ⊢;rw [cq] at h;obtain ⟨hg, h⟩ := aA h;split at hp
     ·rename_i hnm;refine ⟨d, g, nN (qN []) (rc an (some d) ev c first cap), rfl, fun objs k => ?_⟩;simp only [cq, hnm, hg, vZ];exact Iff.rfl
     ·cases hp
    ·cases hp
   ·cases hc
  ·cases hp
 | load t x => simp only [bJ] at hc; split at hc <;> cases hc
 | lookup t n x ok => simp only [bJ] at hc; split at hc <;> cases hc
 | convert s d x => simp only [bJ] at hc; split at hc <;> cases hc
 | box t x =>
  simp only [bJ] at hc;split at hc
  ·split at hc <;> cases hc
  ·cases hc
 | buildSlice t n ps =>
  simp only [bJ] at hc;split at hc
  ·split at hc
   ·cases hc
   ·split at hc <;> cases hc
  ·cases hc
 | _ => simp [bJ] at hc
theorem FH {s : List AV} {objs : List (Nm × aF)} {k0 : St → Prop} (hk : kcls an ops o s = .call) (hp : fj an o.op o.dst (evA s) = true) (h : W P T an ops o ⟨s, objs⟩ k0) :
  ∃ d g args, o.dst = some d ∧ ∀ (s' : List AV) (objs' : List (Nm × aF)) (k : St → Prop), bW ops o s s' →
   (W P T an ops o ⟨s', objs'⟩ k ↔ ag P g args [] fun r os => lZ (dP d [] 0) d [] os 0 objs' fun o' => k ⟨gO o.dst (kU (dP d [] 0) r) s', o'⟩) := by
 rw [oF] at h;unfold kcls at hk;split at h
 ·rename_i hr;rw [hr] at hk;simp only at hk;obtain ⟨d, g, args, hd, hf⟩ := IC hk hp h;refine ⟨d, g, args, hd, fun s' objs' k ha => ?_⟩;rw [oF, ha.runs, hr];simp only;rw [mB ha.ev, hf]
 ·rename_i hr;rw [hr] at hk;simp only [kD] at hk;split at hk <;> cases hk
 ·exact h.elim
def mT (r : Nm → Nm) (d : Nat) : List aF → Nat → List (Nm × aF) → List (Nm × aF)
 | [], _, l => l
 | o :: os, j, l => mT r d os (j + 1) (iN l (ax d j) (rH r o))
def lg (r : Nm → Nm) (d : Nat) : List aF → Nat → List (Nm × aF) → Prop
 | [], _, _ => True
 | o :: os, j, l => az l (ax d j) = none ∧ lg r d os (j + 1) (iN l (ax d j) (rH r o))
theorem tB {r : Nm → Nm} {d : Nat} : ∀ {os : List aF} {j : Nat} {l : List (Nm × aF)} {k : List (Nm × aF) → Prop}, lZ r d [] os j l k ↔ lg r d os j l ∧ k (mT r d os j l) := by
 intro os
 induction os with
 | nil => intro j l k; simp [lZ, lg, mT]
 | cons o os ih =>
  intro j l k;unfold lZ lg mT;rw [iq, pf, ih, and_assoc]
theorem uf {r : Nm → Nm} {d : Nat} {n : Nm} {X : aF} (hf : ∀ i, ax d i ≠ n) : ∀ {os : List aF} {j : Nat} {l : List (Nm × aF)}, az l n = none → (lg r d os j (iN l n X) ↔ lg r d os j l) ∧ (lg r d os j l → mT r d os j (iN l n X) = iN (mT r d os j l) n X) := by
 intro os
 induction os with
 | nil => intro j l _; exact ⟨Iff.rfl, fun _ => rfl⟩
 | cons o os ih =>
  intro j l hn;unfold lg mT;by_cases hfr : az l (ax d j) = none
  ·have h2 : az (iN l (ax d j) (rH r o)) n = none := by
    rw [fP _ hfr]; simp [(hf j).symm, hn]
   obtain ⟨i1, i2⟩ := ih (j := j + 1) h2;have e : iN (iN l n X) (ax d j) (rH r o) = iN (iN l (ax d j) (rH r o)) n X := yO (hf j).symm l;rw [e, i1, fP _ hn];exact ⟨by simp [hf j], fun h => i2 h.2⟩
  ·refine ⟨?_, fun h => absurd h.1 hfr⟩;rw [fP _ hn];simp [hf j, hfr]
theorem mQ {r : Nm → Nm} {d : Nat} : ∀ {os : List aF} {j : Nat} {l : List (Nm × aF)}, lg r d os j l → ∀ m, (∀ x, az l m = some x → az (mT r d os j l) m = some x) ∧ ((∀ i, ax d i ≠ m) → az (mT r d os j l) m = az l m) := by
 intro os
 induction os with
 | nil => intro j l _ m; exact ⟨fun x h => h, fun _ => rfl⟩
 | cons o os ih =>
  intro j l h m;obtain ⟨h1, h2⟩ := h;obtain ⟨i1, i2⟩ := ih h2 m;unfold mT;refine ⟨fun x hx => i1 x ?_, fun hf => ?_⟩
  ·rw [fP _ h1];have : m ≠ ax d j := fun e => by rw [e, h1] at hx; cases hx
   simp [this, hx]
  ·rw [i2 hf, fP _ h1];simp [(hf j).symm]
end
end Go.Abs
