/- The engine, part 18f: what an operation of a region comes to. -/
import Derived.Test.YtpkocgpcdddleaaGreatBS
set_option linter.unusedVariables false
set_option linter.unusedSimpArgs false
namespace Go.Abs
open Go

section
variable {P : Program} {T : Tab} {an : Ann} {ops : Array Oper} {E : Entry} {o : Oper}

theorem notCall_val {op : Op} {dst : Option Tmp} {ev : Operand → AV} {r : List Nm} (h : clsOf an op dst ev = .val r) : isCallOp op = false := by
 cases op with
 | call c =>
  simp only [clsOf] at h
  simp only [isCallOp]
  split at h
  ·split at h
   ·split at h <;> cases h
   ·cases h
  ·rename_i e; rw [e]
  ·rename_i h1 h2
   split
   ·rename_i f hf; exact absurd hf (h1 f)
   ·rfl
 | _ => rfl

theorem val_live {op : Op} {dst : Option Tmp} {ev : Operand → AV} {r : List Nm} (hc : clsOf an op dst ev = .val r) {objs : List (Nm × AObj)} {k : AV → List (Nm × AObj) → Prop} (h : genOp P T an op dst ev objs k) :
  ∀ m ∈ r, ∃ x, objGet objs m = some x := by
 intro m hm
 cases op with
 | load t x =>
  simp only [genOp, clsOf] at hc h
  split at hc
  ·simp only [Cls.val.injEq] at hc
   subst hc
   rename_i n off he
   simp only [List.mem_singleton] at hm
   subst hm
   simp only [he] at h
   cases e : objGet objs m with
   | none => rw [e] at h; exact h.elim
   | some y => exact ⟨y, rfl⟩
  ·simp only [Cls.val.injEq] at hc
   subst hc
   rename_i n size ver i off he
   simp only [List.mem_singleton] at hm
   subst hm
   simp only [he] at h
   cases e : objGet objs m with
   | none => rw [e] at h; exact h.elim
   | some y => exact ⟨y, rfl⟩
  ·simp only [Cls.val.injEq] at hc; subst hc; cases hm
 | lookup t n x ok =>
  simp only [genOp, clsOf] at hc h
  split at hc
  ·simp only [Cls.val.injEq] at hc
   subst hc
   rename_i n' he
   simp only [List.mem_singleton] at hm
   subst hm
   simp only [he] at h
   split at h <;> try exact h.elim
   split at h <;> try exact h.elim
   obtain ⟨_, h⟩ := tyOk_elim h
   split at h <;> try exact h.elim
   rename_i e _
   cases e
   cases e : objGet objs m with
   | none => rw [e] at h; exact h.elim
   | some y => exact ⟨y, rfl⟩
  ·simp only [Cls.val.injEq] at hc; subst hc; cases hm
 | call c =>
  simp only [genOp, clsOf] at hc h
  split at hc
  ·split at hc
   ·split at hc <;> cases hc
   ·cases hc
  ·rename_i b hcal
   simp only [hcal] at h
   split at hc
   ·split at hc
    ·rename_i x hx
     split at hc
     ·simp only [Cls.val.injEq] at hc
      subst hc
      rename_i n he
      simp only [List.mem_singleton] at hm
      subst hm
      simp only [hx] at h
      cases hts : c.argTypes.toList with
      | nil => simp only [hts] at h
      | cons t ts =>
       cases ts with
       | cons _ _ => simp only [hts] at h
       | nil =>
        simp only [hts] at h
        obtain ⟨_, h⟩ := must_elim h
        rw [he] at h
        simp only [lenA] at h
        cases e : objGet objs m with
        | none => rw [e] at h; exact h.elim
        | some y => exact ⟨y, rfl⟩
     ·simp only [Cls.val.injEq] at hc; subst hc; cases hm
    ·simp only [Cls.val.injEq] at hc; subst hc; cases hm
   ·simp only [Cls.val.injEq] at hc; subst hc; cases hm
   ·simp only [Cls.val.injEq] at hc; subst hc; cases hm
   ·cases hc
  ·cases hc
 | convert s d x =>
  simp only [genOp, clsOf] at hc h
  split at hc
  ·simp only [Cls.val.injEq] at hc
   subst hc
   rename_i n size ver off len he
   simp only [List.mem_singleton] at hm
   subst hm
   obtain ⟨_, h⟩ := tyOk_elim h
   obtain ⟨_, h⟩ := tyOk_elim h
   rw [he] at h
   cases hD : (T.ti d).d <;> simp only [hD] at h
   split at h <;> try exact h.elim
   split at h <;> try exact h.elim
   cases e : objGet objs m with
   | none => rw [e] at h; exact h.elim
   | some y => exact ⟨y, rfl⟩
  ·simp only [Cls.val.injEq] at hc; subst hc; cases hm
 | box t x =>
  simp only [clsOf] at hc
  split at hc
  ·split at hc
   ·simp only [Cls.val.injEq] at hc; subst hc; cases hm
   ·cases hc
  ·cases hc
 | buildSlice t n ps =>
  simp only [clsOf] at hc
  split at hc
  ·split at hc
   ·cases hc
   ·split at hc
    ·cases hc
    ·simp only [Cls.val.injEq] at hc; subst hc; cases hm
  ·cases hc
 | _ => first | (simp only [clsOf, Cls.val.injEq] at hc; subst hc; cases hm) | (simp [clsOf] at hc)

theorem W_val {s : List AV} {objs : List (Nm × AObj)} {k0 : St → Prop} {r : List Nm} (hk : kcls an ops o s = .val r) (h : W P T an ops o ⟨s, objs⟩ k0) :
  (∀ m ∈ r, ∃ x, objGet objs m = some x) ∧ ∃ v, ∀ (s' : List AV) (objs' : List (Nm × AObj)) (k : St → Prop), Agree ops o s s' → (∀ m ∈ r, objGet objs' m = objGet objs m) →
   (W P T an ops o ⟨s', objs'⟩ k ↔ k ⟨appD o.dst v s', objs'⟩) := by
 rw [W_iff] at h
 unfold kcls at hk
 split at h
 ·rename_i hr
  rw [hr] at hk
  simp only at hk
  refine ⟨val_live hk h, ?_⟩
  obtain ⟨⟨v, o'⟩, hd⟩ := det_genOp (notCall_val hk) o.dst (evA s) objs (fun p => k0 ⟨appD o.dst p.1 s, p.2⟩) h
  refine ⟨v, fun s' objs' k ha hm => ?_⟩
  rw [W_iff, ha.runs, hr]
  simp only
  rw [genOp_congr ha.ev, val_objs hk hm]
  exact hd fun p => k ⟨appD o.dst p.1 s', objs'⟩
 ·rename_i hr
  rw [hr] at hk
  simp only at hk
  have : r = [] := by
   unfold skipCls at hk
   split at hk
   ·cases hk
   ·simp only [Cls.val.injEq] at hk; exact hk.symm
  subst this
  refine ⟨fun m hm => absurd hm (by simp), AV.val undef, fun s' objs' k ha hm => ?_⟩
  rw [W_iff, ha.runs, hr]
 ·exact h.elim

theorem mk_form {op : Op} {dst : Option Tmp} {ev : Operand → AV} (hc : clsOf an op dst ev = .mk) {objs0 : List (Nm × AObj)} {k0 : AV → List (Nm × AObj) → Prop} (h : genOp P T an op dst ev objs0 k0) :
  ∃ d v X, dst = some d ∧ ∀ (objs : List (Nm × AObj)) (k : AV → List (Nm × AObj) → Prop), genOp P T an op dst ev objs k ↔ objInsK objs (nameOf d) X fun o => k v o := by
 cases op with
 | alloc t =>
  simp only [genOp] at h ⊢
  obtain ⟨hok, h⟩ := tyOk_elim h
  cases dst with
  | none => exact h.elim
  | some d =>
   obtain ⟨hz, h⟩ := must_elim h
   refine ⟨d, .ptr (nameOf d) 0, .cells t (valsA (T.ti t).zero), rfl, fun objs k => ?_⟩
   simp only [tyOk, hok, hz, must_t]
 | makeMap t r =>
  cases r with
  | some _ => exact h.elim
  | none =>
   simp only [genOp] at h ⊢
   cases dst with
   | none => exact h.elim
   | some d => exact ⟨d, .mapv (nameOf d), .map [], rfl, fun objs k => Iff.rfl⟩
 | box t x =>
  simp only [genOp, clsOf] at h hc ⊢
  cases dst with
  | none => exact h.elim
  | some d =>
   try simp only at h hc ⊢
   split at hc
   ·cases hc
   ·rename_i hm
    simp only [hm, forceL_eq] at h ⊢
    obtain ⟨hz, h⟩ := must_elim h
    refine ⟨d, .ptr (nameOf d) 0, .cells t (ev x).cells, rfl, fun objs k => ?_⟩
    simp only [hz, must_t]
 | buildSlice t n ps =>
  simp only [genOp, clsOf] at h hc ⊢
  obtain ⟨hok, h⟩ := tyOk_elim h
  cases dst with
  | none =>
   exfalso
   split at h <;> try exact h.elim
   obtain ⟨hoke, h⟩ := tyOk_elim h
   obtain ⟨hz, h⟩ := must_elim h
   obtain ⟨hn, h⟩ := must_elim h
   obtain ⟨l, hl⟩ := det_elemsK ev _ ps.toList 0 _ h
   exact (hl _).1 h
  | some d =>
   try simp only at hc
   simp only [tyOk, hok]
   split at h <;> try exact h.elim
   rename_i e hd
   try simp only [hd]
   obtain ⟨hoke, h⟩ := tyOk_elim h
   try simp only [hoke]
   obtain ⟨hz, h⟩ := must_elim h
   obtain ⟨hn, h⟩ := must_elim h
   simp only [hz, hn, must_t]
   obtain ⟨l, hl⟩ := det_elemsK ev (T.ti e).size ps.toList 0 _ h
   split at hc
   ·rename_i hm
    simp only [hm] at h hl ⊢
    exact ⟨d, .sl (some (nameOf d)) (T.ti e).size l, .row e (T.ti e).size l.length, rfl, fun objs k => hl _⟩
   ·rename_i hm
    split at hc
    ·rename_i hm2
     simp only [hm, hm2] at h hl ⊢
     exact ⟨d, .slm (nameOf d) 0 l.length l.length, .cells e l.flatten, rfl, fun objs k => hl _⟩
    ·cases hc
 | load t x => simp only [clsOf] at hc; split at hc <;> cases hc
 | lookup t n x ok => simp only [clsOf] at hc; split at hc <;> cases hc
 | convert s d x => simp only [clsOf] at hc; split at hc <;> cases hc
 | call c =>
  simp only [clsOf] at hc
  split at hc
  ·split at hc
   ·split at hc <;> cases hc
   ·cases hc
  ·split at hc
   ·split at hc
    ·split at hc <;> cases hc
    ·cases hc
   ·cases hc
   ·cases hc
   ·cases hc
  ·cases hc
 | _ => simp [clsOf] at hc

theorem W_mk {s : List AV} {objs : List (Nm × AObj)} {k0 : St → Prop} (hk : kcls an ops o s = .mk) (h : W P T an ops o ⟨s, objs⟩ k0) :
  ∃ d v X, o.dst = some d ∧ ∀ (s' : List AV) (objs' : List (Nm × AObj)) (k : St → Prop), Agree ops o s s' →
   (W P T an ops o ⟨s', objs'⟩ k ↔ objGet objs' (nameOf d) = none ∧ k ⟨appD o.dst v s', insL objs' (nameOf d) X⟩) := by
 rw [W_iff] at h
 unfold kcls at hk
 split at h
 ·rename_i hr
  rw [hr] at hk
  simp only at hk
  obtain ⟨d, v, X, hd, hf⟩ := mk_form hk h
  refine ⟨d, v, X, hd, fun s' objs' k ha => ?_⟩
  rw [W_iff, ha.runs, hr]
  simp only
  rw [genOp_congr ha.ev, hf, objInsK_iff]
 ·rename_i hr
  rw [hr] at hk
  simp only [skipCls] at hk
  split at hk <;> cases hk
 ·exact h.elim

theorem call_form {op : Op} {dst : Option Tmp} {ev : Operand → AV} (hc : clsOf an op dst ev = .call) (hp : plainCall an op dst ev = true) {objs0 : List (Nm × AObj)} {k0 : AV → List (Nm × AObj) → Prop} (h : genOp P T an op dst ev objs0 k0) :
  ∃ d g args, dst = some d ∧ ∀ (objs : List (Nm × AObj)) (k : AV → List (Nm × AObj) → Prop), genOp P T an op dst ev objs k ↔ ACalls P g args [] fun r os => backK (backN d [] 0) d [] os 0 objs fun o => k (renA (backN d [] 0) r) o := by
 cases op with
 | call c =>
  simp only [genOp, clsOf, plainCall] at h hc hp ⊢
  split at hp
  ·rename_i f hcal
   simp only [hcal] at h hc ⊢
   split at hc
   ·rename_i d
    split at hp
    ·rename_i g first cap he
     simp only [he] at h ⊢
     rw [forceL_eq] at h
     obtain ⟨hg, h⟩ := must_elim h
     split at hp
     ·rename_i hnm
      refine ⟨d, g, renL (idxN []) (argsOf an (some d) ev c first cap), rfl, fun objs k => ?_⟩
      simp only [forceL_eq, hnm, hg, must_t]
      exact Iff.rfl
     ·cases hp
    ·cases hp
   ·cases hc
  ·cases hp
 | load t x => simp only [clsOf] at hc; split at hc <;> cases hc
 | lookup t n x ok => simp only [clsOf] at hc; split at hc <;> cases hc
 | convert s d x => simp only [clsOf] at hc; split at hc <;> cases hc
 | box t x =>
  simp only [clsOf] at hc
  split at hc
  ·split at hc <;> cases hc
  ·cases hc
 | buildSlice t n ps =>
  simp only [clsOf] at hc
  split at hc
  ·split at hc
   ·cases hc
   ·split at hc <;> cases hc
  ·cases hc
 | _ => simp [clsOf] at hc

theorem W_call {s : List AV} {objs : List (Nm × AObj)} {k0 : St → Prop} (hk : kcls an ops o s = .call) (hp : plainCall an o.op o.dst (evA s) = true) (h : W P T an ops o ⟨s, objs⟩ k0) :
  ∃ d g args, o.dst = some d ∧ ∀ (s' : List AV) (objs' : List (Nm × AObj)) (k : St → Prop), Agree ops o s s' →
   (W P T an ops o ⟨s', objs'⟩ k ↔ ACalls P g args [] fun r os => backK (backN d [] 0) d [] os 0 objs' fun o' => k ⟨appD o.dst (renA (backN d [] 0) r) s', o'⟩) := by
 rw [W_iff] at h
 unfold kcls at hk
 split at h
 ·rename_i hr
  rw [hr] at hk
  simp only at hk
  obtain ⟨d, g, args, hd, hf⟩ := call_form hk hp h
  refine ⟨d, g, args, hd, fun s' objs' k ha => ?_⟩
  rw [W_iff, ha.runs, hr]
  simp only
  rw [genOp_congr ha.ev, hf]
 ·rename_i hr
  rw [hr] at hk
  simp only [skipCls] at hk
  split at hk <;> cases hk
 ·exact h.elim

def insAll (r : Nm → Nm) (d : Nat) : List AObj → Nat → List (Nm × AObj) → List (Nm × AObj)
 | [], _, l => l
 | o :: os, j, l => insAll r d os (j + 1) (insL l (freshN d j) (renO r o))
def freeAll (r : Nm → Nm) (d : Nat) : List AObj → Nat → List (Nm × AObj) → Prop
 | [], _, _ => True
 | o :: os, j, l => objGet l (freshN d j) = none ∧ freeAll r d os (j + 1) (insL l (freshN d j) (renO r o))
theorem backK_iff {r : Nm → Nm} {d : Nat} : ∀ {os : List AObj} {j : Nat} {l : List (Nm × AObj)} {k : List (Nm × AObj) → Prop}, backK r d [] os j l k ↔ freeAll r d os j l ∧ k (insAll r d os j l) := by
 intro os
 induction os with
 | nil => intro j l k; simp [backK, freeAll, insAll]
 | cons o os ih =>
  intro j l k
  unfold backK freeAll insAll
  rw [forceOb_eq, objInsK_iff, ih, and_assoc]
theorem freeAll_ins {r : Nm → Nm} {d : Nat} {n : Nm} {X : AObj} (hf : ∀ i, freshN d i ≠ n) : ∀ {os : List AObj} {j : Nat} {l : List (Nm × AObj)}, objGet l n = none → (freeAll r d os j (insL l n X) ↔ freeAll r d os j l) ∧ (freeAll r d os j l → insAll r d os j (insL l n X) = insL (insAll r d os j l) n X) := by
 intro os
 induction os with
 | nil => intro j l _; exact ⟨Iff.rfl, fun _ => rfl⟩
 | cons o os ih =>
  intro j l hn
  unfold freeAll insAll
  by_cases hfr : objGet l (freshN d j) = none
  ·have h2 : objGet (insL l (freshN d j) (renO r o)) n = none := by
    rw [objGet_insL _ hfr]; simp [(hf j).symm, hn]
   obtain ⟨i1, i2⟩ := ih (j := j + 1) h2
   have e : insL (insL l n X) (freshN d j) (renO r o) = insL (insL l (freshN d j) (renO r o)) n X := insL_comm (hf j).symm l
   rw [e, i1, objGet_insL _ hn]
   exact ⟨by simp [hf j], fun h => i2 h.2⟩
  ·refine ⟨?_, fun h => absurd h.1 hfr⟩
   rw [objGet_insL _ hn]
   simp [hf j, hfr]
theorem objGet_insAll {r : Nm → Nm} {d : Nat} : ∀ {os : List AObj} {j : Nat} {l : List (Nm × AObj)}, freeAll r d os j l → ∀ m, (∀ x, objGet l m = some x → objGet (insAll r d os j l) m = some x) ∧ ((∀ i, freshN d i ≠ m) → objGet (insAll r d os j l) m = objGet l m) := by
 intro os
 induction os with
 | nil => intro j l _ m; exact ⟨fun x h => h, fun _ => rfl⟩
 | cons o os ih =>
  intro j l h m
  obtain ⟨h1, h2⟩ := h
  obtain ⟨i1, i2⟩ := ih h2 m
  unfold insAll
  refine ⟨fun x hx => i1 x ?_, fun hf => ?_⟩
  ·rw [objGet_insL _ h1]
   have : m ≠ freshN d j := fun e => by rw [e, h1] at hx; cases hx
   simp [this, hx]
  ·rw [i2 hf, objGet_insL _ h1]
   simp [(hf j).symm]
end
end Go.Abs
