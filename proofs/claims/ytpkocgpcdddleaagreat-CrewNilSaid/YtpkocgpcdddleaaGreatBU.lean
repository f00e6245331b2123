/- The engine, part 18g: regions that draw their order: monotone; steps; reaching an operation. -/
import Derived.Test.YtpkocgpcdddleaaGreatBT
set_option linter.unusedVariables false
set_option linter.unusedSimpArgs false
namespace Go.Abs
open Go

theorem det_mono {α : Type} {F : (α → Prop) → Prop} (h : Det F) {K K' : α → Prop} (hK : F K) (hm : ∀ a, K a → K' a) : F K' := by
 obtain ⟨a, ha⟩ := h K hK
 exact (ha K').2 (hm a ((ha K).1 hK))

section
variable {P : Program} {T : Tab} {an : Ann} {ops : Array Oper} {E : Entry} {o : Oper}

theorem backK_mono {r : Nm → Nm} {d : Nat} : ∀ {ns : List Nm} {os : List AObj} {j : Nat} {l : List (Nm × AObj)} {k k' : List (Nm × AObj) → Prop}, backK r d ns os j l k → (∀ o, k o → k' o) → backK r d ns os j l k' := by
 intro ns os
 induction os generalizing ns with
 | nil => intro j l k k' h hm; cases ns with
  | nil => exact hm _ h
  | cons _ _ => exact h.elim
 | cons o os ih =>
  intro j l k k' h hm
  cases ns with
  | nil =>
   unfold backK at h ⊢
   rw [forceOb_eq] at h ⊢
   exact det_mono (det_objInsK _ _ _) h fun l' h => ih h hm
  | cons n ns =>
   unfold backK at h ⊢
   rw [forceOb_eq] at h ⊢
   exact det_mono (det_objSetK _ _ _) h fun l' h => ih h hm
theorem objsOfK_mono {objs : List (Nm × AObj)} {all : List Nm} : ∀ {ns : List Nm} {k k' : List AObj → Prop}, objsOfK objs all ns k → (∀ o, k o → k' o) → objsOfK objs all ns k' := by
 intro ns
 induction ns with
 | nil => intro k k' h hm; exact hm _ h
 | cons n ns ih =>
  intro k k' h hm
  unfold objsOfK at h ⊢
  cases ho : objGet objs n with
  | none => rw [ho] at h; exact h.elim
  | some o =>
   rw [ho] at h
   simp only at h ⊢
   obtain ⟨hs, h⟩ := must_elim h
   rw [forceOb_eq] at h
   refine must_intro hs ?_
   rw [forceOb_eq]
   exact ih h fun l h => hm _ h

theorem genOp_mono {op : Op} {dst : Option Tmp} {ev : Operand → AV} {objs : List (Nm × AObj)} {k k' : AV → List (Nm × AObj) → Prop} (h : genOp P T an op dst ev objs k) (hm : ∀ v o, k v o → k' v o) : genOp P T an op dst ev objs k' := by
 cases hc : isCallOp op with
 | false => exact det_mono (det_genOp hc dst ev objs) (K := fun p => k p.1 p.2) (K' := fun p => k' p.1 p.2) h fun p hp => hm _ _ hp
 | true =>
  cases op with
  | call c =>
   simp only [isCallOp] at hc
   split at hc
   ·rename_i f hf
    simp only [genOp, hf] at h ⊢
    generalize ev f = F at h ⊢
    cases F <;> try exact h.elim
    rename_i fn first cap
    cases fn <;> try exact h.elim
    rename_i g
    simp only [forceL_eq] at h ⊢
    obtain ⟨hg, h⟩ := must_elim h
    refine must_intro hg ?_
    unfold partK at h ⊢
    rw [forceN_eq] at h ⊢
    obtain ⟨hn, h⟩ := must_elim h
    refine must_intro hn (objsOfK_mono h fun os h => ?_)
    obtain ⟨hs, h⟩ := must_elim h
    refine must_intro hs (h.mono fun r os' h => backK_mono h fun o h => hm _ _ h)
   ·cases hc
  | _ => cases hc

theorem W_mono {st : St} {k k' : St → Prop} (h : W P T an ops o st k) (hm : ∀ st, k st → k' st) : W P T an ops o st k' := by
 obtain ⟨s, objs⟩ := st
 rw [W_iff] at h ⊢
 split at h
 ·exact genOp_mono h fun v o h => hm _ h
 ·exact hm _ h
 ·exact h

def addS (c : Cls) (i : Nat) (seen : List (Nat × Cls)) : List (Nat × Cls) :=
 match c with
 | .val [] => seen
 | c => (i, c) :: seen

theorem okAll_quiet {i : Nat} : ∀ (seen : List (Nat × Cls)), okAll ops i o (.val []) seen = true := by
 intro seen
 induction seen with
 | nil => rfl
 | cons p l ih =>
  obtain ⟨j, c⟩ := p
  unfold okAll
  cases afterN o.after.toList j
  ·have : compat c (.val []) = true := by
    cases c <;> first | rfl | (rename_i r; cases r <;> rfl)
   simp only [this, ih]
  ·exact ih
theorem okAll_mem {i : Nat} {c : Cls} : ∀ {seen : List (Nat × Cls)}, okAll ops i o c seen = true → ∀ {j cj}, (j, cj) ∈ seen → (afterN o.after.toList j = false ∧ befT ops i j = false) → compat cj c = true := by
 intro seen
 induction seen with
 | nil => intro _ j cj h; cases h
 | cons p l ih =>
  obtain ⟨j', c'⟩ := p
  intro h j cj hm hn
  unfold okAll at h
  rcases List.mem_cons.1 hm with e | hm
  ·simp only [Prod.mk.injEq] at e
   obtain ⟨rfl, rfl⟩ := e
   rw [hn.1] at h
   simp only at h
   cases hc : compat cj c
   ·rw [hc, hn.2] at h; cases h
   ·rfl
  ·split at h
   ·exact ih h hm hn
   ·split at h
    ·exact ih h hm hn
    ·split at h
     ·exact ih h hm hn
     ·cases h
theorem okAll_sub {i : Nat} {c : Cls} : ∀ {seen seen' : List (Nat × Cls)}, okAll ops i o c seen = true → (∀ e ∈ seen', e ∈ seen) → okAll ops i o c seen' = true := by
 intro seen seen' h
 induction seen' with
 | nil => intro _; rfl
 | cons p l ih =>
  obtain ⟨j, cj⟩ := p
  intro hs
  unfold okAll
  have hi := ih fun e he => hs e (by simp [he])
  cases hn : afterN o.after.toList j
  ·cases hb : befT ops i j
   ·simp only [okAll_mem h (hs (j, cj) (by simp)) ⟨hn, hb⟩]
    exact hi
   ·cases compat cj c
    ·exact hi
    ·exact hi
  ·exact hi

theorem awpDraw_cons {seen : List (Nat × Cls)} {i : Nat} {rest : List Nat} {s : List AV} {objs : List (Nm × AObj)} {k : St → Prop} : awpDraw P T an ops seen (i :: rest) ⟨s, objs⟩ k ↔
  ∃ o, ops[i]? = some o ∧ okAll ops i o (kcls an ops o s) seen = true ∧ plainOk (kcls an ops o s) (plainCall an o.op o.dst (evA s)) = true ∧
   W P T an ops o ⟨s, objs⟩ fun st => awpDraw P T an ops (addS (kcls an ops o s) i seen) rest st k := by
 conv => lhs; unfold awpDraw
 cases ops[i]? with
 | none => simp
 | some o =>
  simp only [Option.some.injEq, exists_eq_left']
  rw [guardK_iff]
  have hW := fun k' => W_iff (P := P) (T := T) (an := an) (ops := ops) (o := o) (s := s) (objs := objs) (k := k')
  simp only [hW]
  unfold kcls
  cases runs ops o s with
  | none => simp
  | some b =>
   cases b
   ·simp only
    cases clsOf an o.op o.dst (evA s) <;> simp only [skipCls, clsK, addS, okAll_quiet, plainOk, true_and, put_iff]
    constructor
    ·intro h
     obtain ⟨h1, h2⟩ := must_elim h
     exact ⟨h1, h2⟩
    ·rintro ⟨h1, h2⟩
     exact must_intro h1 h2
   ·simp only
    have e : ∀ k', awpOp P T an o ⟨s, objs⟩ k' ↔ genOp P T an o.op o.dst (evA s) objs fun v objs' => k' ⟨appD o.dst v s, objs'⟩ := by
     intro k'
     unfold awpOp
     have : (fun v objs' => put ⟨s, objs'⟩ o.dst v k') = fun v objs' => k' ⟨appD o.dst v s, objs'⟩ := by
      funext v objs'
      exact put_iff
     rw [this]
    have hm : ∀ (b b' : Bool) (A : Prop), must b (must b' A) ↔ b = true ∧ b' = true ∧ A := by
     intro b b' A
     cases b <;> cases b' <;> simp [must_t, must_f]
    cases clsOf an o.op o.dst (evA s) with
    | val r =>
     cases r with
     | nil => simp only [clsK, addS, okAll_quiet, plainOk, true_and, e]
     | cons n l => simp only [clsK, addS, plainOk, e, hm]
    | mk => simp only [clsK, addS, plainOk, e, hm]
    | call => simp only [clsK, addS, plainOk, e, hm]
    | wr => simp only [clsK, addS, plainOk, e, hm]

theorem addS_sub {c : Cls} {i : Nat} {seen seen' : List (Nat × Cls)} (h : ∀ e ∈ seen', e ∈ seen) : ∀ e ∈ addS c i seen', e ∈ addS c i seen := by
 intro e he
 unfold addS at he ⊢
 split at he
 ·exact h e he
 ·rcases List.mem_cons.1 he with rfl | he
  ·simp
  ·exact List.mem_cons_of_mem _ (h e he)
theorem addS_mem {c : Cls} {i : Nat} {seen : List (Nat × Cls)} (h : c ≠ .val []) : (i, c) ∈ addS c i seen := by
 unfold addS
 split
 ·exact absurd rfl h
 ·simp
theorem addS_old {c : Cls} {i : Nat} {seen : List (Nat × Cls)} : ∀ e ∈ seen, e ∈ addS c i seen := by
 intro e he
 unfold addS
 split
 ·exact he
 ·exact List.mem_cons_of_mem _ he

theorem draw_sub : ∀ {L : List Nat} {seen seen' : List (Nat × Cls)} {st : St} {k : St → Prop}, (∀ e ∈ seen', e ∈ seen) → awpDraw P T an ops seen L st k → awpDraw P T an ops seen' L st k := by
 intro L
 induction L with
 | nil => intro seen seen' st k _ h; exact h
 | cons i L ih =>
  intro seen seen' st k hs h
  obtain ⟨s, objs⟩ := st
  rw [awpDraw_cons] at h ⊢
  obtain ⟨o, h1, h2, h3, h4⟩ := h
  exact ⟨o, h1, okAll_sub h2 hs, h3, W_mono h4 fun st h => ih (addS_sub hs) h⟩

def Real (E : Entry) (st : St) : Prop := ∃ G a w, Inv E st G a w

theorem wp_exists {a : Act} {w : World} {next : Act → World → Prop} (h : o.wp P a w next fun _ _ _ => False) : ∃ a' w', next a' w' := by
 unfold Oper.wp at h
 generalize (execOp a.eval o).run P w = r at h
 cases r with
 | ok n w' =>
  cases n <;> simp only [Oper.upon] at h
  case value v => exact ⟨_, _, h⟩
  case skip => exact ⟨_, _, h⟩
  case defer d => exact ⟨_, _, h⟩
  case enter f args =>
   obtain ⟨e, w'', fr, hR, _⟩ := h []
   cases e with
   | returned v => exact ⟨_, _, hR⟩
   | panicked c => exact hR.elim
   | outgrown => exact (by obtain ⟨_, _, h⟩ := hR; exact h.elim)
  case row row args =>
   obtain ⟨v, w'', hR, _⟩ := h default []
   exact ⟨_, _, hR⟩
 | halt x w' => cases x <;> simp only [Oper.upon] at h

theorem real_step (hT : TabOk P T) {s : List AV} {objs : List (Nm × AObj)} {k : St → Prop} (hR : Real E ⟨s, objs⟩) (h : W P T an ops o ⟨s, objs⟩ k) : ∃ st1, Real E st1 ∧ k st1 := by
 obtain ⟨G, a, w, hI⟩ := hR
 unfold W at h
 rw [guardK_iff] at h
 split at h
 ·obtain ⟨a', w', st', G', h1, h2⟩ := wp_exists (op_sound (next := fun a' w' => ∃ st' G', Inv E st' G' a' w' ∧ k st') (Q := fun _ _ _ => False) hT hI h fun st' G' a' w' h1 h2 => ⟨st', G', h1, h2⟩)
  exact ⟨st', ⟨_, _, _, h1⟩, h2⟩
 ·have := put_sound (x := undef) (next := fun a' w' => ∃ st' G', Inv E st' G' a' w' ∧ k st') hI (by simp only [Rep]) h fun st' G' a' w' h1 h2 => ⟨st', G', h1, h2⟩
  obtain ⟨st', G', h1, h2⟩ := this
  exact ⟨st', ⟨_, _, _, h1⟩, h2⟩
 ·exact h.elim

def Grow (l l' : List (Nm × AObj)) : Prop := ∀ m x, objGet l m = some x → objGet l' m = some x
theorem Grow.refl (l : List (Nm × AObj)) : Grow l l := fun _ _ h => h
theorem Grow.trans {l l' l'' : List (Nm × AObj)} (h : Grow l l') (h' : Grow l' l'') : Grow l l'' := fun m x e => h' m x (h m x e)
theorem grow_ins {l : List (Nm × AObj)} {n : Nm} {x : AObj} (h : objGet l n = none) : Grow l (insL l n x) := by
 intro m y e
 rw [objGet_insL _ h]
 have : m ≠ n := fun e' => by rw [e', h] at e; cases e
 simp [this, e]

theorem W_grow {s : List AV} {objs : List (Nm × AObj)} {k : St → Prop} (hne : kcls an ops o s ≠ .wr) (hp : plainOk (kcls an ops o s) (plainCall an o.op o.dst (evA s)) = true) (h : W P T an ops o ⟨s, objs⟩ k) :
  W P T an ops o ⟨s, objs⟩ fun st => k st ∧ Grow objs st.objs := by
 cases hc : kcls an ops o s with
 | val r =>
  obtain ⟨hl, v, hv⟩ := W_val hc h
  have hv := fun k => hv s objs k (Agree.refl s) (fun _ _ => rfl)
  rw [hv] at h ⊢
  exact ⟨h, Grow.refl _⟩
 | mk =>
  obtain ⟨d, v, X, hd, hv⟩ := W_mk hc h
  have hv := fun k => hv s objs k (Agree.refl s)
  rw [hv] at h ⊢
  exact ⟨h.1, h.2, grow_ins h.1⟩
 | call =>
  rw [hc] at hp
  obtain ⟨d, g, args, hd, hv⟩ := W_call hc hp h
  have hv := fun k => hv s objs k (Agree.refl s)
  rw [hv] at h ⊢
  refine h.mono fun r os h => ?_
  rw [backK_iff] at h ⊢
  exact ⟨h.1, h.2, fun m x e => (objGet_insAll h.1 m).1 x e⟩
 | wr => exact absurd hc hne
end
end Go.Abs
