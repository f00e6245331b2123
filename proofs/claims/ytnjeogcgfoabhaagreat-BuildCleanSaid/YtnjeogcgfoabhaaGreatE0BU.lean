/- The engine, BU. -/
import Derived.Test.YtnjeogcgfoabhaaGreatE0BT
set_option linter.unusedVariables false
set_option linter.unusedSimpArgs false
namespace Go.Abs
open Go
theorem wI {α : Type} {F : (α → Prop) → Prop} (h : Det F) {K K' : α → Prop} (hK : F K) (hm : ∀ a, K a → K' a) : F K' := by
 obtain ⟨a, ha⟩ := h K hK;exact (ha K').2 (hm a ((ha K).1 hK))
section
variable {P : Program} {T : Tab} {an : Ann} {ops : Array Oper} {E : dY} {o : Oper}
theorem Fu {r : Nm → Nm} {d : Nat} : ∀ {ns : List Nm} {os : List aF} {j : Nat} {l : List (Nm × aF)} {k k' : List (Nm × aF) → Prop}, lZ r d ns os j l k → (∀ o, k o → k' o) → lZ r d ns os j l k' := by
 intro ns os
 induction os generalizing ns with
 | nil => intro j l k k' h hm; cases ns with
  | nil => exact hm _ h
  | cons _ _ => exact h.elim
 | cons o os ih =>
  intro j l k k' h hm
  cases ns with
  | nil =>
   unfold lZ at h ⊢;rw [iq] at h ⊢;exact wI (iu _ _ _) h fun l' h => ih h hm
  | cons n ns =>
   unfold lZ at h ⊢;rw [iq] at h ⊢;exact wI (gp _ _ _) h fun l' h => ih h hm
theorem z8 {objs : List (Nm × aF)} {all : List Nm} : ∀ {ns : List Nm} {k k' : List aF → Prop}, nT objs all ns k → (∀ o, k o → k' o) → nT objs all ns k' := by
 intro ns
 induction ns with
 | nil => intro k k' h hm; exact hm _ h
 | cons n ns ih =>
  intro k k' h hm;unfold nT at h ⊢
  cases ho : az objs n with
  | none => rw [ho] at h; exact h.elim
  | some o =>
   rw [ho] at h;simp only at h ⊢;obtain ⟨hs, h⟩ := aA h;rw [iq] at h;refine ac hs ?_;rw [iq];exact ih h fun l h => hm _ h
theorem EO {op : Op} {dst : Option Tmp} {ev : Operand → AV} {objs : List (Nm × aF)} {k k' : AV → List (Nm × aF) → Prop} (h : aT P T an op dst ev objs k) (hm : ∀ v o, k v o → k' v o) : aT P T an op dst ev objs k' := by
 cases hc : np op with
 | false => exact wI (y0 hc dst ev objs) (K := fun p => k p.1 p.2) (K' := fun p => k' p.1 p.2) h fun p hp => hm _ _ hp
 | true =>
  cases op with
  | call c =>
   simp only [np] at hc;split at hc
   ·rename_i f hf;simp only [aT, hf] at h ⊢;generalize ev f = F at h ⊢
    cases F <;> try exact h.elim
    rename_i fn first cap
    cases fn <;> try exact h.elim
    rename_i g;simp only [cq] at h ⊢;obtain ⟨hg, h⟩ := aA h;refine ac hg ?_;unfold yF at h ⊢;rw [yW] at h ⊢;obtain ⟨hn, h⟩ := aA h;refine ac hn (z8 h fun os h => ?_);obtain ⟨hs, h⟩ := aA h;refine ac hs (h.mono fun r os' h => Fu h fun o h => hm _ _ h)
   ·cases hc
  | _ => cases hc
theorem iQ {st : St} {k k' : St → Prop} (h : W P T an ops o st k) (hm : ∀ st, k st → k' st) : W P T an ops o st k' := by
 obtain ⟨s, objs⟩ := st;rw [oF] at h ⊢;split at h
 ·exact EO h fun v o h => hm _ h
 ·exact hm _ h
 ·exact h
def pD (c : Cls) (i : Nat) (seen : List (Nat × Cls)) : List (Nat × Cls) :=
 match c with
 | .val [] => seen
 | c => (i, c) :: seen
theorem t6 {i : Nat} : ∀ (seen : List (Nat × Cls)), lP ops i o (.val []) seen = true := by
 intro seen
 induction seen with
 | nil => rfl
 | cons p l ih =>
  obtain ⟨j, c⟩ := p;unfold lP
  cases gK o.after.toList j
  ·have : pB c (.val []) = true := by
    cases c <;> first | rfl | (rename_i r; cases r <;> rfl)
   simp only [this, ih]
  ·exact ih
theorem pO {i : Nat} {c : Cls} : ∀ {seen : List (Nat × Cls)}, lP ops i o c seen = true → ∀ {j cj}, (j, cj) ∈ seen → (gK o.after.toList j = false ∧ C9 ops i j = false) → pB cj c = true := by
 intro seen
 induction seen with
 | nil => intro _ j cj h; cases h
 | cons p l ih =>
  obtain ⟨j', c'⟩ := p;intro h j cj hm hn;unfold lP at h;rcases List.mem_cons.1 hm with e | hm
  ·simp only [Prod.mk.injEq] at e;obtain ⟨rfl, rfl⟩ := e;rw [hn.1] at h;simp only at h
   cases hc : pB cj c
   ·rw [hc, hn.2] at h; cases h
   ·rfl
  ·split at h
   ·exact ih h hm hn
   ·split at h
    ·exact ih h hm hn
    ·split at h
     ·exact ih h hm hn
     ·cases h
theorem HH {i : Nat} {c : Cls} : ∀ {seen seen' : List (Nat × Cls)}, lP ops i o c seen = true → (∀ e ∈ seen', e ∈ seen) → lP ops i o c seen' = true := by
 intro seen seen' h
 induction seen' with
 | nil => intro _; rfl
 | cons p l ih =>
  obtain ⟨j, cj⟩ := p;intro hs;unfold lP;have hi := ih fun e he => hs e (by simp [he])
  cases hn : gK o.after.toList j
  ·cases hb : C9 ops i j
   ·simp only [pO h (hs (j, cj) (by simp)) ⟨hn, hb⟩];exact hi
   ·cases pB cj c
    ·exact hi
    ·exact hi
  ·exact hi
theorem cZ {seen : List (Nat × Cls)} {i : Nat} {rest : List Nat} {s : List AV} {objs : List (Nm × aF)} {k : St → Prop} : dc P T an ops seen (i :: rest) ⟨s, objs⟩ k ↔
  ∃ o, ops[i]? = some o ∧ lP ops i o (kcls an ops o s) seen = true ∧ jd (kcls an ops o s) (fj an o.op o.dst (evA s)) = true ∧
   W P T an ops o ⟨s, objs⟩ fun st => dc P T an ops (pD (kcls an ops o s) i seen) rest st k := by
 conv => lhs; unfold dc
 cases ops[i]? with
 | none => simp
 | some o =>
  simp only [Option.some.injEq, exists_eq_left'];rw [qQ];have hW := fun k' => oF (P := P) (T := T) (an := an) (ops := ops) (o := o) (s := s) (objs := objs) (k := k');simp only [hW];unfold kcls
  cases runs ops o s with
  | none => simp
  | some b =>
   cases b
   ·simp only
    cases bJ an o.op o.dst (evA s) <;> simp only [kD, xN, pD, t6, jd, true_and, uP]
    constructor
    ·intro h;obtain ⟨h1, h2⟩ := aA h;exact ⟨h1, h2⟩
    ·rintro ⟨h1, h2⟩;exact ac h1 h2
   ·simp only;have e : ∀ k', cn P T an o ⟨s, objs⟩ k' ↔ aT P T an o.op o.dst (evA s) objs fun v objs' => k' ⟨gO o.dst v s, objs'⟩ := by
     intro k';unfold cn;have : (fun v objs' => put ⟨s, objs'⟩ o.dst v k') = fun v objs' => k' ⟨gO o.dst v s, objs'⟩ := by
      funext v objs';exact uP
     rw [this]
    have hm : ∀ (b b' : Bool) (A : Prop), bV b (bV b' A) ↔ b = true ∧ b' = true ∧ A := by
     intro b b' A
     cases b <;> cases b' <;> simp [vZ, Ou]
    cases bJ an o.op o.dst (evA s) with
    | val r =>
     cases r with
     | nil => simp only [xN, pD, t6, jd, true_and, e]
     | cons n l => simp only [xN, pD, jd, e, hm]
    | mk => simp only [xN, pD, jd, e, hm]
    | call => simp only [xN, pD, jd, e, hm]
    | wr => simp only [xN, pD, jd, e, hm]
theorem Ld {c : Cls} {i : Nat} {seen seen' : List (Nat × Cls)} (h : ∀ e ∈ seen', e ∈ seen) : ∀ e ∈ pD c i seen', e ∈ pD c i seen := by
 intro e he;unfold pD at he ⊢;split at he
 ·exact h e he
 ·rcases List.mem_cons.1 he with rfl | he
  ·simp
  ·exact List.mem_cons_of_mem _ (h e he)
theorem Dh {c : Cls} {i : Nat} {seen : List (Nat × Cls)} (h : c ≠ .val []) : (i, c) ∈ pD c i seen := by
 unfold pD;split
 ·exact absurd rfl h
 ·simp
theorem w9 {c : Cls} {i : Nat} {seen : List (Nat × Cls)} : ∀ e ∈ seen, e ∈ pD c i seen := by
 intro e he;unfold pD;split
 ·exact he
 ·exact List.mem_cons_of_mem _ he
theorem CF : ∀ {L : List Nat} {seen seen' : List (Nat × Cls)} {st : St} {k : St → Prop}, (∀ e ∈ seen', e ∈ seen) → dc P T an ops seen L st k → dc P T an ops seen' L st k := by
 intro L
 induction L with
 | nil => intro seen seen' st k _ h; exact h
 | cons i L ih =>
  intro seen seen' st k hs h;obtain ⟨s, objs⟩ := st;rw [cZ] at h ⊢;obtain ⟨o, h1, h2, h3, h4⟩ := h;exact ⟨o, h1, HH h2 hs, h3, iQ h4 fun st h => ih (Ld hs) h⟩
def A6 (E : dY) (st : St) : Prop := ∃ G a w, Inv E st G a w
theorem GY {a : Act} {w : World} {next : Act → World → Prop} (h : o.wp P a w next fun _ _ _ => False) : ∃ a' w', next a' w' := by
 unfold Oper.wp at h;generalize (execOp a.eval o).run P w = r at h
 cases r with
 | ok n w' =>
  cases n <;> simp only [Oper.upon] at h
  case value v => exact ⟨_, _, h⟩
  case skip => exact ⟨_, _, h⟩
  case defer d => exact ⟨_, _, h⟩
  case enter f args =>
   obtain ⟨e, w'', fr, hR, _⟩ := h []
   cases e with
   | returned v => exact ⟨_, _, hR⟩
   | panicked c => exact hR.elim
   | outgrown => exact (by obtain ⟨_, _, h⟩ := hR; exact h.elim)
  case row row args =>
   obtain ⟨v, w'', hR, _⟩ := h default [];exact ⟨_, _, hR⟩
 | halt x w' => cases x <;> simp only [Oper.upon] at h
theorem lw (hT : cg P T) {s : List AV} {objs : List (Nm × aF)} {k : St → Prop} (hR : A6 E ⟨s, objs⟩) (h : W P T an ops o ⟨s, objs⟩ k) : ∃ st1, A6 E st1 ∧ k st1 := by
 obtain ⟨G, a, w, hI⟩ := hR;unfold W at h;rw [qQ] at h;split at h
 ·obtain ⟨a', w', st', G', h1, h2⟩ := GY (vS (next := fun a' w' => ∃ st' G', Inv E st' G' a' w' ∧ k st') (Q := fun _ _ _ => False) hT hI h fun st' G' a' w' h1 h2 => ⟨st', G', h1, h2⟩);exact ⟨st', ⟨_, _, _, h1⟩, h2⟩
 ·have := kn (x := undef) (next := fun a' w' => ∃ st' G', Inv E st' G' a' w' ∧ k st') hI (by simp only [Rep]) h fun st' G' a' w' h1 h2 => ⟨st', G', h1, h2⟩;obtain ⟨st', G', h1, h2⟩ := this;exact ⟨st', ⟨_, _, _, h1⟩, h2⟩
 ·exact h.elim
def sN (l l' : List (Nm × aF)) : Prop := ∀ m x, az l m = some x → az l' m = some x
theorem sN.refl (l : List (Nm × aF)) : sN l l := fun _ _ h => h
theorem sN.trans {l l' l'' : List (Nm × aF)} (h : sN l l') (h' : sN l' l'') : sN l l'' := fun m x e => h' m x (h m x e)
theorem J3 {l : List (Nm × aF)} {n : Nm} {x : aF} (h : az l n = none) : sN l (iN l n x) := by
 intro m y e;rw [fP _ h];have : m ≠ n := fun e' => by rw [e', h] at e; cases e
 simp [this, e]
theorem FG {s : List AV} {objs : List (Nm × aF)} {k : St → Prop} (hne : kcls an ops o s ≠ .wr) (hp : jd (kcls an ops o s) (fj an o.op o.dst (evA s)) = true) (h : W P T an ops o ⟨s, objs⟩ k) :
  W P T an ops o ⟨s, objs⟩ fun st => k st ∧ sN objs st.objs := by
 cases hc : kcls an ops o s with
 | val r =>
  obtain ⟨hl, v, hv⟩ := zm hc h;have hv := fun k => hv s objs k (bW.refl s) (fun _ _ => rfl);rw [hv] at h ⊢;exact ⟨h, sN.refl _⟩
 | mk =>
  obtain ⟨d, v, X, hd, hv⟩ := MP hc h;have hv := fun k => hv s objs k (bW.refl s);rw [hv] at h ⊢;exact ⟨h.1, h.2, J3 h.1⟩
 | call =>
  rw [hc] at hp;obtain ⟨d, g, args, hd, hv⟩ := FH hc hp h;have hv := fun k => hv s objs k (bW.refl s);rw [hv] at h ⊢;refine h.mono fun r os h => ?_;rw [tB] at h ⊢;exact ⟨h.1, h.2, fun m x e => (mQ h.1 m).1 x e⟩
 | wr => exact absurd hc hne
end
end Go.Abs
