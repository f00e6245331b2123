/- The engine, BU. -/
import Derived.Test.YtnjeogcgfoabhaaGreatE0BT
set_option linter.unusedVariables false
set_option linter.unusedSimpArgs false
namespace Go.Abs
open Go
theorem wC {α : Type} {F : (α → Prop) → Prop} (h : Det F) {K K' : α → Prop} (hK : F K) (hm : ∀ a, K a → K' a) : F K' := by
 obtain ⟨a, ha⟩ := h K hK;exact (ha K').2 (hm a ((ha K).1 hK))
section
variable {P : Program} {T : Tab} {an : Ann} {ops : Array Oper} {E : dQ} {o : Oper}
theorem Fr {r : Nm → Nm} {d : Nat} : ∀ {ns : List Nm} {os : List aE} {j : Nat} {l : List (Nm × aE)} {k k' : List (Nm × aE) → Prop}, lJ r d ns os j l k → (∀ o, k o → k' o) → lJ r d ns os j l k' := by
 intro ns os
 induction os generalizing ns with
 | nil => intro j l k k' h hm; cases ns with
  | nil => exact hm _ h
  | cons _ _ => exact h.elim
 | cons o os ih =>
  intro j l k k' h hm
  cases ns with
  | nil =>
   unfold lJ at h ⊢;rw [ij] at h ⊢;exact wC (ip _ _ _) h fun l' h => ih h hm
  | cons n ns =>
   unfold lJ at h ⊢;rw [ij] at h ⊢;exact wC (gh _ _ _) h fun l' h => ih h hm
theorem zX {objs : List (Nm × aE)} {all : List Nm} : ∀ {ns : List Nm} {k k' : List aE → Prop}, nN objs all ns k → (∀ o, k o → k' o) → nN objs all ns k' := by
 intro ns
 induction ns with
 | nil => intro k k' h hm; exact hm _ h
 | cons n ns ih =>
  intro k k' h hm;unfold nN at h ⊢
  cases ho : ax objs n with
  | none => rw [ho] at h; exact h.elim
  | some o =>
   rw [ho] at h;simp only at h ⊢;obtain ⟨hs, h⟩ := az h;rw [ij] at h;refine ac hs ?_;rw [ij];exact ih h fun l h => hm _ h
theorem EM {op : Op} {dst : Option Tmp} {ev : Operand → AV} {objs : List (Nm × aE)} {k k' : AV → List (Nm × aE) → Prop} (h : aQ P T an op dst ev objs k) (hm : ∀ v o, k v o → k' v o) : aQ P T an op dst ev objs k' := by
 cases hc : m9 op with
 | false => exact wC (yV hc dst ev objs) (K := fun p => k p.1 p.2) (K' := fun p => k' p.1 p.2) h fun p hp => hm _ _ hp
 | true =>
  cases op with
  | call c =>
   simp only [m9] at hc;split at hc
   ·rename_i f hf;simp only [aQ, hf] at h ⊢;generalize ev f = F at h ⊢
    cases F <;> try exact h.elim
    rename_i fn first cap
    cases fn <;> try exact h.elim
    rename_i g;simp only [co] at h ⊢;obtain ⟨hg, h⟩ := az h;refine ac hg ?_;unfold yA at h ⊢;rw [yR] at h ⊢;obtain ⟨hn, h⟩ := az h;refine ac hn (zX h fun os h => ?_);obtain ⟨hs, h⟩ := az h;refine ac hs (h.mono fun r os' h => Fr h fun o h => hm _ _ h)
   ·cases hc
  | _ => cases hc
theorem iO {st : St} {k k' : St → Prop} (h : W P T an ops o st k) (hm : ∀ st, k st → k' st) : W P T an ops o st k' := by
 obtain ⟨s, objs⟩ := st;rw [oB] at h ⊢;split at h
 ·exact EM h fun v o h => hm _ h
 ·exact hm _ h
 ·exact h
def pB (c : Cls) (i : Nat) (seen : List (Nat × Cls)) : List (Nat × Cls) :=
 match c with
 | .val [] => seen
 | c => (i, c) :: seen
theorem tV {i : Nat} : ∀ (seen : List (Nat × Cls)), lz ops i o (.val []) seen = true := by
 intro seen
 induction seen with
 | nil => rfl
 | cons p l ih =>
  obtain ⟨j, c⟩ := p;unfold lz
  cases gE o.after.toList j
  ·have : py c (.val []) = true := by
    cases c <;> first | rfl | (rename_i r; cases r <;> rfl)
   simp only [this, ih]
  ·exact ih
theorem pL {i : Nat} {c : Cls} : ∀ {seen : List (Nat × Cls)}, lz ops i o c seen = true → ∀ {j cj}, (j, cj) ∈ seen → (gE o.after.toList j = false ∧ C7 ops i j = false) → py cj c = true := by
 intro seen
 induction seen with
 | nil => intro _ j cj h; cases h
 | cons p l ih =>
  obtain ⟨j', c'⟩ := p;intro h j cj hm hn;unfold lz at h;rcases List.mem_cons.1 hm with e | hm
  ·simp only [Prod.mk.injEq] at e;obtain ⟨rfl, rfl⟩ := e;rw [hn.1] at h;simp only at h
   cases hc : py cj c
   ·rw [hc, hn.2] at h; cases h
   ·rfl
  ·split at h
   ·exact ih h hm hn
   ·split at h
    ·exact ih h hm hn
    ·split at h
     ·exact ih h hm hn
     ·cases h
theorem HG {i : Nat} {c : Cls} : ∀ {seen seen' : List (Nat × Cls)}, lz ops i o c seen = true → (∀ e ∈ seen', e ∈ seen) → lz ops i o c seen' = true := by
 intro seen seen' h
 induction seen' with
 | nil => intro _; rfl
 | cons p l ih =>
  obtain ⟨j, cj⟩ := p;intro hs;unfold lz;have hi := ih fun e he => hs e (by simp [he])
  cases hn : gE o.after.toList j
  ·cases hb : C7 ops i j
   ·simp only [pL h (hs (j, cj) (by simp)) ⟨hn, hb⟩];exact hi
   ·cases py cj c
    ·exact hi
    ·exact hi
  ·exact hi
theorem cR {seen : List (Nat × Cls)} {i : Nat} {rest : List Nat} {s : List AV} {objs : List (Nm × aE)} {k : St → Prop} : c7 P T an ops seen (i :: rest) ⟨s, objs⟩ k ↔
  ∃ o, ops[i]? = some o ∧ lz ops i o (kcls an ops o s) seen = true ∧ i6 (kcls an ops o s) (eZ an o.op o.dst (evA s)) = true ∧
   W P T an ops o ⟨s, objs⟩ fun st => c7 P T an ops (pB (kcls an ops o s) i seen) rest st k := by
 conv => lhs; unfold c7
 cases ops[i]? with
 | none => simp
 | some o =>
  simp only [Option.some.injEq, exists_eq_left'];rw [qN];have hW := fun k' => oB (P := P) (T := T) (an := an) (ops := ops) (o := o) (s := s) (objs := objs) (k := k');simp only [hW];unfold kcls
  cases runs ops o s with
  | none => simp
  | some b =>
   cases b
   ·simp only
    cases bH an o.op o.dst (evA s) <;> simp only [kg, xI, pB, tV, i6, true_and, uJ]
    constructor
    ·intro h;obtain ⟨h1, h2⟩ := az h;exact ⟨h1, h2⟩
    ·rintro ⟨h1, h2⟩;exact ac h1 h2
   ·simp only;have e : ∀ k', ck P T an o ⟨s, objs⟩ k' ↔ aQ P T an o.op o.dst (evA s) objs fun v objs' => k' ⟨gJ o.dst v s, objs'⟩ := by
     intro k';unfold ck;have : (fun v objs' => put ⟨s, objs'⟩ o.dst v k') = fun v objs' => k' ⟨gJ o.dst v s, objs'⟩ := by
      funext v objs';exact uJ
     rw [this]
    have hm : ∀ (b b' : Bool) (A : Prop), bQ b (bQ b' A) ↔ b = true ∧ b' = true ∧ A := by
     intro b b' A
     cases b <;> cases b' <;> simp [vT, Ou]
    cases bH an o.op o.dst (evA s) with
    | val r =>
     cases r with
     | nil => simp only [xI, pB, tV, i6, true_and, e]
     | cons n l => simp only [xI, pB, i6, e, hm]
    | mk => simp only [xI, pB, i6, e, hm]
    | call => simp only [xI, pB, i6, e, hm]
    | wr => simp only [xI, pB, i6, e, hm]
theorem Ld {c : Cls} {i : Nat} {seen seen' : List (Nat × Cls)} (h : ∀ e ∈ seen', e ∈ seen) : ∀ e ∈ pB c i seen', e ∈ pB c i seen := by
 intro e he;unfold pB at he ⊢;split at he
 ·exact h e he
 ·rcases List.mem_cons.1 he with rfl | he
  ·simp
  ·exact aaw _ (h e he)
theorem Df {c : Cls} {i : Nat} {seen : List (Nat × Cls)} (h : c ≠ .val []) : (i, c) ∈ pB c i seen := by
 unfold pB;split
 ·exact absurd rfl h
 ·simp
theorem wZ {c : Cls} {i : Nat} {seen : List (Nat × Cls)} : ∀ e ∈ seen, e ∈ pB c i seen := by
 intro e he;unfold pB;split
 ·exact he
 ·exact aaw _ he
theorem CD : ∀ {L : List Nat} {seen seen' : List (Nat × Cls)} {st : St} {k : St → Prop}, (∀ e ∈ seen', e ∈ seen) → c7 P T an ops seen L st k → c7 P T an ops seen' L st k := by
 intro L
 induction L with
 | nil => intro seen seen' st k _ h; exact h
 | cons i L ih =>
  intro seen seen' st k hs h;obtain ⟨s, objs⟩ := st;rw [cR] at h ⊢;obtain ⟨o, h1, h2, h3, h4⟩ := h;exact ⟨o, h1, HG h2 hs, h3, iO h4 fun st h => ih (Ld hs) h⟩
def A2 (E : dQ) (st : St) : Prop := ∃ G a w, Inv E st G a w
theorem GX {a : Act} {w : World} {next : Act → World → Prop} (h : o.wp P a w next fun _ _ _ => False) : ∃ a' w', next a' w' := by
 unfold Oper.wp at h;generalize (execOp a.eval o).run P w = r at h
 cases r with
 | ok n w' =>
  cases n <;> simp only [Oper.upon] at h
  case value v => exact ⟨_, _, h⟩
  case skip => exact ⟨_, _, h⟩
  case defer d => exact ⟨_, _, h⟩
  case enter f args =>
   obtain ⟨e, w'', fr, hR, _⟩ := h []
   cases e with
   | returned v => exact ⟨_, _, hR⟩
   | panicked c => exact hR.elim
   | outgrown => exact (by obtain ⟨_, _, h⟩ := hR; exact h.elim)
  case row row args =>
   obtain ⟨v, w'', hR, _⟩ := h default [];exact ⟨_, _, hR⟩
 | halt x w' => cases x <;> simp only [Oper.upon] at h
theorem k9 (hT : cd P T) {s : List AV} {objs : List (Nm × aE)} {k : St → Prop} (hR : A2 E ⟨s, objs⟩) (h : W P T an ops o ⟨s, objs⟩ k) : ∃ st1, A2 E st1 ∧ k st1 := by
 obtain ⟨G, a, w, hI⟩ := hR;unfold W at h;rw [qN] at h;split at h
 ·obtain ⟨a', w', st', G', h1, h2⟩ := GX (vM (next := fun a' w' => ∃ st' G', Inv E st' G' a' w' ∧ k st') (Q := fun _ _ _ => False) hT hI h fun st' G' a' w' h1 h2 => ⟨st', G', h1, h2⟩);exact ⟨st', ⟨_, _, _, h1⟩, h2⟩
 ·have := jW (x := undef) (next := fun a' w' => ∃ st' G', Inv E st' G' a' w' ∧ k st') hI (by simp only [Rep]) h fun st' G' a' w' h1 h2 => ⟨st', G', h1, h2⟩;obtain ⟨st', G', h1, h2⟩ := this;exact ⟨st', ⟨_, _, _, h1⟩, h2⟩
 ·exact h.elim
def sI (l l' : List (Nm × aE)) : Prop := ∀ m x, ax l m = some x → ax l' m = some x
theorem sI.refl (l : List (Nm × aE)) : sI l l := fun _ _ h => h
theorem sI.trans {l l' l'' : List (Nm × aE)} (h : sI l l') (h' : sI l' l'') : sI l l'' := fun m x e => h' m x (h m x e)
theorem J3 {l : List (Nm × aE)} {n : Nm} {x : aE} (h : ax l n = none) : sI l (iL l n x) := by
 intro m y e;rw [fK _ h];have : m ≠ n := fun e' => by rw [e', h] at e; cases e
 simp [this, e]
theorem FE {s : List AV} {objs : List (Nm × aE)} {k : St → Prop} (hne : kcls an ops o s ≠ .wr) (hp : i6 (kcls an ops o s) (eZ an o.op o.dst (evA s)) = true) (h : W P T an ops o ⟨s, objs⟩ k) : W P T an ops o ⟨s, objs⟩ fun st => k st ∧ sI objs st.objs := by
 cases hc : kcls an ops o s with
 | val r =>
  obtain ⟨hl, v, hv⟩ := zh hc h;have hv := fun k => hv s objs k (bS.refl s) (fun _ _ => rfl);rw [hv] at h ⊢;exact ⟨h, sI.refl _⟩
 | mk =>
  obtain ⟨d, v, X, hd, hv⟩ := MP hc h;have hv := fun k => hv s objs k (bS.refl s);rw [hv] at h ⊢;exact ⟨h.1, h.2, J3 h.1⟩
 | call =>
  rw [hc] at hp;obtain ⟨d, g, args, hd, hv⟩ := FF hc hp h;have hv := fun k => hv s objs k (bS.refl s);rw [hv] at h ⊢;refine h.mono fun r os h => ?_;rw [tu] at h ⊢;exact ⟨h.1, h.2, fun m x e => (mE h.1 m).1 x e⟩
 | wr => exact absurd hc hne
end
end Go.Abs
