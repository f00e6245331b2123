/- The engine, BV. -/
import Derived.Test.YtnjeogcgfoabhaaGreatE0BU
set_option linter.unusedVariables false
set_option linter.unusedSimpArgs false
namespace Go.Abs
open Go
section
variable {P : Program} {T : Tab} {an : Ann} {ops : Array Oper} {E : dQ} {o oi : Oper}
def tw (an : Ann) (o : Oper) : Prop := bH an o.op o.dst (fun _ => .junk) = .wr
theorem uL {s : List AV} : kcls an ops o s = .wr ↔ tw an o := by
 unfold kcls tw;constructor
 ·intro h;split at h
  ·exact wI h _
  ·unfold kg at h;split at h
   ·rename_i e; exact wI e _
   ·cases h
 ·intro h;have := wI h (evA s);split
  ·exact this
  ·rw [this]; rfl
def Ap (ops : Array Oper) (ox oi : Oper) : Prop := (∀ d, ox.dst = some d → d ∉ oi.looksAt ops) ∧ (∀ d, ox.dst = some d → oi.dst ≠ some d) ∧ ∀ d, oi.dst = some d → d ∉ ox.looksAt ops
theorem gH {op : Op} {dst : Option Tmp} {ev ev' : Operand → AV} (h : ∀ x ∈ op.operands.toList, ev x = ev' x) : eZ an op dst ev = eZ an op dst ev' := by
 cases op with
 | call c =>
  have ha : ∀ x ∈ c.args.toList, ev x = ev' x := fun x hx => h x (by simp only [Op.operands, Call.operands]; cases c.callee <;> simp at hx ⊢ <;> simp [hx]);simp only [eZ]
  cases hcal : c.callee with
  | value f =>
   have hf := h f (by simp [Op.operands, Call.operands, hcal]);simp only [hf, sA ha]
  | invoke _ _ => rfl
  | builtin b => rfl
 | _ => rfl
theorem KB {s : List AV} {objs : List (Nm × aE)} {r : List Nm} (hR : A2 E ⟨s, objs⟩) (hk : kcls an ops o s = .val r) : ∀ m ∈ r, ∃ y, ax objs m = some y := by
 obtain ⟨G, a, w, hI⟩ := hR;have key : ∀ {x : Operand} {n : Nm}, (∃ b, G.ob n = some (.blk b)) → ∃ y, ax objs n = some y := fun ⟨b, hb⟩ => hI.wr.dom _ _ hb;unfold kcls at hk;intro m hm;split at hk
 ·cases hop : o.op with
  | load t x =>
   rw [hop] at hk;simp only [bH] at hk;split at hk <;> simp only [Cls.val.injEq] at hk <;> subst hk
   ·rename_i n off he;simp only [aaA] at hm;subst hm;have := hI.eval x;rw [he] at this;simp only [Rep] at this;obtain ⟨b, hb, _⟩ := this;exact hI.wr.dom _ _ hb
   ·rename_i n size ver i off he;simp only [aaA] at hm;subst hm;have := hI.eval x;rw [he] at this;simp only [Rep] at this;obtain ⟨_, u, top, hb, _⟩ := this;exact hI.wr.dom _ _ hb
   ·cases hm
  | lookup t n x ok =>
   rw [hop] at hk;simp only [bH] at hk;split at hk <;> simp only [Cls.val.injEq] at hk <;> subst hk
   ·rename_i n' he;simp only [aaA] at hm;subst hm;have := hI.eval n;rw [he] at this;simp only [Rep] at this;obtain ⟨b, hb, _⟩ := this;exact hI.wr.dom _ _ hb
   ·cases hm
  | convert s d x =>
   rw [hop] at hk;simp only [bH] at hk;split at hk <;> simp only [Cls.val.injEq] at hk <;> subst hk
   ·rename_i n size ver off len he;simp only [aaA] at hm;subst hm;have := hI.eval x;rw [he] at this;simp only [Rep] at this;obtain ⟨_, u, top, hb, _⟩ := this;exact hI.wr.dom _ _ hb
   ·cases hm
  | call c =>
   rw [hop] at hk;simp only [bH] at hk;split at hk
   ·split at hk
    ·split at hk <;> cases hk
    ·cases hk
   ·split at hk
    ·split at hk
     ·rename_i x _;split at hk <;> simp only [Cls.val.injEq] at hk <;> subst hk
      ·rename_i n he;simp only [aaA] at hm;subst hm;have := hI.eval x;rw [he] at this;simp only [Rep] at this;obtain ⟨b, hb, _⟩ := this;exact hI.wr.dom _ _ hb
      ·cases hm
     ·simp only [Cls.val.injEq] at hk; subst hk; cases hm
    ·simp only [Cls.val.injEq] at hk; subst hk; cases hm
    ·simp only [Cls.val.injEq] at hk; subst hk; cases hm
    ·cases hk
   ·cases hk
  | box t x =>
   rw [hop] at hk;simp only [bH] at hk;split at hk
   ·split at hk
    ·simp only [Cls.val.injEq] at hk; subst hk; cases hm
    ·cases hk
   ·cases hk
  | buildSlice t n ps =>
   rw [hop] at hk;simp only [bH] at hk;split at hk
   ·split at hk
    ·cases hk
    ·split at hk
     ·cases hk
     ·simp only [Cls.val.injEq] at hk; subst hk; cases hm
   ·cases hk
  | _ =>
   rw [hop] at hk
   first | (simp only [bH, Cls.val.injEq] at hk; subst hk; cases hm) | (simp [bH] at hk)
 ·unfold kg at hk;split at hk
  ·cases hk
  ·simp only [Cls.val.injEq] at hk; subst hk; cases hm
theorem nJ (hT : cd P T) {i : Nat} {B : List Nat} {k : St → Prop} : ∀ (A : List Nat) {seen : List (Nat × Cls)} {s : List AV} {objs : List (Nm × aE)}, (∀ x ∈ A, ∀ ox, ops[x]? = some ox → Ap ops ox oi) →
  A2 E ⟨s, objs⟩ → c7 P T an ops seen (A ++ i :: B) ⟨s, objs⟩ k →
  ∃ s1 objs1 seen1, A2 E ⟨s1, objs1⟩ ∧ c7 P T an ops seen1 (i :: B) ⟨s1, objs1⟩ k ∧ bS ops oi s s1 ∧ (∀ e ∈ seen, e ∈ seen1) ∧
   (∀ x ∈ A, ∀ ox, ops[x]? = some ox → tw an ox → (x, Cls.wr) ∈ seen1) ∧ ((∀ x ∈ A, ∀ ox, ops[x]? = some ox → ¬ tw an ox) → sI objs objs1) := by
 intro A
 induction A with
 | nil => intro seen s objs _ hR h; exact ⟨s, objs, seen, hR, h, bS.refl s, fun _ h => h, fun x hx => absurd hx (by simp), fun _ => sI.refl _⟩
 | cons a A ih =>
  intro seen s objs hA hR h;rw [aav, cR] at h;obtain ⟨oa, h1, h2, h3, h4⟩ := h;have h5 : W P T an ops oa ⟨s, objs⟩ fun st => (c7 P T an ops (pB (kcls an ops oa s) a seen) (A ++ i :: B) st k ∧ ∃ v, st.slots = gJ oa.dst v s) ∧ (¬ tw an oa → sI objs st.objs) := by
   by_cases hw : tw an oa
   ·exact iO (kh h4) fun st h => ⟨h, fun e => absurd hw e⟩
   ·exact iO (FE (fun e => hw (uL.1 e)) h3 (kh h4)) fun st h => ⟨h.1, fun _ => h.2⟩
  obtain ⟨⟨s1, objs1⟩, hR1, ⟨h6, v, h7⟩, h8⟩ := k9 hT hR h5;simp only at h7 h8;obtain ⟨s2, objs2, seen2, g1, g2, g3, g4, g5, g6⟩ := ih (fun x hx => hA x (by simp [hx])) hR1 h6;have hag : bS ops oi s s1 := by
   rw [h7]; exact bS.app (hA a (by simp) oa h1).1
  refine ⟨s2, objs2, seen2, g1, g2, hag.trans g3, fun e he => g4 e (wZ e he), fun x hx ox hox hwr => ?_, fun hnw => (h8 (hnw a (by simp) oa h1)).trans (g6 fun x hx => hnw x (by simp [hx]))⟩;rcases List.mem_cons.1 hx with rfl | hx
  ·rw [h1] at hox
   cases hox;have e : kcls an ops oa s = .wr := uL.2 hwr;rw [e] at g4;exact g4 _ (Df (by simp))
  ·exact g5 x hx ox hox hwr
def MN (x : Option (Nm × aE)) (l : List (Nm × aE)) : List (Nm × aE) :=
 match x with
 | none => l
 | some (n, X) => iL l n X
theorem pR (d e i : Nat) : ar d i ≠ al e := by
 intro h;have h : (2 * d + 200000 * (i + 1) + 65 : Nat) = 2 * e + 64 := h;omega
theorem Ey {d e : Nat} (h : al d = al e) : d = e := by
 have h : (2 * d + 64 : Nat) = 2 * e + 64 := h;omega
theorem Pn {s : List AV} {objs : List (Nm × aE)} {K : St → Prop} {xi : Option (Nm × aE)} (hx : ∀ n X, xi = some (n, X) → ∃ d, n = al d ∧ o.dst ≠ some d) (hn : ∀ n X, xi = some (n, X) → ax objs n = none)
  (hnw : xi ≠ none → ¬ tw an o) (hp : i6 (kcls an ops o s) (eZ an o.op o.dst (evA s)) = true)
  (h : W P T an ops o ⟨s, objs⟩ fun st => (∀ n X, xi = some (n, X) → ax st.objs n = none) → K ⟨st.slots, MN xi st.objs⟩) : W P T an ops o ⟨s, MN xi objs⟩ K := by
 cases xi with
 | none => exact iO h fun st h => h (fun _ _ e => by cases e)
 | some p =>
  obtain ⟨n, X⟩ := p;have hn := hn n X rfl;obtain ⟨d, rfl, hd⟩ := hx n X rfl;have hnw := hnw (by simp);simp only [Option.some.injEq, Prod.mk.injEq] at h;show W P T an ops o ⟨s, iL objs (al d) X⟩ K
  cases hc : kcls an ops o s with
  | val r =>
   obtain ⟨hl, v, hv⟩ := zh hc h;rw [hv s objs _ (bS.refl s) (fun _ _ => rfl)] at h;rw [hv s (iL objs (al d) X) _ (bS.refl s) (fun m hm => by
    obtain ⟨x, hx⟩ := hl m hm;rw [fK _ hn];have : m ≠ al d := fun e => by rw [e, hn] at hx; cases hx
    simp [this])]
   exact h (fun n' X' e => by obtain ⟨rfl, rfl⟩ := e; exact hn)
  | mk =>
   obtain ⟨e, v, Y, he, hv⟩ := MP hc h;rw [hv s objs _ (bS.refl s)] at h;rw [hv s (iL objs (al d) X) _ (bS.refl s)];have hne : al d ≠ al e := fun h => hd (by rw [Ey h]; exact he);refine ⟨by rw [fK _ hn]; simp [Ne.symm hne, h.1], ?_⟩;have := h.2 (fun n' X' e => by
    obtain ⟨rfl, rfl⟩ := e;rw [fK _ h.1]; simp [hne, hn])
   rw [yJ hne];exact this
  | call =>
   rw [hc] at hp;obtain ⟨e, g, args, he, hv⟩ := FF hc hp h;rw [hv s objs _ (bS.refl s)] at h;rw [hv s (iL objs (al d) X) _ (bS.refl s)];refine h.mono fun r os h => ?_;rw [tu] at h ⊢;obtain ⟨f1, f2⟩ := ua (r := dI e [] 0) (d := e) (X := X) (fun i => pR e d i) (os := os) (j := 0) hn;refine ⟨f1.2 h.1, ?_⟩;rw [f2 h.1];exact h.2 (fun n' X' e' => by
    obtain ⟨rfl, rfl⟩ := e';rw [(mE h.1 (al d)).2 (fun i => pR e d i)]; exact hn)
  | wr => exact absurd (uL.1 hc) hnw
theorem yP {i : Nat} {B : List Nat} {k : St → Prop} {vi : AV} {xi : Option (Nm × aE)} {r : List Nm} {s0 : List AV} {objs0 : List (Nm × aE)} (hi : ops[i]? = some oi)
  (Hi : ∀ (s' : List AV) (objs' : List (Nm × aE)) (k : St → Prop), bS ops oi s0 s' → (∀ m ∈ r, ax objs' m = ax objs0 m) → W P T an ops oi ⟨s', objs'⟩ k → k ⟨gJ oi.dst vi s', MN xi objs'⟩)
  (hlive : ∀ m ∈ r, ∃ x, ax objs0 m = some x) (hx : ∀ n X, xi = some (n, X) → ∃ d, n = al d ∧ oi.dst = some d) : ∀ (A : List Nat) {seen : List (Nat × Cls)} {s : List AV} {objs : List (Nm × aE)}, (∀ x ∈ A, ∀ ox, ops[x]? = some ox → Ap ops ox oi ∧ (tw an ox → r = [] ∧ xi = none)) →
   bS ops oi s0 s → (∀ m ∈ r, ax objs m = ax objs0 m) → (∀ n X, xi = some (n, X) → ax objs n = none) →
   c7 P T an ops seen (A ++ i :: B) ⟨s, objs⟩ k → c7 P T an ops seen (A ++ B) ⟨gJ oi.dst vi s, MN xi objs⟩ k := by
 intro A
 induction A with
 | nil =>
  intro seen s objs _ hag hr hn h;rw [aam, cR] at h;obtain ⟨o', h1, h2, h3, h4⟩ := h;rw [hi] at h1
  cases h1;exact CD (wZ) (Hi s objs _ hag hr h4)
 | cons a A ih =>
  intro seen s objs hA hag hr hn h;rw [aav, cR] at h;obtain ⟨oa, h1, h2, h3, h4⟩ := h;obtain ⟨⟨p1, p2, p3⟩, hw⟩ := hA a (by simp) oa h1;have haa : bS ops oa s (gJ oi.dst vi s) := bS.app p3;rw [aav, cR];refine ⟨oa, h1, by rw [haa.kcls]; exact h2, by rw [haa.kcls, gH haa.ev]; exact h3, ?_⟩;rw [haa.kcls];rw [uQ p3 (fun d hd e => p2 d e hd)];refine Pn (fun n X e => ?_) hn (fun hne hwr => hne (hw hwr).2) h3 ?_
  ·obtain ⟨d, e1, e2⟩ := hx n X e;exact ⟨d, e1, fun e3 => p2 d e3 e2⟩
  ·have h5 : W P T an ops oa ⟨s, objs⟩ fun st => (c7 P T an ops (pB (kcls an ops oa s) a seen) (A ++ i :: B) st k ∧ ∃ v, st.slots = gJ oa.dst v s) ∧ (¬ tw an oa → sI objs st.objs) := by
    by_cases hw : tw an oa
    ·exact iO (kh h4) fun st h => ⟨h, fun e => absurd hw e⟩
    ·exact iO (FE (fun e => hw (uL.1 e)) h3 (kh h4)) fun st h => ⟨h.1, fun _ => h.2⟩
   refine iO h5 ?_;rintro ⟨s1, objs1⟩ ⟨⟨g1, v, g2⟩, g3⟩ hn1;simp only at g2 g3 hn1;refine ih (fun x hx => hA x (by simp [hx])) (hag.trans (by rw [g2]; exact bS.app p1)) (fun m hm => ?_) hn1 g1;obtain ⟨x, hx⟩ := hlive m hm;by_cases hwr : tw an oa
   ·rw [(hw hwr).1] at hm; cases hm
   ·rw [g3 hwr m x (by rw [hr m hm]; exact hx), hx]
end
end Go.Abs
