/- The engine, BV. -/
import Derived.Test.YtnjeogcgfoabhaaGreatE0BU
set_option linter.unusedVariables false
set_option linter.unusedSimpArgs false
namespace Go.Abs
open Go
section
variable {P : Program} {T : Tab} {an : Ann} {ops : Array Oper} {E : dY} {o oi : Oper}
def tD (an : Ann) (o : Oper) : Prop := bJ an o.op o.dst (fun _ => .junk) = .wr
theorem uQ {s : List AV} : kcls an ops o s = .wr ↔ tD an o := by
 unfold kcls tD;constructor
 ·intro h;split at h
  ·exact wP h _
  ·unfold kD at h;split at h
   ·rename_i e; exact wP e _
   ·cases h
 ·intro h;have := wP h (evA s);split
  ·exact this
  ·rw [this]; rfl
def Ap (ops : Array Oper) (ox oi : Oper) : Prop := (∀ d, ox.dst = some d → d ∉ oi.looksAt ops) ∧ (∀ d, ox.dst = some d → oi.dst ≠ some d) ∧ ∀ d, oi.dst = some d → d ∉ ox.looksAt ops
theorem gM {op : Op} {dst : Option Tmp} {ev ev' : Operand → AV} (h : ∀ x ∈ op.operands.toList, ev x = ev' x) : fj an op dst ev = fj an op dst ev' := by
 cases op with
 | call c =>
  have ha : ∀ x ∈ c.args.toList, ev x = ev' x := fun x hx => h x (by simp only [Op.operands, Call.operands]; cases c.callee <;> simp at hx ⊢ <;> simp [hx]);simp only [fj]
  cases hcal : c.callee with
  | value f =>
   have hf := h f (by simp [Op.operands, Call.operands, hcal]);simp only [hf, sF ha]
  | invoke _ _ => rfl
  | builtin b => rfl
 | _ => rfl
theorem KB {s : List AV} {objs : List (Nm × aF)} {r : List Nm} (hR : A6 E ⟨s, objs⟩) (hk : kcls an ops o s = .val r) : ∀ m ∈ r, ∃ y, az objs m = some y := by
 obtain ⟨G, a, w, hI⟩ := hR;have key : ∀ {x : Operand} {n : Nm}, (∃ b, G.ob n = some (.blk b)) → ∃ y, az objs n = some y := fun ⟨b, hb⟩ => hI.wr.dom _ _ hb;unfold kcls at hk;intro m hm;split at hk
 ·cases hop : o.op with
  | load t x =>
   rw [hop] at hk;simp only [bJ] at hk;split at hk <;> simp only [Cls.val.injEq] at hk <;> subst hk
   ·rename_i n off he;simp only [List.mem_singleton] at hm;subst hm;have := hI.eval x;rw [he] at this;simp only [Rep] at this;obtain ⟨b, hb, _⟩ := this;exact hI.wr.dom _ _ hb
   ·rename_i n size ver i off he;simp only [List.mem_singleton] at hm;subst hm;have := hI.eval x;rw [he] at this;simp only [Rep] at this;obtain ⟨_, u, top, hb, _⟩ := this;exact hI.wr.dom _ _ hb
   ·cases hm
  | lookup t n x ok =>
   rw [hop] at hk;simp only [bJ] at hk;split at hk <;> simp only [Cls.val.injEq] at hk <;> subst hk
   ·rename_i n' he;simp only [List.mem_singleton] at hm;subst hm;have := hI.eval n;rw [he] at this;simp only [Rep] at this;obtain ⟨b, hb, _⟩ := this;exact hI.wr.dom _ _ hb
   ·cases hm
  | convert s d x =>
   rw [hop] at hk;simp only [bJ] at hk;split at hk <;> simp only [Cls.val.injEq] at hk <;> subst hk
   ·rename_i n size ver off len he;simp only [List.mem_singleton] at hm;subst hm;have := hI.eval x;rw [he] at this;simp only [Rep] at this;obtain ⟨_, u, top, hb, _⟩ := this;exact hI.wr.dom _ _ hb
   ·cases hm
  | call c =>
   rw [hop] at hk;simp only [bJ] at hk;split at hk
   ·split at hk
    ·split at hk <;> cases hk
    ·cases hk
   ·split at hk
    ·split at hk
     ·rename_i x _;split at hk <;> simp only [Cls.val.injEq] at hk <;> subst hk
      ·rename_i n he;simp only [List.mem_singleton] at hm;subst hm;have := hI.eval x;rw [he] at this;simp only [Rep] at this;obtain ⟨b, hb, _⟩ := this;exact hI.wr.dom _ _ hb
      ·cases hm
     ·simp only [Cls.val.injEq] at hk; subst hk; cases hm
    ·simp only [Cls.val.injEq] at hk; subst hk; cases hm
    ·simp only [Cls.val.injEq] at hk; subst hk; cases hm
    ·cases hk
   ·cases hk
  | box t x =>
   rw [hop] at hk;simp only [bJ] at hk;split at hk
   ·split at hk
    ·simp only [Cls.val.injEq] at hk; subst hk; cases hm
    ·cases hk
   ·cases hk
  | buildSlice t n ps =>
   rw [hop] at hk;simp only [bJ] at hk;split at hk
   ·split at hk
    ·cases hk
    ·split at hk
     ·cases hk
     ·simp only [Cls.val.injEq] at hk; subst hk; cases hm
   ·cases hk
  | _ =>
   rw [hop] at hk
   first | (simp only [bJ, Cls.val.injEq] at hk; subst hk; cases hm) | (simp [bJ] at hk)
 ·unfold kD at hk;split at hk
  ·cases hk
  ·simp only [Cls.val.injEq] at hk; subst hk; cases hm
theorem nP (hT : cg P T) {i : Nat} {B : List Nat} {k : St → Prop} : ∀ (A : List Nat) {seen : List (Nat × Cls)} {s : List AV} {objs : List (Nm × aF)}, (∀ x ∈ A, ∀ ox, ops[x]? = some ox → Ap ops ox oi) →
  A6 E ⟨s, objs⟩ → dc P T an ops seen (A ++ i :: B) ⟨s, objs⟩ k →
  ∃ s1 objs1 seen1, A6 E ⟨s1, objs1⟩ ∧ dc P T an ops seen1 (i :: B) ⟨s1, objs1⟩ k ∧ bW ops oi s s1 ∧ (∀ e ∈ seen, e ∈ seen1) ∧
   (∀ x ∈ A, ∀ ox, ops[x]? = some ox → tD an ox → (x, Cls.wr) ∈ seen1) ∧ ((∀ x ∈ A, ∀ ox, ops[x]? = some ox → ¬ tD an ox) → sN objs objs1) := by
 intro A
 induction A with
 | nil => intro seen s objs _ hR h; exact ⟨s, objs, seen, hR, h, bW.refl s, fun _ h => h, fun x hx => absurd hx (by simp), fun _ => sN.refl _⟩
 | cons a A ih =>
  intro seen s objs hA hR h;rw [List.cons_append, cZ] at h;obtain ⟨oa, h1, h2, h3, h4⟩ := h;have h5 : W P T an ops oa ⟨s, objs⟩ fun st => (dc P T an ops (pD (kcls an ops oa s) a seen) (A ++ i :: B) st k ∧ ∃ v, st.slots = gO oa.dst v s) ∧ (¬ tD an oa → sN objs st.objs) := by
   by_cases hw : tD an oa
   ·exact iQ (kF h4) fun st h => ⟨h, fun e => absurd hw e⟩
   ·exact iQ (FG (fun e => hw (uQ.1 e)) h3 (kF h4)) fun st h => ⟨h.1, fun _ => h.2⟩
  obtain ⟨⟨s1, objs1⟩, hR1, ⟨h6, v, h7⟩, h8⟩ := lw hT hR h5;simp only at h7 h8;obtain ⟨s2, objs2, seen2, g1, g2, g3, g4, g5, g6⟩ := ih (fun x hx => hA x (by simp [hx])) hR1 h6;have hag : bW ops oi s s1 := by
   rw [h7]; exact bW.app (hA a (by simp) oa h1).1
  refine ⟨s2, objs2, seen2, g1, g2, hag.trans g3, fun e he => g4 e (w9 e he), fun x hx ox hox hwr => ?_, fun hnw => (h8 (hnw a (by simp) oa h1)).trans (g6 fun x hx => hnw x (by simp [hx]))⟩;rcases List.mem_cons.1 hx with rfl | hx
  ·rw [h1] at hox
   cases hox;have e : kcls an ops oa s = .wr := uQ.2 hwr;rw [e] at g4;exact g4 _ (Dh (by simp))
  ·exact g5 x hx ox hox hwr
def MN (x : Option (Nm × aF)) (l : List (Nm × aF)) : List (Nm × aF) :=
 match x with
 | none => l
 | some (n, X) => iN l n X
theorem pU (d e i : Nat) : ax d i ≠ ak e := by
 intro h;have h : (2 * d + 200000 * (i + 1) + 65 : Nat) = 2 * e + 64 := h;omega
theorem EA {d e : Nat} (h : ak d = ak e) : d = e := by
 have h : (2 * d + 64 : Nat) = 2 * e + 64 := h;omega
theorem Pn {s : List AV} {objs : List (Nm × aF)} {K : St → Prop} {xi : Option (Nm × aF)} (hx : ∀ n X, xi = some (n, X) → ∃ d, n = ak d ∧ o.dst ≠ some d) (hn : ∀ n X, xi = some (n, X) → az objs n = none)
  (hnw : xi ≠ none → ¬ tD an o) (hp : jd (kcls an ops o s) (fj an o.op o.dst (evA s)) = true)
  (h : W P T an ops o ⟨s, objs⟩ fun st => (∀ n X, xi = some (n, X) → az st.objs n = none) → K ⟨st.slots, MN xi st.objs⟩) : W P T an ops o ⟨s, MN xi objs⟩ K := by
 cases xi with
 | none => exact iQ h fun st h => h (fun _ _ e => by cases e)
 | some p =>
  obtain ⟨n, X⟩ := p;have hn := hn n X rfl;obtain ⟨d, rfl, hd⟩ := hx n X rfl;have hnw := hnw (by simp);simp only [Option.some.injEq, Prod.mk.injEq] at h;show W P T an ops o ⟨s, iN objs (ak d) X⟩ K
  cases hc : kcls an ops o s with
  | val r =>
   obtain ⟨hl, v, hv⟩ := zm hc h;rw [hv s objs _ (bW.refl s) (fun _ _ => rfl)] at h;rw [hv s (iN objs (ak d) X) _ (bW.refl s) (fun m hm => by
    obtain ⟨x, hx⟩ := hl m hm;rw [fP _ hn];have : m ≠ ak d := fun e => by rw [e, hn] at hx; cases hx
    simp [this])]
   exact h (fun n' X' e => by obtain ⟨rfl, rfl⟩ := e; exact hn)
  | mk =>
   obtain ⟨e, v, Y, he, hv⟩ := MP hc h;rw [hv s objs _ (bW.refl s)] at h;rw [hv s (iN objs (ak d) X) _ (bW.refl s)];have hne : ak d ≠ ak e := fun h => hd (by rw [EA h]; exact he);refine ⟨by rw [fP _ hn]; simp [Ne.symm hne, h.1], ?_⟩;have := h.2 (fun n' X' e => by
    obtain ⟨rfl, rfl⟩ := e;rw [fP _ h.1]; simp [hne, hn])
   rw [yO hne];exact this
  | call =>
   rw [hc] at hp;obtain ⟨e, g, args, he, hv⟩ := FH hc hp h;rw [hv s objs _ (bW.refl s)] at h;rw [hv s (iN objs (ak d) X) _ (bW.refl s)];refine h.mono fun r os h => ?_;rw [tB] at h ⊢;obtain ⟨f1, f2⟩ := uf (r := dP e [] 0) (d := e) (X := X) (fun i => pU e d i) (os := os) (j := 0) hn;refine ⟨f1.2 h.1, ?_⟩;rw [f2 h.1];exact h.2 (fun n' X' e' => by
    obtain ⟨rfl, rfl⟩ := e';rw [(mQ h.1 (ak d)).2 (fun i => pU e d i)]; exact hn)
  | wr => exact absurd (uQ.1 hc) hnw
theorem yU {i : Nat} {B : List Nat} {k : St → Prop} {vi : AV} {xi : Option (Nm × aF)} {r : List Nm} {s0 : List AV} {objs0 : List (Nm × aF)} (hi : ops[i]? = some oi)
  (Hi : ∀ (s' : List AV) (objs' : List (Nm × aF)) (k : St → Prop), bW ops oi s0 s' → (∀ m ∈ r, az objs' m = az objs0 m) → W P T an ops oi ⟨s', objs'⟩ k → k ⟨gO oi.dst vi s', MN xi objs'⟩)
  (hlive : ∀ m ∈ r, ∃ x, az objs0 m = some x) (hx : ∀ n X, xi = some (n, X) → ∃ d, n = ak d ∧ oi.dst = some d) :
  ∀ (A : List Nat) {seen : List (Nat × Cls)} {s : List AV} {objs : List (Nm × aF)}, (∀ x ∈ A, ∀ ox, ops[x]? = some ox → Ap ops ox oi ∧ (tD an ox → r = [] ∧ xi = none)) →
   bW ops oi s0 s → (∀ m ∈ r, az objs m = az objs0 m) → (∀ n X, xi = some (n, X) → az objs n = none) →
   dc P T an ops seen (A ++ i :: B) ⟨s, objs⟩ k → dc P T an ops seen (A ++ B) ⟨gO oi.dst vi s, MN xi objs⟩ k := by
 intro A
 induction A with
 | nil =>
  intro seen s objs _ hag hr hn h;rw [List.nil_append, cZ] at h;obtain ⟨o', h1, h2, h3, h4⟩ := h;rw [hi] at h1
  cases h1;exact CF (w9) (Hi s objs _ hag hr h4)
 | cons a A ih =>
  intro seen s objs hA hag hr hn h;rw [List.cons_append, cZ] at h;obtain ⟨oa, h1, h2, h3, h4⟩ := h;obtain ⟨⟨p1, p2, p3⟩, hw⟩ := hA a (by simp) oa h1;have haa : bW ops oa s (gO oi.dst vi s) := bW.app p3;rw [List.cons_append, cZ];refine ⟨oa, h1, by rw [haa.kcls]; exact h2, by rw [haa.kcls, gM haa.ev]; exact h3, ?_⟩;rw [haa.kcls];rw [uV p3 (fun d hd e => p2 d e hd)];refine Pn (fun n X e => ?_) hn (fun hne hwr => hne (hw hwr).2) h3 ?_
  ·obtain ⟨d, e1, e2⟩ := hx n X e;exact ⟨d, e1, fun e3 => p2 d e3 e2⟩
  ·have h5 : W P T an ops oa ⟨s, objs⟩ fun st => (dc P T an ops (pD (kcls an ops oa s) a seen) (A ++ i :: B) st k ∧ ∃ v, st.slots = gO oa.dst v s) ∧ (¬ tD an oa → sN objs st.objs) := by
    by_cases hw : tD an oa
    ·exact iQ (kF h4) fun st h => ⟨h, fun e => absurd hw e⟩
    ·exact iQ (FG (fun e => hw (uQ.1 e)) h3 (kF h4)) fun st h => ⟨h.1, fun _ => h.2⟩
   refine iQ h5 ?_;rintro ⟨s1, objs1⟩ ⟨⟨g1, v, g2⟩, g3⟩ hn1;simp only at g2 g3 hn1;refine ih (fun x hx => hA x (by simp [hx])) (hag.trans (by rw [g2]; exact bW.app p1)) (fun m hm => ?_) hn1 g1;obtain ⟨x, hx⟩ := hlive m hm;by_cases hwr : tD an oa
   ·rw [(hw hwr).1] at hm; cases hm
   ·rw [g3 hwr m x (by rw [hr m hm]; exact hx), hx]
end
end Go.Abs
