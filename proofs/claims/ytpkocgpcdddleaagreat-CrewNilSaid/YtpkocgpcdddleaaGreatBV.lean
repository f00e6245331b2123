/- The engine, part 18h: regions that draw their order: an operation is pulled ahead. -/
import Derived.Test.YtpkocgpcdddleaaGreatBU
set_option linter.unusedVariables false
set_option linter.unusedSimpArgs false
namespace Go.Abs
open Go

section
variable {P : Program} {T : Tab} {an : Ann} {ops : Array Oper} {E : Entry} {o oi : Oper}

def StWr (an : Ann) (o : Oper) : Prop := clsOf an o.op o.dst (fun _ => .junk) = .wr
theorem kcls_wr {s : List AV} : kcls an ops o s = .wr ↔ StWr an o := by
 unfold kcls StWr
 constructor
 ·intro h
  split at h
  ·exact clsOf_wr h _
  ·unfold skipCls at h
   split at h
   ·rename_i e; exact clsOf_wr e _
   ·cases h
 ·intro h
  have := clsOf_wr h (evA s)
  split
  ·exact this
  ·rw [this]; rfl

def Ap (ops : Array Oper) (ox oi : Oper) : Prop := (∀ d, ox.dst = some d → d ∉ oi.looksAt ops) ∧ (∀ d, ox.dst = some d → oi.dst ≠ some d) ∧ ∀ d, oi.dst = some d → d ∉ ox.looksAt ops

theorem plainCall_congr {op : Op} {dst : Option Tmp} {ev ev' : Operand → AV} (h : ∀ x ∈ op.operands.toList, ev x = ev' x) : plainCall an op dst ev = plainCall an op dst ev' := by
 cases op with
 | call c =>
  have ha : ∀ x ∈ c.args.toList, ev x = ev' x := fun x hx => h x (by simp only [Op.operands, Call.operands]; cases c.callee <;> simp at hx ⊢ <;> simp [hx])
  simp only [plainCall]
  cases hcal : c.callee with
  | value f =>
   have hf := h f (by simp [Op.operands, Call.operands, hcal])
   simp only [hf, argsOf_congr ha]
  | invoke _ _ => rfl
  | builtin b => rfl
 | _ => rfl

theorem cls_live {s : List AV} {objs : List (Nm × AObj)} {r : List Nm} (hR : Real E ⟨s, objs⟩) (hk : kcls an ops o s = .val r) : ∀ m ∈ r, ∃ y, objGet objs m = some y := by
 obtain ⟨G, a, w, hI⟩ := hR
 have key : ∀ {x : Operand} {n : Nm}, (∃ b, G.ob n = some (.blk b)) → ∃ y, objGet objs n = some y := fun ⟨b, hb⟩ => hI.wr.dom _ _ hb
 unfold kcls at hk
 intro m hm
 split at hk
 ·cases hop : o.op with
  | load t x =>
   rw [hop] at hk
   simp only [clsOf] at hk
   split at hk <;> simp only [Cls.val.injEq] at hk <;> subst hk
   ·rename_i n off he
    simp only [List.mem_singleton] at hm
    subst hm
    have := hI.eval x
    rw [he] at this
    simp only [Rep] at this
    obtain ⟨b, hb, _⟩ := this
    exact hI.wr.dom _ _ hb
   ·rename_i n size ver i off he
    simp only [List.mem_singleton] at hm
    subst hm
    have := hI.eval x
    rw [he] at this
    simp only [Rep] at this
    obtain ⟨_, u, top, hb, _⟩ := this
    exact hI.wr.dom _ _ hb
   ·cases hm
  | lookup t n x ok =>
   rw [hop] at hk
   simp only [clsOf] at hk
   split at hk <;> simp only [Cls.val.injEq] at hk <;> subst hk
   ·rename_i n' he
    simp only [List.mem_singleton] at hm
    subst hm
    have := hI.eval n
    rw [he] at this
    simp only [Rep] at this
    obtain ⟨b, hb, _⟩ := this
    exact hI.wr.dom _ _ hb
   ·cases hm
  | convert s d x =>
   rw [hop] at hk
   simp only [clsOf] at hk
   split at hk <;> simp only [Cls.val.injEq] at hk <;> subst hk
   ·rename_i n size ver off len he
    simp only [List.mem_singleton] at hm
    subst hm
    have := hI.eval x
    rw [he] at this
    simp only [Rep] at this
    obtain ⟨_, u, top, hb, _⟩ := this
    exact hI.wr.dom _ _ hb
   ·cases hm
  | call c =>
   rw [hop] at hk
   simp only [clsOf] at hk
   split at hk
   ·split at hk
    ·split at hk <;> cases hk
    ·cases hk
   ·split at hk
    ·split at hk
     ·rename_i x _
      split at hk <;> simp only [Cls.val.injEq] at hk <;> subst hk
      ·rename_i n he
       simp only [List.mem_singleton] at hm
       subst hm
       have := hI.eval x
       rw [he] at this
       simp only [Rep] at this
       obtain ⟨b, hb, _⟩ := this
       exact hI.wr.dom _ _ hb
      ·cases hm
     ·simp only [Cls.val.injEq] at hk; subst hk; cases hm
    ·simp only [Cls.val.injEq] at hk; subst hk; cases hm
    ·simp only [Cls.val.injEq] at hk; subst hk; cases hm
    ·cases hk
   ·cases hk
  | box t x =>
   rw [hop] at hk
   simp only [clsOf] at hk
   split at hk
   ·split at hk
    ·simp only [Cls.val.injEq] at hk; subst hk; cases hm
    ·cases hk
   ·cases hk
  | buildSlice t n ps =>
   rw [hop] at hk
   simp only [clsOf] at hk
   split at hk
   ·split at hk
    ·cases hk
    ·split at hk
     ·cases hk
     ·simp only [Cls.val.injEq] at hk; subst hk; cases hm
   ·cases hk
  | _ =>
   rw [hop] at hk
   first | (simp only [clsOf, Cls.val.injEq] at hk; subst hk; cases hm) | (simp [clsOf] at hk)
 ·unfold skipCls at hk
  split at hk
  ·cases hk
  ·simp only [Cls.val.injEq] at hk; subst hk; cases hm

theorem reach_real (hT : TabOk P T) {i : Nat} {B : List Nat} {k : St → Prop} : ∀ (A : List Nat) {seen : List (Nat × Cls)} {s : List AV} {objs : List (Nm × AObj)}, (∀ x ∈ A, ∀ ox, ops[x]? = some ox → Ap ops ox oi) →
  Real E ⟨s, objs⟩ → awpDraw P T an ops seen (A ++ i :: B) ⟨s, objs⟩ k →
  ∃ s1 objs1 seen1, Real E ⟨s1, objs1⟩ ∧ awpDraw P T an ops seen1 (i :: B) ⟨s1, objs1⟩ k ∧ Agree ops oi s s1 ∧ (∀ e ∈ seen, e ∈ seen1) ∧
   (∀ x ∈ A, ∀ ox, ops[x]? = some ox → StWr an ox → (x, Cls.wr) ∈ seen1) ∧ ((∀ x ∈ A, ∀ ox, ops[x]? = some ox → ¬ StWr an ox) → Grow objs objs1) := by
 intro A
 induction A with
 | nil => intro seen s objs _ hR h; exact ⟨s, objs, seen, hR, h, Agree.refl s, fun _ h => h, fun x hx => absurd hx (by simp), fun _ => Grow.refl _⟩
 | cons a A ih =>
  intro seen s objs hA hR h
  rw [List.cons_append, awpDraw_cons] at h
  obtain ⟨oa, h1, h2, h3, h4⟩ := h
  have h5 : W P T an ops oa ⟨s, objs⟩ fun st => (awpDraw P T an ops (addS (kcls an ops oa s) a seen) (A ++ i :: B) st k ∧ ∃ v, st.slots = appD oa.dst v s) ∧ (¬ StWr an oa → Grow objs st.objs) := by
   by_cases hw : StWr an oa
   ·exact W_mono (W_slots h4) fun st h => ⟨h, fun e => absurd hw e⟩
   ·exact W_mono (W_grow (fun e => hw (kcls_wr.1 e)) h3 (W_slots h4)) fun st h => ⟨h.1, fun _ => h.2⟩
  obtain ⟨⟨s1, objs1⟩, hR1, ⟨h6, v, h7⟩, h8⟩ := real_step hT hR h5
  simp only at h7 h8
  obtain ⟨s2, objs2, seen2, g1, g2, g3, g4, g5, g6⟩ := ih (fun x hx => hA x (by simp [hx])) hR1 h6
  have hag : Agree ops oi s s1 := by
   rw [h7]; exact Agree.app (hA a (by simp) oa h1).1
  refine ⟨s2, objs2, seen2, g1, g2, hag.trans g3, fun e he => g4 e (addS_old e he), fun x hx ox hox hwr => ?_, fun hnw => (h8 (hnw a (by simp) oa h1)).trans (g6 fun x hx => hnw x (by simp [hx]))⟩
  rcases List.mem_cons.1 hx with rfl | hx
  ·rw [h1] at hox
   cases hox
   have e : kcls an ops oa s = .wr := kcls_wr.2 hwr
   rw [e] at g4
   exact g4 _ (addS_mem (by simp))
  ·exact g5 x hx ox hox hwr

def addO (x : Option (Nm × AObj)) (l : List (Nm × AObj)) : List (Nm × AObj) :=
 match x with
 | none => l
 | some (n, X) => insL l n X

theorem freshN_ne (d e i : Nat) : freshN d i ≠ nameOf e := by
 intro h
 have h : (2 * d + 200000 * (i + 1) + 65 : Nat) = 2 * e + 64 := h
 omega
theorem nameOf_inj {d e : Nat} (h : nameOf d = nameOf e) : d = e := by
 have h : (2 * d + 64 : Nat) = 2 * e + 64 := h
 omega

theorem W_addO {s : List AV} {objs : List (Nm × AObj)} {K : St → Prop} {xi : Option (Nm × AObj)} (hx : ∀ n X, xi = some (n, X) → ∃ d, n = nameOf d ∧ o.dst ≠ some d) (hn : ∀ n X, xi = some (n, X) → objGet objs n = none)
  (hnw : xi ≠ none → ¬ StWr an o) (hp : plainOk (kcls an ops o s) (plainCall an o.op o.dst (evA s)) = true)
  (h : W P T an ops o ⟨s, objs⟩ fun st => (∀ n X, xi = some (n, X) → objGet st.objs n = none) → K ⟨st.slots, addO xi st.objs⟩) : W P T an ops o ⟨s, addO xi objs⟩ K := by
 cases xi with
 | none => exact W_mono h fun st h => h (fun _ _ e => by cases e)
 | some p =>
  obtain ⟨n, X⟩ := p
  have hn := hn n X rfl
  obtain ⟨d, rfl, hd⟩ := hx n X rfl
  have hnw := hnw (by simp)
  simp only [Option.some.injEq, Prod.mk.injEq] at h
  show W P T an ops o ⟨s, insL objs (nameOf d) X⟩ K
  cases hc : kcls an ops o s with
  | val r =>
   obtain ⟨hl, v, hv⟩ := W_val hc h
   rw [hv s objs _ (Agree.refl s) (fun _ _ => rfl)] at h
   rw [hv s (insL objs (nameOf d) X) _ (Agree.refl s) (fun m hm => by
    obtain ⟨x, hx⟩ := hl m hm
    rw [objGet_insL _ hn]
    have : m ≠ nameOf d := fun e => by rw [e, hn] at hx; cases hx
    simp [this])]
   exact h (fun n' X' e => by obtain ⟨rfl, rfl⟩ := e; exact hn)
  | mk =>
   obtain ⟨e, v, Y, he, hv⟩ := W_mk hc h
   rw [hv s objs _ (Agree.refl s)] at h
   rw [hv s (insL objs (nameOf d) X) _ (Agree.refl s)]
   have hne : nameOf d ≠ nameOf e := fun h => hd (by rw [nameOf_inj h]; exact he)
   refine ⟨by rw [objGet_insL _ hn]; simp [Ne.symm hne, h.1], ?_⟩
   have := h.2 (fun n' X' e => by
    obtain ⟨rfl, rfl⟩ := e
    rw [objGet_insL _ h.1]; simp [hne, hn])
   rw [insL_comm hne]
   exact this
  | call =>
   rw [hc] at hp
   obtain ⟨e, g, args, he, hv⟩ := W_call hc hp h
   rw [hv s objs _ (Agree.refl s)] at h
   rw [hv s (insL objs (nameOf d) X) _ (Agree.refl s)]
   refine h.mono fun r os h => ?_
   rw [backK_iff] at h ⊢
   obtain ⟨f1, f2⟩ := freeAll_ins (r := backN e [] 0) (d := e) (X := X) (fun i => freshN_ne e d i) (os := os) (j := 0) hn
   refine ⟨f1.2 h.1, ?_⟩
   rw [f2 h.1]
   exact h.2 (fun n' X' e' => by
    obtain ⟨rfl, rfl⟩ := e'
    rw [(objGet_insAll h.1 (nameOf d)).2 (fun i => freshN_ne e d i)]; exact hn)
  | wr => exact absurd (kcls_wr.1 hc) hnw

theorem frame_put {i : Nat} {B : List Nat} {k : St → Prop} {vi : AV} {xi : Option (Nm × AObj)} {r : List Nm} {s0 : List AV} {objs0 : List (Nm × AObj)} (hi : ops[i]? = some oi)
  (Hi : ∀ (s' : List AV) (objs' : List (Nm × AObj)) (k : St → Prop), Agree ops oi s0 s' → (∀ m ∈ r, objGet objs' m = objGet objs0 m) → W P T an ops oi ⟨s', objs'⟩ k → k ⟨appD oi.dst vi s', addO xi objs'⟩)
  (hlive : ∀ m ∈ r, ∃ x, objGet objs0 m = some x) (hx : ∀ n X, xi = some (n, X) → ∃ d, n = nameOf d ∧ oi.dst = some d) :
  ∀ (A : List Nat) {seen : List (Nat × Cls)} {s : List AV} {objs : List (Nm × AObj)}, (∀ x ∈ A, ∀ ox, ops[x]? = some ox → Ap ops ox oi ∧ (StWr an ox → r = [] ∧ xi = none)) →
   Agree ops oi s0 s → (∀ m ∈ r, objGet objs m = objGet objs0 m) → (∀ n X, xi = some (n, X) → objGet objs n = none) →
   awpDraw P T an ops seen (A ++ i :: B) ⟨s, objs⟩ k → awpDraw P T an ops seen (A ++ B) ⟨appD oi.dst vi s, addO xi objs⟩ k := by
 intro A
 induction A with
 | nil =>
  intro seen s objs _ hag hr hn h
  rw [List.nil_append, awpDraw_cons] at h
  obtain ⟨o', h1, h2, h3, h4⟩ := h
  rw [hi] at h1
  cases h1
  exact draw_sub (addS_old) (Hi s objs _ hag hr h4)
 | cons a A ih =>
  intro seen s objs hA hag hr hn h
  rw [List.cons_append, awpDraw_cons] at h
  obtain ⟨oa, h1, h2, h3, h4⟩ := h
  obtain ⟨⟨p1, p2, p3⟩, hw⟩ := hA a (by simp) oa h1
  have haa : Agree ops oa s (appD oi.dst vi s) := Agree.app p3
  rw [List.cons_append, awpDraw_cons]
  refine ⟨oa, h1, by rw [haa.kcls]; exact h2, by rw [haa.kcls, plainCall_congr haa.ev]; exact h3, ?_⟩
  rw [haa.kcls]
  rw [W_frame p3 (fun d hd e => p2 d e hd)]
  refine W_addO (fun n X e => ?_) hn (fun hne hwr => hne (hw hwr).2) h3 ?_
  ·obtain ⟨d, e1, e2⟩ := hx n X e
   exact ⟨d, e1, fun e3 => p2 d e3 e2⟩
  ·have h5 : W P T an ops oa ⟨s, objs⟩ fun st => (awpDraw P T an ops (addS (kcls an ops oa s) a seen) (A ++ i :: B) st k ∧ ∃ v, st.slots = appD oa.dst v s) ∧ (¬ StWr an oa → Grow objs st.objs) := by
    by_cases hw : StWr an oa
    ·exact W_mono (W_slots h4) fun st h => ⟨h, fun e => absurd hw e⟩
    ·exact W_mono (W_grow (fun e => hw (kcls_wr.1 e)) h3 (W_slots h4)) fun st h => ⟨h.1, fun _ => h.2⟩
   refine W_mono h5 ?_
   rintro ⟨s1, objs1⟩ ⟨⟨g1, v, g2⟩, g3⟩ hn1
   simp only at g2 g3 hn1
   refine ih (fun x hx => hA x (by simp [hx])) (hag.trans (by rw [g2]; exact Agree.app p1)) (fun m hm => ?_) hn1 g1
   obtain ⟨x, hx⟩ := hlive m hm
   by_cases hwr : StWr an oa
   ·rw [(hw hwr).1] at hm; cases hm
   ·rw [g3 hwr m x (by rw [hr m hm]; exact hx), hx]
end
end Go.Abs
