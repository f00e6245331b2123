/- The engine, part 18i: regions that draw their order: whatever order. -/
import Derived.Test.YtpkocgpcdddleaaGreatBV
set_option linter.unusedVariables false
set_option linter.unusedSimpArgs false
namespace Go.Abs
open Go

section
variable {P : Program} {T : Tab} {an : Ann} {ops : Array Oper} {E : Entry} {o oi : Oper}

theorem loud_call {op : Op} {dst : Option Tmp} {ev : Operand → AV} (h : clsOf an op dst ev = .call ∨ clsOf an op dst ev = .wr) : loudOp op = true := by
 cases op with
 | load t x => simp only [clsOf] at h; split at h <;> simp at h
 | lookup t x y ok => simp only [clsOf] at h; split at h <;> simp at h
 | convert s d x => simp only [clsOf] at h; split at h <;> simp at h
 | box t x =>
  simp only [clsOf] at h
  split at h
  ·split at h <;> simp at h
  ·simp at h
 | buildSlice t n ps =>
  simp only [clsOf] at h
  split at h
  ·split at h
   ·simp at h
   ·split at h <;> simp at h
  ·simp at h
 | call c =>
  simp only [clsOf] at h
  simp only [loudOp]
  split at h
  ·rename_i e; rw [e]
  ·rename_i b e
   rw [e]
   simp only
   split at h
   ·split at h
    ·split at h <;> simp at h
    ·simp at h
   ·simp at h
   ·simp at h
   ·rename_i h1 h2 h3
    split
    ·exact absurd rfl h1
    ·exact absurd rfl h2
    ·exact absurd rfl h3
    ·rfl
  ·rename_i h1 h2
   split
   ·rename_i b e; exact absurd e (h2 b)
   ·rfl
 | _ => first | rfl | (simp [clsOf] at h)
theorem kcls_loud {s : List AV} (h : kcls an ops o s = .call ∨ kcls an ops o s = .wr) : loudOp o.op = true := by
 unfold kcls at h
 split at h
 ·exact loud_call h
 ·unfold skipCls at h
  split at h
  ·rename_i e; exact loud_call (.inr e)
  ·simp at h

theorem compat_call {c : Cls} (h : compat c .call = true) : (∃ r, c = .val r) ∨ c = .mk ∨ c = .call ∨ c = .wr := by
 cases c with
 | val r => exact .inl ⟨r, rfl⟩
 | mk => exact .inr (.inl rfl)
 | call => exact .inr (.inr (.inl rfl))
 | wr => exact .inr (.inr (.inr rfl))
theorem compat_wr {c : Cls} (h : compat c .wr = true) : c = .val [] ∨ c = .call ∨ c = .wr := by
 cases c with
 | val r => cases r with
  | nil => exact .inl rfl
  | cons _ _ => cases h
 | mk => cases h
 | call => exact .inr (.inl rfl)
 | wr => exact .inr (.inr rfl)

theorem pull_over (hT : TabOk P T) {i : Nat} {B : List Nat} {k : St → Prop} (hi : ops[i]? = some oi) : ∀ (A : List Nat) {seen : List (Nat × Cls)} {s : List AV} {objs : List (Nm × AObj)},
  (∀ x ∈ A, ∀ ox, ops[x]? = some ox → (afterN oi.after.toList x = false ∧ befT ops i x = false) ∧ Ap ops ox oi ∧ (loudOp oi.op && loudOp ox.op) = false) → Real E ⟨s, objs⟩ → (kcls an ops oi s = .call ∨ kcls an ops oi s = .wr) → awpDraw P T an ops seen (A ++ i :: B) ⟨s, objs⟩ k →
  W P T an ops oi ⟨s, objs⟩ fun st => awpDraw P T an ops seen (A ++ B) st k := by
 intro A
 induction A with
 | nil =>
  intro seen s objs _ _ _ h
  rw [List.nil_append, awpDraw_cons] at h
  obtain ⟨o', h1, h2, h3, h4⟩ := h
  rw [hi] at h1
  cases h1
  exact W_mono h4 fun st h => draw_sub addS_old h
 | cons a A ih =>
  intro seen s objs hA hR hc h
  rw [List.cons_append, awpDraw_cons] at h
  obtain ⟨oa, h1, h2, h3, h4⟩ := h
  obtain ⟨hna, ⟨p1, p2, p3⟩, hncl⟩ := hA a (by simp) oa h1
  -- the class of 'a'
  have hcomp : compat (kcls an ops oa s) (kcls an ops oi s) = true := by
   obtain ⟨⟨s1, objs1⟩, hR1, h6, v, h7⟩ := real_step hT hR (W_slots h4)
   simp only at h7
   obtain ⟨s2, objs2, seen2, g1, g2, g3, g4, g5, g6⟩ := reach_real hT A (fun x hx ox hox => (hA x (by simp [hx]) ox hox).2.1) hR1 h6
   rw [awpDraw_cons] at g2
   obtain ⟨o', e1, e2, e3, e4⟩ := g2
   rw [hi] at e1
   cases e1
   have hag : Agree ops oi s s2 := (show Agree ops oi s s1 by rw [h7]; exact Agree.app p1).trans g3
   rw [hag.kcls] at e2
   by_cases hq : kcls an ops oa s = .val []
   ·rw [hq]; rfl
   ·exact okAll_mem e2 (g4 _ (addS_mem hq)) hna
  have hquiet : kcls an ops oa s ≠ .call ∧ kcls an ops oa s ≠ .wr := by
   have hl := kcls_loud hc
   rw [hl, Bool.true_and] at hncl
   have no : loudOp oa.op = true → False := fun e => by rw [e] at hncl; cases hncl
   exact ⟨fun e => no (kcls_loud (.inl e)), fun e => no (kcls_loud (.inr e))⟩
  have hcase : (∃ r, kcls an ops oa s = .val r ∧ (kcls an ops oi s = .call ∨ r = [])) ∨ (kcls an ops oa s = .mk ∧ kcls an ops oi s = .call) := by
   rcases hc with hc | hc
   ·rw [hc] at hcomp
    rcases compat_call hcomp with ⟨r, hr⟩ | hr | hr | hr
    ·exact .inl ⟨r, hr, .inl hc⟩
    ·exact .inr ⟨hr, hc⟩
    ·exact absurd hr hquiet.1
    ·exact absurd hr hquiet.2
   ·rw [hc] at hcomp
    rcases compat_wr hcomp with hr | hr | hr
    ·exact .inl ⟨[], hr, .inr rfl⟩
    ·exact absurd hr hquiet.1
    ·exact absurd hr hquiet.2
  rcases hcase with ⟨r, hr, hrc⟩ | ⟨hmk, hcall⟩
  ·obtain ⟨hlive, va, hv⟩ := W_val hr h4
   have h5 := (hv s objs _ (Agree.refl s) (fun _ _ => rfl)).1 h4
   have hR1 : Real E ⟨appD oa.dst va s, objs⟩ := by
    obtain ⟨st1, g1, g2⟩ := real_step hT hR ((hv s objs (fun st => st = ⟨appD oa.dst va s, objs⟩) (Agree.refl s) (fun _ _ => rfl)).2 rfl)
    rw [g2] at g1; exact g1
   have hag : Agree ops oi s (appD oa.dst va s) := Agree.app p1
   have h6 := ih (fun x hx => hA x (by simp [hx])) hR1 (by rw [hag.kcls]; exact hc) h5
   rw [W_frame p1 (fun d hd => p2 d hd)] at h6
   have h7 : W P T an ops oi ⟨s, objs⟩ fun st => ((awpDraw P T an ops (addS (kcls an ops oa s) a seen) (A ++ B) ⟨appD oa.dst va st.slots, st.objs⟩ k) ∧ ∃ v, st.slots = appD oi.dst v s) ∧ (∀ m ∈ r, objGet st.objs m = objGet objs m) := by
    rcases hrc with hcall | rfl
    ·have hpl : plainOk (kcls an ops oi s) (plainCall an oi.op oi.dst (evA s)) = true := by
      obtain ⟨⟨s1, objs1⟩, hR2, h8, v, h9⟩ := real_step hT hR (W_slots h4)
      simp only at h9
      obtain ⟨s2, objs2, seen2, g1, g2, g3, g4, g5, g6⟩ := reach_real hT A (fun x hx ox hox => (hA x (by simp [hx]) ox hox).2.1) hR2 h8
      rw [awpDraw_cons] at g2
      obtain ⟨o', e1, e2, e3, e4⟩ := g2
      rw [hi] at e1
      cases e1
      have hag : Agree ops oi s s2 := (show Agree ops oi s s1 by rw [h9]; exact Agree.app p1).trans g3
      rw [hag.kcls, plainCall_congr hag.ev] at e3
      exact e3
     exact W_mono (W_grow (by rw [hcall]; simp) hpl (W_slots h6)) fun st h => ⟨h.1, fun m hm => by
      obtain ⟨x, hx⟩ := hlive m hm
      rw [h.2 m x hx, hx]⟩
    ·exact W_mono (W_slots h6) fun st h => ⟨h, fun m hm => by cases hm⟩
   refine W_mono h7 ?_
   rintro ⟨s2, objs2⟩ ⟨⟨g1, v, g2⟩, g3⟩
   simp only at g1 g2 g3
   have haa : Agree ops oa s s2 := by rw [g2]; exact Agree.app p3
   rw [List.cons_append, awpDraw_cons]
   refine ⟨oa, h1, by rw [haa.kcls]; exact h2, by rw [haa.kcls, plainCall_congr haa.ev]; exact h3, ?_⟩
   rw [haa.kcls]
   exact (hv s2 objs2 _ haa g3).2 g1
  ·obtain ⟨d, va, X, hd, hv⟩ := W_mk hmk h4
   have h5 := (hv s objs _ (Agree.refl s)).1 h4
   have hR1 : Real E ⟨appD oa.dst va s, insL objs (nameOf d) X⟩ := by
    obtain ⟨st1, g1, g2⟩ := real_step hT hR ((hv s objs (fun st => st = ⟨appD oa.dst va s, insL objs (nameOf d) X⟩) (Agree.refl s)).2 ⟨h5.1, rfl⟩)
    rw [g2] at g1; exact g1
   have hag : Agree ops oi s (appD oa.dst va s) := Agree.app p1
   have h6 := ih (fun x hx => hA x (by simp [hx])) hR1 (by rw [hag.kcls]; exact hc) h5.2
   rw [W_frame p1 (fun d hd => p2 d hd)] at h6
   have hpl : plainCall an oi.op oi.dst (evA s) = true := by
    obtain ⟨⟨s1, objs1⟩, hR2, h8, v, h9⟩ := real_step hT hR (W_slots h4)
    simp only at h9
    obtain ⟨s2, objs2, seen2, g1, g2, g3, g4, g5, g6⟩ := reach_real hT A (fun x hx ox hox => (hA x (by simp [hx]) ox hox).2.1) hR2 h8
    rw [awpDraw_cons] at g2
    obtain ⟨o', e1, e2, e3, e4⟩ := g2
    rw [hi] at e1
    cases e1
    have hag : Agree ops oi s s2 := (show Agree ops oi s s1 by rw [h9]; exact Agree.app p1).trans g3
    rw [hag.kcls, plainCall_congr hag.ev, hcall] at e3
    exact e3
   obtain ⟨e, g, args, he, hw⟩ := W_call hcall hpl h6
   rw [hw s _ _ (Agree.refl s)] at h6
   rw [hw s _ _ (Agree.refl s)]
   refine h6.mono fun r os h => ?_
   rw [backK_iff] at h ⊢
   obtain ⟨f1, f2⟩ := freeAll_ins (r := backN e [] 0) (d := e) (X := X) (fun i => freshN_ne e d i) (os := os) (j := 0) h5.1
   have hf := f1.1 h.1
   refine ⟨hf, ?_⟩
   have h := h.2
   rw [f2 hf] at h
   have haa : Agree ops oa s (appD oi.dst (renA (backN e [] 0) r) s) := Agree.app p3
   rw [List.cons_append, awpDraw_cons]
   refine ⟨oa, h1, by rw [haa.kcls]; exact h2, by rw [haa.kcls, plainCall_congr haa.ev]; exact h3, ?_⟩
   rw [haa.kcls, hv _ _ _ haa]
   exact ⟨by rw [(objGet_insAll hf (nameOf d)).2 (fun i => freshN_ne e d i)]; exact h5.1, h⟩

theorem pull (hT : TabOk P T) {i : Nat} {A B : List Nat} {k : St → Prop} (hi : ops[i]? = some oi) {seen : List (Nat × Cls)} {s : List AV} {objs : List (Nm × AObj)}
  (hA : ∀ x ∈ A, ∀ ox, ops[x]? = some ox → (afterN oi.after.toList x = false ∧ befT ops i x = false) ∧ Ap ops ox oi ∧ (loudOp oi.op && loudOp ox.op) = false) (hR : Real E ⟨s, objs⟩) (h : awpDraw P T an ops seen (A ++ i :: B) ⟨s, objs⟩ k) :
  W P T an ops oi ⟨s, objs⟩ fun st => awpDraw P T an ops seen (A ++ B) st k := by
 obtain ⟨s1, objs1, seen1, g1, g2, g3, g4, g5, g6⟩ := reach_real hT A (fun x hx ox hox => (hA x hx ox hox).2.1) hR h
 rw [awpDraw_cons] at g2
 obtain ⟨o', e1, e2, e3, e4⟩ := g2
 rw [hi] at e1
 cases e1
 have hcls : kcls an ops oi s1 = kcls an ops oi s := g3.kcls
 cases hc : kcls an ops oi s1 with
 | val r =>
  have hwr : ∀ x ∈ A, ∀ ox, ops[x]? = some ox → StWr an ox → r = [] := fun x hx ox hox hw => by
   have := okAll_mem e2 (g5 x hx ox hox hw) (hA x hx ox hox).1
   rw [hc] at this
   cases r with
   | nil => rfl
   | cons _ _ => cases this
  obtain ⟨hlive, v, hv⟩ := W_val hc e4
  have hreads : ∀ m ∈ r, objGet objs m = objGet objs1 m := fun m hm => by
   obtain ⟨y, hy⟩ := cls_live hR (by rw [← hcls]; exact hc) m hm
   have hg : Grow objs objs1 := g6 fun x hx ox hox hw => by
    rw [hwr x hx ox hox hw] at hm; cases hm
   rw [hg m y hy, hy]
  rw [hv s objs _ g3.symm hreads]
  exact frame_put (xi := none) (r := r) (s0 := s1) (objs0 := objs1) hi (fun s' objs' k ha hm h => (hv s' objs' k ha hm).1 h) hlive (fun n X e => by cases e) A
   (fun x hx ox hox => ⟨(hA x hx ox hox).2.1, fun hw => ⟨hwr x hx ox hox hw, rfl⟩⟩) g3.symm hreads (fun n X e => by cases e) h
 | mk =>
  have hwr : ∀ x ∈ A, ∀ ox, ops[x]? = some ox → ¬ StWr an ox := fun x hx ox hox hw => by
   have := okAll_mem e2 (g5 x hx ox hox hw) (hA x hx ox hox).1
   rw [hc] at this
   cases this
  obtain ⟨d, v, X, hd, hv⟩ := W_mk hc e4
  have hn1 := ((hv s1 objs1 _ (Agree.refl s1)).1 e4).1
  have hn : objGet objs (nameOf d) = none := by
   cases e : objGet objs (nameOf d) with
   | none => rfl
   | some y => rw [g6 hwr _ _ e] at hn1; cases hn1
  rw [hv s objs _ g3.symm]
  refine ⟨hn, ?_⟩
  exact frame_put (xi := some (nameOf d, X)) (r := []) (s0 := s1) (objs0 := objs1) hi (fun s' objs' k ha hm h => ((hv s' objs' k ha).1 h).2) (fun m hm => by cases hm) (fun n Y e => by cases e; exact ⟨d, rfl, hd⟩) A
   (fun x hx ox hox => ⟨(hA x hx ox hox).2.1, fun hw => absurd hw (hwr x hx ox hox)⟩) g3.symm (fun m hm => by cases hm) (fun n Y e => by cases e; exact hn) h
 | call => exact pull_over hT hi A hA hR (.inl (by rw [← hcls]; exact hc)) h
 | wr => exact pull_over hT hi A hA hR (.inr (by rw [← hcls]; exact hc)) h
end
end Go.Abs
