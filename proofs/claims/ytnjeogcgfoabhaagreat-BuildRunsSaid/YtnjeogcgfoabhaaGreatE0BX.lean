/- The engine, BX. -/
import Derived.Test.YtnjeogcgfoabhaaGreatE0BV
set_option linter.unusedVariables false
set_option linter.unusedSimpArgs false
namespace Go.Abs
open Go
section
variable {P : Program} {T : Tab} {an : Ann} {ops : Array Oper} {E : dQ} {o oi : Oper}
theorem yE {op : Op} {dst : Option Tmp} {ev : Operand → AV} (h : bH an op dst ev = .call ∨ bH an op dst ev = .wr) : jB op = true := by
 cases op with
 | load t x => simp only [bH] at h; split at h <;> simp at h
 | lookup t x y ok => simp only [bH] at h; split at h <;> simp at h
 | convert s d x => simp only [bH] at h; split at h <;> simp at h
 | box t x =>
  simp only [bH] at h;split at h
  ·split at h <;> simp at h
  ·simp at h
 | buildSlice t n ps =>
  simp only [bH] at h;split at h
  ·split at h
   ·simp at h
   ·split at h <;> simp at h
  ·simp at h
 | call c =>
  simp only [bH] at h;simp only [jB];split at h
  ·rename_i e; rw [e]
  ·rename_i b e;rw [e];simp only;split at h
   ·split at h
    ·split at h <;> simp at h
    ·simp at h
   ·simp at h
   ·simp at h
   ·rename_i h1 h2 h3;split
    ·exact absurd rfl h1
    ·exact absurd rfl h2
    ·exact absurd rfl h3
    ·rfl
  ·rename_i h1 h2;split
   ·rename_i b e; exact absurd e (h2 b)
   ·rfl
 | _ => first | rfl | (simp [bH] at h)
theorem s6 {s : List AV} (h : kcls an ops o s = .call ∨ kcls an ops o s = .wr) : jB o.op = true := by
 unfold kcls at h;split at h
 ·exact yE h
 ·unfold kg at h;split at h
  ·rename_i e; exact yE (.inr e)
  ·simp at h
theorem CZ {c : Cls} (h : py c .call = true) : (∃ r, c = .val r) ∨ c = .mk ∨ c = .call ∨ c = .wr := by
 cases c with
 | val r => exact .inl ⟨r, rfl⟩
 | mk => exact .inr (.inl rfl)
 | call => exact .inr (.inr (.inl rfl))
 | wr => exact .inr (.inr (.inr rfl))
theorem Ix {c : Cls} (h : py c .wr = true) : c = .val [] ∨ c = .call ∨ c = .wr := by
 cases c with
 | val r => cases r with
  | nil => exact .inl rfl
  | cons _ _ => cases h
 | mk => cases h
 | call => exact .inr (.inl rfl)
 | wr => exact .inr (.inr rfl)
theorem yx (hT : cd P T) {i : Nat} {B : List Nat} {k : St → Prop} (hi : ops[i]? = some oi) : ∀ (A : List Nat) {seen : List (Nat × Cls)} {s : List AV} {objs : List (Nm × aE)},
  (∀ x ∈ A, ∀ ox, ops[x]? = some ox → (gE oi.after.toList x = false ∧ C7 ops i x = false) ∧ Ap ops ox oi ∧ (jB oi.op && jB ox.op) = false) → A2 E ⟨s, objs⟩ → (kcls an ops oi s = .call ∨ kcls an ops oi s = .wr) → c7 P T an ops seen (A ++ i :: B) ⟨s, objs⟩ k →
  W P T an ops oi ⟨s, objs⟩ fun st => c7 P T an ops seen (A ++ B) st k := by
 intro A
 induction A with
 | nil =>
  intro seen s objs _ _ _ h;rw [aam, cR] at h;obtain ⟨o', h1, h2, h3, h4⟩ := h;rw [hi] at h1
  cases h1;exact iO h4 fun st h => CD wZ h
 | cons a A ih =>
  intro seen s objs hA hR hc h;rw [aav, cR] at h;obtain ⟨oa, h1, h2, h3, h4⟩ := h;obtain ⟨hna, ⟨p1, p2, p3⟩, hncl⟩ := hA a (by simp) oa h1
  -- the class of 'a'
  have hcomp : py (kcls an ops oa s) (kcls an ops oi s) = true := by
   obtain ⟨⟨s1, objs1⟩, hR1, h6, v, h7⟩ := k9 hT hR (kh h4);simp only at h7;obtain ⟨s2, objs2, seen2, g1, g2, g3, g4, g5, g6⟩ := nJ hT A (fun x hx ox hox => (hA x (by simp [hx]) ox hox).2.1) hR1 h6;rw [cR] at g2;obtain ⟨o', e1, e2, e3, e4⟩ := g2;rw [hi] at e1
   cases e1;have hag : bS ops oi s s2 := (show bS ops oi s s1 by rw [h7]; exact bS.app p1).trans g3;rw [hag.kcls] at e2;by_cases hq : kcls an ops oa s = .val []
   ·rw [hq]; rfl
   ·exact pL e2 (g4 _ (Df hq)) hna
  have hquiet : kcls an ops oa s ≠ .call ∧ kcls an ops oa s ≠ .wr := by
   have hl := s6 hc;rw [hl, aaI] at hncl;have no : jB oa.op = true → False := fun e => by rw [e] at hncl; cases hncl
   exact ⟨fun e => no (s6 (.inl e)), fun e => no (s6 (.inr e))⟩
  have hcase : (∃ r, kcls an ops oa s = .val r ∧ (kcls an ops oi s = .call ∨ r = [])) ∨ (kcls an ops oa s = .mk ∧ kcls an ops oi s = .call) := by
   rcases hc with hc | hc
   ·rw [hc] at hcomp;rcases CZ hcomp with ⟨r, hr⟩ | hr | hr | hr
    ·exact .inl ⟨r, hr, .inl hc⟩
    ·exact .inr ⟨hr, hc⟩
    ·exact absurd hr hquiet.1
    ·exact absurd hr hquiet.2
   ·rw [hc] at hcomp;rcases Ix hcomp with hr | hr | hr
    ·exact .inl ⟨[], hr, .inr rfl⟩
    ·exact absurd hr hquiet.1
    ·exact absurd hr hquiet.2
  rcases hcase with ⟨r, hr, hrc⟩ | ⟨hmk, hcall⟩
  ·obtain ⟨hlive, va, hv⟩ := zh hr h4;have h5 := (hv s objs _ (bS.refl s) (fun _ _ => rfl)).1 h4;have hR1 : A2 E ⟨gJ oa.dst va s, objs⟩ := by
    obtain ⟨st1, g1, g2⟩ := k9 hT hR ((hv s objs (fun st => st = ⟨gJ oa.dst va s, objs⟩) (bS.refl s) (fun _ _ => rfl)).2 rfl);rw [g2] at g1; exact g1
   have hag : bS ops oi s (gJ oa.dst va s) := bS.app p1;have h6 := ih (fun x hx => hA x (by simp [hx])) hR1 (by rw [hag.kcls]; exact hc) h5;rw [uQ p1 (fun d hd => p2 d hd)] at h6;have h7 : W P T an ops oi ⟨s, objs⟩ fun st => ((c7 P T an ops (pB (kcls an ops oa s) a seen) (A ++ B) ⟨gJ oa.dst va st.slots, st.objs⟩ k) ∧ ∃ v, st.slots = gJ oi.dst v s) ∧ (∀ m ∈ r, ax st.objs m = ax objs m) := by
    rcases hrc with hcall | rfl
    ·have hpl : i6 (kcls an ops oi s) (eZ an oi.op oi.dst (evA s)) = true := by
      obtain ⟨⟨s1, objs1⟩, hR2, h8, v, h9⟩ := k9 hT hR (kh h4);simp only at h9;obtain ⟨s2, objs2, seen2, g1, g2, g3, g4, g5, g6⟩ := nJ hT A (fun x hx ox hox => (hA x (by simp [hx]) ox hox).2.1) hR2 h8;rw [cR] at g2;obtain ⟨o', e1, e2, e3, e4⟩ := g2;rw [hi] at e1
      cases e1;have hag : bS ops oi s s2 := (show bS ops oi s s1 by rw [h9]; exact bS.app p1).trans g3;rw [hag.kcls, gH hag.ev] at e3;exact e3
     exact iO (FE (by rw [hcall]; simp) hpl (kh h6)) fun st h => ⟨h.1, fun m hm => by
      obtain ⟨x, hx⟩ := hlive m hm;rw [h.2 m x hx, hx]⟩
    ·exact iO (kh h6) fun st h => ⟨h, fun m hm => by cases hm⟩
   refine iO h7 ?_;rintro ⟨s2, objs2⟩ ⟨⟨g1, v, g2⟩, g3⟩;simp only at g1 g2 g3;have haa : bS ops oa s s2 := by rw [g2]; exact bS.app p3
   rw [aav, cR];refine ⟨oa, h1, by rw [haa.kcls]; exact h2, by rw [haa.kcls, gH haa.ev]; exact h3, ?_⟩;rw [haa.kcls];exact (hv s2 objs2 _ haa g3).2 g1
  ·obtain ⟨d, va, X, hd, hv⟩ := MP hmk h4;have h5 := (hv s objs _ (bS.refl s)).1 h4;have hR1 : A2 E ⟨gJ oa.dst va s, iL objs (al d) X⟩ := by
    obtain ⟨st1, g1, g2⟩ := k9 hT hR ((hv s objs (fun st => st = ⟨gJ oa.dst va s, iL objs (al d) X⟩) (bS.refl s)).2 ⟨h5.1, rfl⟩);rw [g2] at g1; exact g1
   have hag : bS ops oi s (gJ oa.dst va s) := bS.app p1;have h6 := ih (fun x hx => hA x (by simp [hx])) hR1 (by rw [hag.kcls]; exact hc) h5.2;rw [uQ p1 (fun d hd => p2 d hd)] at h6;have hpl : eZ an oi.op oi.dst (evA s) = true := by
    obtain ⟨⟨s1, objs1⟩, hR2, h8, v, h9⟩ := k9 hT hR (kh h4);simp only at h9;obtain ⟨s2, objs2, seen2, g1, g2, g3, g4, g5, g6⟩ := nJ hT A (fun x hx ox hox => (hA x (by simp [hx]) ox hox).2.1) hR2 h8;rw [cR] at g2;obtain ⟨o', e1, e2, e3, e4⟩ := g2;rw [hi] at e1
    cases e1;have hag : bS ops oi s s2 := (show bS ops oi s s1 by rw [h9]; exact bS.app p1).trans g3;rw [hag.kcls, gH hag.ev, hcall] at e3;exact e3
   obtain ⟨e, g, args, he, hw⟩ := FF hcall hpl h6;rw [hw s _ _ (bS.refl s)] at h6;rw [hw s _ _ (bS.refl s)];refine h6.mono fun r os h => ?_;rw [tu] at h ⊢;obtain ⟨f1, f2⟩ := ua (r := dI e [] 0) (d := e) (X := X) (fun i => pR e d i) (os := os) (j := 0) h5.1;have hf := f1.1 h.1;refine ⟨hf, ?_⟩;have h := h.2;rw [f2 hf] at h;have haa : bS ops oa s (gJ oi.dst (kD (dI e [] 0) r) s) := bS.app p3;rw [aav, cR];refine ⟨oa, h1, by rw [haa.kcls]; exact h2, by rw [haa.kcls, gH haa.ev]; exact h3, ?_⟩;rw [haa.kcls, hv _ _ _ haa];exact ⟨by rw [(mE hf (al d)).2 (fun i => pR e d i)]; exact h5.1, h⟩
theorem TK (hT : cd P T) {i : Nat} {A B : List Nat} {k : St → Prop} (hi : ops[i]? = some oi) {seen : List (Nat × Cls)} {s : List AV} {objs : List (Nm × aE)}
  (hA : ∀ x ∈ A, ∀ ox, ops[x]? = some ox → (gE oi.after.toList x = false ∧ C7 ops i x = false) ∧ Ap ops ox oi ∧ (jB oi.op && jB ox.op) = false) (hR : A2 E ⟨s, objs⟩) (h : c7 P T an ops seen (A ++ i :: B) ⟨s, objs⟩ k) : W P T an ops oi ⟨s, objs⟩ fun st => c7 P T an ops seen (A ++ B) st k := by
 obtain ⟨s1, objs1, seen1, g1, g2, g3, g4, g5, g6⟩ := nJ hT A (fun x hx ox hox => (hA x hx ox hox).2.1) hR h;rw [cR] at g2;obtain ⟨o', e1, e2, e3, e4⟩ := g2;rw [hi] at e1
 cases e1;have hcls : kcls an ops oi s1 = kcls an ops oi s := g3.kcls
 cases hc : kcls an ops oi s1 with
 | val r =>
  have hwr : ∀ x ∈ A, ∀ ox, ops[x]? = some ox → tw an ox → r = [] := fun x hx ox hox hw => by
   have := pL e2 (g5 x hx ox hox hw) (hA x hx ox hox).1;rw [hc] at this
   cases r with
   | nil => rfl
   | cons _ _ => cases this
  obtain ⟨hlive, v, hv⟩ := zh hc e4;have hreads : ∀ m ∈ r, ax objs m = ax objs1 m := fun m hm => by
   obtain ⟨y, hy⟩ := KB hR (by rw [← hcls]; exact hc) m hm;have hg : sI objs objs1 := g6 fun x hx ox hox hw => by
    rw [hwr x hx ox hox hw] at hm; cases hm
   rw [hg m y hy, hy]
  rw [hv s objs _ g3.symm hreads];exact yP (xi := none) (r := r) (s0 := s1) (objs0 := objs1) hi (fun s' objs' k ha hm h => (hv s' objs' k ha hm).1 h) hlive (fun n X e => by cases e) A
   (fun x hx ox hox => ⟨(hA x hx ox hox).2.1, fun hw => ⟨hwr x hx ox hox hw, rfl⟩⟩) g3.symm hreads (fun n X e => by cases e) h
 | mk =>
  have hwr : ∀ x ∈ A, ∀ ox, ops[x]? = some ox → ¬ tw an ox := fun x hx ox hox hw => by
   have := pL e2 (g5 x hx ox hox hw) (hA x hx ox hox).1;rw [hc] at this
   cases this
  obtain ⟨d, v, X, hd, hv⟩ := MP hc e4;have hn1 := ((hv s1 objs1 _ (bS.refl s1)).1 e4).1;have hn : ax objs (al d) = none := by
   cases e : ax objs (al d) with
   | none => rfl
   | some y => rw [g6 hwr _ _ e] at hn1; cases hn1
  rw [hv s objs _ g3.symm];refine ⟨hn, ?_⟩;exact yP (xi := some (al d, X)) (r := []) (s0 := s1) (objs0 := objs1) hi (fun s' objs' k ha hm h => ((hv s' objs' k ha).1 h).2) (fun m hm => by cases hm) (fun n Y e => by cases e; exact ⟨d, rfl, hd⟩) A
   (fun x hx ox hox => ⟨(hA x hx ox hox).2.1, fun hw => absurd hw (hwr x hx ox hox)⟩) g3.symm (fun m hm => by cases hm) (fun n Y e => by cases e; exact hn) h
 | call => exact yx hT hi A hA hR (.inl (by rw [← hcls]; exact hc)) h
 | wr => exact yx hT hi A hA hR (.inr (by rw [← hcls]; exact hc)) h
end
end Go.Abs
