/- The engine, BX. -/
import Derived.Test.YtnjeogcgfoabhaaGreatE0BV
set_option linter.unusedVariables false
set_option linter.unusedSimpArgs false
namespace Go.Abs
open Go
section
variable {P : Program} {T : Tab} {an : Ann} {ops : Array Oper} {E : dY} {o oi : Oper}
theorem yJ {op : Op} {dst : Option Tmp} {ev : Operand → AV} (h : bJ an op dst ev = .call ∨ bJ an op dst ev = .wr) : jM op = true := by
 cases op with
 | load t x => simp only [bJ] at h; split at h <;> simp at h
 | lookup t x y ok => simp only [bJ] at h; split at h <;> simp at h
 | convert s d x => simp only [bJ] at h; split at h <;> simp at h
 | box t x =>
  simp only [bJ] at h;split at h
  ·split at h <;> simp at h
  ·simp at h
 | buildSlice t n ps =>
  simp only [bJ] at h;split at h
  ·split at h
   ·simp at h
   ·split at h <;> simp at h
  ·simp at h
 | call c =>
  simp only [bJ] at h;simp only [jM];split at h
  ·rename_i e; rw [e]
  ·rename_i b e;rw [e];simp only;split at h
   ·split at h
    ·split at h <;> simp at h
    ·simp at h
   ·simp at h
   ·simp at h
   ·rename_i h1 h2 h3;split
    ·exact absurd rfl h1
    ·exact absurd rfl h2
    ·exact absurd rfl h3
    ·rfl
  ·rename_i h1 h2;split
   ·rename_i b e; exact absurd e (h2 b)
   ·rfl
 | _ => first | rfl | (simp [bJ] at h)
theorem tc {s : List AV} (h : kcls an ops o s = .call ∨ kcls an ops o s = .wr) : jM o.op = true := by
 unfold kcls at h;split at h
 ·exact yJ h
 ·unfold kD at h;split at h
  ·rename_i e; exact yJ (.inr e)
  ·simp at h
theorem C1 {c : Cls} (h : pB c .call = true) : (∃ r, c = .val r) ∨ c = .mk ∨ c = .call ∨ c = .wr := by
 cases c with
 | val r => exact .inl ⟨r, rfl⟩
 | mk => exact .inr (.inl rfl)
 | call => exact .inr (.inr (.inl rfl))
 | wr => exact .inr (.inr (.inr rfl))
theorem Iy {c : Cls} (h : pB c .wr = true) : c = .val [] ∨ c = .call ∨ c = .wr := by
 cases c with
 | val r => cases r with
  | nil => exact .inl rfl
  | cons _ _ => cases h
 | mk => cases h
 | call => exact .inr (.inl rfl)
 | wr => exact .inr (.inr rfl)
theorem yD (hT : cg P T) {i : Nat} {B : List Nat} {k : St → Prop} (hi : ops[i]? = some oi) : ∀ (A : List Nat) {seen : List (Nat × Cls)} {s : List AV} {objs : List (Nm × aF)},
  (∀ x ∈ A, ∀ ox, ops[x]? = some ox → (gK oi.after.toList x = false ∧ C9 ops i x = false) ∧ Ap ops ox oi ∧ (jM oi.op && jM ox.op) = false) → A6 E ⟨s, objs⟩ → (kcls an ops oi s = .call ∨ kcls an ops oi s = .wr) → dc P T an ops seen (A ++ i :: B) ⟨s, objs⟩ k →
  W P T an ops oi ⟨s, objs⟩ fun st => dc P T an ops seen (A ++ B) st k := by
 intro A
 induction A with
 | nil =>
  intro seen s objs _ _ _ h;rw [List.nil_append, cZ] at h;obtain ⟨o', h1, h2, h3, h4⟩ := h;rw [hi] at h1
  cases h1;exact iQ h4 fun st h => CF w9 h
 | cons a A ih =>
  intro seen s objs hA hR hc h;rw [List.cons_append, cZ] at h;obtain ⟨oa, h1, h2, h3, h4⟩ := h;obtain ⟨hna, ⟨p1, p2, p3⟩, hncl⟩ := hA a (by simp) oa h1
  -- the class of 'a'
  have hcomp : pB (kcls an ops oa s) (kcls an ops oi s) = true := by
   obtain ⟨⟨s1, objs1⟩, hR1, h6, v, h7⟩ := lw hT hR (kF h4);simp only at h7;obtain ⟨s2, objs2, seen2, g1, g2, g3, g4, g5, g6⟩ := nP hT A (fun x hx ox hox => (hA x (by simp [hx]) ox hox).2.1) hR1 h6;rw [cZ] at g2;obtain ⟨o', e1, e2, e3, e4⟩ := g2;rw [hi] at e1
   cases e1;have hag : bW ops oi s s2 := (show bW ops oi s s1 by rw [h7]; exact bW.app p1).trans g3;rw [hag.kcls] at e2;by_cases hq : kcls an ops oa s = .val []
   ·rw [hq]; rfl
   ·exact pO e2 (g4 _ (Dh hq)) hna
  have hquiet : kcls an ops oa s ≠ .call ∧ kcls an ops oa s ≠ .wr := by
   have hl := tc hc;rw [hl, Bool.true_and] at hncl;have no : jM oa.op = true → False := fun e => by rw [e] at hncl; cases hncl
   exact ⟨fun e => no (tc (.inl e)), fun e => no (tc (.inr e))⟩
  have hcase : (∃ r, kcls an ops oa s = .val r ∧ (kcls an ops oi s = .call ∨ r = [])) ∨ (kcls an ops oa s = .mk ∧ kcls an ops oi s = .call) := by
   rcases hc with hc | hc
   ·rw [hc] at hcomp;rcases C1 hcomp with ⟨r, hr⟩ | hr | hr | hr
    ·exact .inl ⟨r, hr, .inl hc⟩
    ·exact .inr ⟨hr, hc⟩
    ·exact absurd hr hquiet.1
    ·exact absurd hr hquiet.2
   ·rw [hc] at hcomp;rcases Iy hcomp with hr | hr | hr
    ·exact .inl ⟨[], hr, .inr rfl⟩
    ·exact absurd hr hquiet.1
    ·exact absurd hr hquiet.2
  rcases hcase with ⟨r, hr, hrc⟩ | ⟨hmk, hcall⟩
  ·obtain ⟨hlive, va, hv⟩ := zm hr h4;have h5 := (hv s objs _ (bW.refl s) (fun _ _ => rfl)).1 h4;have hR1 : A6 E ⟨gO oa.dst va s, objs⟩ := by
    obtain ⟨st1, g1, g2⟩ := lw hT hR ((hv s objs (fun st => st = ⟨gO oa.dst va s, objs⟩) (bW.refl s) (fun _ _ => rfl)).2 rfl);rw [g2] at g1; exact g1
   have hag : bW ops oi s (gO oa.dst va s) := bW.app p1;have h6 := ih (fun x hx => hA x (by simp [hx])) hR1 (by rw [hag.kcls]; exact hc) h5;rw [uV p1 (fun d hd => p2 d hd)] at h6;have h7 : W P T an ops oi ⟨s, objs⟩ fun st => ((dc P T an ops (pD (kcls an ops oa s) a seen) (A ++ B) ⟨gO oa.dst va st.slots, st.objs⟩ k) ∧ ∃ v, st.slots = gO oi.dst v s) ∧ (∀ m ∈ r, az st.objs m = az objs m) := by
    rcases hrc with hcall | rfl
    ·have hpl : jd (kcls an ops oi s) (fj an oi.op oi.dst (evA s)) = true := by
      obtain ⟨⟨s1, objs1⟩, hR2, h8, v, h9⟩ := lw hT hR (kF h4);simp only at h9;obtain ⟨s2, objs2, seen2, g1, g2, g3, g4, g5, g6⟩ := nP hT A (fun x hx ox hox => (hA x (by simp [hx]) ox hox).2.1) hR2 h8;rw [cZ] at g2;obtain ⟨o', e1, e2, e3, e4⟩ := g2;rw [hi] at e1
      cases e1;have hag : bW ops oi s s2 := (show bW ops oi s s1 by rw [h9]; exact bW.app p1).trans g3;rw [hag.kcls, gM hag.ev] at e3;exact e3
     exact iQ (FG (by rw [hcall]; simp) hpl (kF h6)) fun st h => ⟨h.1, fun m hm => by
      obtain ⟨x, hx⟩ := hlive m hm;rw [h.2 m x hx, hx]⟩
    ·exact iQ (kF h6) fun st h => ⟨h, fun m hm => by cases hm⟩
   refine iQ h7 ?_;rintro ⟨s2, objs2⟩ ⟨⟨g1, v, g2⟩, g3⟩;simp only at g1 g2 g3;have haa : bW ops oa s s2 := by rw [g2]; exact bW.app p3
   rw [List.cons_append, cZ];refine ⟨oa, h1, by rw [haa.kcls]; exact h2, by rw [haa.kcls, gM haa.ev]; exact h3, ?_⟩;rw [haa.kcls];exact (hv s2 objs2 _ haa g3).2 g1
  ·obtain ⟨d, va, X, hd, hv⟩ := MP hmk h4;have h5 := (hv s objs _ (bW.refl s)).1 h4;have hR1 : A6 E ⟨gO oa.dst va s, iN objs (ak d) X⟩ := by
    obtain ⟨st1, g1, g2⟩ := lw hT hR ((hv s objs (fun st => st = ⟨gO oa.dst va s, iN objs (ak d) X⟩) (bW.refl s)).2 ⟨h5.1, rfl⟩);rw [g2] at g1; exact g1
   have hag : bW ops oi s (gO oa.dst va s) := bW.app p1;have h6 := ih (fun x hx => hA x (by simp [hx])) hR1 (by rw [hag.kcls]; exact hc) h5.2;rw [uV p1 (fun d hd => p2 d hd)] at h6;have hpl : fj an oi.op oi.dst (evA s) = true := by
    obtain ⟨⟨s1, objs1⟩, hR2, h8, v, h9⟩ := lw hT hR (kF h4);simp only at h9;obtain ⟨s2, objs2, seen2, g1, g2, g3, g4, g5, g6⟩ := nP hT A (fun x hx ox hox => (hA x (by simp [hx]) ox hox).2.1) hR2 h8;rw [cZ] at g2;obtain ⟨o', e1, e2, e3, e4⟩ := g2;rw [hi] at e1
    cases e1;have hag : bW ops oi s s2 := (show bW ops oi s s1 by rw [h9]; exact bW.app p1).trans g3;rw [hag.kcls, gM hag.ev, hcall] at e3;exact e3
   obtain ⟨e, g, args, he, hw⟩ := FH hcall hpl h6;rw [hw s _ _ (bW.refl s)] at h6;rw [hw s _ _ (bW.refl s)];refine h6.mono fun r os h => ?_;rw [tB] at h ⊢;obtain ⟨f1, f2⟩ := uf (r := dP e [] 0) (d := e) (X := X) (fun i => pU e d i) (os := os) (j := 0) h5.1;have hf := f1.1 h.1;refine ⟨hf, ?_⟩;have h := h.2;rw [f2 hf] at h;have haa : bW ops oa s (gO oi.dst (kU (dP e [] 0) r) s) := bW.app p3;rw [List.cons_append, cZ];refine ⟨oa, h1, by rw [haa.kcls]; exact h2, by rw [haa.kcls, gM haa.ev]; exact h3, ?_⟩;rw [haa.kcls, hv _ _ _ haa];exact ⟨by rw [(mQ hf (ak d)).2 (fun i => pU e d i)]; exact h5.1, h⟩
theorem TK (hT : cg P T) {i : Nat} {A B : List Nat} {k : St → Prop} (hi : ops[i]? = some oi) {seen : List (Nat × Cls)} {s : List AV} {objs : List (Nm × aF)}
  (hA : ∀ x ∈ A, ∀ ox, ops[x]? = some ox → (gK oi.after.toList x = false ∧ C9 ops i x = false) ∧ Ap ops ox oi ∧ (jM oi.op && jM ox.op) = false) (hR : A6 E ⟨s, objs⟩) (h : dc P T an ops seen (A ++ i :: B) ⟨s, objs⟩ k) :
  W P T an ops oi ⟨s, objs⟩ fun st => dc P T an ops seen (A ++ B) st k := by
 obtain ⟨s1, objs1, seen1, g1, g2, g3, g4, g5, g6⟩ := nP hT A (fun x hx ox hox => (hA x hx ox hox).2.1) hR h;rw [cZ] at g2;obtain ⟨o', e1, e2, e3, e4⟩ := g2;rw [hi] at e1
 cases e1;have hcls : kcls an ops oi s1 = kcls an ops oi s := g3.kcls
 cases hc : kcls an ops oi s1 with
 | val r =>
  have hwr : ∀ x ∈ A, ∀ ox, ops[x]? = some ox → tD an ox → r = [] := fun x hx ox hox hw => by
   have := pO e2 (g5 x hx ox hox hw) (hA x hx ox hox).1;rw [hc] at this
   cases r with
   | nil => rfl
   | cons _ _ => cases this
  obtain ⟨hlive, v, hv⟩ := zm hc e4;have hreads : ∀ m ∈ r, az objs m = az objs1 m := fun m hm => by
   obtain ⟨y, hy⟩ := KB hR (by rw [← hcls]; exact hc) m hm;have hg : sN objs objs1 := g6 fun x hx ox hox hw => by
    rw [hwr x hx ox hox hw] at hm; cases hm
   rw [hg m y hy, hy]
  rw [hv s objs _ g3.symm hreads];exact yU (xi := none) (r := r) (s0 := s1) (objs0 := objs1) hi (fun s' objs' k ha hm h => (hv s' objs' k ha hm).1 h) hlive (fun n X e => by cases e) A
   (fun x hx ox hox => ⟨(hA x hx ox hox).2.1, fun hw => ⟨hwr x hx ox hox hw, rfl⟩⟩) g3.symm hreads (fun n X e => by cases e) h
 | mk =>
  have hwr : ∀ x ∈ A, ∀ ox, ops[x]? = some ox → ¬ tD an ox := fun x hx ox hox hw => by
   have := pO e2 (g5 x hx ox hox hw) (hA x hx ox hox).1;rw [hc] at this
   cases this
  obtain ⟨d, v, X, hd, hv⟩ := MP hc e4;have hn1 := ((hv s1 objs1 _ (bW.refl s1)).1 e4).1;have hn : az objs (ak d) = none := by
   cases e : az objs (ak d) with
   | none => rfl
   | some y => rw [g6 hwr _ _ e] at hn1; cases hn1
  rw [hv s objs _ g3.symm];refine ⟨hn, ?_⟩;exact yU (xi := some (ak d, X)) (r := []) (s0 := s1) (objs0 := objs1) hi (fun s' objs' k ha hm h => ((hv s' objs' k ha).1 h).2) (fun m hm => by cases hm) (fun n Y e => by cases e; exact ⟨d, rfl, hd⟩) A
   (fun x hx ox hox => ⟨(hA x hx ox hox).2.1, fun hw => absurd hw (hwr x hx ox hox)⟩) g3.symm (fun m hm => by cases hm) (fun n Y e => by cases e; exact hn) h
 | call => exact yD hT hi A hA hR (.inl (by rw [← hcls]; exact hc)) h
 | wr => exact yD hT hi A hA hR (.inr (by rw [← hcls]; exact hc)) h
end
end Go.Abs
