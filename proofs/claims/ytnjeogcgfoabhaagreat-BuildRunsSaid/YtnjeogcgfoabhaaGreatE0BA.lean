/- The engine, BA. -/
import Derived.Test.YtnjeogcgfoabhaaGreatE0BZ
import Derived.Laws.Externs
set_option linter.unusedVariables false
set_option linter.unusedSimpArgs false
namespace Go.Abs
open Go
def AV.le (a b : AV) : Prop := ∀ (G : Gh) (v : Value), Rep G a v → Rep G b v
def leL (l m : List AV) : Prop := ∀ (G : Gh) (vs : List Value), aB G l vs → aB G m vs
def leE (l m : List (List AV)) : Prop := l.length = m.length ∧ ∀ (i : Nat) (x y : List AV), l[i]? = some x → m[i]? = some y → leL x y ∧ bP y = true
theorem AV.le.refl (a : AV) : AV.le a a := fun _ _ h => h
theorem AV.le.trans {a b c : AV} (h : AV.le a b) (h' : AV.le b c) : AV.le a c := fun G v e => h' G v (h G v e)
theorem leL.refl (l : List AV) : leL l l := fun _ _ h => h
theorem leL.nil : leL [] [] := leL.refl _
theorem leL.cons {a b : AV} {l m : List AV} (h : AV.le a b) (h' : leL l m) : leL (a :: l) (b :: m) := fun G vs e => by
 simp only [aB] at e ⊢;obtain ⟨v, us, rfl, h1, h2⟩ := e;exact ⟨v, us, rfl, h G v h1, h' G us h2⟩
theorem leL.append {l m l' m' : List AV} (h : leL l m) (h' : leL l' m') : leL (l ++ l') (m ++ m') := fun G vs e => by
 induction l generalizing m vs with
 | nil =>
  have hm : m = [] := by
   have := h ⟨fun _ _ => none, fun _ => none⟩ [] (by simp [aB]);exact aau (by simpa using this.length.symm)
  subst hm;exact h' G vs e
 | cons a l ih =>
  have := h';obtain ⟨us, ws, rfl, h1, h2⟩ : ∃ us ws, vs = us ++ ws ∧ aB G (a :: l) us ∧ aB G l' ws := by
   have hl := e.length;refine ⟨vs.take (a :: l).length, vs.drop (a :: l).length, by simp, ?_, ?_⟩
   ·have := e.take (a :: l).length;simpa using this
   ·have := e.drop (a :: l).length;simpa using this
  exact (h G us h1).append (h' G ws h2)
theorem cy (n : Nat) : AV.le (.val (.slice none 0 0)) (.sl none n []) := fun G v e => by
 simp only [Rep] at e ⊢;subst e;exact ⟨⟨none, 0, rfl, by simp, by simp [d7]⟩, trivial⟩
theorem iJ {l m : List AV} (h : leL l m) : AV.le (.agg l) (.agg m) := fun G v e => by
 simp only [Rep] at e ⊢;obtain ⟨vs, rfl, e⟩ := e;exact ⟨vs, rfl, h G vs e⟩
theorem f9 {l m : List AV} (h : leL l m) : AV.le (.tup l) (.tup m) := fun G v e => by
 simp only [Rep] at e ⊢;obtain ⟨vs, rfl, e⟩ := e;exact ⟨vs, rfl, h G vs e⟩
theorem leE.refl {l : List (List AV)} (h : ∀ x ∈ l, bP x = true) : leE l l := ⟨rfl, fun i x y hx hy => by
 rw [hx] at hy
 cases hy;exact ⟨leL.refl _, h x (aaO hx)⟩⟩
theorem leE.nil : leE [] [] := leE.refl (by simp)
theorem leE.cons {x y : List AV} {l m : List (List AV)} (h : leL x y) (hok : bP y = true) (h' : leE l m) : leE (x :: l) (y :: m) := by
 refine ⟨by simp [h'.1], fun i a b ha hb => ?_⟩
 cases i with
 | zero => simp at ha hb; subst ha hb; exact ⟨h, hok⟩
 | succ i => exact h'.2 i a b (by simpa using ha) (by simpa using hb)
theorem leE.append {l m l' m' : List (List AV)} (h : leE l m) (h' : leE l' m') : leE (l ++ l') (m ++ m') := by
 refine ⟨by simp [h.1, h'.1], fun i a b ha hb => ?_⟩;rcases aaN i l.length with hi | hi
 ·rw [aaM hi] at ha;rw [aaM (by rw [← h.1]; exact hi)] at hb;exact h.2 i a b ha hb
 ·rw [aaV hi] at ha;rw [aaV (by rw [← h.1]; exact hi), ← h.1] at hb;exact h'.2 _ a b ha hb
theorem leE.map {α : Type} {f g : α → List AV} {l : List α} (h : ∀ x ∈ l, leL (f x) (g x) ∧ bP (g x) = true) : leE (l.map f) (l.map g) := by
 refine ⟨by simp, fun i a b ha hb => ?_⟩;simp only [aaE, aa5] at ha hb;obtain ⟨x, hx, rfl⟩ := ha;obtain ⟨y, hy, rfl⟩ := hb;rw [hx] at hy
 cases hy;exact h x (aaO hx)
theorem EE {x y : List AV} (h : leL x y) : ∀ {G : Gh} {vs : List Value}, aB G x vs → x.length = y.length := fun {G vs} e => by
 rw [← (h G vs e).length, e.length]
theorem Na (o : Option Nm) (n : Nat) {l m : List (List AV)} (h : leE l m) : AV.le (.sl o n l) (.sl none n m) := fun G v e => by
 simp only [Rep] at e ⊢;obtain ⟨⟨A, c, rfl, hc, hE⟩, _⟩ := e;refine ⟨⟨A, c, by rw [h.1], by rw [← h.1]; exact hc, d7.of_get fun i y hy => ?_⟩, trivial⟩;have hi : i < m.length := (List.getElem?_eq_some_iff.1 hy).1;have hx : l[i]? = some (l[i]'(by rw [h.1]; exact hi)) := aad _;obtain ⟨b, o', h1, h2, h3, h4⟩ := hE.get hx;obtain ⟨h5, h6⟩ := h.2 i _ _ hx hy;obtain ⟨vs, g1, g2⟩ := h4.vals;refine ⟨b, o', h1, ?_, h6, ?_⟩
 ·rw [← h2, EE h5 g1]
 ·exact fv.of_vals (h5 G vs g1) g2
theorem ag.args {P : Program} {f : FuncId} {args args' : List AV} {os : List aE} {R : AV → List aE → Prop} (h : leL args args') (hc : ag P f args' os R) : ag P f args os R :=
 ⟨fun G w vals hw ha => hc.run G w vals hw (h G vals ha)⟩
theorem ag.res {P : Program} {f : FuncId} {args : List AV} {os : List aE} {R : AV → List aE → Prop} (hc : ag P f args os fun r os' => ∃ r', AV.le r r' ∧ (∀ m ∈ r'.names, m ∈ r.names) ∧ R r' os') : ag P f args os R :=
 ⟨fun G w vals hw ha => (hc.run G w vals hw ha).mono fun e w' ⟨v, r, os', G', h1, ⟨r', g1, g2, g3⟩, h3, h4, h5, h6, h7, h8, h9⟩ => ⟨v, r', os', G', h1, g3, g1 G' v h3, h4, h5, h6, h7, h8, fun m hm => h9 m (g2 m hm)⟩⟩
theorem bB {r : AV} {os : List aE} {R : AV → List aE → Prop} (h : R r os) : ∃ r', AV.le r r' ∧ (∀ m ∈ r'.names, m ∈ r.names) ∧ R r' os := ⟨r, .refl _, fun _ h => h, h⟩
theorem cw {r r' : AV} {os : List aE} {R : AV → List aE → Prop} (hl : AV.le r r') (hn : r'.names = []) (h : R r' os) : ∃ r', AV.le r r' ∧ (∀ m ∈ r'.names, m ∈ r.names) ∧ R r' os := ⟨r', hl, (fun m hm => by rw [hn] at hm; cases hm), h⟩
end Go.Abs
