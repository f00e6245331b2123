/- The engine, BA. -/
import Derived.Test.YtnjeogcgfoabhaaGreatE0BZ
import Derived.Laws.Externs
set_option linter.unusedVariables false
set_option linter.unusedSimpArgs false
namespace Go.Abs
open Go
def AV.le (a b : AV) : Prop := ∀ (G : Gh) (v : Value), Rep G a v → Rep G b v
def leL (l m : List AV) : Prop := ∀ (G : Gh) (vs : List Value), aB G l vs → aB G m vs
def leE (l m : List (List AV)) : Prop := l.length = m.length ∧ ∀ (i : Nat) (x y : List AV), l[i]? = some x → m[i]? = some y → leL x y ∧ bU y = true
theorem AV.le.refl (a : AV) : AV.le a a := fun _ _ h => h
theorem AV.le.trans {a b c : AV} (h : AV.le a b) (h' : AV.le b c) : AV.le a c := fun G v e => h' G v (h G v e)
theorem leL.refl (l : List AV) : leL l l := fun _ _ h => h
theorem leL.nil : leL [] [] := leL.refl _
theorem leL.cons {a b : AV} {l m : List AV} (h : AV.le a b) (h' : leL l m) : leL (a :: l) (b :: m) := fun G vs e => by
 simp only [aB] at e ⊢;obtain ⟨v, us, rfl, h1, h2⟩ := e;exact ⟨v, us, rfl, h G v h1, h' G us h2⟩
theorem leL.append {l m l' m' : List AV} (h : leL l m) (h' : leL l' m') : leL (l ++ l') (m ++ m') := fun G vs e => by
 induction l generalizing m vs with
 | nil =>
  have hm : m = [] := by
   have := h ⟨fun _ _ => none, fun _ => none⟩ [] (by simp [aB]);exact List.eq_nil_of_length_eq_zero (by simpa using this.length.symm)
  subst hm;exact h' G vs e
 | cons a l ih =>
  have := h';obtain ⟨us, ws, rfl, h1, h2⟩ : ∃ us ws, vs = us ++ ws ∧ aB G (a :: l) us ∧ aB G l' ws := by
   have hl := e.length;refine ⟨vs.take (a :: l).length, vs.drop (a :: l).length, by simp, ?_, ?_⟩
   ·have := e.take (a :: l).length;simpa using this
   ·have := e.drop (a :: l).length;simpa using this
  exact (h G us h1).append (h' G ws h2)
theorem cy (n : Nat) : AV.le (.val (.slice none 0 0)) (.sl none n []) := fun G v e => by
 simp only [Rep] at e ⊢;subst e;exact ⟨⟨none, 0, rfl, by simp, by simp [eh]⟩, trivial⟩
theorem TV (o : Option Nm) (n : Nat) (l : List (List AV)) : AV.le (.sl o n l) (.sl none n l) := fun G v e => by
 simp only [Rep] at e ⊢;exact ⟨e.1, trivial⟩
theorem iL {l m : List AV} (h : leL l m) : AV.le (.agg l) (.agg m) := fun G v e => by
 simp only [Rep] at e ⊢;obtain ⟨vs, rfl, e⟩ := e;exact ⟨vs, rfl, h G vs e⟩
theorem gg {l m : List AV} (h : leL l m) : AV.le (.tup l) (.tup m) := fun G v e => by
 simp only [Rep] at e ⊢;obtain ⟨vs, rfl, e⟩ := e;exact ⟨vs, rfl, h G vs e⟩
theorem leE.refl {l : List (List AV)} (h : ∀ x ∈ l, bU x = true) : leE l l := ⟨rfl, fun i x y hx hy => by
 rw [hx] at hy
 cases hy;exact ⟨leL.refl _, h x (List.mem_of_getElem? hx)⟩⟩
theorem leE.nil : leE [] [] := leE.refl (by simp)
theorem leE.cons {x y : List AV} {l m : List (List AV)} (h : leL x y) (hok : bU y = true) (h' : leE l m) : leE (x :: l) (y :: m) := by
 refine ⟨by simp [h'.1], fun i a b ha hb => ?_⟩
 cases i with
 | zero => simp at ha hb; subst ha hb; exact ⟨h, hok⟩
 | succ i => exact h'.2 i a b (by simpa using ha) (by simpa using hb)
theorem leE.append {l m l' m' : List (List AV)} (h : leE l m) (h' : leE l' m') : leE (l ++ l') (m ++ m') := by
 refine ⟨by simp [h.1, h'.1], fun i a b ha hb => ?_⟩;rcases Nat.lt_or_ge i l.length with hi | hi
 ·rw [List.getElem?_append_left hi] at ha;rw [List.getElem?_append_left (by rw [← h.1]; exact hi)] at hb;exact h.2 i a b ha hb
 ·rw [List.getElem?_append_right hi] at ha;rw [List.getElem?_append_right (by rw [← h.1]; exact hi), ← h.1] at hb;exact h'.2 _ a b ha hb
theorem leE.map {α : Type} {f g : α → List AV} {l : List α} (h : ∀ x ∈ l, leL (f x) (g x) ∧ bU (g x) = true) : leE (l.map f) (l.map g) := by
 refine ⟨by simp, fun i a b ha hb => ?_⟩;simp only [List.getElem?_map, Option.map_eq_some_iff] at ha hb;obtain ⟨x, hx, rfl⟩ := ha;obtain ⟨y, hy, rfl⟩ := hb;rw [hx] at hy
 cases hy;exact h x (List.mem_of_getElem? hx)
theorem EG {x y : List AV} (h : leL x y) : ∀ {G : Gh} {vs : List Value}, aB G x vs → x.length = y.length := fun {G vs} e => by
 rw [← (h G vs e).length, e.length]
theorem Na (o : Option Nm) (n : Nat) {l m : List (List AV)} (h : leE l m) : AV.le (.sl o n l) (.sl none n m) := fun G v e => by
 simp only [Rep] at e ⊢;obtain ⟨⟨A, c, rfl, hc, hE⟩, _⟩ := e;refine ⟨⟨A, c, by rw [h.1], by rw [← h.1]; exact hc, eh.of_get fun i y hy => ?_⟩, trivial⟩;have hi : i < m.length := (List.getElem?_eq_some_iff.1 hy).1;have hx : l[i]? = some (l[i]'(by rw [h.1]; exact hi)) := List.getElem?_eq_getElem _;obtain ⟨b, o', h1, h2, h3, h4⟩ := hE.get hx;obtain ⟨h5, h6⟩ := h.2 i _ _ hx hy;obtain ⟨vs, g1, g2⟩ := h4.vals;refine ⟨b, o', h1, ?_, h6, ?_⟩
 ·rw [← h2, EG h5 g1]
 ·exact fC.of_vals (h5 G vs g1) g2
theorem ag.args {P : Program} {f : FuncId} {args args' : List AV} {os : List aF} {R : AV → List aF → Prop} (h : leL args args') (hc : ag P f args' os R) : ag P f args os R :=
 ⟨fun G w vals hw ha => hc.run G w vals hw (h G vals ha)⟩
theorem ag.res {P : Program} {f : FuncId} {args : List AV} {os : List aF} {R : AV → List aF → Prop} (hc : ag P f args os fun r os' => ∃ r', AV.le r r' ∧ (∀ m ∈ r'.names, m ∈ r.names) ∧ R r' os') : ag P f args os R :=
 ⟨fun G w vals hw ha => (hc.run G w vals hw ha).mono fun e w' ⟨v, r, os', G', h1, ⟨r', g1, g2, g3⟩, h3, h4, h5, h6, h7, h8, h9⟩ => ⟨v, r', os', G', h1, g3, g1 G' v h3, h4, h5, h6, h7, h8, fun m hm => h9 m (g2 m hm)⟩⟩
theorem bB {r : AV} {os : List aF} {R : AV → List aF → Prop} (h : R r os) : ∃ r', AV.le r r' ∧ (∀ m ∈ r'.names, m ∈ r.names) ∧ R r' os := ⟨r, .refl _, fun _ h => h, h⟩
theorem cf {r r' : AV} {os : List aF} {R : AV → List aF → Prop} (hl : AV.le r r') (hn : r'.names = []) (h : R r' os) : ∃ r', AV.le r r' ∧ (∀ m ∈ r'.names, m ∈ r.names) ∧ R r' os := ⟨r', hl, (fun m hm => by rw [hn] at hm; cases hm), h⟩
theorem Nf {P : Program} {g : FuncId} {fn : Func} (hf : P.funcs[g]? = some fn) (hname : (fn.name == "runtime.NumGoroutine") = false) (hb : fn.body.isNone = true) (hn : Extern.findNext fn = none) (he : Extern.find fn = some Extern.BytealgIndexByte.indexByte)
  (s : ByteArray) (c : Int) {R : AV → Prop} (h : R (.val (.int .i64 (firstIdx s c.toNat.toUInt8)))) : Lg P g [.val (.string s), .val (.int .u8 c)] R := ⟨fun G w vals hk ha => by
 simp only [aB, Rep] at ha;obtain ⟨_, _, rfl, rfl, _, _, rfl, rfl, rfl⟩ := ha;refine ⟨_, _, ?_, h, rfl⟩;rw [run_callFunc_extern hf hname hb hn he];rw [show [Value.string s, Value.int .u8 c].toArray = #[.string s, .int .u8 c] from rfl, run_indexByte_string];rfl⟩
end Go.Abs
