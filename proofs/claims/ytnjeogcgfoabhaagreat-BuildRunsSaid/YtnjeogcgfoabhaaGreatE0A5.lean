/- The engine, A5. -/
import Derived.Test.YtnjeogcgfoabhaaGreatE0A4
set_option linter.unusedVariables false
set_option linter.unusedSimpArgs false
namespace Go.Abs
open Go
theorem Gh.le.refl (G : Gh) : G.le G := ⟨fun _ _ _ h => h, fun _ _ h => h, fun n u t h => ⟨u, t, h, .inr ⟨rfl, rfl⟩⟩⟩
theorem Gh.le.trans {G G' G'' : Gh} (h : G.le G') (h' : G'.le G'') : G.le G'' := by
 refine ⟨fun b o v e => h'.K _ _ _ (h.K _ _ _ e), fun n b e => h'.blk _ _ (h.blk _ _ e), fun n u t e => ?_⟩;obtain ⟨u', t', e', r⟩ := h.row n u t e;obtain ⟨u'', t'', e'', r'⟩ := h'.row n u' t' e';refine ⟨u'', t'', e'', ?_⟩;rcases r with r | ⟨rfl, rfl⟩
 ·rcases r' with r' | ⟨rfl, rfl⟩
  ·exact .inl (Nat.lt_trans r r')
  ·exact .inl r
 ·exact r'
mutual
theorem Rep.mono {G G' : Gh} (h : G.le G') : ∀ (a : AV) (v : Value), Rep G a v → Rep G' a v
 | .junk, v, _ => by simp [Rep]
 | .val x, v, e => by simpa [Rep] using e
 | .agg l, v, e => by
  simp only [Rep] at e ⊢;obtain ⟨vs, rfl, e⟩ := e;exact ⟨vs, rfl, aB.mono h l vs e⟩
 | .sl own size l, v, e => by
  simp only [Rep] at e ⊢;obtain ⟨⟨A, c, rfl, hc, e⟩, ho⟩ := e;refine ⟨⟨A, c, rfl, hc, d7.mono h size A l 0 e⟩, ?_⟩
  cases own with
  | none => trivial
  | some n =>
   obtain ⟨u, top, e1, e2, e3⟩ := ho;obtain ⟨u', t', e', r⟩ := h.row n u top e1;refine ⟨u', t', e', ?_, ?_⟩
   ·rcases r with r | ⟨_, rfl⟩ <;> omega
   ·intro hl;rcases r with r | ⟨rfl, rfl⟩
    ·omega
    ·exact e3 hl
 | .cptr cells off, v, e => by
  simp only [Rep] at e ⊢;obtain ⟨b, o, rfl, e, hk⟩ := e;exact ⟨b, o, rfl, fv.mono h b cells o e, hk⟩
 | .ptr n off, v, e => by
  simp only [Rep] at e ⊢;obtain ⟨b, e, rfl⟩ := e;exact ⟨b, h.blk _ _ e, rfl⟩
 | .slm n off len cap, v, e => by
  simp only [Rep] at e ⊢;obtain ⟨b, e, rfl⟩ := e;exact ⟨b, h.blk _ _ e, rfl⟩
 | .fn f first cap, v, e => by
  simp only [Rep] at e ⊢;obtain ⟨vs, us, rfl, e1, e2⟩ := e;exact ⟨vs, us, rfl, aB.mono h first vs e1, aB.mono h cap us e2⟩
 | .iface t x, v, e => by
  simp only [Rep] at e ⊢;obtain ⟨u, rfl, e⟩ := e;exact ⟨u, rfl, Rep.mono h x u e⟩
 | .mapv n, v, e => by
  simp only [Rep] at e ⊢;obtain ⟨b, e, rfl⟩ := e;exact ⟨b, h.blk _ _ e, rfl⟩
 | .tup l, v, e => by
  simp only [Rep] at e ⊢;obtain ⟨vs, rfl, e⟩ := e;exact ⟨vs, rfl, aB.mono h l vs e⟩
 | .slv n size ver off len, v, e => by
  simp only [Rep] at e ⊢;obtain ⟨hv, u, top, e1, e2, e3⟩ := e;obtain ⟨u', t', e', r⟩ := h.row n u top e1;refine ⟨hv, u', t', e', ?_, ?_⟩
  ·rcases r with r | ⟨_, rfl⟩ <;> omega
  ·intro hl;rcases r with r | ⟨rfl, rfl⟩
   ·omega
   ·exact e3 hl
 | .ptv n size ver i off, v, e => by
  simp only [Rep] at e ⊢;obtain ⟨hv, u, top, e1, e2, e3⟩ := e;obtain ⟨u', t', e', r⟩ := h.row n u top e1;refine ⟨hv, u', t', e', ?_, ?_⟩
  ·rcases r with r | ⟨_, rfl⟩ <;> omega
  ·intro hl;rcases r with r | ⟨rfl, rfl⟩
   ·omega
   ·exact e3 hl
theorem aB.mono {G G' : Gh} (h : G.le G') : ∀ (l : List AV) (vs : List Value), aB G l vs → aB G' l vs
 | [], vs, e => by simpa [aB] using e
 | a :: l, vs, e => by
  simp only [aB] at e ⊢;obtain ⟨v, us, rfl, e1, e2⟩ := e;exact ⟨v, us, rfl, Rep.mono h a v e1, aB.mono h l us e2⟩
theorem fv.mono {G G' : Gh} (h : G.le G') (b : Nat) : ∀ (l : List AV) (o : Nat), fv G b o l → fv G' b o l
 | [], o, e => by simp [fv]
 | a :: l, o, e => by
  simp only [fv] at e ⊢;obtain ⟨⟨v, e1, e2⟩, e3⟩ := e;exact ⟨⟨v, h.K _ _ _ e1, Rep.mono h a v e2⟩, fv.mono h b l (o + 1) e3⟩
theorem d7.mono {G G' : Gh} (h : G.le G') (size : Nat) (A : Option Addr) : ∀ (l : List (List AV)) (i : Nat), d7 G size A i l → d7 G' size A i l
 | [], i, e => by simp [d7]
 | x :: l, i, e => by
  simp only [d7] at e ⊢;obtain ⟨⟨b, o, e1, e2, e3, e4⟩, e5⟩ := e;exact ⟨⟨b, o, e1, e2, e3, fv.mono h b x _ e4⟩, d7.mono h size A l (i + 1) e5⟩
end
theorem m0 {a : AV} (h : jd true a = true) : a.okCell = true := by
 cases a <;> simp_all [jd, AV.okCell]
theorem jy {a : AV} (h : a.okCell = true) : cC a = true := by
 have all (l : List AV) (hl : l.all (jd true) = true) : cC.go l = true := by
  induction l with
  | nil => rfl
  | cons a l ih =>
   simp only [List.all_cons, aaq] at hl;simp [cC.go, m0 hl.1, ih hl.2]
 cases a with
 | fn f a b =>
  simp only [AV.okCell, aaq] at h;simp [cC, all a h.1, all b h.2]
 | iface t x => simpa [AV.okCell, cC] using h
 | sl own s l => cases own <;> simp_all [AV.okCell, jd, cC]
 | _ => simp_all [AV.okCell, jd, cC]
mutual
theorem Rep.nameless {G G' : Gh} (h : ∀ b o v, G.K b o = some v → G'.K b o = some v) : ∀ (a : AV) (v : Value), cC a = true → Rep G a v → Rep G' a v
 | .junk, v, _, _ => by simp [Rep]
 | .val x, v, _, e => by simpa [Rep] using e
 | .agg l, v, n, e => by
  simp only [Rep] at e ⊢;obtain ⟨vs, rfl, e⟩ := e;exact ⟨vs, rfl, aB.nameless h l vs (by simpa [cC] using n) e⟩
 | .sl own size l, v, n, e => by
  simp only [Rep] at e ⊢;obtain ⟨⟨A, c, rfl, hc, e⟩, ho⟩ := e;refine ⟨⟨A, c, rfl, hc, d7.nameless h size A l 0 e⟩, ?_⟩
  cases own with
  | none => trivial
  | some n' => simp [cC] at n
 | .cptr cells off, v, _, e => by
  simp only [Rep] at e ⊢;obtain ⟨b, o, rfl, e, hk⟩ := e;exact ⟨b, o, rfl, fv.nameless h b cells o hk e, hk⟩
 | .ptr n off, v, hn, e => by simp [cC] at hn
 | .slm n off len cap, v, hn, e => by simp [cC] at hn
 | .slv n size ver off len, v, hn, e => by simp [cC] at hn
 | .ptv n size ver i off, v, hn, e => by simp [cC] at hn
 | .fn f first cap, v, hn, e => by
  simp only [Rep] at e ⊢;simp only [cC, aaq] at hn;obtain ⟨vs, us, rfl, e1, e2⟩ := e;exact ⟨vs, us, rfl, aB.nameless h first vs hn.1 e1, aB.nameless h cap us hn.2 e2⟩
 | .iface t x, v, hn, e => by
  simp only [Rep] at e ⊢;obtain ⟨u, rfl, e⟩ := e;exact ⟨u, rfl, Rep.nameless h x u (jy (m0 (by simpa [cC] using hn))) e⟩
 | .mapv n, v, hn, e => by simp [cC] at hn
 | .tup l, v, n, e => by
  simp only [Rep] at e ⊢;obtain ⟨vs, rfl, e⟩ := e;exact ⟨vs, rfl, aB.nameless h l vs (by simpa [cC] using n) e⟩
theorem aB.nameless {G G' : Gh} (h : ∀ b o v, G.K b o = some v → G'.K b o = some v) : ∀ (l : List AV) (vs : List Value), cC.go l = true → aB G l vs → aB G' l vs
 | [], vs, _, e => by simpa [aB] using e
 | a :: l, vs, n, e => by
  simp only [aB] at e ⊢;obtain ⟨v, us, rfl, e1, e2⟩ := e;have n' : a.okCell = true ∧ cC.go l = true := by
   cases ha : a.okCell <;> simp_all [cC.go]
  exact ⟨v, us, rfl, Rep.nameless h a v (jy n'.1) e1, aB.nameless h l us n'.2 e2⟩
theorem fv.nameless {G G' : Gh} (h : ∀ b o v, G.K b o = some v → G'.K b o = some v) (b : Nat) : ∀ (l : List AV) (o : Nat), bP l = true → fv G b o l → fv G' b o l
 | [], o, _, e => by simp [fv]
 | a :: l, o, n, e => by
  simp only [fv] at e ⊢;obtain ⟨⟨v, e1, e2⟩, e3⟩ := e;have n' : a.okCell = true ∧ bP l = true := by
   cases ha : a.okCell <;> simp_all [bP]
  exact ⟨⟨v, h _ _ _ e1, Rep.nameless h a v (jy n'.1) e2⟩, fv.nameless h b l (o + 1) n'.2 e3⟩
theorem d7.nameless {G G' : Gh} (h : ∀ b o v, G.K b o = some v → G'.K b o = some v) (size : Nat) (A : Option Addr) : ∀ (l : List (List AV)) (i : Nat), d7 G size A i l → d7 G' size A i l
 | [], i, e => by simp [d7]
 | x :: l, i, e => by
  simp only [d7] at e ⊢;obtain ⟨⟨b, o, e1, e2, e3, e4⟩, e5⟩ := e;exact ⟨⟨b, o, e1, e2, e3, fv.nameless h b x _ e3 e4⟩, d7.nameless h size A l (i + 1) e5⟩
end
theorem fJ {l : List AV} : bP l = true ↔ ∀ a ∈ l, a.okCell = true := by
 induction l with
 | nil => simp [bP]
 | cons a l ih =>
  cases h : a.okCell
  ·simp [bP, h]
  ·simp [bP, h, ih]
theorem aB.length {G : Gh} {l : List AV} {vs : List Value} (h : aB G l vs) : vs.length = l.length := by
 induction l generalizing vs with
 | nil => simp only [aB] at h; subst h; rfl
 | cons a l ih =>
  simp only [aB] at h;obtain ⟨v, us, rfl, _, h⟩ := h;simp [ih h]
theorem aB.get {G : Gh} {l : List AV} {vs : List Value} (h : aB G l vs) {i : Nat} {a : AV} (ha : l[i]? = some a) : ∃ v, vs[i]? = some v ∧ Rep G a v := by
 induction l generalizing vs i with
 | nil => simp at ha
 | cons b l ih =>
  simp only [aB] at h;obtain ⟨v, us, rfl, h1, h⟩ := h
  cases i with
  | zero => simp at ha; subst ha; exact ⟨v, rfl, h1⟩
  | succ i => exact ih h (by simpa using ha)
theorem aB.of_get {G : Gh} {l : List AV} {vs : List Value} (hl : vs.length = l.length) (h : ∀ (i : Nat) a v, l[i]? = some a → vs[i]? = some v → Rep G a v) : aB G l vs := by
 induction l generalizing vs with
 | nil => simp at hl; subst hl; simp [aB]
 | cons a l ih =>
  cases vs with
  | nil => simp at hl
  | cons v vs =>
   simp only [aB];exact ⟨v, vs, rfl, h 0 a v rfl rfl, ih (by simpa using hl) fun i a' v' h1 h2 => h (i + 1) a' v' (by simpa using h1) (by simpa using h2)⟩
theorem aB.append {G : Gh} {l m : List AV} {vs us : List Value} (h : aB G l vs) (h' : aB G m us) : aB G (l ++ m) (vs ++ us) := by
 induction l generalizing vs with
 | nil => simp only [aB] at h; subst h; exact h'
 | cons a l ih =>
  simp only [aB] at h;obtain ⟨v, ws, rfl, h1, h⟩ := h;simp only [aav, aB];exact ⟨v, ws ++ us, rfl, h1, ih h⟩
theorem aB.set {G : Gh} {l : List AV} {vs : List Value} (h : aB G l vs) (i : Nat) {a : AV} {v : Value} (ha : Rep G a v) : aB G (jb l i a) (vs.set i v) := by
 induction l generalizing vs i with
 | nil => simp only [aB] at h; subst h; cases i <;> simp [jb, aB]
 | cons b l ih =>
  simp only [aB] at h;obtain ⟨u, us, rfl, h1, h⟩ := h
  cases i with
  | zero => simp only [jb, List.set_cons_zero, aB]; exact ⟨v, us, rfl, ha, h⟩
  | succ i => simp only [jb, List.set_cons_succ, aB]; exact ⟨u, us.set i v, rfl, h1, ih h i⟩
theorem eo (l : List AV) (i : Nat) : iW l i = l.getD i .junk := by
 induction l generalizing i with
 | nil => cases i <;> rfl
 | cons a l ih => cases i with
  | zero => rfl
  | succ i => simpa [iW] using ih i
theorem pI (l : List AV) (i : Nat) (a : AV) : jb l i a = l.set i a := by
 induction l generalizing i with
 | nil => cases i <;> rfl
 | cons b l ih => cases i with
  | zero => rfl
  | succ i => simp [jb, ih i]
theorem aB.drop {G : Gh} {l : List AV} {vs : List Value} (h : aB G l vs) (n : Nat) : aB G (l.drop n) (vs.drop n) := by
 induction l generalizing vs n with
 | nil => simp only [aB] at h; subst h; simp [aB]
 | cons a l ih =>
  cases n with
  | zero => simpa using h
  | succ n =>
   simp only [aB] at h;obtain ⟨v, us, rfl, _, h⟩ := h;simpa using ih h n
theorem aB.take {G : Gh} {l : List AV} {vs : List Value} (h : aB G l vs) (n : Nat) : aB G (l.take n) (vs.take n) := by
 induction l generalizing vs n with
 | nil => simp only [aB] at h; subst h; simp [aB]
 | cons a l ih =>
  cases n with
  | zero => simp [aB]
  | succ n =>
   simp only [aB] at h;obtain ⟨v, us, rfl, h1, h⟩ := h;simp only [abA, aB];exact ⟨v, us.take n, rfl, h1, ih h n⟩
theorem fv.drop {G : Gh} {b o : Nat} {l : List AV} (h : fv G b o l) (n : Nat) : fv G b (o + n) (l.drop n) := by
 induction l generalizing o n with
 | nil => simp [fv]
 | cons a l ih =>
  cases n with
  | zero => simpa using h
  | succ n =>
   simp only [fv] at h;have := ih h.2 n;rw [show o + (n + 1) = o + 1 + n by omega];simpa using this
theorem fv.vals {G : Gh} {b o : Nat} {l : List AV} (h : fv G b o l) : ∃ vs : List Value, aB G l vs ∧ ∀ j v, vs[j]? = some v → G.K b (o + j) = some v := by
 induction l generalizing o with
 | nil => exact ⟨[], by simp [aB], by simp⟩
 | cons a l ih =>
  simp only [fv] at h;obtain ⟨⟨v, h1, h2⟩, h3⟩ := h;obtain ⟨vs, h4, h5⟩ := ih h3;refine ⟨v :: vs, by simp only [aB]; exact ⟨v, vs, rfl, h2, h4⟩, fun j u hj => ?_⟩
  cases j with
  | zero => simp at hj; subst hj; simpa using h1
  | succ j =>
   have := h5 j u (by simpa using hj);rwa [show o + 1 + j = o + (j + 1) by omega] at this
theorem fv.of_vals {G : Gh} {b o : Nat} {l : List AV} {vs : List Value} (h : aB G l vs) (hk : ∀ j v, vs[j]? = some v → G.K b (o + j) = some v) : fv G b o l := by
 induction l generalizing o vs with
 | nil => simp [fv]
 | cons a l ih =>
  simp only [aB] at h;obtain ⟨v, us, rfl, h1, h⟩ := h;simp only [fv];refine ⟨⟨v, by simpa using hk 0 v rfl, h1⟩, ih h fun j u hj => ?_⟩;have := hk (j + 1) u (by simpa using hj);rwa [show o + (j + 1) = o + 1 + j by omega] at this
theorem d7.get {G : Gh} {size : Nat} {A : Option Addr} {l : List (List AV)} {k : Nat} (h : d7 G size A k l) {i : Nat} {e : List AV} (he : l[i]? = some e) : ∃ b o, A = some ⟨b, o, none⟩ ∧ e.length = size ∧ bP e = true ∧ fv G b (o + (k + i) * size) e := by
 induction l generalizing k i with
 | nil => simp at he
 | cons x l ih =>
  simp only [d7] at h
  cases i with
  | zero => simp at he; subst he; simpa using h.1
  | succ i =>
   have := ih h.2 (i := i) (by simpa using he);rwa [show k + 1 + i = k + (i + 1) by omega] at this
theorem d7.of_get {G : Gh} {size : Nat} {A : Option Addr} {l : List (List AV)} {k : Nat} (h : ∀ (i : Nat) e, l[i]? = some e → ∃ b o, A = some ⟨b, o, none⟩ ∧ e.length = size ∧ bP e = true ∧ fv G b (o + (k + i) * size) e) : d7 G size A k l := by
 induction l generalizing k with
 | nil => simp [d7]
 | cons x l ih =>
  simp only [d7];refine ⟨by simpa using h 0 x rfl, ih fun i e he => ?_⟩;have := h (i + 1) e (by simpa using he);rwa [show k + (i + 1) = k + 1 + i by omega] at this
end Go.Abs
