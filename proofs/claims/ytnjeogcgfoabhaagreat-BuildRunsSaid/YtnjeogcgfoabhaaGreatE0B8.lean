/- The engine, B8. -/
import Derived.Test.YtnjeogcgfoabhaaGreatE0BY
import Derived.Test.YtnjeogcgfoabhaaGreatE0BW
import Derived.RangeFuncNested
import Derived.RangeFuncLeaves
set_option linter.unusedVariables false
set_option linter.unusedSimpArgs false
namespace Go.Abs
open Go
section
open Code
variable {P : Program} {b : Frame} {a : Act} {k : List Item} {cs : List Frame} {w : World}
theorem jh {c : Code} : step P (lone (b.atR a (.code (.scope c) :: k)) cs w) = .next (lone (b.atR a (.code c :: .inScope c :: k)) cs w) :=
 step_lone_go (by simp [stepG, stepG.exec, Frame.atR])
theorem xc {c : Code} : step P (lone (b.atR a (.inScope c :: k)) cs w) = .next (lone (b.atR a k) cs w) :=
 step_lone_go (by simp [stepG, stepG.exec, Frame.atR])
theorem Dv {F : Fence} {n : Nat} {Q : Exit → Act → World → Prop} {c : Code} (h : c.wpIn F n P (fun e a w => (∀ l, e ≠ .goto l) ∧ Q e a w) a w) : (Code.scope c).wpIn F n P Q a w := by
 intro b k cs hro hb hr;have h0 : (lone (b.atR a (.code (.scope c) :: k)) cs w).fenced P F := fenced_calm hb hr rfl;obtain ⟨e, a₁, w₁, ⟨hg, hq⟩, harr⟩ := h b (.inScope c :: k) cs hro hb hr
 cases e with
 | normal => exact ⟨.normal, a₁, w₁, hq, .head h0 jh (StepsIn.trans harr (.one (fenced_calm hb hr rfl) xc))⟩
 | exit id =>
  have hx : exitTo id (.inScope c :: k) = exitTo id k := by simp [exitTo]
  exact ⟨.exit id, a₁, w₁, hq, fun k' hk => .head h0 jh (harr.1 k' (by rw [hx]; exact hk)),
   fun hr' hk => let ⟨k₁, h1, h2⟩ := harr.2 hr' (by rw [hx]; exact hk); ⟨k₁, h1, .head h0 jh h2⟩⟩
 | goto l => exact absurd rfl (hg l)
 | ret => exact ⟨_, a₁, w₁, hq, .of_steps (.one h0 jh) harr⟩
 | panic ch => exact ⟨_, a₁, w₁, hq, .of_steps (.one h0 jh) harr⟩
 | outgrown => exact ⟨_, a₁, w₁, hq, .of_steps (.one h0 jh) harr⟩
end
section
variable {P : Program} {T : Tab} {an : Ann} {E : dQ} {st : St} {G : Gh} {a : Act} {w : World}
theorem HB {ro : Option Nat} {n : Nat} (hT : cd P T) (ops : Array Oper) {k : St → Prop} {Q : Exit → Act → World → Prop} (hn : ∀ st' G' a' w', Inv E st' G' a' w' → k st' → Q .normal a' w') : ∀ (l : List Nat) {st : St} {G : Gh} {a : Act} {w : World}, Inv E st G a w → lK P T an ops l st k → wpOpsIn (FW ro) n P ops Q l a w := by
 intro l
 induction l with
 | nil => intro st G a w hI h; exact hn _ _ _ _ hI h
 | cons i l ih =>
  intro st G a w hI h;unfold lK at h;unfold wpOpsIn;split at h
  ·exact h.elim
  ·rename_i o ho;simp only [ho];unfold ph at h;have yes : ∀ {st : St}, Inv E st G a w → tv P T an o st (fun st => lK P T an ops l st k) → o.wpIn (FW ro) n P a w (wpOpsIn (FW ro) n P ops Q l) Q := fun hI h => Gn (wV h) (HD hT hI h fun st' G' a' w' hI' h' => ih hI' h');have no : ∀ {st : St}, Inv E st G a w → put st o.dst (.val undef) (fun st => lK P T an ops l st k) → (∀ f, o.about P w a.eval = some f → (FW ro).fn f) ∧ wpOpsIn (FW ro) n P ops Q l (a.put o.dst undef) w := fun hI h => ⟨fun _ _ => trivial, jW hI (by simp only [Rep]) h fun st' G' a' w' hI' h' => ih hI' h'⟩;split at h
   ·rename_i hg;have : Region.wanted o (yielded ops a.tmps) = true := by simp [Region.wanted, hg]
    simp only [this, abq];exact yes hI h
   ·rename_i j want hg;split at h
    ·exact h.elim
    ·rename_i oj hoj;split at h
     ·exact h.elim
     ·rename_i d hd;split at h
      ·rename_i b hb;obtain ⟨h1, h2⟩ := hI.seen hb;have hy : yielded ops a.tmps j = some b := by simp [yielded, hoj, hd, h1]
       have hw : Region.wanted o (yielded ops a.tmps) = (some b == some want) := by simp [Region.wanted, hg, hy]
       rw [hw]
       cases b <;> simp only [O2, O3, gm] at h <;> cases want
       ·simp; exact yes h2 h
       ·simp; exact no h2 h
       ·simp; exact no h2 h
       ·simp; exact yes h2 h
      ·rename_i x hb;have h1 := hI.seenT hb;have hy : yielded ops a.tmps j = none := by simp [yielded, hoj, hd, h1]
       have hw : Region.wanted o (yielded ops a.tmps) = false := by simp [Region.wanted, hg, hy]
       rw [hw];simp;exact no hI h
      ·exact h.elim
mutual
theorem Rep.restrict {G G' : Gh} (hK : G'.K = G.K) : ∀ (a : AV) (v : Value), (∀ n ∈ a.names, G'.ob n = G.ob n) → Rep G a v → Rep G' a v
 | .junk, v, _, _ => by simp [Rep]
 | .val x, v, _, e => by simpa [Rep] using e
 | .agg l, v, n, e => by
  simp only [Rep] at e ⊢;obtain ⟨vs, rfl, e⟩ := e;exact ⟨vs, rfl, aB.restrict hK l vs (by simpa [AV.names] using n) e⟩
 | .sl own size l, v, n, e => by
  simp only [Rep] at e ⊢;obtain ⟨⟨A, c, rfl, hc, e⟩, ho⟩ := e;refine ⟨⟨A, c, rfl, hc, d7.nameless (fun b o v e => by rw [hK]; exact e) size A l 0 e⟩, ?_⟩
  cases own with
  | none => trivial
  | some m =>
   obtain ⟨u, top, e1, e2⟩ := ho;exact ⟨u, top, by rw [n m (by simp [AV.names])]; exact e1, e2⟩
 | .cptr cells off, v, _, e => by
  simp only [Rep] at e ⊢;obtain ⟨b, o, rfl, e, hk⟩ := e;exact ⟨b, o, rfl, fv.nameless (fun b o v e => by rw [hK]; exact e) b cells o hk e, hk⟩
 | .ptr m off, v, n, e => by
  simp only [Rep] at e ⊢;obtain ⟨b, e, rfl⟩ := e;exact ⟨b, by rw [n m (by simp [AV.names])]; exact e, rfl⟩
 | .slm m off len cap, v, n, e => by
  simp only [Rep] at e ⊢;obtain ⟨b, e, rfl⟩ := e;exact ⟨b, by rw [n m (by simp [AV.names])]; exact e, rfl⟩
 | .fn f first cap, v, n, e => by
  simp only [Rep] at e ⊢;obtain ⟨vs, us, rfl, e1, e2⟩ := e;simp only [AV.names, aaJ] at n;exact ⟨vs, us, rfl, aB.restrict hK first vs (fun m hm => n m (.inl hm)) e1, aB.restrict hK cap us (fun m hm => n m (.inr hm)) e2⟩
 | .iface t x, v, n, e => by
  simp only [Rep] at e ⊢;obtain ⟨u, rfl, e⟩ := e;exact ⟨u, rfl, Rep.restrict hK x u (by simpa [AV.names] using n) e⟩
 | .mapv m, v, n, e => by
  simp only [Rep] at e ⊢;obtain ⟨b, e, rfl⟩ := e;exact ⟨b, by rw [n m (by simp [AV.names])]; exact e, rfl⟩
 | .tup l, v, n, e => by
  simp only [Rep] at e ⊢;obtain ⟨vs, rfl, e⟩ := e;exact ⟨vs, rfl, aB.restrict hK l vs (by simpa [AV.names] using n) e⟩
 | .slv m size ver off len, v, n, e => by
  simp only [Rep] at e ⊢;obtain ⟨hv, u, top, e1, e2⟩ := e;exact ⟨hv, u, top, by rw [n m (by simp [AV.names])]; exact e1, e2⟩
 | .ptv m size ver i off, v, n, e => by
  simp only [Rep] at e ⊢;obtain ⟨hv, u, top, e1, e2⟩ := e;exact ⟨hv, u, top, by rw [n m (by simp [AV.names])]; exact e1, e2⟩
theorem aB.restrict {G G' : Gh} (hK : G'.K = G.K) : ∀ (l : List AV) (vs : List Value), (∀ n ∈ cH l, G'.ob n = G.ob n) → aB G l vs → aB G' l vs
 | [], vs, _, e => by simpa [aB] using e
 | a :: l, vs, n, e => by
  simp only [aB] at e ⊢;simp only [cH, aaJ] at n;obtain ⟨v, us, rfl, e1, e2⟩ := e;exact ⟨v, us, rfl, Rep.restrict hK a v (fun m hm => n m (.inl hm)) e1, aB.restrict hK l us (fun m hm => n m (.inr hm)) e2⟩
end
theorem uh {o : List (Nm × aE)} {l : List Nm} : n7 o l = true ↔ ∀ n ∈ l, ∃ x, ax o n = some x := by
 induction l with
 | nil => simp [n7]
 | cons n l ih =>
  cases h : ax o n
  ·simp [n7, h]
  ·simp [n7, h, ih]
theorem C2 {o : List (Nm × aE)} : ∀ {l : List (Nm × aE)}, uN o l = true → ∀ {n x}, ax l n = some x → ∀ m ∈ ce x, ∃ y, ax o m = some y := by
 intro l
 induction l with
 | nil => intro _ n x h; cases h
 | cons p l ih =>
  obtain ⟨m, y⟩ := p;intro h n x hx;unfold uN at h;split at h
  ·rename_i hc;unfold ax at hx;split at hx
   ·cases hx; exact uh.1 hc
   ·exact ih h hx
  ·cases h
theorem Hj {live : List Nm} : ∀ {l : List (Nm × aE)} {n : Nm} {x : aE}, ax (xj live l) n = some x → (ig live n || Nat.blt n 64) = true := by
 intro l
 induction l with
 | nil => intro n x h; cases h
 | cons p l ih =>
  obtain ⟨m, y⟩ := p;intro n x h;unfold xj at h;split at h
  ·rename_i hl;unfold ax at h;split at h
   ·rename_i hb;have e := aah hb;subst e;exact hl
   ·exact ih h
  ·exact ih h
theorem Jv {live : List Nm} : ∀ {l : List (Nm × aE)} {n : Nm} {x : aE}, ax (xj live l) n = some x → ax l n = some x := by
 intro l
 induction l with
 | nil => intro n x h; cases h
 | cons p l ih =>
  obtain ⟨m, y⟩ := p;intro n x h;unfold xj at h;split at h
  ·unfold ax at h ⊢
   cases hb : Nat.beq m n
   ·rw [hb] at h; exact ih h
   ·rw [hb] at h; exact h
  ·rename_i hl;have h1 := ih h;have h2 := Hj h;unfold ax
   cases hb : Nat.beq m n
   ·exact h1
   ·have e := aah hb;subst e;rw [hl] at h2; cases h2
theorem D2 {live : List Nm} : ∀ {l : List (Nm × aE)} {n : Nm} {x : aE}, n < 64 → ax l n = some x → ax (xj live l) n = some x := by
 intro l
 induction l with
 | nil => intro n x _ h; cases h
 | cons p l ih =>
  obtain ⟨m, y⟩ := p;intro n x hn h;unfold ax at h;unfold xj;split
  ·unfold ax
   cases hb : Nat.beq m n
   ·rw [hb] at h; exact ih hn h
   ·rw [hb] at h; exact h
  ·rename_i hl
   cases hb : Nat.beq m n
   ·rw [hb] at h; exact ih hn h
   ·have e := aah hb;subst e;exfalso;have : Nat.blt m 64 = true := by simpa [abP] using hn
    simp [this] at hl
theorem yQ : ∀ (l : List (Nm × aE)) (k : List (Nm × aE) → Prop), wm l k = k l := by
 intro l
 induction l with
 | nil => intro k; rfl
 | cons a l ih => obtain ⟨n, o⟩ := a; intro k; simp [wm, ih]
theorem HS {keep : List Nat} : ∀ {l : List AV} {i : Nat} {vs : List Value}, aB G l vs → aB G (Cf keep l i) vs := by
 intro l
 induction l with
 | nil => intro i vs h; exact h
 | cons a l ih =>
  intro i vs h;simp only [aB] at h;obtain ⟨v, us, rfl, h1, h2⟩ := h;simp only [Cf, aB];refine ⟨v, us, rfl, ?_, ih h2⟩;split
  ·exact h1
  ·simp only [Rep]
theorem km {keep : List Nat} {k : St → Prop} (hE : ∀ n g, E.G.ob n = some g → n < 64) (hI : Inv E st G a w) (h : oz keep st k) : ∃ st' G', Inv E st' G' a w ∧ k st' ∧ G'.K = G.K ∧ ∀ n b, G'.at n b → G.at n b := by
 unfold oz at h;rw [co, yQ] at h;obtain ⟨hc, h⟩ := az h;obtain ⟨ho, h⟩ := az h;generalize hs : Cf keep st.slots 0 = s at h hc ho;generalize hob : xj (rG st.objs 1000 (cH s) []) st.objs = ob at h hc ho;have hcl := uh.1 hc
 let G' : Gh := ⟨G.K, fun n => match ax ob n with | some _ => G.ob n | none => none⟩
 have hsame : ∀ n, (∃ x, ax ob n = some x) → G'.ob n = G.ob n := by
  rintro n ⟨x, hx⟩;simp [G', hx]
 have hback : ∀ {n g}, G'.ob n = some g → G.ob n = some g ∧ ∃ x, ax ob n = some x := by
  intro n g hg;simp only [G'] at hg;split at hg
  ·rename_i x hx; exact ⟨hg, x, hx⟩
  ·cases hg
 have hat : ∀ {n b}, G'.at n b → G.at n b := by
  rintro n b (h1 | ⟨u, t, h1, h2⟩)
  ·exact .inl (hback h1).1
  ·exact .inr ⟨u, t, (hback h1).1, h2⟩
 have hslots : aB G' s a.tmps.toList := aB.restrict (G := G) (G' := G') rfl _ _ (fun n hn => hsame n (hcl n hn)) (by rw [← hs]; exact HS hI.slots);refine ⟨⟨s, ob⟩, G', ⟨hslots, hI.defers.keep (fun _ _ _ => rfl) (fun m D _ hm => ⟨m, hat hm⟩), ⟨hI.wr.know, ?_, fun n g hg => (hback hg).2, fun n m b h1 h2 => hI.wr.apart n m b (hat h1) (hat h2), hI.wr.glob⟩, ?_, ⟨hI.ext.os, hI.ext.tape, hI.ext.output, hI.ext.size, hI.ext.block, hI.ext.knew⟩, fun n b hb => hI.newb n b (hat hb)⟩, h, rfl, fun n b hb => hat hb⟩
 ·intro n x hx;have hx' : ax st.objs n = some x := by rw [← hob] at hx; exact Jv hx
  have hr := hI.wr.obj n x hx';have hn : G'.ob n = G.ob n := hsame n ⟨x, hx⟩;have hnames : ∀ m ∈ ce x, G'.ob m = G.ob m := fun m hm => hsame m (C2 ho hx m hm)
  cases x with
  | cells t l =>
   obtain ⟨b, vs, e1, e2, e3, e4⟩ := hr;exact ⟨b, vs, by rw [hn]; exact e1, e2, aB.restrict (G := G) (G' := G') rfl _ _ hnames e3, e4⟩
  | row t size top =>
   obtain ⟨u, xs, e1, e2, e3⟩ := hr;exact ⟨u, xs, by rw [hn]; exact e1, e2, e3⟩
  | map es =>
   obtain ⟨b, ms, cl, e1, e2, e3, e4, e5⟩ := hr;refine ⟨b, ms, cl, by rw [hn]; exact e1, e2, ?_, e4, e5⟩;have : ∀ {es : List (ByteArray × AV)} {ms : List MapEntry}, fw G es ms → fw G' es ms := by
    intro es
    induction es with
    | nil => intro ms h; cases ms with
     | nil => trivial
     | cons m ms => exact h.elim
    | cons e es ih => intro ms h; cases ms with
     | nil => exact h.elim
     | cons m ms => exact ⟨h.1, Rep.nameless (G := G) (G' := G') (fun _ _ _ e => e) _ _ h.1.2 h.2.1, ih h.2.2⟩
   exact this e3
  | mapc es ms cl =>
   obtain ⟨b, e1, e2, e3, e4, e5⟩ := hr;exact ⟨b, by rw [hn]; exact e1, e2, fw.nameless (G := G) (G' := G') (fun _ _ _ e => e) e3, e4, e5⟩
  | iter m ms cl seen =>
   obtain ⟨b, r, e1, e2, e3, e4⟩ := hr;exact ⟨b, r, by rw [hn]; exact e1, by rw [hnames m (by simp [ce])]; exact e2, e3, e4⟩
  | vec t size l =>
   obtain ⟨u, xs, e1, e2, e3, e4, e5⟩ := hr;exact ⟨u, xs, by rw [hn]; exact e1, e2, aB.nameless (G := G) (G' := G') (fun _ _ _ e => e) _ _ (qO e4) e3, e4, e5⟩
  | fns t l ver =>
   obtain ⟨u, xs, e1, e2, e3, e5⟩ := hr;exact ⟨u, xs, by rw [hn]; exact e1, e2, aB.restrict (G := G) (G' := G') rfl _ _ hnames e3, e5⟩
  | dead =>
   obtain ⟨⟨g, hg⟩, h2⟩ := hr;exact ⟨⟨g, by rw [hn]; exact hg⟩, fun b hb => h2 b (by rw [hn] at hb; exact hb)⟩
 ·have hle := hI.le;have fI : ∀ {n g}, E.G.ob n = some g → G'.ob n = G.ob n := by
   intro n g hg;have hn := hE n g hg;have : ∃ g', G.ob n = some g' := by
    cases g with
    | blk b => exact ⟨_, hle.blk n b hg⟩
    | rowv u t => obtain ⟨u', t', h1, _⟩ := hle.row n u t hg; exact ⟨_, h1⟩
   obtain ⟨g', hg'⟩ := this;obtain ⟨x, hx⟩ := hI.wr.dom n g' hg';exact hsame n ⟨x, by rw [← hob]; exact D2 hn hx⟩
  exact ⟨hle.K, fun n b hb => by rw [fI hb]; exact hle.blk n b hb, fun n u t hb => by rw [fI hb]; exact hle.row n u t hb⟩
theorem qG {keep : List Nat} {k : St → Prop} (hE : ∀ n g, E.G.ob n = some g → n < 64) (hI : Inv E st G a w) (h : oz keep st k) : ∃ st' G', Inv E st' G' a w ∧ k st' :=
 let ⟨s, g, h1, h2, _, _⟩ := km hE hI h
 ⟨s, g, h1, h2⟩
def wpL (ro : Option Nat) (n : Nat) (P : Program) (c : Code) (Q : Exit → Act → World → Prop) (a : Act) (w : World) : Prop :=
 ∀ (b : Frame) (k : List Item) (cs : List Frame), b.roundOf = ro → ∃ e a' w', Q e a' w' ∧ ArrivesIn (Machine.fenced P (FW ro)) P (lone (b.atR a (.code c :: .inLoop c :: k)) cs w) b k cs e a' w'
theorem Ga (ro : Option Nat) (m : Nat) : (FW ro).room m := fun _ h => by simp [FW, Fence.wide] at h
theorem I6 {ro : Option Nat} {n : Nat} {c : Code} {Q : Exit → Act → World → Prop} (h : c.wpIn (FW ro) n P (Exit.then (wpL ro n P c Q) Q) a w) : wpL ro n P c Q a w := by
 intro b k cs hro;obtain ⟨e, a₁, w₁, hq, harr⟩ := h b (.inLoop c :: k) cs hro trivial (Ga _ _)
 cases e with
 | normal =>
  obtain ⟨e₂, a₂, w₂, hq₂, harr₂⟩ := hq b k cs hro;exact ⟨e₂, a₂, w₂, hq₂, .of_steps (StepsIn.trans harr (.one (fenced_calm (n := n) trivial (Ga _ _) rfl) stepR_inLoop)) harr₂⟩
 | exit id => exact ⟨_, a₁, w₁, hq, .pass (x := .inLoop c) rfl (fun _ _ => .inl (by simp)) harr⟩
 | goto l => exact ⟨_, a₁, w₁, hq, .pass (x := .inLoop c) rfl (fun _ _ => .inl (by simp)) harr⟩
 | ret => exact ⟨_, a₁, w₁, hq, .pass (x := .inLoop c) rfl (fun _ _ => .inl (by simp)) harr⟩
 | panic ch => exact ⟨_, a₁, w₁, hq, .pass (x := .inLoop c) rfl (fun _ _ => .inl (by simp)) harr⟩
 | outgrown => exact ⟨_, a₁, w₁, hq, .pass (x := .inLoop c) rfl (fun _ _ => .inl (by simp)) harr⟩
theorem GW {ro : Option Nat} {n : Nat} {c : Code} {Q : Exit → Act → World → Prop} (h : wpL ro n P c Q a w) : (Code.loop c).wpIn (FW ro) n P Q a w := by
 intro b k cs hro _ hr;obtain ⟨e, a', w', hq, harr⟩ := h b k cs hro;exact ⟨e, a', w', hq, .of_steps (.one (fenced_calm (n := n) trivial hr rfl) stepR_loop) harr⟩
def XK.toExit : XK → Exit
 | .exit id => .exit id
 | .ret => .ret
theorem yz {x y : Code} (h : eI an (.seq x y) = true) : eI an x = true ∧ eI an y = true := by
 unfold eI at h;split at h
 ·rename_i h1; exact ⟨h1, h⟩
 ·cases h
theorem vL {c : Operand} {x y : Code} (h : eI an (.cond c x y) = true) : eI an x = true ∧ eI an y = true := by
 unfold eI at h;split at h
 ·rename_i h1; exact ⟨h1, h⟩
 ·cases h
theorem Inv.after {st' : St} {G' : Gh} {a' : Act} {w' : World} {M : Prop} (h : Inv E st G a w) (h' : Inv ⟨G, w, fun b => ∃ n, G.at n b, M⟩ st' G' a' w') : Inv E ⟨st.slots, st'.objs⟩ G' a w' := by
 have hT : ∀ b, b < E.w.heap.size → ¬ E.T b → ¬ ∃ n, G.at n b := fun b hb hT ⟨n, hn⟩ => by
  rcases h.newb n b hn with h1 | h1
  ·exact hT h1
  ·omega
 refine ⟨aB.mono h'.le _ _ h.slots, h.defers.keep (fun D hD hn => h'.ext.block D hD (fun ⟨n, hn'⟩ => hn n hn')) (fun m D hD hm => ?_), h'.wr, h.le.trans h'.le,
  ⟨by rw [h'.ext.os, h.ext.os], by rw [h'.ext.tape, h.ext.tape], by rw [h'.ext.output, h.ext.output], aba h.ext.size h'.ext.size, fun b hb hb' => ?_, fun b o hb hb' => ?_⟩, fun n b hn => ?_⟩
 ·rcases h'.newb m D hm with h1 | h1
  ·exact h1
  ·exact absurd hD (Nat.not_lt.2 h1)
 ·rw [h'.ext.block b (aaX hb h.ext.size) (hT b hb hb'), h.ext.block b hb hb']
 ·rw [h'.ext.knew b o (aaX hb h.ext.size) (hT b hb hb'), h.ext.knew b o hb hb']
 ·rcases h'.newb n b hn with ⟨m, hm⟩ | h1
  ·exact h.newb m b hm
  ·exact .inr (aba h.ext.size h1)
theorem Inv.putLoop {l : Nat} {r r' : Loop} (h : Inv E st G a w) (hl : w.heap[l]? = some (.loop r)) (hu : ∀ n, ¬ G.at n l) (hE : E.w.heap.size ≤ l) : Inv E st G a (w.putObj l (.loop r')) := by
 have other : ∀ b, b ≠ l → (w.putObj l (.loop r')).heap[b]? = w.heap[b]? := fun b hb => World.putObj_heap_other hb;have hsz : (w.putObj l (.loop r')).heap.size = w.heap.size := by simp [World.putObj]
 refine ⟨h.slots, ⟨h.defers.1, fun d hd => ?_⟩, ⟨fun b o v e => ?_, fun n o e => ?_, h.wr.dom, h.wr.apart, h.wr.glob⟩, h.le, ⟨h.ext.os, h.ext.tape, h.ext.output, by rw [hsz]; exact h.ext.size, fun b hb hT => ?_, h.ext.knew⟩, h.newb⟩
 ·obtain ⟨D, g1, g2, g3, g4⟩ := h.defers.2 d hd;refine ⟨D, g1, g2, ?_, g4⟩;rw [other D (fun e => by subst e; rw [hl] at g3; cases g3), g3]
 ·have hk := h.wr.know b o v e;have hne : b ≠ l := fun e' => by
   subst e';simp [World.cell?, hl] at hk
  rw [cell_of_heap (other b hne)];exact hk
 ·exact (h.wr.obj n o e).keep (Gh.le.refl _) rfl fun b hb => ⟨other b (fun e' => hu n (e' ▸ hb)), fun _ => rfl⟩
 ·have : b ≠ l := by omega
  rw [other b this];exact h.ext.block b hb hT
theorem Inv.turned {l : Nat} {r r' : Loop} {G : Gh} {w : World} {T : Nat → Prop} {a : Act} {st : St} (h : Inv ⟨G, w, T, False⟩ st G a w) (hl : w.heap[l]? = some (.loop r)) (hu : ∀ n, ¬ G.at n l) : Inv ⟨G, w.putObj l (.loop r'), T, False⟩ st G a (w.putObj l (.loop r')) := by
 have other : ∀ b, b ≠ l → (w.putObj l (.loop r')).heap[b]? = w.heap[b]? := fun b hb => World.putObj_heap_other hb;have hsz : (w.putObj l (.loop r')).heap.size = w.heap.size := by simp [World.putObj]
 have hd : a.defers = [] := by
  cases e : a.defers with
  | nil => rfl
  | cons d ds =>
   obtain ⟨D, _, ⟨g, _⟩, _⟩ := h.defers.2 d (by rw [e]; simp);exact g.elim
 refine ⟨h.slots, by rw [hd]; exact nw.nil _ _ _, ⟨fun b o v e => ?_, fun n o e => ?_, h.wr.dom, h.wr.apart, h.wr.glob⟩, Gh.le.refl _, ⟨rfl, rfl, rfl, aar _, fun _ _ _ => rfl, fun _ _ _ _ => rfl⟩, fun n b hn => ?_⟩
 ·have hk := h.wr.know b o v e;have hne : b ≠ l := fun e' => by
   subst e';simp [World.cell?, hl] at hk
  rw [cell_of_heap (other b hne)];exact hk
 ·exact (h.wr.obj n o e).keep (Gh.le.refl _) rfl fun b hb => ⟨other b (fun e' => hu n (e' ▸ hb)), fun _ => rfl⟩
 ·rcases h.newb n b hn with h1 | h1
  ·exact .inl h1
  ·exact .inr (by show (w.putObj l (.loop r')).heap.size ≤ b; rw [hsz]; exact h1)
theorem Inv.laid (h : Inv E st G a w) (o : Obj) : Inv E st G a (w.alloc o) :=
 (h.grow (w' := w.alloc o) (K' := G.K) rfl rfl rfl (by simp) (fun b hb => heap_alloc_old w _ hb) (fun _ _ _ => rfl) (fun b o v hb e => by have := h.wr.kltb e; omega)).1
theorem Inv.anew {M : Prop} (h : Inv E st G a w) (hM : ¬ E.M) : Inv ⟨G, w, fun b => ∃ n, G.at n b, M⟩ st G a w := by
 have hd : a.defers = [] := by
  cases e : a.defers with
  | nil => rfl
  | cons d ds =>
   obtain ⟨D, _, ⟨g, _⟩, _⟩ := h.defers.2 d (by rw [e]; simp);exact absurd g hM
 refine ⟨h.slots, by rw [hd]; exact nw.nil _ _ _, h.wr, Gh.le.refl _, ⟨rfl, rfl, rfl, aar _, fun _ _ _ => rfl, fun _ _ _ _ => rfl⟩, fun n b hn => .inl ⟨n, hn⟩⟩
theorem Inv.live_lt' (h : Inv E st G a w) {n : Nm} {b : Nat} (hb : G.at n b) : b < w.heap.size := by
 have : ∃ o, ax st.objs n = some o := by
  rcases hb with h4 | ⟨u, t, h4, _⟩ <;> exact h.wr.dom n _ h4
 obtain ⟨o, ho⟩ := this;exact (h.wr.obj n o ho).lt hb
theorem yb : ∀ (ps : List Nat) {s x : List AV} {t e : List Value}, aB G s t → aB G x e → aB G (ry s ps x) ((ps.zip e).foldl (fun t (p : Nat × Value) => t.set p.1 p.2) t) := by
 intro ps
 induction ps with
 | nil => intro s x t e hs hx; cases x <;> simpa [ry] using hs
 | cons p ps ih =>
  intro s x t e hs hx
  cases x with
  | nil =>
   simp only [aB] at hx; subst hx;simpa [ry] using hs
  | cons y x =>
   simp only [aB] at hx;obtain ⟨v, us, rfl, h1, h2⟩ := hx;simp only [ry, List.zip_cons_cons, aaQ];exact ih (aB.set hs p h1) h2
def XK.toCode : XK → Code
 | .exit id => .exit id
 | .ret => .ret
theorem ub (ps : Array Tmp) (ev : Array Value) (t : Array Value) : ((ps.zip ev).foldl (fun tmps (p : Tmp × Value) => tmps.setIfInBounds p.1 p.2) t).toList = (ps.toList.zip ev.toList).foldl (fun t (p : Nat × Value) => t.set p.1 p.2) t.toList := by
 rw [← Array.foldl_toList, Array.toList_zip];generalize ps.toList.zip ev.toList = l
 induction l generalizing t with
 | nil => rfl
 | cons p l ih => simp only [aaQ, ih]; simp
theorem Inv.outside (h : Inv E st G a w) {Own Own' : Nat → Prop} {K' : Nat → Nat → Option Value} {w' : World} (hs : w8 Own G.K w Own' K' w') (hlive : ∀ b, Own b → ∀ n, ¬ G.at n b)
  (hmark : ∀ d ∈ a.defers, ∀ D, d = { target := .collected D, args := #[] } → ¬ Own D) (hE : ∀ b, Own b → E.T b ∨ E.w.heap.size ≤ b) : Inv E st ⟨K', G.ob⟩ a w' ∧ G.le ⟨K', G.ob⟩ := by
 have le : G.le ⟨K', G.ob⟩ := ⟨hs.more, fun _ _ e => e, fun n u t e => ⟨u, t, e, .inr ⟨rfl, rfl⟩⟩⟩;refine ⟨⟨aB.mono le _ _ h.slots, ⟨h.defers.1, fun d hd => ?_⟩, ⟨hs.know, fun n o e => ?_, h.wr.dom, h.wr.apart, h.wr.glob.mono le.K⟩, h.le.trans le, ⟨?_, ?_, ?_, ?_, ?_, ?_⟩, h.newb⟩, le⟩
 ·obtain ⟨D, h1, h2, h3, h4⟩ := h.defers.2 d hd;have hlt := (Array.getElem?_eq_some_iff.1 h3).1;exact ⟨D, h1, h2, by rw [hs.block D hlt (hmark d hd D h1), h3], h4⟩
 ·exact (h.wr.obj n o e).keep le rfl fun b hb => by
   have hlt := (h.wr.obj n o e).lt hb;have hno : ¬ Own b := fun ho => hlive b ho n hb;exact ⟨hs.block b hlt hno, fun o => hs.old b o hlt hno⟩
 ·rw [hs.os, h.ext.os]
 ·rw [hs.tape, h.ext.tape]
 ·rw [hs.output, h.ext.output]
 ·exact aba h.ext.size hs.size
 ·intro b hb hT;have hno : ¬ Own b := fun ho => (hE b ho).elim hT (fun h2 => by omega);rw [hs.block b (aaX hb h.ext.size) hno, h.ext.block b hb hT]
 ·intro b o hb hT;have hno : ¬ Own b := fun ho => (hE b ho).elim hT (fun h2 => by omega);show K' b o = _;rw [hs.old b o (aaX hb h.ext.size) hno, h.ext.knew b o hb hT]
theorem Im {ns : List Nm} : ∀ {l : List (Nm × aE)}, GJ ns l = true → ∀ n o, ax l n = some o → n ∉ ns := by
 intro l
 induction l with
 | nil => intro _ n o h; cases h
 | cons p l ih =>
  obtain ⟨m, x⟩ := p;intro h n o ho hn;unfold GJ at h;split at h
  ·cases h
  ·rename_i hm;unfold ax at ho;split at ho
   ·rename_i hb;have e := aah hb;subst e;have : ig ns m = true := by
     have := oP (l := [m]) (ms := ns);simp only [zq] at this
     cases hmm : ig ns m with
     | true => rfl
     | false => rw [hmm] at this; simp at this; exact absurd hn this
    rw [this] at hm; cases hm
   ·exact ih h n o ho hn
theorem zO {P : Program} {T : Tab} {an : Ann} (hT : cd P T) {g : Operand} {ps : Array Tmp} {x b : Code} {E : dQ} {m : Nat} {k : St → Prop} {kx : XK → St → Prop} {Q : Exit → Act → World → Prop} {st : St} {G : Gh} {a : Act} {w : World}
  {gf : FuncId} {caps : List AV} {keep : List Nat} (hsx : ∀ {E : dQ} {ro : Option Nat} {m : Nat} {k : St → Prop} {kx : XK → St → Prop} {Q : Exit → Act → World → Prop} {st : St} {G : Gh} {a : Act} {w : World}, Inv E st G a w → awp P T an x st k kx →
   (∀ st' G' a' w', Inv E st' G' a' w' → k st' → Q .normal a' w') → (∀ e st' G' a' w', Inv E st' G' a' w' → kx e st' → Q e.toExit a' w') → x.wpIn (FW ro) m P Q a w)
  (hsb : ∀ {E : dQ} {ro : Option Nat} {m : Nat} {k : St → Prop} {kx : XK → St → Prop} {Q : Exit → Act → World → Prop} {st : St} {G : Gh} {a : Act} {w : World}, Inv E st G a w → awp P T an b st k kx →
   (∀ st' G' a' w', Inv E st' G' a' w' → k st' → Q .normal a' w') → (∀ e st' G' a' w', Inv E st' G' a' w' → kx e st' → Q e.toExit a' w') → b.wpIn (FW ro) m P Q a w)
  (he : evA st.slots g = .fn (.func gf) [] caps) (hM : E.M) (hm1 : 1 ≤ m) (hE : ∀ n g, E.G.ob n = some g → n < 64)
  (hI : Inv E st G a w) (h : zP P keep caps gf ps.toList (fun s k' kx' => awp P T an x s (fun s => awp P T an b s k' kx') (fun _ _ => False)) st k kx)
  (hn : ∀ st' G' a' w', Inv E st' G' a' w' → k st' → Q .normal a' w') (hx : ∀ x st' G' a' w', Inv E st' G' a' w' → kx x st' → Q x.toExit a' w') : (Code.rangeFunc g ps x b).wpIn (FW none) m P Q a w := by
 have hf := hI.eval g;rw [he] at hf;simp only [Rep, aB] at hf;obtain ⟨_, lb, hf, rfl, hcaps⟩ := hf;refine wpIn_rangeFunc fun fn hfn => ?_
 let rec_ : LoopState → Option Code → Loop := fun s pe => { state := s, pending := pe, fn, tmps := a.tmps, params := ps, assign := x, body := b, defers := w.heap.size }
 let W1 : World := (w.alloc (.deferred (some []))).alloc (.loop (rec_ .ready none))
 let mk : Deferred := { target := .collected w.heap.size, args := #[] }
 let l : Nat := w.heap.size + 1
 have hIW0 : Inv E st G a W1 := (hI.laid (.deferred (some []))).laid (.loop (rec_ .ready none));unfold zP at h;generalize rG st.objs 1000 (cH caps) [] = ns at h;obtain ⟨os, h, hnd, hlen', hlive, hWR, hclosed⟩ := qD h hIW0.wr;obtain ⟨hsub, h⟩ := az h;rw [oP] at hsub;have hRL := aB.rename (G := G) (G' := G.part ns) (fun _ _ _ e => e) _ _ (fun n hn => Gh.part_idx hnd (hsub n hn)) hcaps;obtain ⟨st1, G1, hI1, h, hK1, hat1⟩ := km hE hI h;obtain ⟨hdis, h⟩ := az h;obtain ⟨xs, hit, hlen, I, h0, hround, hdone⟩ := h;have hdis := Im hdis;have hL1 : W1.heap[l]? = some (.loop (rec_ .ready none)) := by
  have := World.alloc_heap_new (w.alloc (.deferred (some []))) (.loop (rec_ .ready none)); rwa [World.size_alloc] at this
 have hD1 : W1.heap[w.heap.size]? = some (.deferred (some [])) := (heap_alloc_old _ _ (by simp)).trans (World.alloc_heap_new w _);have hEl : E.w.heap.size ≤ l := Nat.le_succ_of_le hI1.ext.size;have hIW : Inv E st1 G1 { a with defers := [mk] ++ a.defers } W1 := by
  have h2 := (hI1.laid (.deferred (some []))).laid (.loop (rec_ .ready none));refine ⟨h2.slots, ⟨?_, fun d hd => ?_⟩, h2.wr, h2.le, h2.ext, h2.newb⟩
  ·refine List.nodup_cons.2 ⟨fun hmem => ?_, h2.defers.1⟩;obtain ⟨D, g1, _, g3, _⟩ := hI1.defers.2 mk hmem;have := (Array.getElem?_eq_some_iff.1 g3).1;simp only [mk, Deferred.mk.injEq, Target.collected.injEq, and_true] at g1;omega
  ·rcases List.mem_cons.1 hd with rfl | hd
   ·exact ⟨w.heap.size, rfl, ⟨hM, hI1.ext.size⟩, hD1, fun n hn => Nat.lt_irrefl _ (hI1.live_lt' hn)⟩
   ·exact h2.defers.2 d hd
 have hul : ∀ n, ¬ G1.at n l := fun n hn => by have := hI1.live_lt' hn; simp only [l] at this; omega
 -- what the iterator owns, and what is the function's, lie apart
 let Free : (Nat → Prop) → Gh → World → Prop := fun Own Gi W => ∀ b, Own b → (∀ n, ¬ Gi.at n b) ∧ b ≠ l ∧ (∀ d ∈ [mk] ++ a.defers, ∀ D, d = { target := .collected D, args := #[] } → b ≠ D) ∧ (E.T b ∨ E.w.heap.size ≤ b) ∧ b < W.heap.size
 have hfree0 : Free (fun b => ∃ k, (G.part ns).at k b) G1 W1 := by
  rintro b ⟨i, hb⟩;obtain ⟨n, hn1, hn2⟩ := Gh.part_at hb;have hmem : n ∈ ns := aaO hn1;have hlt := hI.live_lt' hn2;refine ⟨fun n' hn' => ?_, by simp only [l]; omega, fun d hd' D hD => ?_, hI.newb n b hn2, ?_⟩
  ·have hG := hat1 n' b hn';have e : n' = n := hI.wr.apart n' n b hG hn2;subst e;obtain ⟨o, ho⟩ : ∃ o, ax st1.objs n' = some o := by
    rcases hn' with h4 | ⟨u, t, h4, _⟩ <;> exact hI1.wr.dom n' _ h4
   exact hdis n' o ho hmem
  ·rcases List.mem_cons.1 hd' with rfl | hd'
   ·simp only [mk, Deferred.mk.injEq, Target.collected.injEq, and_true] at hD;omega
   ·obtain ⟨D', h1, _, _, h4⟩ := hI.defers.2 d hd';rw [hD] at h1;simp only [Deferred.mk.injEq, Target.collected.injEq, and_true] at h1;rintro rfl;exact h4 n (h1 ▸ hn2)
  ·have : W1.heap.size = w.heap.size + 2 := by simp [W1]
   omega
 refine ⟨l, [mk], W1, { target := .fn (.func gf) lb.toArray, args := #[.func (.yield l) #[] #[]] }, W1, gf, #[.func (.yield l) #[] #[]] ++ lb.toArray, W1, run_enterLoop_outer _ _ _ _ _, ?_, fun _ _ => trivial, ?_, fun h => by simp [FW, Fence.wide] at h, ?_⟩
 ·have hf' : a.eval g = .func (.func gf) #[] lb.toArray := hf;simp only [resolve, hf'];simp [go_sem]
 ·simp [invoke, go_sem, hit.enter]
 ·refine (hit.run (G.part ns) W1 lb hWR hRL l (m - 1) (fun i Own K W => ∃ s Gi, Inv E s Gi { a with defers := [mk] ++ a.defers } W ∧ I i s ∧ W.heap[l]? = some (.loop (rec_ .ready none)) ∧ (∀ n, ¬ Gi.at n l) ∧ Gi.K = K ∧ Free Own Gi W)
    (fun W => ∃ e s Gi, Inv E s Gi { a with defers := [mk] ++ a.defers } W ∧ kx e s ∧ W.heap[l]? = some (.loop (rec_ .done (some (XK.toCode e)))) ∧ ∀ n, ¬ Gi.at n l) ?_ ?_ ?_ ?_).mono ?_
  ·rintro m' i xv ev Own K W hxv hxr ⟨s, Gi, hIi, hIs, hl, hu, rfl, hF⟩;have hsz : ev.size = ps.size := by
    have h1 := hxr.length;have h2 := hlen xv (aaO hxv);simp at h1 h2;omega
   have hll : l < W.heap.size := (Array.getElem?_eq_some_iff.1 hl).1;have hw := hround i xv s hxv hIs;refine ⟨fn, _, x, b, run_yield hl hsz, roundIn_of_wpIn trivial ?_⟩;have hxr' : aB Gi xv ev.toList := aB.mono (G := ⟨Gi.K, fun _ => none⟩) (G' := Gi) ⟨fun _ _ _ h => h, fun _ _ h => (nomatch h), fun _ _ _ h => (nomatch h)⟩ _ _ hxr;have hI0 : Inv ⟨Gi, W, fun b => ∃ n, Gi.at n b, False⟩ ⟨ry s.slots ps.toList xv, s.objs⟩ Gi { tmps := (ps.zip ev).foldl (fun tmps (p : Tmp × Value) => tmps.setIfInBounds p.1 p.2) a.tmps, defers := [] } W := by
    refine ⟨?_, nw.nil _ _ _, hIi.wr, Gh.le.refl _, ⟨rfl, rfl, rfl, aar _, fun _ _ _ => rfl, fun _ _ _ _ => rfl⟩, fun n b hn => .inl ⟨n, hn⟩⟩;have := yb ps.toList (s := s.slots) hIi.slots hxr';rw [ub];exact this
   refine hsx (E := ⟨Gi, W, fun b => ∃ n, Gi.at n b, False⟩) (ro := some l) hI0 hw (fun s2 G2 a2 W2 hI2 hw2 => ?_) (fun e s2 G2 a2 W2 hI2 hw2 => hw2.elim);have hl2 : W2.heap[l]? = some (.loop (rec_ .ready none)) := (hI2.ext.block l hll (fun ⟨n, hn⟩ => hu n hn)).trans hl;have hu2 : ∀ n, ¬ G2.at n l := fun n hn => by
    rcases hI2.newb n l hn with ⟨n', hn'⟩ | h1
    ·exact hu n' hn'
    ·exact absurd hll (Nat.not_lt.2 h1)
   refine ⟨_, run_beginRound hl2 rfl, ?_⟩;have hA := Inv.after (M := False) hIi hI2;have hA2 : Inv E ⟨s.slots, s2.objs⟩ G2 { a with defers := [mk] ++ a.defers } (W2.putObj l (.loop { rec_ .ready none with state := .busy })) := hA.putLoop hl2 hu2 hEl;have hC2 : Inv ⟨G2, W2, fun b => ∃ n, G2.at n b, False⟩ s2 G2 a2 W2 := hI2.anew (fun h => h);have hl3' : (W2.putObj l (.loop { rec_ .ready none with state := .busy })).heap[l]? = some (.loop { rec_ .ready none with state := .busy }) := World.putObj_heap_same (Array.getElem?_eq_some_iff.1 hl2).1;have hC3 := hC2.turned (r' := { rec_ .ready none with state := .busy }) hl2 hu2;have hsz2 : (W2.putObj l (.loop { rec_ .ready none with state := .busy })).heap.size = W2.heap.size := by simp [World.putObj]
   have hll2 : l < (W2.putObj l (.loop { rec_ .ready none with state := .busy })).heap.size := (Array.getElem?_eq_some_iff.1 hl3').1;have fin : ∀ {s3 : St} {G3 : Gh} {a3 : Act} {W3 : World}, Inv ⟨G2, W2.putObj l (.loop { rec_ .ready none with state := .busy }), fun b => ∃ n, G2.at n b, False⟩ s3 G3 a3 W3 →
     W3.heap[l]? = some (.loop { rec_ .ready none with state := .busy }) ∧ (∀ n, ¬ G3.at n l) ∧ Inv E ⟨s.slots, s3.objs⟩ G3 { a with defers := [mk] ++ a.defers } W3 := fun {s3 G3 a3 W3} hI3 =>
    ⟨(hI3.ext.block l hll2 (fun ⟨n, hn⟩ => hu2 n hn)).trans hl3', fun n hn => by
     rcases hI3.newb n l hn with ⟨n', hn'⟩ | h1
     ·exact hu2 n' hn'
     ·exact absurd hll2 (Nat.not_lt.2 h1), Inv.after (st := ⟨s.slots, s2.objs⟩) (M := False) hA2 hI3⟩
   refine hsb (E := ⟨G2, W2.putObj l (.loop { rec_ .ready none with state := .busy }), fun b => ∃ n, G2.at n b, False⟩) (ro := some l) hC3 hw2 (fun s3 G3 a3 W3 hI3 hk3 => ?_) (fun e s3 G3 a3 W3 hI3 hk3 => ?_)
   ·obtain ⟨hl3, hu3, hB⟩ := fin hI3;obtain ⟨s4, G4, hI4, hIn, hK4, hat4⟩ := km hE hB hk3;have hu4 : ∀ n, ¬ G4.at n l := fun n hn => hu3 n (hat4 n l hn);have o2 : ∀ b, Own b → (∀ n, ¬ G2.at n b) ∧ W2.heap[b]? = W.heap[b]? ∧ ∀ o, G2.K b o = Gi.K b o := fun b hb => by
     obtain ⟨f1, f2, f3, f4, f5⟩ := hF b hb;have hnT : ¬ ∃ n, Gi.at n b := fun ⟨n, hn⟩ => f1 n hn;refine ⟨fun n hn => ?_, hI2.ext.block b f5 hnT, fun o => hI2.ext.knew b o f5 hnT⟩;rcases hI2.newb n b hn with h1 | h1
     ·exact hnT h1
     ·exact absurd f5 (Nat.not_lt.2 h1)
    have o3 : ∀ b, Own b → (∀ n, ¬ G3.at n b) ∧ W3.heap[b]? = W.heap[b]? ∧ (∀ o, G3.K b o = Gi.K b o) := fun b hb => by
     obtain ⟨f1, f2, f3, f4, f5⟩ := hF b hb;obtain ⟨p1, p2, p3⟩ := o2 b hb;have hnT : ¬ ∃ n, G2.at n b := fun ⟨n, hn⟩ => p1 n hn;have f6 : b < (W2.putObj l (.loop { rec_ .ready none with state := .busy })).heap.size := by rw [hsz2]; exact aaX f5 hI2.ext.size
     refine ⟨fun n hn => ?_, (hI3.ext.block b f6 hnT).trans ((World.putObj_heap_other f2).trans p2), fun o => (hI3.ext.knew b o f6 hnT).trans (p3 o)⟩;rcases hI3.newb n b hn with h1 | h1
     ·exact hnT h1
     ·exact absurd f6 (Nat.not_lt.2 h1)
    have hszW : W.heap.size ≤ W3.heap.size := aba hI2.ext.size (by have := hI3.ext.size; rw [hsz2] at this; exact this);have hsz3 : ∀ o, (W3.putObj l o).heap.size = W3.heap.size := fun o => by simp [World.putObj]
    refine ⟨_, _, run_endRound none hl3, .inl ⟨rfl, G4.K, ⟨s4, G4, hI4.putLoop hl3 hu4 hEl, hIn, World.putObj_heap_same (Array.getElem?_eq_some_iff.1 hl3).1, hu4, rfl, fun b hb => ?_⟩, ?_, fun b hb => ?_, ?_, ?_, ?_, ?_⟩⟩
    ·obtain ⟨f1, f2, f3, f4, f5⟩ := hF b hb;refine ⟨fun n hn => (o3 b hb).1 n (hat4 n b hn), f2, f3, f4, ?_⟩;rw [hsz3]; exact aaX f5 hszW
    ·intro b o v e;rw [hK4]; exact hI3.le.K b o v (hI2.le.K b o v e)
    ·refine ⟨(World.putObj_heap_other (hF b hb).2.1).trans (o3 b hb).2.1, fun o => ?_⟩;rw [hK4]; exact (o3 b hb).2.2 o
    ·exact hI3.ext.os.trans hI2.ext.os
    ·exact hI3.ext.tape.trans hI2.ext.tape
    ·exact hI3.ext.output.trans hI2.ext.output
    ·rw [hsz3]; exact hszW
   ·obtain ⟨hl3, hu3, hB⟩ := fin hI3
    cases e with
    | ret => exact ⟨_, _, run_endRound (some .ret) hl3, .inr ⟨rfl, .ret, ⟨s.slots, s3.objs⟩, G3, hB.putLoop hl3 hu3 hEl, hk3, World.putObj_heap_same (Array.getElem?_eq_some_iff.1 hl3).1, hu3⟩⟩
    | exit id => exact ⟨_, _, run_endRound (some (.exit id)) hl3, .inr ⟨rfl, .exit id, ⟨s.slots, s3.objs⟩, G3, hB.putLoop hl3 hu3 hEl, hk3, World.putObj_heap_same (Array.getElem?_eq_some_iff.1 hl3).1, hu3⟩⟩
  ·rintro i Own K W Own' K' W' ⟨s, Gi, hIi, hIs, hl, hu, rfl, hF⟩ hS;have hll : l < W.heap.size := (Array.getElem?_eq_some_iff.1 hl).1;obtain ⟨hI', _⟩ := hIi.outside hS (fun b hb => (hF b hb).1) (fun d hd' D hD ho => (hF D ho).2.2.1 d hd' D hD rfl) (fun b hb => (hF b hb).2.2.2.1);refine ⟨s, ⟨K', Gi.ob⟩, hI', hIs, (hS.block l hll (fun ho => (hF l ho).2.1 rfl)).trans hl, hu, rfl, fun b hb => ?_⟩;rcases hS.own b hb with ho | hnew
   ·obtain ⟨f1, f2, f3, f4, f5⟩ := hF b ho;exact ⟨f1, f2, f3, f4, hS.lies b hb⟩
   ·refine ⟨fun n hn => ?_, by omega, fun d hd' D hD => ?_, .inr (aba hIi.ext.size hnew), hS.lies b hb⟩
    ·have := hIi.live_lt' (show Gi.at n b from hn);omega
    ·obtain ⟨D', h1, _, h3, _⟩ := hIi.defers.2 d hd';have := (Array.getElem?_eq_some_iff.1 h3).1;rw [hD] at h1;simp only [Deferred.mk.injEq, Target.collected.injEq, and_true] at h1;omega
  ·rintro i Own K W ⟨s, Gi, hIi, _, _, _, rfl, _⟩;exact hIi.wr.know
  ·exact ⟨st1, G1, hIW, h0, hL1, hul, hK1, hfree0⟩
  ·rintro e W ⟨⟨v, rfl⟩, ⟨Own, K, s, Gi, hIi, hIs, hl, hu, _, _⟩ | ⟨e, s, Gi, hIi, hkx, hl, hu⟩⟩
   ·exact ⟨none, _, run_endLoop hl (by simp [rec_]), hn s Gi _ _ (hIi.putLoop hl hu hEl) (hdone s hIs)⟩
   ·have hq := hx e s Gi _ _ (hIi.putLoop (r' := { rec_ .done (some (XK.toCode e)) with state := .exhausted }) hl hu hEl) hkx;refine ⟨some (XK.toCode e), _, run_endLoop hl (by simp [rec_]), ?_⟩
    cases e with
    | exit id => exact wpIn_exit hq
    | ret => exact wpIn_ret hq
theorem fE (hT : cd P T) : ∀ (c : Code) {E : dQ} {ro : Option Nat} {m : Nat} {k : St → Prop} {kx : XK → St → Prop} {Q : Exit → Act → World → Prop} {st : St} {G : Gh} {a : Act} {w : World}, cW c = true → (eI an c = true ∨ (ro = none ∧ E.M ∧ 1 ≤ m ∧ ∀ n g, E.G.ob n = some g → n < 64)) → Inv E st G a w → awp P T an c st k kx →
  (∀ st' G' a' w', Inv E st' G' a' w' → k st' → Q .normal a' w') → (∀ x st' G' a' w', Inv E st' G' a' w' → kx x st' → Q x.toExit a' w') → c.wpIn (FW ro) m P Q a w
 | .skip, E, ro, m, k, kx, Q, st, G, a, w, hd, hP, hI, h, hn, hx => wpIn_skip (hn _ _ _ _ hI h)
 | .region id ops draw, E, ro, m, k, kx, Q, st, G, a, w, hd, hP, hI, h, hn, hx => by
  cases draw with
  | true =>
   unfold awp at h;simp only [cW, aaq] at hd;split at h
   ·exact CA hT hd.1 hd.2.1 hI h hn
   ·exact EY hT hd.1 hd.2.1 hd.2.2 hI h hn
  | false =>
   unfold awp at h;rw [rm] at h;obtain ⟨st', G', hI', h'⟩ : ∃ st' G', Inv E st' G' a w ∧ lK P T an ops (List.range ops.size) st' k := by
    cases hp : qB an.pre id with
    | none => rw [hp] at h; exact ⟨st, G, hI, h⟩
    | some keep =>
     rw [hp] at h;have hE := (hP.resolve_left (by simp [eI, hp])).2.2.2;exact qG hE hI h
   exact wpIn_region (HB hT ops hn _ hI' h')
 | .seq x y, E, ro, m, k, kx, Q, st, G, a, w, hd, hP, hI, h, hn, hx => by
  unfold awp at h;simp only [cW, aaq] at hd;refine wpIn_seq (fE hT x hd.1 (hP.imp (fun h => (yz h).1) id) hI h (fun st' G' a' w' hI' h' => ?_) fun e st' G' a' w' hI' h' => ?_)
  ·exact fE hT y hd.2 (hP.imp (fun h => (yz h).2) id) hI' h' hn hx
  ·cases e <;> exact hx _ _ _ _ _ hI' h'
 | .cond c x y, E, ro, m, k, kx, Q, st, G, a, w, hd, hP, hI, h, hn, hx => by
  unfold awp at h;have hc := hI.eval c;split at h
  ·rename_i b he;rw [he] at hc;simp only [Rep] at hc;simp only [cW, aaq] at hd;refine wpIn_cond hc ?_
   cases b
   ·exact fE hT y hd.2 (hP.imp (fun h => (vL h).2) id) hI h hn hx
   ·exact fE hT x hd.1 (hP.imp (fun h => (vL h).1) id) hI h hn hx
  ·exact h.elim
 | .block id c, E, ro, m, k, kx, Q, st, G, a, w, hd, hP, hI, h, hn, hx => by
  unfold awp at h;refine wpIn_block (fE hT c hd (hP.imp (fun h => by unfold eI at h; exact h) (fun h => h)) hI h (fun st' G' a' w' hI' h' => hn _ _ _ _ hI' h') fun e st' G' a' w' hI' h' => ?_)
  cases e with
  | exit id' =>
   simp only at h';split at h'
   ·rename_i hb;have e := aah hb;subst e;simp only [XK.toExit, Exit.inBlock, abq];exact hn _ _ _ _ hI' h'
   ·rename_i hb;rw [gt] at hb;simp only [XK.toExit, Exit.inBlock, hb, aaW];exact hx (.exit id') _ _ _ _ hI' h'
  | ret => exact hx .ret _ _ _ _ hI' h'
 | .loop c, E, ro, m, k, kx, Q, st, G, a, w, hd, hP, hI, h, hn, hx => by
  unfold awp at h;have hP' := hP.resolve_left (by simp [eI]);have hE := hP'.2.2.2;obtain ⟨st1, G1, hI1, h1⟩ := qG hE hI h;obtain ⟨st', G', hI', h'⟩ := Ec hI1 h1;refine GW ?_;clear hI h hI1 h1
  induction h' generalizing G' a w with
  | mk X hX s hF ih =>
   refine I6 (fE hT c hd (.inr hP') hI' hF (fun st2 G2 a2 w2 hI2 h2 => ?_) fun e st2 G2 a2 w2 hI2 h2 => ?_)
   ·obtain ⟨st3, G3, hI3, h3⟩ := qG hE hI2 h2;exact ih st3 h3 _ _ _ hI3
   ·cases e <;> exact hx _ _ _ _ _ hI2 h2
 | .exit id, E, ro, m, k, kx, Q, st, G, a, w, hd, hP, hI, h, hn, hx => wpIn_exit (hx (.exit id) _ _ _ _ hI h)
 | .ret, E, ro, m, k, kx, Q, st, G, a, w, hd, hP, hI, h, hn, hx => wpIn_ret (hx .ret _ _ _ _ hI h)
 | .label l, E, ro, m, k, kx, Q, st, G, a, w, hd, hP, hI, h, hn, hx => wpIn_label (hn _ _ _ _ hI h)
 | .rangeFunc g ps x b, E, ro, m, k, kx, Q, st, G, a, w, hd, hP, hI, h, hn, hx => by
  unfold awp at h;obtain ⟨hpx, h⟩ := az h;obtain ⟨hpb, h⟩ := az h;simp only [cW, aaq] at hd;split at h
  ·rename_i gf caps he;obtain ⟨hro, hM, hm1, hE⟩ := hP.resolve_left (by simp [eI]);subst hro;rcases h with h | h
   rotate_left
   ·exact zO hT (fun hI' h' hn' hx' => fE hT x hd.1 (.inl hpx) hI' h' hn' hx') (fun hI' h' hn' hx' => fE hT b hd.2 (.inl hpb) hI' h' hn' hx') he hM hm1 hE hI h hn hx
   have hf := hI.eval g;rw [he] at hf;simp only [Rep, aB] at hf;obtain ⟨_, lb, hf, rfl, hcaps⟩ := hf;unfold Ej at h;obtain ⟨st1, G1, hI1, ⟨xs, hit, hlen, I, h0, hround, hdone⟩, hK1, _⟩ := km hE hI h;refine wpIn_rangeFunc fun fn hfn => ?_
   let rec_ : LoopState → Option Code → Loop := fun s pe => { state := s, pending := pe, fn, tmps := a.tmps, params := ps, assign := x, body := b, defers := w.heap.size }
   let W1 : World := (w.alloc (.deferred (some []))).alloc (.loop (rec_ .ready none))
   let mk : Deferred := { target := .collected w.heap.size, args := #[] }
   let l : Nat := w.heap.size + 1
   have hL1 : W1.heap[l]? = some (.loop (rec_ .ready none)) := by
    have := World.alloc_heap_new (w.alloc (.deferred (some []))) (.loop (rec_ .ready none)); rwa [World.size_alloc] at this
   have hD1 : W1.heap[w.heap.size]? = some (.deferred (some [])) := (heap_alloc_old _ _ (by simp)).trans (World.alloc_heap_new w _);have hEl : E.w.heap.size ≤ l := Nat.le_succ_of_le hI1.ext.size;have hIW : Inv E st1 G1 { a with defers := [mk] ++ a.defers } W1 := by
    have h2 := (hI1.laid (.deferred (some []))).laid (.loop (rec_ .ready none));refine ⟨h2.slots, ⟨?_, fun d hd => ?_⟩, h2.wr, h2.le, h2.ext, h2.newb⟩
    ·refine List.nodup_cons.2 ⟨fun hmem => ?_, h2.defers.1⟩;obtain ⟨D, g1, _, g3, _⟩ := hI1.defers.2 mk hmem;have := (Array.getElem?_eq_some_iff.1 g3).1;simp only [mk, Deferred.mk.injEq, Target.collected.injEq, and_true] at g1;omega
    ·rcases List.mem_cons.1 hd with rfl | hd
     ·exact ⟨w.heap.size, rfl, ⟨hM, hI1.ext.size⟩, hD1, fun n hn => Nat.lt_irrefl _ (hI1.live_lt' hn)⟩
     ·exact h2.defers.2 d hd
   have hkn : ∀ {Gi : Gh} {s : St} {a' : Act} {W : World}, Inv E s Gi a' W → (∀ b o v, G.K b o = some v → Gi.K b o = some v) → ∀ b o v, G.K b o = some v → W.cell? ⟨b, o, none⟩ = some v := fun hi hk b o v e => hi.wr.know b o v (hk b o v e);have hKG : ∀ b o v, G.K b o = some v → G1.K b o = some v := fun b o v e => by rw [hK1]; exact e
   obtain ⟨es, hes, hrep, hgo⟩ := hit.run G W1 lb (hkn hIW hKG) hcaps;have hul : ∀ n, ¬ G1.at n l := fun n hn => by have := hI1.live_lt' hn; simp only [l] at this; omega
   refine ⟨l, [mk], W1, { target := .fn (.func gf) lb.toArray, args := #[.func (.yield l) #[] #[]] }, W1, gf, #[.func (.yield l) #[] #[]] ++ lb.toArray, W1, run_enterLoop_outer _ _ _ _ _, ?_, fun _ _ => trivial, ?_, fun h => by simp [FW, Fence.wide] at h, ?_⟩
   ·have hf' : a.eval g = .func (.func gf) #[] lb.toArray := hf;simp only [resolve, hf'];simp [go_sem]
   ·simp [invoke, go_sem, hit.enter]
   ·refine (hgo l (m - 1) (fun i W => ∃ s Gi, Inv E s Gi { a with defers := [mk] ++ a.defers } W ∧ I i s ∧ W.heap[l]? = some (.loop (rec_ .ready none)) ∧ (∀ n, ¬ Gi.at n l) ∧ ∀ b o v, G.K b o = some v → Gi.K b o = some v)
     (fun i W => ∃ e s Gi, Inv E s Gi { a with defers := [mk] ++ a.defers } W ∧ kx e s ∧ W.heap[l]? = some (.loop (rec_ .done (some (XK.toCode e)))) ∧ ∀ n, ¬ Gi.at n l) ?_ ?_ ?_).mono ?_
    ·rintro m' i ev W hev ⟨s, Gi, hIi, hIs, hl, hu, hK⟩;have hlt : i < xs.length := by rw [← hes]; exact (List.getElem?_eq_some_iff.1 hev).1
     obtain ⟨xv, hxv⟩ : ∃ xv, xs[i]? = some xv := ⟨xs[i], aad hlt⟩;have hxr := hrep i xv ev hxv hev;have hsz : ev.size = ps.size := by
      have h1 := hxr.length;have h2 := hlen xv (aaO hxv);simp at h1 h2;omega
     have hll : l < W.heap.size := (Array.getElem?_eq_some_iff.1 hl).1;have hw := hround i xv s hxv hIs;have hGle : G.K = G.K := rfl;refine ⟨fn, _, x, b, run_yield hl hsz, roundIn_of_wpIn trivial ?_⟩;have hxr' : aB Gi xv ev.toList := aB.mono (G := ⟨G.K, fun _ => none⟩) ⟨hK, fun _ _ h => (nomatch h), fun _ _ _ h => (nomatch h)⟩ _ _ hxr;have hI0 : Inv ⟨Gi, W, fun b => ∃ n, Gi.at n b, False⟩ ⟨ry s.slots ps.toList xv, s.objs⟩ Gi { tmps := (ps.zip ev).foldl (fun tmps (p : Tmp × Value) => tmps.setIfInBounds p.1 p.2) a.tmps, defers := [] } W := by
      refine ⟨?_, nw.nil _ _ _, hIi.wr, Gh.le.refl _, ⟨rfl, rfl, rfl, aar _, fun _ _ _ => rfl, fun _ _ _ _ => rfl⟩, fun n b hn => .inl ⟨n, hn⟩⟩;have := yb ps.toList (s := s.slots) hIi.slots hxr';rw [ub];exact this
     refine fE (E := ⟨Gi, W, fun b => ∃ n, Gi.at n b, False⟩) (ro := some l) hT x hd.1 (.inl hpx) hI0 hw (fun s2 G2 a2 W2 hI2 hw2 => ?_) (fun e s2 G2 a2 W2 hI2 hw2 => hw2.elim);have hl2 : W2.heap[l]? = some (.loop (rec_ .ready none)) := (hI2.ext.block l hll (fun ⟨n, hn⟩ => hu n hn)).trans hl;have hu2 : ∀ n, ¬ G2.at n l := fun n hn => by
      rcases hI2.newb n l hn with ⟨n', hn'⟩ | h1
      ·exact hu n' hn'
      ·exact absurd hll (Nat.not_lt.2 h1)
     refine ⟨_, run_beginRound hl2 rfl, ?_⟩;have hE2 : (⟨Gi, W, fun b => ∃ n, Gi.at n b, False⟩ : dQ).w.heap.size ≤ W2.heap.size := hI2.ext.size;have hA := Inv.after (M := False) hIi hI2;have hA2 : Inv E ⟨s.slots, s2.objs⟩ G2 { a with defers := [mk] ++ a.defers } (W2.putObj l (.loop { rec_ .ready none with state := .busy })) := hA.putLoop hl2 hu2 hEl;have hC2 : Inv ⟨G2, W2, fun b => ∃ n, G2.at n b, False⟩ s2 G2 a2 W2 := hI2.anew (fun h => h);have hl3' : (W2.putObj l (.loop { rec_ .ready none with state := .busy })).heap[l]? = some (.loop { rec_ .ready none with state := .busy }) := World.putObj_heap_same (Array.getElem?_eq_some_iff.1 hl2).1;have hC3 := hC2.turned (r' := { rec_ .ready none with state := .busy }) hl2 hu2;have hll2 : l < (W2.putObj l (.loop { rec_ .ready none with state := .busy })).heap.size := (Array.getElem?_eq_some_iff.1 hl3').1;have fin : ∀ {s3 : St} {G3 : Gh} {a3 : Act} {W3 : World}, Inv ⟨G2, W2.putObj l (.loop { rec_ .ready none with state := .busy }), fun b => ∃ n, G2.at n b, False⟩ s3 G3 a3 W3 →
       W3.heap[l]? = some (.loop { rec_ .ready none with state := .busy }) ∧ (∀ n, ¬ G3.at n l) ∧ Inv E ⟨s.slots, s3.objs⟩ G3 { a with defers := [mk] ++ a.defers } W3 := fun {s3 G3 a3 W3} hI3 =>
      ⟨(hI3.ext.block l hll2 (fun ⟨n, hn⟩ => hu2 n hn)).trans hl3', fun n hn => by
       rcases hI3.newb n l hn with ⟨n', hn'⟩ | h1
       ·exact hu2 n' hn'
       ·exact absurd hll2 (Nat.not_lt.2 h1), Inv.after (st := ⟨s.slots, s2.objs⟩) (M := False) hA2 hI3⟩
     refine fE (E := ⟨G2, W2.putObj l (.loop { rec_ .ready none with state := .busy }), fun b => ∃ n, G2.at n b, False⟩) (ro := some l) hT b hd.2 (.inl hpb) hC3 hw2 (fun s3 G3 a3 W3 hI3 hk3 => ?_) (fun e s3 G3 a3 W3 hI3 hk3 => ?_)
     ·obtain ⟨hl3, hu3, hB⟩ := fin hI3;obtain ⟨s4, G4, hI4, hIn, hK4, hat4⟩ := km hE hB hk3;have hu4 : ∀ n, ¬ G4.at n l := fun n hn => hu3 n (hat4 n l hn);exact ⟨_, _, run_endRound none hl3, .inl ⟨rfl, s4, G4, hI4.putLoop hl3 hu4 hEl, hIn, World.putObj_heap_same (Array.getElem?_eq_some_iff.1 hl3).1, hu4, fun b o v e => by rw [hK4]; exact hI3.le.K b o v (hI2.le.K b o v (hK b o v e))⟩⟩
     ·obtain ⟨hl3, hu3, hB⟩ := fin hI3
      cases e with
      | ret => exact ⟨_, _, run_endRound (some .ret) hl3, .inr ⟨rfl, .ret, ⟨s.slots, s3.objs⟩, G3, hB.putLoop hl3 hu3 hEl, hk3, World.putObj_heap_same (Array.getElem?_eq_some_iff.1 hl3).1, hu3⟩⟩
      | exit id => exact ⟨_, _, run_endRound (some (.exit id)) hl3, .inr ⟨rfl, .exit id, ⟨s.slots, s3.objs⟩, G3, hB.putLoop hl3 hu3 hEl, hk3, World.putObj_heap_same (Array.getElem?_eq_some_iff.1 hl3).1, hu3⟩⟩
    ·rintro i W ⟨s, Gi, hIi, _, _, _, hK⟩;exact hkn hIi hK
    ·exact ⟨st1, G1, hIW, h0, hL1, hul, hKG⟩
    ·rintro e W ⟨⟨v, rfl⟩, ⟨s, Gi, hIi, hIs, hl, hu, hK⟩ | ⟨i, e, s, Gi, hIi, hkx, hl, hu⟩⟩
     ·refine ⟨none, _, run_endLoop hl (by simp [rec_]), hn s Gi _ _ (hIi.putLoop hl hu hEl) (hdone s (by rw [← hes]; exact hIs))⟩
     ·have hq := hx e s Gi _ _ (hIi.putLoop (r' := { rec_ .done (some (XK.toCode e)) with state := .exhausted }) hl hu hEl) hkx;refine ⟨some (XK.toCode e), _, run_endLoop hl (by simp [rec_]), ?_⟩
      cases e with
      | exit id => exact wpIn_exit hq
      | ret => exact wpIn_ret hq
  ·exact h.elim
 | .scope c, E, ro, m, k, kx, Q, st, G, a, w, hd, hP, hI, h, hn, hx => by
  unfold awp at h;refine Dv (fE hT c hd (hP.imp (fun h => by unfold eI at h; exact h) (fun h => h)) hI h (fun st' G' a' w' hI' h' => ⟨fun l e => (by cases e), hn _ _ _ _ hI' h'⟩) fun e st' G' a' w' hI' h' => ⟨fun l he => (by cases e <;> cases he), hx e _ _ _ _ hI' h'⟩)
 | .goto .., E, ro, m, k, kx, Q, st, G, a, w, hd, hP, hI, h, hn, hx => h.elim
 | .refuse .., E, ro, m, k, kx, Q, st, G, a, w, hd, hP, hI, h, hn, hx => h.elim
theorem JN (l : List AV) : ∀ n, tU l n = l ++ wb (n - l.length) := by
 induction l with
 | nil => intro n; simp [tU]
 | cons x l ih => intro n; cases n with
  | zero => simp [tU, wb]
  | succ n => simp [tU, ih]
theorem HT (G : Gh) (n : Nat) : aB G (wb n) (List.replicate n undef) := by
 induction n with
 | zero => simp [wb, aB]
 | succ n ih => simp only [wb, List.replicate_succ, aB]; exact ⟨_, _, rfl, by simp only [Rep], ih⟩
theorem vo (hT : cd P T) (hI : Inv E st G a w) : ∀ {rs : List ResultVar} {k : List AV → Prop}, mX T st.slots st.objs rs k →
  ∃ (l : List AV) (vs : List Value), k l ∧ aB G l vs ∧ (rs.mapM fun r => (match r with
   | .tmp t => pure (a.tmps.getD t undef)
   | .cell x t => do loadVar t (← asAddr (a.tmps.getD x undef)) : Sem Value)).run P w = .ok vs w := by
 intro rs
 induction rs with
 | nil => intro k h; exact ⟨[], [], h, by simp [aB], by simp⟩
 | cons r rs ih =>
  intro k h
  cases r with
  | cell x t =>
   unfold mX at h;have hp := hI.eval (.tmp x);split at h
   ·rename_i n off he;split at h
    ·rename_i t' c ho;have he' : evA st.slots (.tmp x) = .ptr n off := he;rw [he'] at hp;simp only [Rep] at hp;obtain ⟨b, hb, hpe⟩ := hp;obtain ⟨b', vs, e1, e2, e3, e4⟩ := hI.obj_cells ho;rw [hb] at e1
     cases e1;rw [jE] at h;obtain ⟨v, y, h3, h4, h5⟩ := kw (w := w) hT h (e3.drop off) b off (fun j v hj => by
      rw [iq e2];rwa [abd] at hj)
     obtain ⟨l, us, g1, g2, g3⟩ := ih h3;refine ⟨v :: l, y :: us, g1, by simp only [aB]; exact ⟨_, _, rfl, h4, g2⟩, ?_⟩;have hpe' : a.tmps.getD x undef = .pointer (some ⟨b, off, none⟩) := hpe;have hpa : asAddr (a.tmps.getD x undef) = pure ⟨b, off, none⟩ := by rw [hpe']; rfl
     simp only [List.mapM_cons, Sem.run_bind, Sem.run_pure, Result.andThen_ok, g3, hpa, h5]
    ·exact h.elim
   ·exact h.elim
  | tmp t =>
   unfold mX at h;rw [iY] at h;obtain ⟨l', us, h1, h2, h3⟩ := ih h;refine ⟨iW st.slots t :: l', a.tmps.getD t undef :: us, h1, by simp only [aB]; exact ⟨_, _, rfl, hI.eval (.tmp t), h2⟩, ?_⟩;simp only [List.mapM_cons, Sem.run_bind, Sem.run_pure, Result.andThen_ok, h3]
def Pw (E : dQ) (R : AV → List aE → Prop) (e : Ending) (w' : World) : Prop :=
 ∃ (v : Value) (r : AV) (os' : List aE) (G' : Gh), e = .returned v ∧ R r os' ∧ Rep G' r v ∧ WR G' (bC 0 os') w' ∧ E.G.le G' ∧ Ext (fun b => ∃ n, E.G.at n b) E.G.K E.w G'.K w' ∧
  (∀ n b, G'.at n b → (∃ m, E.G.at m b) ∨ E.w.heap.size ≤ b) ∧ (∀ (i : Nat) (o : aE), os'[i]? = some o → ∀ m ∈ ce o, m < os'.length) ∧ ∀ m ∈ r.names, m < os'.length
theorem tR : ∀ {l ms : List Nat}, rI l ms = true → ∀ {i n : Nat}, l[i]? = some n → ms[i]? = some n := by
 intro l
 induction l with
 | nil => intro ms _ i n h; simp at h
 | cons a l ih =>
  intro ms h i n hi
  cases ms with
  | nil => simp [rI] at h
  | cons b ms =>
   unfold rI at h;split at h
   ·rename_i hb;have := aah hb;subst this
    cases i with
    | zero => simpa using hi
    | succ i => simp at hi ⊢; exact ih h hi
   ·cases h
theorem Hq {ms : List Nm} {l : List AV} (hnd : ms.Nodup) (hsub : ∀ n ∈ cH l, n ∈ ms) : ∀ m ∈ cH (nG (qK ms) l), m < ms.length := by
 intro m hm;rw [ic] at hm;obtain ⟨n, hn, rfl⟩ := List.mem_map.1 hm;exact (List.getElem?_eq_some_iff.1 (wc hnd (hsub n hn))).1
theorem Ho (hT : cd P T) {fn : Func} {R : AV → List aE → Prop} {k : Nat} (hE0 : ∀ n g, E.G.ob n = some g → n < k) (hET : ∀ b, E.T b ↔ ∃ n, E.G.at n b) (hI : Inv E st G a w) (h : Eg T an fn.results.toList k st R) : ∃ v, (results fn a.tmps).run P w = .ok v w ∧ Pw E R (.returned v) w := by
 unfold Eg at h
 ·obtain ⟨l, vs, h, h1, h2⟩ := vo hT hI h;rw [co] at h;have h3 : aB G (match an.keepRes with | true => l | false => l.map AV.strips) vs := by
   split
   ·exact h1
   ·exact u7 h1
  obtain ⟨os, h, hnd, hlen, hlive, hWR, hcl⟩ := qD h hI.wr;obtain ⟨hpre, h⟩ := az h;obtain ⟨hsub, h⟩ := az h;rw [co] at h;rw [oP] at hsub;have hRL := aB.rename (G := G) (G' := G.part _) (fun _ _ _ e => e) _ _ (fun n hn => Gh.part_idx hnd (hsub n hn)) h3;have hnames := Hq hnd hsub;rw [← hlen] at hnames;have hres : (results fn a.tmps).run P w = .ok (if h : vs.toArray.size = 1 then vs.toArray[0] else .tuple vs.toArray) w := by
   unfold results;rw [Array.mapM_eq_mapM_toList];simp only [Sem.run_bind, Sem.run_map]
   erw [h2]
   rfl
  have hback : ∀ {r : AV} {v : Value}, Rep (G.part _) r v → (∀ m ∈ r.names, m < os.length) → R r os → Pw E R (.returned v) w := fun {r v} hr hnm hR => by
   refine ⟨v, r, os, G.part _, rfl, hR, hr, hWR, ⟨hI.le.K, fun n b e => ?_, fun n u t e => ?_⟩,
    ⟨hI.ext.os, hI.ext.tape, hI.ext.output, hI.ext.size, fun b hb hT => hI.ext.block b hb (fun h => hT ((hET b).1 h)), fun b o hb hT => hI.ext.knew b o hb (fun h => hT ((hET b).1 h))⟩, fun i b hi => ?_, hcl, hnm⟩
   ·have hlt := hE0 n _ e;have := tR hpre (i := n) (n := n) (by rw [rm]; simp [hlt]);simp only [Gh.part]
    erw [this]
    exact hI.le.blk n b e
   ·have hlt := hE0 n _ e;have := tR hpre (i := n) (n := n) (by rw [rm]; simp [hlt]);simp only [Gh.part]
    erw [this]
    exact hI.le.row n u t e
   ·obtain ⟨n, _, hn⟩ := Gh.part_at hi;rcases hI.newb n b hn with h | h
    ·exact .inl ((hET b).1 h)
    ·exact .inr h
  refine ⟨_, hres, ?_⟩;split at h
  ·rename_i r hr;rw [hr] at hRL hnames;simp only [aB] at hRL;obtain ⟨v, us, rfl, h5, rfl⟩ := hRL;exact hback (by simpa using h5) (fun m hm => hnames m (by simpa [cH] using hm)) h
  ·rename_i hr;have hlen' := hRL.length;have : ¬ vs.toArray.size = 1 := by
    intro e;have e : vs.length = 1 := by simpa using e
    rw [hlen'] at e;obtain ⟨r, e⟩ := List.length_eq_one_iff.1 e;exact hr r e
   simp only [this, dif_neg, not_false_eq_true];exact hback (by simp only [Rep]; exact ⟨vs, rfl, hRL⟩) (by simpa [AV.names] using hnames) h
theorem Inv.unmark {d : Deferred} {ds : List Deferred} (h : Inv E st G { a with defers := d :: ds } w) : ∃ D, d = { target := .collected D, args := #[] } ∧ (Instr.takeDeferred D).run P w = .ok [] (w.putObj D (.deferred none)) ∧ Inv E st G { a with defers := ds } (w.putObj D (.deferred none)) := by
 obtain ⟨hnd, hm⟩ := h.defers;obtain ⟨D, h1, ⟨hM, h2⟩, h3, h4⟩ := hm d (by simp);have other : ∀ b, b ≠ D → (w.putObj D (.deferred none)).heap[b]? = w.heap[b]? := fun b hb => World.putObj_heap_other hb;have hsz : (w.putObj D (.deferred none)).heap.size = w.heap.size := by simp [World.putObj]
 refine ⟨D, h1, run_takeDeferred h3, ⟨h.slots, ⟨(List.nodup_cons.1 hnd).2, fun d' hd' => ?_⟩, ⟨fun b o v e => ?_, fun n o e => ?_, h.wr.dom, h.wr.apart, h.wr.glob⟩, h.le, ⟨h.ext.os, h.ext.tape, h.ext.output, by rw [hsz]; exact h.ext.size, fun b hb hT => ?_, h.ext.knew⟩, h.newb⟩⟩
 ·obtain ⟨D', g1, g2, g3, g4⟩ := hm d' (by simp [hd']);refine ⟨D', g1, g2, ?_, g4⟩;have hne : D' ≠ D := fun e => (List.nodup_cons.1 hnd).1 (by rw [h1, ← e, ← g1]; exact hd');rw [other D' hne, g3]
 ·have hk := h.wr.know b o v e;have hne : b ≠ D := fun e' => by
   subst e';simp [World.cell?, h3] at hk
  rw [cell_of_heap (other b hne)];exact hk
 ·refine (h.wr.obj n o e).keep (Gh.le.refl _) rfl fun b hb => ⟨other b (fun e' => h4 n (e' ▸ hb)), fun _ => rfl⟩
 ·have : b ≠ D := by omega
  rw [other b this];exact h.ext.block b hb hT
theorem rR {n : Nat} (hT : cd P T) {fn : Func} {R : AV → List aE → Prop} {k : Nat} (hE0 : ∀ n g, E.G.ob n = some g → n < k) (hET : ∀ b, E.T b ↔ ∃ n, E.G.at n b) : ∀ (ds : List Deferred) {a : Act} {w : World},
  Inv E st G { a with defers := ds } w → Eg T an fn.results.toList k st R → LeavesInM (FW none) n P fn a.tmps (Pw E R) ds .returning w := by
 intro ds
 induction ds with
 | nil =>
  intro a w hI h;exact Ho (a := { a with defers := [] }) hT hE0 hET hI h
 | cons d ds ih =>
  intro a w hI h;obtain ⟨D, h1, h2, h3⟩ := hI.unmark (P := P);exact ⟨by simp, .inl ⟨D, _, by rw [h1], h2, ih h3 h⟩⟩
theorem xR {f : FuncId} {fn : Func} {args : List AV} {os : List aE} {R : AV → List aE → Prop} (hT : cd P T) (hf : P.funcs[f]? = some fn) (h : KT P T an fn args os R) (he : T.fn f = true) : ag P f args os R := by
 refine ⟨?_⟩;intro G w vals hW hA;unfold KT at h;split at h
 ·rename_i c hc;obtain ⟨h64, h⟩ := az h;have h64 : os.length ≤ 64 := Nat.le_of_ble_eq_true h64;have hk : ∀ n g, G.ob n = some g → n < os.length := fun n g e => by
   obtain ⟨o, ho⟩ := hW.dom n g e;rw [bU] at ho;exact (List.getElem?_eq_some_iff.1 ho).1
  let E : dQ := ⟨G, w, fun b => ∃ n, G.at n b, True⟩
  have hI : Inv E ⟨tU args fn.ntmps, bC 0 os⟩ G { tmps := vals.toArray ++ Array.replicate (fn.ntmps - vals.toArray.size) undef, defers := [] } w := by
   refine ⟨?_, nw.nil _ _ _, hW, Gh.le.refl _, ⟨rfl, rfl, rfl, aar _, fun _ _ _ => rfl, fun _ _ _ _ => rfl⟩, fun n b hb => .inl ⟨n, hb⟩⟩;have hl := hA.length;simp only [JN, Array.toList_append, abt, Array.toList_replicate, aa4, hl];exact hA.append (HT G _)
  have hdr : cW c = true := by
   have := hT.draws f fn hf he;unfold Ao at this;rw [hc] at this;exact this
  refine (callsIn_wide (n := 1)).1 (callsIn_of_wp_marks (F := FW none) (n := 1) (c := c) hf hc trivial (fE (ro := none) hT c hdr (.inr ⟨rfl, trivial, aar 1, fun n g e => aaX (hk n g e) h64⟩) hI h (fun st' G' a' w' hI' h' => ?_) fun x st' G' a' w' hI' h' => ?_))
  ·exact rR hT hk (fun b => Iff.rfl) _ hI' h'
  ·cases x with
   | ret => exact rR hT hk (fun b => Iff.rfl) _ hI' h'
   | exit id => exact h'.elim
 ·exact h.elim
end
end Go.Abs
