/- The engine, BN. -/
import Derived.Test.YtnjeogcgfoabhaaGreatE0B6
set_option linter.unusedVariables false
set_option linter.unusedSimpArgs false
namespace Go.Abs
open Go
theorem kJ {l : List Nat} {n : Nat} : im l n = true ↔ n ∈ l := by
 induction l with
 | nil => simp [im]
 | cons a l ih =>
  unfold im;split
  ·rename_i h;have := Nat.eq_of_beq_eq_true h;simp [this]
  ·rename_i h;rw [gz] at h;rw [ih, List.mem_cons];exact ⟨.inr, fun h' => h'.resolve_left fun e => h e.symm⟩
theorem oT {l ms : List Nm} : zx l ms = true ↔ ∀ n ∈ l, n ∈ ms := by
 induction l with
 | nil => simp [zx]
 | cons a l ih =>
  unfold zx;split
  ·rename_i h;rw [ih];simp [kJ.1 h]
  ·rename_i h;have : ¬ a ∈ ms := fun e => by rw [kJ.2 e] at h; cases h
   simp [this]
theorem Ew {l : List Nm} : vU l = true ↔ l.Nodup := by
 induction l with
 | nil => simp [vU]
 | cons a l ih =>
  unfold vU;split
  ·rename_i h;simp [kJ.1 h]
  ·rename_i h;have : ¬ a ∈ l := fun e => by rw [kJ.2 e] at h; cases h
   simp [this, ih]
theorem nr : ∀ {l : List Nm} {i : Nat} {n : Nm}, l.Nodup → l[i]? = some n → qN l n = i := by
 intro l
 induction l with
 | nil => intro i n _ h; simp at h
 | cons a l ih =>
  intro i n hnd h;simp only [List.nodup_cons] at hnd
  cases i with
  | zero =>
   simp at h; subst h;unfold qN;have : Nat.beq a a = true := by simp
   rw [this]
  | succ i =>
   simp at h;have hne : a ≠ n := fun e => hnd.1 (e ▸ List.mem_of_getElem? h);unfold qN;have : Nat.beq a n = false := gz.2 hne;rw [this];simp [ih hnd.2 h]
theorem wj {l : List Nm} {n : Nm} (hnd : l.Nodup) (h : n ∈ l) : l[qN l n]? = some n := by
 obtain ⟨i, hi⟩ := List.getElem?_of_mem h;rw [nr hnd hi]; exact hi
theorem uC : ∀ (os : List aF) (j i : Nat), az (bE j os) i = if j ≤ i then os[i - j]? else none := by
 intro os
 induction os with
 | nil => intro j i; simp [bE, az]
 | cons o os ih =>
  intro j i;simp only [bE, az]
  cases hb : Nat.beq j i
  ·rw [gz] at hb;simp only [ih];by_cases h : j ≤ i
   ·have h1 : j + 1 ≤ i := by omega
    simp only [h, h1, if_true];rw [show i - j = (i - (j + 1)) + 1 by omega, List.getElem?_cons_succ]
   ·have h1 : ¬ j + 1 ≤ i := by omega
    simp [h, h1]
  ·have := Nat.eq_of_beq_eq_true hb;subst this;simp
theorem bX (os : List aF) (i : Nat) : az (bE 0 os) i = os[i]? := by simp [uC]
mutual
theorem Rep.rename {G G' : Gh} {r : Nm → Nm} (hK : ∀ b o v, G.K b o = some v → G'.K b o = some v) : ∀ (a : AV) (v : Value), (∀ n ∈ a.names, G'.ob (r n) = G.ob n) → Rep G a v → Rep G' (kU r a) v
 | .junk, v, _, _ => by simp [kU, Rep]
 | .val x, v, _, e => by simpa [kU, Rep] using e
 | .agg l, v, n, e => by
  simp only [kU, Rep] at e ⊢;obtain ⟨vs, rfl, e⟩ := e;exact ⟨vs, rfl, aB.rename hK l vs (by simpa [AV.names] using n) e⟩
 | .sl own size l, v, n, e => by
  simp only [kU, Rep] at e ⊢;obtain ⟨⟨A, c, rfl, hc, e⟩, ho⟩ := e;refine ⟨⟨A, c, rfl, hc, eh.nameless hK size A l 0 e⟩, ?_⟩
  cases own with
  | none => trivial
  | some m =>
   obtain ⟨u, top, e1, e2⟩ := ho;exact ⟨u, top, by rw [n m (by simp [AV.names])]; exact e1, e2⟩
 | .cptr cells off, v, _, e => by
  simp only [kU, Rep] at e ⊢;obtain ⟨b, o, rfl, e, hk⟩ := e;exact ⟨b, o, rfl, fC.nameless hK b cells o hk e, hk⟩
 | .ptr m off, v, n, e => by
  simp only [kU, Rep] at e ⊢;obtain ⟨b, e, rfl⟩ := e;exact ⟨b, by rw [n m (by simp [AV.names])]; exact e, rfl⟩
 | .slm m off len cap, v, n, e => by
  simp only [kU, Rep] at e ⊢;obtain ⟨b, e, rfl⟩ := e;exact ⟨b, by rw [n m (by simp [AV.names])]; exact e, rfl⟩
 | .fn f first cap, v, n, e => by
  simp only [kU, Rep] at e ⊢;obtain ⟨vs, us, rfl, e1, e2⟩ := e;simp only [AV.names, List.mem_append] at n;exact ⟨vs, us, rfl, aB.rename hK first vs (fun m hm => n m (.inl hm)) e1, aB.rename hK cap us (fun m hm => n m (.inr hm)) e2⟩
 | .iface t x, v, n, e => by
  simp only [kU, Rep] at e ⊢;obtain ⟨u, rfl, e⟩ := e;exact ⟨u, rfl, Rep.rename hK x u (by simpa [AV.names] using n) e⟩
 | .mapv m, v, n, e => by
  simp only [kU, Rep] at e ⊢;obtain ⟨b, e, rfl⟩ := e;exact ⟨b, by rw [n m (by simp [AV.names])]; exact e, rfl⟩
 | .tup l, v, n, e => by
  simp only [kU, Rep] at e ⊢;obtain ⟨vs, rfl, e⟩ := e;exact ⟨vs, rfl, aB.rename hK l vs (by simpa [AV.names] using n) e⟩
 | .slv m size ver off len, v, n, e => by
  simp only [kU, Rep] at e ⊢;obtain ⟨hv, u, top, e1, e2⟩ := e;exact ⟨hv, u, top, by rw [n m (by simp [AV.names])]; exact e1, e2⟩
 | .ptv m size ver i off, v, n, e => by
  simp only [kU, Rep] at e ⊢;obtain ⟨hv, u, top, e1, e2⟩ := e;exact ⟨hv, u, top, by rw [n m (by simp [AV.names])]; exact e1, e2⟩
theorem aB.rename {G G' : Gh} {r : Nm → Nm} (hK : ∀ b o v, G.K b o = some v → G'.K b o = some v) : ∀ (l : List AV) (vs : List Value), (∀ n ∈ cL l, G'.ob (r n) = G.ob n) → aB G l vs → aB G' (nN r l) vs
 | [], vs, _, e => by simpa [nN, aB] using e
 | a :: l, vs, n, e => by
  simp only [nN, aB] at e ⊢;simp only [cL, List.mem_append] at n;obtain ⟨v, us, rfl, e1, e2⟩ := e;exact ⟨v, us, rfl, Rep.rename hK a v (fun m hm => n m (.inl hm)) e1, aB.rename hK l us (fun m hm => n m (.inr hm)) e2⟩
end
theorem fD.nameless {G G' : Gh} (hK : ∀ b o v, G.K b o = some v → G'.K b o = some v) : ∀ {es : List (ByteArray × AV)} {ms : List MapEntry}, fD G es ms → fD G' es ms
 | [], [], _ => trivial
 | e :: es, m :: ms, ⟨h1, h2, h3⟩ => ⟨h1, Rep.nameless hK _ _ h1.2 h2, fD.nameless hK h3⟩
 | [], _ :: _, e => e.elim
 | _ :: _, [], e => e.elim
theorem qR {size : Nat} : ∀ {l : List (List AV)}, (∀ e ∈ l, e.length = size ∧ bU e = true) → cE.go l.flatten = true := by
 have key : ∀ l : List AV, (∀ a ∈ l, a.okCell = true) → cE.go l = true := by
  intro l
  induction l with
  | nil => intro _; rfl
  | cons a l ih =>
   intro h;simp only [cE.go, h a (by simp)];exact ih fun b hb => h b (by simp [hb])
 intro l h;refine key _ fun a ha => ?_;obtain ⟨e, he, ha⟩ := List.mem_flatten.1 ha;exact fO.1 (h e he).2 a ha
theorem tV (r : Nm → Nm) : ∀ (l : List AV), (nN r l).length = l.length
 | [] => rfl
 | a :: l => by simp [nN, tV r l]
theorem sL.rename {G G' : Gh} {w : World} {n : Nm} {o : aF} {r : Nm → Nm} (h : sL G w n o) (hK : G'.K = G.K) (hn : G'.ob (r n) = G.ob n) (hs : ∀ m ∈ ck o, G'.ob (r m) = G.ob m) :
  sL G' w (r n) (rH r o) := by
 have hK' : ∀ b o v, G.K b o = some v → G'.K b o = some v := fun b o v e => by rw [hK]; exact e
 cases o with
 | cells t l =>
  obtain ⟨b, vs, e1, e2, e3, e4⟩ := h;exact ⟨b, vs, by rw [hn, e1], e2, aB.rename hK' l vs hs e3, fun o => by rw [hK, e4]⟩
 | row t size top =>
  obtain ⟨u, xs, e1, e2, e3⟩ := h;exact ⟨u, xs, by rw [hn, e1], e2, fun g hg o => by rw [hK, e3 g hg]⟩
 | map es =>
  obtain ⟨b, ms, c, e1, e2, e3, e4, e5⟩ := h;exact ⟨b, ms, c, by rw [hn, e1], e2, e3.nameless hK', fun o => by rw [hK, e4], e5⟩
 | mapc es ms c =>
  obtain ⟨b, e1, e2, e3, e4, e5⟩ := h;exact ⟨b, by rw [hn, e1], e2, e3.nameless hK', fun o => by rw [hK, e4], e5⟩
 | iter m ms c seen =>
  obtain ⟨b, rr, e1, e2, e3, e5, e4⟩ := h;exact ⟨b, rr, by rw [hn, e1], by rw [hs m (by simp [ck]), e2], e3, e5, fun o => by rw [hK, e4]⟩
 | vec t size l =>
  obtain ⟨u, xs, e1, e2, e3, e4, e5⟩ := h;exact ⟨u, xs, by rw [hn, e1], e2, aB.nameless hK' _ _ (qR e4) e3, e4, fun g hg o => by rw [hK, e5 g hg]⟩
 | fns t l =>
  obtain ⟨u, xs, e1, e2, e3, e5⟩ := h;exact ⟨u, xs, by rw [hn, e1], by rw [tV]; exact e2, aB.rename hK' l xs hs e3, fun g hg o => by rw [hK, e5 g hg]⟩
 | dead =>
  obtain ⟨⟨g, hg⟩, h2⟩ := h;exact ⟨⟨g, by rw [hn, hg]⟩, fun b hb => h2 b (by rw [hn] at hb; exact hb)⟩
theorem Aa {objs : List (Nm × aF)} {all : List Nm} : ∀ {ns : List Nm} {k : List aF → Prop}, nT objs all ns k → ∃ os, k os ∧ os.length = ns.length ∧
  ∀ (i : Nat) n, ns[i]? = some n → ∃ o, az objs n = some o ∧ os[i]? = some (rH (qN all) o) ∧ ∀ m ∈ ck o, m ∈ all := by
 intro ns
 induction ns with
 | nil => intro k h; exact ⟨[], h, rfl, fun i n e => by simp at e⟩
 | cons n ns ih =>
  intro k h;unfold nT at h;split at h
  ·rename_i o ho;obtain ⟨hs, h⟩ := aA h;rw [iq] at h;obtain ⟨os, h1, h2, h3⟩ := ih h;refine ⟨_, h1, by simp [h2], fun i m e => ?_⟩
   cases i with
   | zero =>
    simp at e; subst e;exact ⟨o, ho, by simp, oT.1 hs⟩
   | succ i =>
    simp at e;obtain ⟨o', g1, g2, g3⟩ := h3 i m e;exact ⟨o', g1, by simpa using g2, g3⟩
  ·exact h.elim
mutual
theorem vY (r : Nm → Nm) : ∀ (a : AV), (kU r a).names = a.names.map r
 | .junk => rfl
 | .val _ => rfl
 | .cptr _ _ => rfl
 | .ptr _ _ => rfl
 | .slm _ _ _ _ => rfl
 | .mapv _ => rfl
 | .slv _ _ _ _ _ => rfl
 | .ptv _ _ _ _ _ => rfl
 | .sl none _ _ => rfl
 | .sl (some _) _ _ => rfl
 | .agg l => by simp only [kU, AV.names]; exact il r l
 | .tup l => by simp only [kU, AV.names]; exact il r l
 | .fn f a b => by simp only [kU, AV.names, List.map_append]; rw [il r a, il r b]
 | .iface t x => by simp only [kU, AV.names]; exact vY r x
theorem il (r : Nm → Nm) : ∀ (l : List AV), cL (nN r l) = (cL l).map r
 | [] => rfl
 | a :: l => by simp only [nN, cL, List.map_append]; rw [vY r a, il r l]
end
theorem Ez (r : Nm → Nm) (o : aF) : ck (rH r o) = (ck o).map r := by
 cases o with
 | cells t l => exact il r l
 | row t s n => rfl
 | map es => rfl
 | dead => rfl
 | vec t s l => rfl
 | mapc es ms c => rfl
 | iter m ms c seen => rfl
 | fns t l v => exact il r l
theorem xy {objs : List (Nm × aF)} {all ns : List Nm} (hnd : all.Nodup) {os : List aF} (h3 : ∀ (i : Nat) n, ns[i]? = some n → ∃ o, az objs n = some o ∧ os[i]? = some (rH (qN all) o) ∧ ∀ m ∈ ck o, m ∈ all) (hl : os.length = ns.length) :
  ∀ (i : Nat) (o : aF), os[i]? = some o → ∀ m ∈ ck o, m < all.length := by
 intro i o ho m hm;have hi : i < ns.length := by rw [← hl]; exact (List.getElem?_eq_some_iff.1 ho).1
 obtain ⟨o', g1, g2, g3⟩ := h3 i ns[i] (List.getElem?_eq_getElem hi);rw [g2] at ho
 cases ho;rw [Ez] at hm;obtain ⟨n, hn, rfl⟩ := List.mem_map.1 hm;exact (List.getElem?_eq_some_iff.1 (wj hnd (g3 n hn))).1
def Gh.part (G : Gh) (ns : List Nm) : Gh := ⟨G.K, fun i => (ns[i]?).bind G.ob⟩
theorem Gh.part_idx {G : Gh} {ns : List Nm} (hnd : ns.Nodup) {n : Nm} (h : n ∈ ns) : (G.part ns).ob (qN ns n) = G.ob n := by
 simp [Gh.part, wj hnd h]
theorem Gh.part_at {G : Gh} {ns : List Nm} {i b : Nat} (h : (G.part ns).at i b) : ∃ n, ns[i]? = some n ∧ G.at n b := by
 rcases h with h | ⟨u, t, h, hu⟩
 ·obtain ⟨n, h1, h2⟩ := Option.bind_eq_some_iff.1 h;exact ⟨n, h1, .inl h2⟩
 ·obtain ⟨n, h1, h2⟩ := Option.bind_eq_some_iff.1 h;exact ⟨n, h1, .inr ⟨u, t, h2, hu⟩⟩
theorem qG {objs : List (Nm × aF)} {ns : List Nm} {k : List Nm → List aF → Prop} (h : yF objs ns k) {G : Gh} {w : World} (hw : WR G objs w) :
  ∃ os, k ns os ∧ ns.Nodup ∧ os.length = ns.length ∧ (∀ n ∈ ns, ∃ o, az objs n = some o) ∧ WR (G.part ns) (bE 0 os) w ∧ (∀ (i : Nat) (o : aF), os[i]? = some o → ∀ m ∈ ck o, m < os.length) := by
 unfold yF at h;rw [yW] at h;obtain ⟨hnd, h⟩ := aA h;rw [Ew] at hnd;obtain ⟨os, h1, h2, h3⟩ := Aa h;refine ⟨os, h1, hnd, h2, fun n hn => ?_, ?_, by rw [h2]; exact xy hnd h3 h2⟩
 ·obtain ⟨i, hi⟩ := List.getElem?_of_mem hn;obtain ⟨o, g, _⟩ := h3 i n hi;exact ⟨o, g⟩
 ·refine ⟨hw.know, fun i o ho => ?_, fun i g hg => ?_, fun i j b hi hj => ?_, hw.glob⟩
  ·rw [bX] at ho;have hlt : i < ns.length := by rw [← h2]; exact (List.getElem?_eq_some_iff.1 ho).1
   obtain ⟨o', g1, g2, g3⟩ := h3 i ns[i] (List.getElem?_eq_getElem hlt);rw [g2] at ho
   cases ho;have := (hw.obj _ _ g1).rename (G' := G.part ns) (r := qN ns) rfl (Gh.part_idx hnd (List.getElem_mem hlt)) (fun m hm => Gh.part_idx hnd (g3 m hm));rwa [nr hnd (List.getElem?_eq_getElem hlt)] at this
  ·obtain ⟨n, e1, e2⟩ := Option.bind_eq_some_iff.1 (show (ns[i]?).bind G.ob = some g from hg);obtain ⟨o, g1, g2, _⟩ := h3 i n e1;exact ⟨_, by rw [bX]; exact g2⟩
  ·obtain ⟨n, e1, e2⟩ := Gh.part_at hi;obtain ⟨m, e3, e4⟩ := Gh.part_at hj;obtain rfl := hw.apart n m b e2 e4;rw [← nr hnd e1, ← nr hnd e3]
theorem pC {d : Nat} : ∀ {ns : List Nm} {j i : Nat} {n : Nm}, ns[i]? = some n → dP d ns j i = n := by
 intro ns
 induction ns with
 | nil => intro j i n h; simp at h
 | cons a ns ih =>
  intro j i n h
  cases i with
  | zero => simpa [dP] using h
  | succ i => simp at h; exact ih h
theorem Da {d : Nat} : ∀ {ns : List Nm} {j i : Nat}, ns.length ≤ i → dP d ns j i = ax d (j + (i - ns.length)) := by
 intro ns
 induction ns with
 | nil => intro j i h; simp [dP]
 | cons a ns ih =>
  intro j i h
  cases i with
  | zero => simp at h
  | succ i =>
   simp only [List.length_cons, Nat.add_le_add_iff_right] at h;simp only [dP, List.length_cons, Nat.add_sub_add_right];exact ih h
theorem Fv {r : Nm → Nm} {d : Nat} : ∀ {ns : List Nm} {os : List aF} {j : Nat} {objs : List (Nm × aF)} {k : List (Nm × aF) → Prop}, ns.Nodup → (∀ n ∈ ns, ∃ o, az objs n = some o) → lZ r d ns os j objs k →
  ∃ objs', k objs' ∧ ns.length ≤ os.length ∧ (∀ i o, os[i]? = some o → az objs' (dP d ns j i) = some (rH r o)) ∧
   (∀ m, (∀ i, i < os.length → dP d ns j i ≠ m) → az objs' m = az objs m) ∧ (∀ i, ns.length ≤ i → i < os.length → az objs (dP d ns j i) = none) := by
 intro ns os
 induction os generalizing ns with
 | nil =>
  intro j objs k hnd hl h
  cases ns with
  | nil => exact ⟨objs, h, Nat.le_refl _, fun i o e => by simp at e, fun m _ => rfl, fun i _ h => by simp at h⟩
  | cons n ns => exact h.elim
 | cons o os ih =>
  intro j objs k hnd hl h
  cases ns with
  | nil =>
   unfold lZ at h;rw [iq] at h;obtain ⟨l1, h1, h2, h3⟩ := dR h;obtain ⟨l2, g1, g2, g3, g4, g5⟩ := ih (ns := []) (by simp) (by simp) h1;have hf : ∀ i, dP d [] (j + 1) i = dP d [] j (i + 1) := fun i => by
    show ax d (j + 1 + i) = ax d (j + (i + 1));rw [show j + 1 + i = j + (i + 1) by omega]
   have hne : ∀ i, dP d [] j (i + 1) ≠ ax d j := fun i e => by
    have e : (2 * d + 200000 * (j + (i + 1) + 1) + 65 : Nat) = 2 * d + 200000 * (j + 1) + 65 := e;omega
   refine ⟨l2, g1, by simp, fun i x e => ?_, fun m hm => ?_, fun i _ hi => ?_⟩
   ·cases i with
    | zero =>
     simp at e; subst e;have e0 : dP d [] j 0 = ax d j := by simp [dP]
     rw [e0, g4 _ (fun i hi => by rw [hf]; exact hne i), h3];simp
    | succ i =>
     rw [← hf];exact g3 i x (by simpa using e)
   ·rw [g4 m (fun i hi => by rw [hf]; exact hm (i + 1) (by simp; omega)), h3];have := hm 0 (by simp);have e0 : dP d [] j 0 = ax d j := by simp [dP]
    rw [e0] at this;simp [Ne.symm this]
   ·cases i with
    | zero => simpa [dP] using h2
    | succ i =>
     have := g5 i (by simp) (by simpa using hi);rw [h3, hf] at this;split at this
     ·cases this
     ·exact this
  | cons n ns =>
   unfold lZ at h;rw [iq] at h;obtain ⟨l1, h1, h3⟩ := cw h;simp only [List.nodup_cons] at hnd;have hl' : ∀ m ∈ ns, ∃ o, az l1 m = some o := fun m hm => by
    rw [h3];split
    ·exact ⟨_, rfl⟩
    ·exact hl m (by simp [hm])
   obtain ⟨l2, g1, g2, g3, g4, g5⟩ := ih hnd.2 hl' h1;have hn0 : ∀ i, i < os.length → dP d ns j i ≠ n := by
    intro i hi e;rcases Nat.lt_or_ge i ns.length with h' | h'
    ·rw [pC (List.getElem?_eq_getElem h')] at e;exact hnd.1 (e ▸ List.getElem_mem h')
    ·have := g5 i h' hi;rw [h3, e] at this;simp at this
   refine ⟨l2, g1, by simpa using g2, fun i x e => ?_, fun m hm => ?_, fun i h0 hi => ?_⟩
   ·cases i with
    | zero =>
     simp at e; subst e;show az l2 n = _;rw [g4 n hn0, h3];simp
    | succ i => exact g3 i x (by simpa using e)
   ·rw [g4 m (fun i hi => hm (i + 1) (by simp; omega)), h3];have : n ≠ m := hm 0 (by simp);simp [Ne.symm this]
   ·cases i with
    | zero => simp at h0
    | succ i =>
     have := g5 i (by simpa using h0) (by simpa using hi);rw [h3] at this;split at this
     ·cases this
     ·exact this
end Go.Abs
