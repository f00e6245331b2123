/- The engine, BN. -/
import Derived.Test.YtnjeogcgfoabhaaGreatE0B6
set_option linter.unusedVariables false
set_option linter.unusedSimpArgs false
namespace Go.Abs
open Go
theorem ko {l : List Nat} {n : Nat} : ig l n = true ↔ n ∈ l := by
 induction l with
 | nil => simp [ig]
 | cons a l ih =>
  unfold ig;split
  ·rename_i h;have := aah h;simp [this]
  ·rename_i h;rw [gt] at h;rw [ih, aaY];exact ⟨.inr, fun h' => h'.resolve_left fun e => h e.symm⟩
theorem oP {l ms : List Nm} : zq l ms = true ↔ ∀ n ∈ l, n ∈ ms := by
 induction l with
 | nil => simp [zq]
 | cons a l ih =>
  unfold zq;split
  ·rename_i h;rw [ih];simp [ko.1 h]
  ·rename_i h;have : ¬ a ∈ ms := fun e => by rw [ko.2 e] at h; cases h
   simp [this]
theorem Eu {l : List Nm} : vO l = true ↔ l.Nodup := by
 induction l with
 | nil => simp [vO]
 | cons a l ih =>
  unfold vO;split
  ·rename_i h;simp [ko.1 h]
  ·rename_i h;have : ¬ a ∈ l := fun e => by rw [ko.2 e] at h; cases h
   simp [this, ih]
theorem nf : ∀ {l : List Nm} {i : Nat} {n : Nm}, l.Nodup → l[i]? = some n → qK l n = i := by
 intro l
 induction l with
 | nil => intro i n _ h; simp at h
 | cons a l ih =>
  intro i n hnd h;simp only [List.nodup_cons] at hnd
  cases i with
  | zero =>
   simp at h; subst h;unfold qK;have : Nat.beq a a = true := by simp
   rw [this]
  | succ i =>
   simp at h;have hne : a ≠ n := fun e => hnd.1 (e ▸ aaO h);unfold qK;have : Nat.beq a n = false := gt.2 hne;rw [this];simp [ih hnd.2 h]
theorem wc {l : List Nm} {n : Nm} (hnd : l.Nodup) (h : n ∈ l) : l[qK l n]? = some n := by
 obtain ⟨i, hi⟩ := List.getElem?_of_mem h;rw [nf hnd hi]; exact hi
theorem ux : ∀ (os : List aE) (j i : Nat), ax (bC j os) i = if j ≤ i then os[i - j]? else none := by
 intro os
 induction os with
 | nil => intro j i; simp [bC, ax]
 | cons o os ih =>
  intro j i;simp only [bC, ax]
  cases hb : Nat.beq j i
  ·rw [gt] at hb;simp only [ih];by_cases h : j ≤ i
   ·have h1 : j + 1 ≤ i := by omega
    simp only [h, h1, abq];rw [show i - j = (i - (j + 1)) + 1 by omega, List.getElem?_cons_succ]
   ·have h1 : ¬ j + 1 ≤ i := by omega
    simp [h, h1]
  ·have := aah hb;subst this;simp
theorem bU (os : List aE) (i : Nat) : ax (bC 0 os) i = os[i]? := by simp [ux]
mutual
theorem Rep.rename {G G' : Gh} {r : Nm → Nm} (hK : ∀ b o v, G.K b o = some v → G'.K b o = some v) : ∀ (a : AV) (v : Value), (∀ n ∈ a.names, G'.ob (r n) = G.ob n) → Rep G a v → Rep G' (kD r a) v
 | .junk, v, _, _ => by simp [kD, Rep]
 | .val x, v, _, e => by simpa [kD, Rep] using e
 | .agg l, v, n, e => by
  simp only [kD, Rep] at e ⊢;obtain ⟨vs, rfl, e⟩ := e;exact ⟨vs, rfl, aB.rename hK l vs (by simpa [AV.names] using n) e⟩
 | .sl own size l, v, n, e => by
  simp only [kD, Rep] at e ⊢;obtain ⟨⟨A, c, rfl, hc, e⟩, ho⟩ := e;refine ⟨⟨A, c, rfl, hc, d7.nameless hK size A l 0 e⟩, ?_⟩
  cases own with
  | none => trivial
  | some m =>
   obtain ⟨u, top, e1, e2⟩ := ho;exact ⟨u, top, by rw [n m (by simp [AV.names])]; exact e1, e2⟩
 | .cptr cells off, v, _, e => by
  simp only [kD, Rep] at e ⊢;obtain ⟨b, o, rfl, e, hk⟩ := e;exact ⟨b, o, rfl, fv.nameless hK b cells o hk e, hk⟩
 | .ptr m off, v, n, e => by
  simp only [kD, Rep] at e ⊢;obtain ⟨b, e, rfl⟩ := e;exact ⟨b, by rw [n m (by simp [AV.names])]; exact e, rfl⟩
 | .slm m off len cap, v, n, e => by
  simp only [kD, Rep] at e ⊢;obtain ⟨b, e, rfl⟩ := e;exact ⟨b, by rw [n m (by simp [AV.names])]; exact e, rfl⟩
 | .fn f first cap, v, n, e => by
  simp only [kD, Rep] at e ⊢;obtain ⟨vs, us, rfl, e1, e2⟩ := e;simp only [AV.names, aaJ] at n;exact ⟨vs, us, rfl, aB.rename hK first vs (fun m hm => n m (.inl hm)) e1, aB.rename hK cap us (fun m hm => n m (.inr hm)) e2⟩
 | .iface t x, v, n, e => by
  simp only [kD, Rep] at e ⊢;obtain ⟨u, rfl, e⟩ := e;exact ⟨u, rfl, Rep.rename hK x u (by simpa [AV.names] using n) e⟩
 | .mapv m, v, n, e => by
  simp only [kD, Rep] at e ⊢;obtain ⟨b, e, rfl⟩ := e;exact ⟨b, by rw [n m (by simp [AV.names])]; exact e, rfl⟩
 | .tup l, v, n, e => by
  simp only [kD, Rep] at e ⊢;obtain ⟨vs, rfl, e⟩ := e;exact ⟨vs, rfl, aB.rename hK l vs (by simpa [AV.names] using n) e⟩
 | .slv m size ver off len, v, n, e => by
  simp only [kD, Rep] at e ⊢;obtain ⟨hv, u, top, e1, e2⟩ := e;exact ⟨hv, u, top, by rw [n m (by simp [AV.names])]; exact e1, e2⟩
 | .ptv m size ver i off, v, n, e => by
  simp only [kD, Rep] at e ⊢;obtain ⟨hv, u, top, e1, e2⟩ := e;exact ⟨hv, u, top, by rw [n m (by simp [AV.names])]; exact e1, e2⟩
theorem aB.rename {G G' : Gh} {r : Nm → Nm} (hK : ∀ b o v, G.K b o = some v → G'.K b o = some v) : ∀ (l : List AV) (vs : List Value), (∀ n ∈ cH l, G'.ob (r n) = G.ob n) → aB G l vs → aB G' (nG r l) vs
 | [], vs, _, e => by simpa [nG, aB] using e
 | a :: l, vs, n, e => by
  simp only [nG, aB] at e ⊢;simp only [cH, aaJ] at n;obtain ⟨v, us, rfl, e1, e2⟩ := e;exact ⟨v, us, rfl, Rep.rename hK a v (fun m hm => n m (.inl hm)) e1, aB.rename hK l us (fun m hm => n m (.inr hm)) e2⟩
end
theorem fw.nameless {G G' : Gh} (hK : ∀ b o v, G.K b o = some v → G'.K b o = some v) : ∀ {es : List (ByteArray × AV)} {ms : List MapEntry}, fw G es ms → fw G' es ms
 | [], [], _ => trivial
 | e :: es, m :: ms, ⟨h1, h2, h3⟩ => ⟨h1, Rep.nameless hK _ _ h1.2 h2, fw.nameless hK h3⟩
 | [], _ :: _, e => e.elim
 | _ :: _, [], e => e.elim
theorem qO {size : Nat} : ∀ {l : List (List AV)}, (∀ e ∈ l, e.length = size ∧ bP e = true) → cC.go l.flatten = true := by
 have key : ∀ l : List AV, (∀ a ∈ l, a.okCell = true) → cC.go l = true := by
  intro l
  induction l with
  | nil => intro _; rfl
  | cons a l ih =>
   intro h;simp only [cC.go, h a (by simp)];exact ih fun b hb => h b (by simp [hb])
 intro l h;refine key _ fun a ha => ?_;obtain ⟨e, he, ha⟩ := List.mem_flatten.1 ha;exact fJ.1 (h e he).2 a ha
theorem tP (r : Nm → Nm) : ∀ (l : List AV), (nG r l).length = l.length
 | [] => rfl
 | a :: l => by simp [nG, tP r l]
theorem sG.rename {G G' : Gh} {w : World} {n : Nm} {o : aE} {r : Nm → Nm} (h : sG G w n o) (hK : G'.K = G.K) (hn : G'.ob (r n) = G.ob n) (hs : ∀ m ∈ ce o, G'.ob (r m) = G.ob m) : sG G' w (r n) (rD r o) := by
 have hK' : ∀ b o v, G.K b o = some v → G'.K b o = some v := fun b o v e => by rw [hK]; exact e
 cases o with
 | cells t l =>
  obtain ⟨b, vs, e1, e2, e3, e4⟩ := h;exact ⟨b, vs, by rw [hn, e1], e2, aB.rename hK' l vs hs e3, fun o => by rw [hK, e4]⟩
 | row t size top =>
  obtain ⟨u, xs, e1, e2, e3⟩ := h;exact ⟨u, xs, by rw [hn, e1], e2, fun g hg o => by rw [hK, e3 g hg]⟩
 | map es =>
  obtain ⟨b, ms, c, e1, e2, e3, e4, e5⟩ := h;exact ⟨b, ms, c, by rw [hn, e1], e2, e3.nameless hK', fun o => by rw [hK, e4], e5⟩
 | mapc es ms c =>
  obtain ⟨b, e1, e2, e3, e4, e5⟩ := h;exact ⟨b, by rw [hn, e1], e2, e3.nameless hK', fun o => by rw [hK, e4], e5⟩
 | iter m ms c seen =>
  obtain ⟨b, rr, e1, e2, e3, e5, e4⟩ := h;exact ⟨b, rr, by rw [hn, e1], by rw [hs m (by simp [ce]), e2], e3, e5, fun o => by rw [hK, e4]⟩
 | vec t size l =>
  obtain ⟨u, xs, e1, e2, e3, e4, e5⟩ := h;exact ⟨u, xs, by rw [hn, e1], e2, aB.nameless hK' _ _ (qO e4) e3, e4, fun g hg o => by rw [hK, e5 g hg]⟩
 | fns t l =>
  obtain ⟨u, xs, e1, e2, e3, e5⟩ := h;exact ⟨u, xs, by rw [hn, e1], by rw [tP]; exact e2, aB.rename hK' l xs hs e3, fun g hg o => by rw [hK, e5 g hg]⟩
 | dead =>
  obtain ⟨⟨g, hg⟩, h2⟩ := h;exact ⟨⟨g, by rw [hn, hg]⟩, fun b hb => h2 b (by rw [hn] at hb; exact hb)⟩
theorem zY {objs : List (Nm × aE)} {all : List Nm} : ∀ {ns : List Nm} {k : List aE → Prop}, nN objs all ns k → ∃ os, k os ∧ os.length = ns.length ∧
  ∀ (i : Nat) n, ns[i]? = some n → ∃ o, ax objs n = some o ∧ os[i]? = some (rD (qK all) o) ∧ ∀ m ∈ ce o, m ∈ all := by
 intro ns
 induction ns with
 | nil => intro k h; exact ⟨[], h, rfl, fun i n e => by simp at e⟩
 | cons n ns ih =>
  intro k h;unfold nN at h;split at h
  ·rename_i o ho;obtain ⟨hs, h⟩ := az h;rw [ij] at h;obtain ⟨os, h1, h2, h3⟩ := ih h;refine ⟨_, h1, by simp [h2], fun i m e => ?_⟩
   cases i with
   | zero =>
    simp at e; subst e;exact ⟨o, ho, by simp, oP.1 hs⟩
   | succ i =>
    simp at e;obtain ⟨o', g1, g2, g3⟩ := h3 i m e;exact ⟨o', g1, by simpa using g2, g3⟩
  ·exact h.elim
mutual
theorem vS (r : Nm → Nm) : ∀ (a : AV), (kD r a).names = a.names.map r
 | .junk => rfl
 | .val _ => rfl
 | .cptr _ _ => rfl
 | .ptr _ _ => rfl
 | .slm _ _ _ _ => rfl
 | .mapv _ => rfl
 | .slv _ _ _ _ _ => rfl
 | .ptv _ _ _ _ _ => rfl
 | .sl none _ _ => rfl
 | .sl (some _) _ _ => rfl
 | .agg l => by simp only [kD, AV.names]; exact ic r l
 | .tup l => by simp only [kD, AV.names]; exact ic r l
 | .fn f a b => by simp only [kD, AV.names, aaG]; rw [ic r a, ic r b]
 | .iface t x => by simp only [kD, AV.names]; exact vS r x
theorem ic (r : Nm → Nm) : ∀ (l : List AV), cH (nG r l) = (cH l).map r
 | [] => rfl
 | a :: l => by simp only [nG, cH, aaG]; rw [vS r a, ic r l]
end
theorem Ex (r : Nm → Nm) (o : aE) : ce (rD r o) = (ce o).map r := by
 cases o with
 | cells t l => exact ic r l
 | row t s n => rfl
 | map es => rfl
 | dead => rfl
 | vec t s l => rfl
 | mapc es ms c => rfl
 | iter m ms c seen => rfl
 | fns t l v => exact ic r l
theorem xr {objs : List (Nm × aE)} {all ns : List Nm} (hnd : all.Nodup) {os : List aE} (h3 : ∀ (i : Nat) n, ns[i]? = some n → ∃ o, ax objs n = some o ∧ os[i]? = some (rD (qK all) o) ∧ ∀ m ∈ ce o, m ∈ all) (hl : os.length = ns.length) : ∀ (i : Nat) (o : aE), os[i]? = some o → ∀ m ∈ ce o, m < all.length := by
 intro i o ho m hm;have hi : i < ns.length := by rw [← hl]; exact (List.getElem?_eq_some_iff.1 ho).1
 obtain ⟨o', g1, g2, g3⟩ := h3 i ns[i] (aad hi);rw [g2] at ho
 cases ho;rw [Ex] at hm;obtain ⟨n, hn, rfl⟩ := List.mem_map.1 hm;exact (List.getElem?_eq_some_iff.1 (wc hnd (g3 n hn))).1
def Gh.part (G : Gh) (ns : List Nm) : Gh := ⟨G.K, fun i => (ns[i]?).bind G.ob⟩
theorem Gh.part_idx {G : Gh} {ns : List Nm} (hnd : ns.Nodup) {n : Nm} (h : n ∈ ns) : (G.part ns).ob (qK ns n) = G.ob n := by
 simp [Gh.part, wc hnd h]
theorem Gh.part_at {G : Gh} {ns : List Nm} {i b : Nat} (h : (G.part ns).at i b) : ∃ n, ns[i]? = some n ∧ G.at n b := by
 rcases h with h | ⟨u, t, h, hu⟩
 ·obtain ⟨n, h1, h2⟩ := Option.bind_eq_some_iff.1 h;exact ⟨n, h1, .inl h2⟩
 ·obtain ⟨n, h1, h2⟩ := Option.bind_eq_some_iff.1 h;exact ⟨n, h1, .inr ⟨u, t, h2, hu⟩⟩
theorem qD {objs : List (Nm × aE)} {ns : List Nm} {k : List Nm → List aE → Prop} (h : yA objs ns k) {G : Gh} {w : World} (hw : WR G objs w) : ∃ os, k ns os ∧ ns.Nodup ∧ os.length = ns.length ∧ (∀ n ∈ ns, ∃ o, ax objs n = some o) ∧ WR (G.part ns) (bC 0 os) w ∧ (∀ (i : Nat) (o : aE), os[i]? = some o → ∀ m ∈ ce o, m < os.length) := by
 unfold yA at h;rw [yR] at h;obtain ⟨hnd, h⟩ := az h;rw [Eu] at hnd;obtain ⟨os, h1, h2, h3⟩ := zY h;refine ⟨os, h1, hnd, h2, fun n hn => ?_, ?_, by rw [h2]; exact xr hnd h3 h2⟩
 ·obtain ⟨i, hi⟩ := List.getElem?_of_mem hn;obtain ⟨o, g, _⟩ := h3 i n hi;exact ⟨o, g⟩
 ·refine ⟨hw.know, fun i o ho => ?_, fun i g hg => ?_, fun i j b hi hj => ?_, hw.glob⟩
  ·rw [bU] at ho;have hlt : i < ns.length := by rw [← h2]; exact (List.getElem?_eq_some_iff.1 ho).1
   obtain ⟨o', g1, g2, g3⟩ := h3 i ns[i] (aad hlt);rw [g2] at ho
   cases ho;have := (hw.obj _ _ g1).rename (G' := G.part ns) (r := qK ns) rfl (Gh.part_idx hnd (aaf hlt)) (fun m hm => Gh.part_idx hnd (g3 m hm));rwa [nf hnd (aad hlt)] at this
  ·obtain ⟨n, e1, e2⟩ := Option.bind_eq_some_iff.1 (show (ns[i]?).bind G.ob = some g from hg);obtain ⟨o, g1, g2, _⟩ := h3 i n e1;exact ⟨_, by rw [bU]; exact g2⟩
  ·obtain ⟨n, e1, e2⟩ := Gh.part_at hi;obtain ⟨m, e3, e4⟩ := Gh.part_at hj;obtain rfl := hw.apart n m b e2 e4;rw [← nf hnd e1, ← nf hnd e3]
theorem pz {d : Nat} : ∀ {ns : List Nm} {j i : Nat} {n : Nm}, ns[i]? = some n → dI d ns j i = n := by
 intro ns
 induction ns with
 | nil => intro j i n h; simp at h
 | cons a ns ih =>
  intro j i n h
  cases i with
  | zero => simpa [dI] using h
  | succ i => simp at h; exact ih h
theorem C8 {d : Nat} : ∀ {ns : List Nm} {j i : Nat}, ns.length ≤ i → dI d ns j i = ar d (j + (i - ns.length)) := by
 intro ns
 induction ns with
 | nil => intro j i h; simp [dI]
 | cons a ns ih =>
  intro j i h
  cases i with
  | zero => simp at h
  | succ i =>
   simp only [aag, Nat.add_le_add_iff_right] at h;simp only [dI, aag, Nat.add_sub_add_right];exact ih h
theorem Fs {r : Nm → Nm} {d : Nat} : ∀ {ns : List Nm} {os : List aE} {j : Nat} {objs : List (Nm × aE)} {k : List (Nm × aE) → Prop}, ns.Nodup → (∀ n ∈ ns, ∃ o, ax objs n = some o) → lJ r d ns os j objs k →
  ∃ objs', k objs' ∧ ns.length ≤ os.length ∧ (∀ i o, os[i]? = some o → ax objs' (dI d ns j i) = some (rD r o)) ∧
   (∀ m, (∀ i, i < os.length → dI d ns j i ≠ m) → ax objs' m = ax objs m) ∧ (∀ i, ns.length ≤ i → i < os.length → ax objs (dI d ns j i) = none) := by
 intro ns os
 induction os generalizing ns with
 | nil =>
  intro j objs k hnd hl h
  cases ns with
  | nil => exact ⟨objs, h, aar _, fun i o e => by simp at e, fun m _ => rfl, fun i _ h => by simp at h⟩
  | cons n ns => exact h.elim
 | cons o os ih =>
  intro j objs k hnd hl h
  cases ns with
  | nil =>
   unfold lJ at h;rw [ij] at h;obtain ⟨l1, h1, h2, h3⟩ := dK h;obtain ⟨l2, g1, g2, g3, g4, g5⟩ := ih (ns := []) (by simp) (by simp) h1;have hf : ∀ i, dI d [] (j + 1) i = dI d [] j (i + 1) := fun i => by
    show ar d (j + 1 + i) = ar d (j + (i + 1));rw [show j + 1 + i = j + (i + 1) by omega]
   have hne : ∀ i, dI d [] j (i + 1) ≠ ar d j := fun i e => by
    have e : (2 * d + 200000 * (j + (i + 1) + 1) + 65 : Nat) = 2 * d + 200000 * (j + 1) + 65 := e;omega
   refine ⟨l2, g1, by simp, fun i x e => ?_, fun m hm => ?_, fun i _ hi => ?_⟩
   ·cases i with
    | zero =>
     simp at e; subst e;have e0 : dI d [] j 0 = ar d j := by simp [dI]
     rw [e0, g4 _ (fun i hi => by rw [hf]; exact hne i), h3];simp
    | succ i =>
     rw [← hf];exact g3 i x (by simpa using e)
   ·rw [g4 m (fun i hi => by rw [hf]; exact hm (i + 1) (by simp; omega)), h3];have := hm 0 (by simp);have e0 : dI d [] j 0 = ar d j := by simp [dI]
    rw [e0] at this;simp [Ne.symm this]
   ·cases i with
    | zero => simpa [dI] using h2
    | succ i =>
     have := g5 i (by simp) (by simpa using hi);rw [h3, hf] at this;split at this
     ·cases this
     ·exact this
  | cons n ns =>
   unfold lJ at h;rw [ij] at h;obtain ⟨l1, h1, h3⟩ := cu h;simp only [List.nodup_cons] at hnd;have hl' : ∀ m ∈ ns, ∃ o, ax l1 m = some o := fun m hm => by
    rw [h3];split
    ·exact ⟨_, rfl⟩
    ·exact hl m (by simp [hm])
   obtain ⟨l2, g1, g2, g3, g4, g5⟩ := ih hnd.2 hl' h1;have hn0 : ∀ i, i < os.length → dI d ns j i ≠ n := by
    intro i hi e;rcases aaN i ns.length with h' | h'
    ·rw [pz (aad h')] at e;exact hnd.1 (e ▸ aaf h')
    ·have := g5 i h' hi;rw [h3, e] at this;simp at this
   refine ⟨l2, g1, by simpa using g2, fun i x e => ?_, fun m hm => ?_, fun i h0 hi => ?_⟩
   ·cases i with
    | zero =>
     simp at e; subst e;show ax l2 n = _;rw [g4 n hn0, h3];simp
    | succ i => exact g3 i x (by simpa using e)
   ·rw [g4 m (fun i hi => hm (i + 1) (by simp; omega)), h3];have : n ≠ m := hm 0 (by simp);simp [Ne.symm this]
   ·cases i with
    | zero => simp at h0
    | succ i =>
     have := g5 i (by simpa using h0) (by simpa using hi);rw [h3] at this;split at this
     ·cases this
     ·exact this
end Go.Abs
