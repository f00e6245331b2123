/- The engine, A7. -/
import Derived.Test.YtnjeogcgfoabhaaGreatE0A6
set_option linter.unusedVariables false
set_option linter.unusedSimpArgs false
namespace Go.Abs
open Go
def iZ (K : Nat → Nat → Option Value) (b : Nat) (vs : List Value) : Nat → Nat → Option Value := fun b' o => if b' = b then vs[o]? else K b' o
def aN (ob : Nm → Option GO) (n : Nm) (g : GO) : Nm → Option GO := fun m => if m = n then some g else ob m
theorem AG {w : World} {b o : Nat} {v : Value} (h : w.cell? ⟨b, o, none⟩ = some v) : b < w.heap.size := World.block_lt_of_cell? w _ h
theorem cell_of_heap {w w' : World} {b o : Nat} (h : w'.heap[b]? = w.heap[b]?) : w'.cell? ⟨b, o, none⟩ = w.cell? ⟨b, o, none⟩ := World.cell?_of_block (a := ⟨b, o, none⟩) h
theorem iq {w : World} {b : Nat} {vs : List Value} {t : TypeId} {fz : Nat × Nat} (h : w.heap[b]? = some (.cells vs.toArray t fz)) (o : Nat) : w.cell? ⟨b, o, none⟩ = vs[o]? := by
 simp [World.cell?, h]
section
variable {P : Program} {T : Tab} {an : Ann} {E : dQ} {st : St} {G : Gh} {a : Act} {w : World}
theorem WR.kltb (h : WR G st.objs w) {b o : Nat} {v : Value} (e : G.K b o = some v) : b < w.heap.size := AG (h.know _ _ _ e)
theorem sG.lt {n : Nm} {o : aE} (h : sG G w n o) {b : Nat} (hb : G.at n b) : b < w.heap.size := by
 cases o with
 | cells t l =>
  obtain ⟨b', vs, e1, e2, _⟩ := h;rcases hb with hb | ⟨u, t', hb, _⟩
  ·rw [e1] at hb; cases hb; exact (Array.getElem?_eq_some_iff.1 e2).1
  ·rw [e1] at hb; cases hb
 | row t size top =>
  obtain ⟨u, xs, e1, e2, _⟩ := h;rcases hb with hb | ⟨u', t', hb, hu⟩
  ·rw [e1] at hb; cases hb
  ·rw [e1] at hb; cases hb; exact (e2.lt _ hu).2
 | map es =>
  obtain ⟨b', ms, c, e1, e2, _⟩ := h;rcases hb with hb | ⟨u, t', hb, _⟩
  ·rw [e1] at hb; cases hb; exact (Array.getElem?_eq_some_iff.1 e2).1
  ·rw [e1] at hb; cases hb
 | dead => exact h.2 b hb
 | vec t size l =>
  obtain ⟨u, xs, e1, e2, _⟩ := h;rcases hb with hb | ⟨u', t', hb, hu⟩
  ·rw [e1] at hb; cases hb
  ·rw [e1] at hb; cases hb; exact (e2.lt _ hu).2
 | fns t l =>
  obtain ⟨u, xs, e1, e2, _⟩ := h;rcases hb with hb | ⟨u', t', hb, hu⟩
  ·rw [e1] at hb; cases hb
  ·rw [e1] at hb; cases hb; exact (e2.lt _ hu).2
 | mapc es ms c =>
  obtain ⟨b', e1, e2, _⟩ := h;rcases hb with hb | ⟨u, t', hb, _⟩
  ·rw [e1] at hb; cases hb; exact (Array.getElem?_eq_some_iff.1 e2).1
  ·rw [e1] at hb; cases hb
 | iter m ms c seen =>
  obtain ⟨b', r, e1, e2, e3, _⟩ := h;rcases hb with hb | ⟨u, t', hb, _⟩
  ·rw [e1] at hb; cases hb; exact (Array.getElem?_eq_some_iff.1 e3).1
  ·rw [e1] at hb; cases hb
theorem fw.mono {G G' : Gh} (h : G.le G') : ∀ {es : List (ByteArray × AV)} {ms : List MapEntry}, fw G es ms → fw G' es ms
 | [], [], _ => trivial
 | e :: es, m :: ms, ⟨h1, h2, h3⟩ => ⟨h1, Rep.mono h _ _ h2, fw.mono h h3⟩
 | [], _ :: _, e => e.elim
 | _ :: _, [], e => e.elim
theorem sG.keep {G' : Gh} {w' : World} {n : Nm} {o : aE} (h : sG G w n o) (le : G.le G') (hob : G'.ob n = G.ob n)
  (hw : ∀ b, G.at n b → w'.heap[b]? = w.heap[b]? ∧ ∀ o, G'.K b o = G.K b o) : sG G' w' n o := by
 cases o with
 | cells t l =>
  obtain ⟨b, vs, e1, e2, e3, e4⟩ := h;obtain ⟨h1, h2⟩ := hw b (.inl e1);exact ⟨b, vs, by rw [hob, e1], by rw [h1, e2], aB.mono le _ _ e3, fun o => by rw [h2, e4]⟩
 | row t size top =>
  obtain ⟨u, xs, e1, e2, e3⟩ := h;refine ⟨u, xs, by rw [hob, e1], ?_, fun g hg o => ?_⟩
  ·refine ⟨e2.1, ?_⟩;rcases e2.2 with hn | ⟨g, cap, cur, rfl, hb, hgg, rest⟩
   ·exact .inl hn
   ·exact .inr ⟨g, cap, cur, rfl, hb, by rw [(hw g (.inr ⟨_, _, e1, rfl⟩)).1]; exact hgg, rest⟩
  ·rw [(hw g (.inr ⟨_, _, e1, hg⟩)).2, e3 g hg]
 | map es =>
  obtain ⟨b, ms, c, e1, e2, e3, e4, e5⟩ := h;obtain ⟨h1, h2⟩ := hw b (.inl e1);exact ⟨b, ms, c, by rw [hob, e1], by rw [h1, e2], e3.mono le, fun o => by rw [h2, e4], e5⟩
 | mapc es ms c =>
  obtain ⟨b, e1, e2, e3, e4, e5⟩ := h;obtain ⟨h1, h2⟩ := hw b (.inl e1);exact ⟨b, by rw [hob, e1], by rw [h1, e2], e3.mono le, fun o => by rw [h2, e4], e5⟩
 | iter m ms c seen =>
  obtain ⟨b, r, e1, e2, e3, e5, e4⟩ := h;obtain ⟨h1, h2⟩ := hw r (.inl e1);exact ⟨b, r, by rw [hob, e1], le.blk _ _ e2, by rw [h1, e3], e5, fun o => by rw [h2, e4]⟩
 | vec t size l =>
  obtain ⟨u, xs, e1, e2, e3, e4, e5⟩ := h;refine ⟨u, xs, by rw [hob, e1], ?_, aB.mono le _ _ e3, e4, fun g hg o => ?_⟩
  ·refine ⟨e2.1, ?_⟩;rcases e2.2 with hn | ⟨g, cap, cur, rfl, hb, hgg, rest⟩
   ·exact .inl hn
   ·exact .inr ⟨g, cap, cur, rfl, hb, by rw [(hw g (.inr ⟨_, _, e1, rfl⟩)).1]; exact hgg, rest⟩
  ·rw [(hw g (.inr ⟨_, _, e1, hg⟩)).2, e5 g hg]
 | fns t l =>
  obtain ⟨u, xs, e1, e2, e3, e5⟩ := h;refine ⟨u, xs, by rw [hob, e1], ?_, aB.mono le _ _ e3, fun g hg o => ?_⟩
  ·refine ⟨e2.1, ?_⟩;rcases e2.2 with hn | ⟨g, cap, cur, rfl, hb, hgg, rest⟩
   ·exact .inl hn
   ·exact .inr ⟨g, cap, cur, rfl, hb, by rw [(hw g (.inr ⟨_, _, e1, rfl⟩)).1]; exact hgg, rest⟩
  ·rw [(hw g (.inr ⟨_, _, e1, hg⟩)).2, e5 g hg]
 | dead =>
  obtain ⟨⟨g, hg⟩, h2⟩ := h;refine ⟨⟨g, by rw [hob, hg]⟩, fun b hb => ?_⟩;rw [hob] at hb;have hlt := h2 b hb;have := (hw b hb).1;rw [aaK hlt] at this;exact (Array.getElem?_eq_some_iff.1 this).1
theorem Inv.grow (h : Inv E st G a w) {w' : World} {K' : Nat → Nat → Option Value} (hos : w'.os = w.os) (htape : w'.tape = w.tape) (hout : w'.output = w.output) (hsz : w.heap.size ≤ w'.heap.size)
  (hblk : ∀ b, b < w.heap.size → w'.heap[b]? = w.heap[b]?) (hK : ∀ b o, b < w.heap.size → K' b o = G.K b o) (hknow : ∀ b o v, w.heap.size ≤ b → K' b o = some v → w'.cell? ⟨b, o, none⟩ = some v) : Inv E st ⟨K', G.ob⟩ a w' ∧ G.le ⟨K', G.ob⟩ := by
 have le : G.le ⟨K', G.ob⟩ := ⟨fun b o v e => by
  show K' b o = some v;rw [hK b o (h.wr.kltb e)]; exact e, fun _ _ e => e, fun n u t e => ⟨u, t, e, .inr ⟨rfl, rfl⟩⟩⟩
 refine ⟨⟨aB.mono le _ _ h.slots, h.defers.keep (fun D hD _ => hblk D hD) (fun n D _ hn => ⟨n, hn⟩), ⟨?_, ?_, h.wr.dom, h.wr.apart, h.wr.glob.mono le.K⟩, h.le.trans le, ⟨?_, ?_, ?_, ?_, ?_, ?_⟩, h.newb⟩, le⟩
 ·intro b o v e;have e : K' b o = some v := e;rcases aaN b w.heap.size with hb | hb
  ·rw [cell_of_heap (hblk b hb)];exact h.wr.know b o v (by rw [← hK b o hb]; exact e)
  ·exact hknow b o v hb e
 ·intro n o e;exact (h.wr.obj n o e).keep le rfl fun b hb => by
   have hlt := (h.wr.obj n o e).lt hb;exact ⟨hblk b hlt, fun o => hK b o hlt⟩
 ·rw [hos, h.ext.os]
 ·rw [htape, h.ext.tape]
 ·rw [hout, h.ext.output]
 ·exact aba h.ext.size hsz
 ·intro b hb hT;rw [hblk b (aaX hb h.ext.size), h.ext.block b hb hT]
 ·intro b o hb hT;show K' b o = _;rw [hK b o (aaX hb h.ext.size), h.ext.knew b o hb hT]
theorem Inv.frozen (h : Inv E st G a w) (vs : List Value) (t : TypeId) : Inv E st ⟨iZ G.K w.heap.size vs, G.ob⟩ a (w.alloc (.cells vs.toArray t)) ∧ G.le ⟨iZ G.K w.heap.size vs, G.ob⟩ := by
 refine h.grow rfl rfl rfl (by simp) (fun b hb => heap_alloc_old w _ hb) (fun b o hb => ?_) (fun b o v hb e => ?_)
 ·have : b ≠ w.heap.size := by omega
  simp [iZ, this]
 ·by_cases hb' : b = w.heap.size
  ·subst hb';rw [iq (heap_alloc_new w _) o];simpa [iZ] using e
  ·simp only [iZ, hb', aaW] at e;have := h.wr.kltb e;omega
theorem Inv.newObj (h : Inv E st G a w) {w' : World} {n : Nm} {o : aE} {objs' : List (Nm × aE)} {g : GO} {K' : Nat → Nat → Option Value}
  (hos : w'.os = w.os) (htape : w'.tape = w.tape) (hout : w'.output = w.output) (hsz : w.heap.size ≤ w'.heap.size)
  (hblk : ∀ b, b < w.heap.size → w'.heap[b]? = w.heap[b]?) (hK : ∀ b o, b < w.heap.size → K' b o = G.K b o) (hknow : ∀ b o v, w.heap.size ≤ b → K' b o = some v → w'.cell? ⟨b, o, none⟩ = some v)
  (hn : ax st.objs n = none) (hobjs : ∀ m, ax objs' m = if m = n then some o else ax st.objs m)
  (hob : sG ⟨K', aN G.ob n g⟩ w' n o) (hnew : ∀ b, (⟨K', aN G.ob n g⟩ : Gh).at n b → w.heap.size ≤ b) : Inv E ⟨st.slots, objs'⟩ ⟨K', aN G.ob n g⟩ a w' ∧ G.le ⟨K', aN G.ob n g⟩ := by
 have hno : G.ob n = none := by
  cases e : G.ob n with
  | none => rfl
  | some g =>
   obtain ⟨o, ho⟩ := h.wr.dom n g e;rw [hn] at ho; cases ho
 have hne : ∀ m x, G.ob m = some x → m ≠ n := fun m x e hm => by subst hm; rw [hno] at e; cases e
 have le : G.le ⟨K', aN G.ob n g⟩ := by
  refine ⟨fun b o v e => ?_, fun m b e => ?_, fun m u t e => ⟨u, t, ?_, .inr ⟨rfl, rfl⟩⟩⟩
  ·show K' b o = some v;rw [hK b o (h.wr.kltb e)]; exact e
  ·simp [aN, hne m _ e, e]
  ·simp [aN, hne m _ e, e]
 have hat : ∀ m b, m ≠ n → ((⟨K', aN G.ob n g⟩ : Gh).at m b ↔ G.at m b) := by
  intro m b hm;simp [Gh.at, aN, hm]
 refine ⟨⟨aB.mono le _ _ h.slots, h.defers.keep (fun D hD _ => hblk D hD) (fun m D hD hm => ?_), ⟨?_, ?_, ?_, ?_, h.wr.glob.mono le.K⟩, h.le.trans le, ⟨?_, ?_, ?_, ?_, ?_, ?_⟩, ?_⟩, le⟩
 ·by_cases hm' : m = n
  ·subst hm';have := hnew D hm;omega
  ·exact ⟨m, (hat m D hm').1 hm⟩
 ·intro b o v e;have e : K' b o = some v := e;rcases aaN b w.heap.size with hb | hb
  ·rw [cell_of_heap (hblk b hb)];exact h.wr.know b o v (by rw [← hK b o hb]; exact e)
  ·exact hknow b o v hb e
 ·intro m o' e;have e : ax objs' m = some o' := e;rw [hobjs m] at e;by_cases hm : m = n
  ·subst hm;simp at e;subst e;exact hob
  ·simp only [hm, aaW] at e;refine (h.wr.obj m o' e).keep le (by simp [aN, hm]) fun b hb => ?_;have hlt := (h.wr.obj m o' e).lt hb;exact ⟨hblk b hlt, fun o => hK b o hlt⟩
 ·intro m x e;show ∃ o, ax objs' m = some o;rw [hobjs m];by_cases hm : m = n
  ·subst hm; exact ⟨o, by simp⟩
  ·simp only [hm, aaW];exact h.wr.dom m x (by simpa [aN, hm] using e)
 ·intro m m' b h1 h2;by_cases hm : m = n
  ·by_cases hm' : m' = n
   ·rw [hm, hm']
   ·exfalso;subst hm;have h3 := hnew b h1;have h4 := (hat m' b hm').1 h2;have : ∃ o, ax st.objs m' = some o := by
     rcases h4 with h4 | ⟨u, t, h4, _⟩ <;> exact h.wr.dom m' _ h4
    obtain ⟨o', ho'⟩ := this;have := (h.wr.obj m' o' ho').lt h4;omega
  ·by_cases hm' : m' = n
   ·exfalso;subst hm';have h3 := hnew b h2;have h4 := (hat m b hm).1 h1;have : ∃ o, ax st.objs m = some o := by
     rcases h4 with h4 | ⟨u, t, h4, _⟩ <;> exact h.wr.dom m _ h4
    obtain ⟨o', ho'⟩ := this;have := (h.wr.obj m o' ho').lt h4;omega
   ·exact h.wr.apart m m' b ((hat m b hm).1 h1) ((hat m' b hm').1 h2)
 ·rw [hos, h.ext.os]
 ·rw [htape, h.ext.tape]
 ·rw [hout, h.ext.output]
 ·exact aba h.ext.size hsz
 ·intro b hb hT;rw [hblk b (aaX hb h.ext.size), h.ext.block b hb hT]
 ·intro b o hb hT;show K' b o = _;rw [hK b o (aaX hb h.ext.size), h.ext.knew b o hb hT]
 ·intro m b hb;by_cases hm : m = n
  ·subst hm;exact .inr (aba h.ext.size (hnew b hb))
  ·exact h.newb m b ((hat m b hm).1 hb)
theorem Inv.setObj (h : Inv E st G a w) {w' : World} {n : Nm} {o o' : aE} {objs' : List (Nm × aE)} {g : GO} {K' : Nat → Nat → Option Value}
  (ho : ax st.objs n = some o)
  (hos : w'.os = w.os) (htape : w'.tape = w.tape) (hout : w'.output = w.output) (hsz : w.heap.size ≤ w'.heap.size)
  (hblk : ∀ b, b < w.heap.size → ¬ G.at n b → w'.heap[b]? = w.heap[b]?) (hK : ∀ b o, b < w.heap.size → ¬ G.at n b → K' b o = G.K b o)
  (hle : G.le ⟨K', aN G.ob n g⟩)
  (hknow : ∀ b o v, (w.heap.size ≤ b ∨ G.at n b) → K' b o = some v → w'.cell? ⟨b, o, none⟩ = some v)
  (hobjs : ∀ m, ax objs' m = if m = n then some o' else ax st.objs m)
  (hob : sG ⟨K', aN G.ob n g⟩ w' n o') (hnew : ∀ b, (⟨K', aN G.ob n g⟩ : Gh).at n b → w.heap.size ≤ b ∨ G.at n b) : Inv E ⟨st.slots, objs'⟩ ⟨K', aN G.ob n g⟩ a w' := by
 have hat : ∀ m b, m ≠ n → ((⟨K', aN G.ob n g⟩ : Gh).at m b ↔ G.at m b) := by
  intro m b hm;simp [Gh.at, aN, hm]
 have hdom : ∀ m b, G.at m b → ∃ o, ax st.objs m = some o := by
  intro m b h4;rcases h4 with h4 | ⟨u, t, h4, _⟩ <;> exact h.wr.dom m _ h4
 have hno : ∀ m b, m ≠ n → G.at m b → ¬ G.at n b := fun m b hm h1 h2 => hm (h.wr.apart m n b h1 h2);have hT' : ∀ b, b < E.w.heap.size → ¬ E.T b → ¬ G.at n b := fun b hb hT hat => by
  rcases h.newb n b hat with h1 | h1
  ·exact hT h1
  ·omega
 refine ⟨aB.mono hle _ _ h.slots, h.defers.keep (fun D hD hn => hblk D hD (hn n)) (fun m D hD hm => ?_), ⟨?_, ?_, ?_, ?_, h.wr.glob.mono hle.K⟩, h.le.trans hle, ⟨?_, ?_, ?_, ?_, ?_, ?_⟩, ?_⟩
 ·by_cases hm' : m = n
  ·subst hm';rcases hnew D hm with h1 | h1
   ·omega
   ·exact ⟨_, h1⟩
  ·exact ⟨m, (hat m D hm').1 hm⟩
 ·intro b o v e;have e : K' b o = some v := e;rcases aaN b w.heap.size with hb | hb
  ·by_cases hn : G.at n b
   ·exact hknow b o v (.inr hn) e
   ·rw [cell_of_heap (hblk b hb hn)];exact h.wr.know b o v (by rw [← hK b o hb hn]; exact e)
  ·exact hknow b o v (.inl hb) e
 ·intro m o2 e;have e : ax objs' m = some o2 := e;rw [hobjs m] at e;by_cases hm : m = n
  ·subst hm;simp at e;subst e;exact hob
  ·simp only [hm, aaW] at e;refine (h.wr.obj m o2 e).keep hle (by simp [aN, hm]) fun b hb => ?_;have hlt := (h.wr.obj m o2 e).lt hb;exact ⟨hblk b hlt (hno m b hm hb), fun o => hK b o hlt (hno m b hm hb)⟩
 ·intro m x e;show ∃ o, ax objs' m = some o;rw [hobjs m];by_cases hm : m = n
  ·subst hm; exact ⟨o', by simp⟩
  ·simp only [hm, aaW];exact h.wr.dom m x (by simpa [aN, hm] using e)
 ·intro m m' b h1 h2;have key : ∀ m b, m ≠ n → G.at m b → ¬ (⟨K', aN G.ob n g⟩ : Gh).at n b := by
   intro m b hm h1 h2;rcases hnew b h2 with h3 | h3
   ·obtain ⟨o2, ho2⟩ := hdom m b h1;have := (h.wr.obj m o2 ho2).lt h1;omega
   ·exact hno m b hm h1 h3
  by_cases hm : m = n
  ·by_cases hm' : m' = n
   ·rw [hm, hm']
   ·subst hm;exact (key m' b hm' ((hat m' b hm').1 h2) h1).elim
  ·by_cases hm' : m' = n
   ·subst hm';exact (key m b hm ((hat m b hm).1 h1) h2).elim
   ·exact h.wr.apart m m' b ((hat m b hm).1 h1) ((hat m' b hm').1 h2)
 ·rw [hos, h.ext.os]
 ·rw [htape, h.ext.tape]
 ·rw [hout, h.ext.output]
 ·exact aba h.ext.size hsz
 ·intro b hb hT;rw [hblk b (aaX hb h.ext.size) (hT' b hb hT), h.ext.block b hb hT]
 ·intro b o hb hT;show K' b o = _;rw [hK b o (aaX hb h.ext.size) (hT' b hb hT), h.ext.knew b o hb hT]
 ·intro m b hb;by_cases hm : m = n
  ·subst hm;rcases hnew b hb with h1 | h1
   ·exact .inr (aba h.ext.size h1)
   ·exact h.newb m b h1
  ·exact h.newb m b ((hat m b hm).1 hb)
end
end Go.Abs
