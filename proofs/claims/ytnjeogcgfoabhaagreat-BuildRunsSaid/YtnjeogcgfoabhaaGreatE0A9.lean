/- The engine, A9. -/
import Derived.Test.YtnjeogcgfoabhaaGreatE0A8
set_option linter.unusedVariables false
set_option linter.unusedSimpArgs false
namespace Go.Abs
open Go
theorem EN (off : Nat) : ∀ (l : List Value) (k : Nat) (cells : Array Value), off + k + l.length ≤ cells.size →
  ((l.zipIdx k).foldl (fun cs (c, j) => cs.setIfInBounds (off + j) c) cells).toList = cells.toList.take (off + k) ++ l ++ cells.toList.drop (off + k + l.length) := by
 intro l
 induction l with
 | nil => intro k cells _; simp
 | cons v l ih =>
  intro k cells h;simp only [aag] at h;simp only [List.zipIdx_cons, aaQ];rw [ih (k + 1) _ (by simp; omega)];have hlt : off + k < cells.toList.length := by simp; omega
  simp only [Array.toList_setIfInBounds, aag];rw [List.take_set, List.drop_set];have e1 : List.take (off + (k + 1)) cells.toList = List.take (off + k) cells.toList ++ [cells.toList[off + k]] := by
   rw [show off + (k + 1) = off + k + 1 by omega, aab hlt]
  rw [e1];have e2 : (List.take (off + k) cells.toList).length = off + k := by rw [aan]; omega
  rw [List.set_append_right _ _ (by omega), e2];simp only [Nat.sub_self, List.set_cons_zero];have : ¬ (off + (k + 1) + l.length ≤ off + k) := by omega
  simp only [show off + k < off + (k + 1) + l.length by omega, abq];simp [show off + (k + 1) + l.length = off + k + (l.length + 1) by omega]
theorem pS {place : Nat → Option (Nat × Nat)} {cells : Array Value} {i off size : Nat} {v : Value} {rest : List (Nat × Value)} (hp : place i = some (off, size)) (hv : v.cells.size = size)
  (h : off + size ≤ cells.size) : Instr.fill place cells ((i, v) :: rest) = Instr.fill place (cells.toList.take off ++ v.cells.toList ++ cells.toList.drop (off + size)).toArray rest := by
 have e := EN off v.cells.toList 0 cells (by simp [hv]; omega);have e2 : v.cells.zipIdx.foldl (fun cs (c, j) => cs.setIfInBounds (off + j) c) cells = (cells.toList.take off ++ v.cells.toList ++ cells.toList.drop (off + size)).toArray := by
  apply Array.toList_inj.1;rw [← Array.foldl_toList, Array.toList_zipIdx];simp only [aa8, abM, hv] at e;simpa using e
 rw [Instr.fill];simp only [hp];rw [aap (by simp [hv]; omega)];congr 1
theorem rp : ∀ {cs l : List AV} {o : Nat} {k : List AV → Prop}, o ≤ l.length → (sK l o cs k ↔ o + cs.length ≤ l.length ∧ k (l.take o ++ cs ++ l.drop (o + cs.length))) := by
 intro cs
 induction cs with
 | nil => intro l o k h; simp [sK, h]
 | cons c cs ih =>
  intro l o k h;unfold sK;constructor
  ·intro h1;obtain ⟨h1, h2⟩ := az h1;have hlt : o < l.length := by simpa [abP] using h1
   rw [gm, pI, ih (by simp; omega)] at h2;obtain ⟨h3, h4⟩ := h2;simp only [List.length_set] at h3;refine ⟨by simp; omega, ?_⟩;rw [List.take_set, List.drop_set, aab hlt, List.set_append_right _ _ (by rw [aan]; omega)] at h4;rw [aan, Nat.min_eq_left (by omega)] at h4;simp only [Nat.sub_self, List.set_cons_zero, show o < o + 1 + cs.length by omega, abq] at h4;simp only [aag];rw [show o + (cs.length + 1) = o + 1 + cs.length by omega];simpa using h4
  ·rintro ⟨h1, h2⟩;simp only [aag] at h1 h2;have hlt : o < l.length := by omega
   refine ac (by simpa [abP] using hlt) ?_;rw [gm, pI, ih (by simp; omega)];refine ⟨by simp; omega, ?_⟩;rw [List.take_set, List.drop_set, aab hlt, List.set_append_right _ _ (by rw [aan]; omega)];rw [aan, Nat.min_eq_left (by omega)];simp only [Nat.sub_self, List.set_cons_zero, show o < o + 1 + cs.length by omega, abq];rw [show o + (cs.length + 1) = o + 1 + cs.length by omega] at h2;simpa using h2
theorem uG : ∀ {cs l : List AV} {o : Nat} {k : List AV → Prop}, cs ≠ [] → sK l o cs k → o ≤ l.length := by
 intro cs l o k hne h
 cases cs with
 | nil => exact absurd rfl hne
 | cons c cs =>
  obtain ⟨h1, _⟩ := az h;have hlt : o < l.length := by simpa [abP] using h1
  omega
section
variable {P : Program} {T : Tab} {an : Ann} {E : dQ} {st : St} {G : Gh} {a : Act} {w : World}
theorem Rep.cells {A : AV} {v : Value} (h : Rep G A v) (hne : A ≠ .junk) : aB G A.cells v.cells.toList := by
 cases A with
 | junk => exact absurd rfl hne
 | val x =>
  simp only [Rep] at h; subst h
  cases v <;> simp only [AV.cells, Value.cells, aB] <;> first | exact ⟨_, _, rfl, by simp only [Rep], rfl⟩ | skip
  rename_i cs;generalize cs.toList = l
  induction l with
  | nil => simp [aB]
  | cons x l ih => simp only [aaF, aB]; exact ⟨_, _, rfl, by simp only [Rep], ih⟩
 | agg l =>
  simp only [Rep] at h;obtain ⟨vs, rfl, h⟩ := h;simpa [AV.cells, Value.cells] using h
 | sl o s l =>
  have h' := h;simp only [Rep] at h;obtain ⟨⟨A, c, rfl, _⟩, _⟩ := h;simp only [AV.cells, Value.cells, aB]; exact ⟨_, _, rfl, h', rfl⟩
 | cptr c o =>
  have h' := h;simp only [Rep] at h;obtain ⟨_, _, rfl, _⟩ := h;simp only [AV.cells, Value.cells, aB]; exact ⟨_, _, rfl, h', rfl⟩
 | ptr n o =>
  have h' := h;simp only [Rep] at h;obtain ⟨_, _, rfl⟩ := h;simp only [AV.cells, Value.cells, aB]; exact ⟨_, _, rfl, h', rfl⟩
 | slm n o l c =>
  have h' := h;simp only [Rep] at h;obtain ⟨_, _, rfl⟩ := h;simp only [AV.cells, Value.cells, aB]; exact ⟨_, _, rfl, h', rfl⟩
 | fn f x y =>
  have h' := h;simp only [Rep] at h;obtain ⟨_, _, rfl, _⟩ := h;simp only [AV.cells, Value.cells, aB]; exact ⟨_, _, rfl, h', rfl⟩
 | iface t x =>
  have h' := h;simp only [Rep] at h;obtain ⟨_, rfl, _⟩ := h;simp only [AV.cells, Value.cells, aB]; exact ⟨_, _, rfl, h', rfl⟩
 | mapv n =>
  have h' := h;simp only [Rep] at h;obtain ⟨_, _, rfl⟩ := h;simp only [AV.cells, Value.cells, aB]; exact ⟨_, _, rfl, h', rfl⟩
 | tup l =>
  have h' := h;simp only [Rep] at h;obtain ⟨_, rfl, _⟩ := h;simp only [AV.cells, Value.cells, aB]; exact ⟨_, _, rfl, h', rfl⟩
 | slv n s v o l =>
  have h' := h;simp only [Rep] at h;obtain ⟨⟨_, _, rfl, _⟩, _⟩ := h;simp only [AV.cells, Value.cells, aB]; exact ⟨_, _, rfl, h', rfl⟩
 | ptv n s v i o =>
  have h' := h;simp only [Rep] at h;obtain ⟨⟨_, rfl⟩, _⟩ := h;simp only [AV.cells, Value.cells, aB]; exact ⟨_, _, rfl, h', rfl⟩
theorem Rep.strip {A : AV} {v : Value} (h : Rep G A v) : Rep G A.strip v := by
 cases A with
 | sl o s l =>
  simp only [Rep] at h;simp only [AV.strip, Rep];exact ⟨h.1, trivial⟩
 | _ => exact h
theorem aB.strip {l : List AV} {vs : List Value} (h : aB G l vs) : aB G (l.map AV.strip) vs := by
 induction l generalizing vs with
 | nil => exact h
 | cons a l ih =>
  simp only [aB] at h;obtain ⟨v, us, rfl, h1, h2⟩ := h;simp only [aaF, aB];exact ⟨v, us, rfl, h1.strip, ih h2⟩
theorem C3 {A : AV} {v : Value} (hc : dT A = true) (h : Rep G A v) : v.oneCell' = true := by
 cases A with
 | val x =>
  simp only [Rep] at h; subst h
  cases v <;> first | rfl | (simp [dT] at hc)
 | junk => simp [dT] at hc
 | agg l => simp [dT] at hc
 | tup l => simp [dT] at hc
 | sl o s l => simp only [Rep] at h; obtain ⟨⟨_, _, rfl, _⟩, _⟩ := h; rfl
 | cptr c o => simp only [Rep] at h; obtain ⟨_, _, rfl, _⟩ := h; rfl
 | ptr n o => simp only [Rep] at h; obtain ⟨_, _, rfl⟩ := h; rfl
 | slm n o l c => simp only [Rep] at h; obtain ⟨_, _, rfl⟩ := h; rfl
 | fn f x y => simp only [Rep] at h; obtain ⟨_, _, rfl, _⟩ := h; rfl
 | iface t x => simp only [Rep] at h; obtain ⟨_, rfl, _⟩ := h; rfl
 | mapv n => simp only [Rep] at h; obtain ⟨_, _, rfl⟩ := h; rfl
 | slv n s v o l => simp only [Rep] at h; obtain ⟨⟨_, _, rfl, _⟩, _⟩ := h; rfl
 | ptv n s v i o => simp only [Rep] at h; obtain ⟨⟨_, rfl⟩, _⟩ := h; rfl
theorem jJ {A : AV} (h : A.okCell = true) : dT A = true := by
 cases A with
 | val v => cases v <;> simp_all [AV.okCell, jd, dT]
 | _ => simp_all [AV.okCell, jd, dT]
theorem lN {l : List AV} : fq l = true ↔ ∀ a ∈ l, dT a = true := by
 induction l with
 | nil => simp [fq]
 | cons a l ih =>
  cases h : dT a
  ·simp [fq, h]
  ·simp [fq, h, ih]
theorem aB.one {l : List AV} {vs : List Value} (h : aB G l vs) (hc : ∀ a ∈ l, dT a = true) : ∀ v ∈ vs, v.oneCell' = true := by
 induction l generalizing vs with
 | nil => simp only [aB] at h; subst h; simp
 | cons a l ih =>
  simp only [aB] at h;obtain ⟨v, us, rfl, h1, h2⟩ := h;intro x hx;simp only [aaY] at hx hc;rcases hx with rfl | hx
  ·exact C3 (hc a (.inl rfl)) h1
  ·exact ih h2 (fun a ha => hc a (.inr ha)) x hx
theorem aB.split {l m : List AV} {vs : List Value} (h : aB G (l ++ m) vs) : ∃ us ws, vs = us ++ ws ∧ aB G l us ∧ aB G m ws := by
 induction l generalizing vs with
 | nil => exact ⟨[], vs, rfl, by simp [aB], h⟩
 | cons a l ih =>
  simp only [aav, aB] at h;obtain ⟨v, us, rfl, h1, h2⟩ := h;obtain ⟨xs, ws, rfl, h3, h4⟩ := ih h2;exact ⟨v :: xs, ws, rfl, by simp only [aB]; exact ⟨v, xs, rfl, h1, h3⟩, h4⟩
theorem d7.of_flat {size b o : Nat} : ∀ {l : List (List AV)} {k : Nat} {vs : List Value}, aB G l.flatten vs → (∀ e ∈ l, e.length = size ∧ bP e = true) →
  (∀ j v, vs[j]? = some v → G.K b (o + k * size + j) = some v) → d7 G size (some ⟨b, o, none⟩) k l := by
 intro l
 induction l with
 | nil => intro k vs _ _ _; simp [d7]
 | cons e l ih =>
  intro k vs h he hk;simp only [aa2] at h;obtain ⟨us, ws, rfl, h1, h2⟩ := h.split;have hl := h1.length;obtain ⟨he1, he2⟩ := he e (by simp);simp only [d7];have hlt : ∀ (j : Nat) v, us[j]? = some v → j < us.length := fun j v hj => (List.getElem?_eq_some_iff.1 hj).1;refine ⟨⟨b, o, rfl, he1, he2, fv.of_vals h1 fun j v hj => hk j v ((aaM (hlt j v hj)).trans hj)⟩, ih h2 (fun e' h' => he e' (by simp [h'])) fun j v hj => ?_⟩;have := hk (us.length + j) v (by rw [aaV (by omega)]; simpa using hj);rwa [show o + k * size + (us.length + j) = o + (k + 1) * size + j by rw [hl, he1, abz]; omega] at this
theorem d7.flat {size : Nat} {A : Option Addr} : ∀ {l : List (List AV)} {k : Nat}, d7 G size A k l → ∃ vs : List Value, aB G l.flatten vs ∧ vs.length = l.length * size ∧ (∀ v ∈ vs, v.oneCell' = true) ∧
  (l ≠ [] → ∃ b o, A = some ⟨b, o, none⟩ ∧ ∀ j v, vs[j]? = some v → G.K b (o + k * size + j) = some v) := by
 intro l
 induction l with
 | nil => intro k _; exact ⟨[], by simp [aB], by simp, by simp, by simp⟩
 | cons e l ih =>
  intro k h;simp only [d7] at h;obtain ⟨⟨b, o, rfl, he1, he2, h1⟩, h2⟩ := h;obtain ⟨us, h3, h4⟩ := h1.vals;obtain ⟨ws, h5, h6, h7, h8⟩ := ih h2;have hul := h3.length;refine ⟨us ++ ws, by simp only [aa2]; exact h3.append h5, by simp [h6, hul, he1, abz]; omega, ?_, fun _ => ⟨b, o, rfl, fun j v hj => ?_⟩⟩
  ·intro v hv;simp only [aaJ] at hv;rcases hv with hv | hv
   ·exact h3.one (fun a ha => jJ (fJ.1 he2 a ha)) v hv
   ·exact h7 v hv
  ·rcases aaN j us.length with hj' | hj'
   ·rw [aaM hj'] at hj;exact h4 j v hj
   ·rw [aaV hj'] at hj;have hne : l ≠ [] := by
     intro hl;rw [hl] at h6;have : ws = [] := aau (by simpa using h6);rw [this] at hj;simp at hj
    obtain ⟨b', o', hb, h9⟩ := h8 hne;injection hb with hb
    injection hb with hb1 hb2
    subst hb1 hb2;have := h9 (j - us.length) v hj;rwa [show o + (k + 1) * size + (j - us.length) = o + k * size + j by rw [abz]; omega] at this
def tB (P : Program) (w : World) (t tx ty e : TypeId) (size bytes m : Nat) (news : List Value) (xv : Value) : Prop :=
 ∀ (u : Value) (top : Nat) (xs : List Value), w.ownsRow 0 e size u top xs → (top + m) * bytes ≤ 140737488355328 → top + m ≤ 140737488355328 →
  ∃ u' w', (Builtin.append_ #[t, tx] ty #[u, xv]).run P w = .ok u' w' ∧ w'.ownsRow 0 e size u' (top + m) (xs ++ news) ∧ w.grownBy w' u.ownBlock ∧
   (u'.ownBlock = u.ownBlock ∨ (u'.ownBlock = some w.heap.size ∧ w.grownBy w' none)) ∧ (m = 0 → u' = u)
theorem l6 {t e ty : TypeId} {i : TypeInfo} {z : Value} (ht : P.underlying t = some (.slice e)) (hi : P.info? e = some i) (hz : i.zero = some z) (hzs : z.cells.size = i.size) (hsz : 0 < i.size)
  {u : Value} {top : Nat} {xs : List Value} (hown : w.ownsRow 0 e i.size u top xs) {A : Option Addr} {m c : Nat} {news : List Value} (hl : news.length = m * i.size)
  (hA : m ≠ 0 → ∃ b o, A = some ⟨b, o, none⟩ ∧ ∀ j v, news[j]? = some v → w.cell? ⟨b, o + j, none⟩ = some v) (h1 : ∀ v ∈ news, v.oneCell' = true)
  (hbytes : (top + m) * i.bytes ≤ 140737488355328) (hlen : top + m ≤ 140737488355328) : ∃ u' w', (Builtin.append_ #[t, t] ty #[u, .slice A m c]).run P w = .ok u' w' ∧ w'.ownsRow 0 e i.size u' (top + m) (xs ++ news) ∧ w.grownBy w' u.ownBlock ∧
   (u'.ownBlock = u.ownBlock ∨ (u'.ownBlock = some w.heap.size ∧ w.grownBy w' none)) ∧ (m = 0 → u' = u) := by
 by_cases hm : m = 0
 ·subst hm;have hn : news = [] := aau (by simpa using hl);subst hn;refine ⟨u, w, ?_, by simpa using hown, World.grownBy.refl w _, .inl rfl, fun _ => rfl⟩;rcases hown.2 with ⟨rfl, rfl⟩ | ⟨g, cap, cur, rfl, hbg, hg, hnc, hcm, hcs, htake⟩
  ·cases A <;> simp [Builtin.append_, run_underlying ht, sizeOf, typeInfo, hi, Builtin.lenOf, Builtin.firstCells, loadCells, loadCellsFrom]
  ·cases A <;> simp [Builtin.append_, run_underlying ht, sizeOf, typeInfo, hi, Builtin.lenOf, Builtin.firstCells, loadCells, loadCellsFrom, hnc, storeCells]
 ·obtain ⟨b, o, rfl, hnews'⟩ := hA hm;have hnews : ∀ (j : Nat) (u : Value), news[j]? = some u → w.cell? ((⟨b, o, none⟩ : Addr).add j) = some u := fun j u hj => by rw [cU]; exact hnews' j u hj
  have h63 : top + m ≤ maxLen := by simp only [maxLen]; omega
  have hxl : (xs ++ news).length = (top + m) * i.size := by rw [aac, hown.1, hl, abz]
  have grown : ∀ (old : Nat), old < top + m →
    (w.drew.alloc (.cells (xs.toArray ++ news.toArray ++ Builtin.zeroCells z.cells (grownCap w (top + m) old e - (top + m))) e)).ownsRow 0 e i.size
     (.slice (some ⟨w.heap.size, 0, none⟩) (top + m) (grownCap w (top + m) old e)) (top + m) (xs ++ news) ∧
    ∀ row, w.grownBy (w.drew.alloc (.cells (xs.toArray ++ news.toArray ++ Builtin.zeroCells z.cells (grownCap w (top + m) old e - (top + m))) e)) row := by
   intro old ho;have hge := grownCap_ge w (top + m) old e;refine ⟨⟨hxl, .inr ⟨w.heap.size, _, _, rfl, aby _, heap_alloc_new w.drew _, hge, grownCap_le_maxLen w (top + m) old e h63, ?_, ?_⟩⟩,
    fun row => ⟨rfl, rfl, rfl, by simp, fun k hk _ => heap_alloc_old w.drew _ hk⟩⟩
   ·simp only [Array.size_append, aa4, size_zeroCells, hzs, hown.1, hl, ← abz];congr 1;omega
   ·simp only [Array.toList_append, aak];rw [← aak, ← hxl];exact List.take_left
  rcases hown.2 with ⟨rfl, rfl⟩ | ⟨g, cap, cur, rfl, hbg, hg, hnc, hcm, hcs, htake⟩
  ·have hx : xs = [] := aau (by simpa using hown.1);subst hx;have hr := run_append_nil (P := P) w t ty e i z ht hi hz ⟨b, o, none⟩ m c news hl hnews (by omega) (by simp only [maxLen] at h63; omega) (by have hb := hbytes; simp only [aaS] at hb; omega);have hgr := grown 0 (by omega);simp only [aaS, aam, Array.empty_append] at hgr ⊢;exact ⟨_, _, hr, hgr.1, hgr.2 _, .inr ⟨rfl, hgr.2 _⟩, fun e => absurd e hm⟩
  ·by_cases hroom : top + m ≤ cap
   ·have hfit : top * i.size + news.length ≤ cur.size := by rw [hl, hcs, ← abz]; exact abI _ hroom
    have hr := run_append_room (P := P) w t ty e i ht hi g top cap cur hg ⟨b, o, none⟩ m c news hl hnews h1 hroom hfit;refine ⟨_, _, hr, ⟨hxl, .inr ⟨g, cap, _, rfl, hbg, setRow_heap w g cur _ e _ hg, hroom, hcm, ?_, ?_⟩⟩, ⟨rfl, rfl, rfl, by simp, fun k _ hk => setRow_other w g k _ (fun e => hk (by simp [Value.ownBlock, e]))⟩, .inl rfl, fun e => absurd e hm⟩
    ·simp only [aa4, aac, aan, abk, abM];omega
    ·rw [htake, ← hxl];exact List.take_left
   ·have holds : ∀ (j : Nat) (u : Value), xs[j]? = some u → w.cell? ((⟨g, 0, none⟩ : Addr).add j) = some u := hown.cells (g := g) rfl;have hr := run_append_grow (P := P) w t ty e i z ht hi hz ⟨g, 0, none⟩ top cap xs hown.1 holds ⟨b, o, none⟩ m c news hl hnews (by omega) (by simp only [maxLen] at h63; omega) (growslice_fits (by omega) hbytes);have hgr := grown cap (by omega);exact ⟨_, _, hr, hgr.1, hgr.2 _, .inr ⟨rfl, hgr.2 _⟩, fun e => absurd e hm⟩
theorem sB {t e ty : TypeId} {i : TypeInfo} {z : Value} (ht : P.underlying t = some (.slice e)) (hi : P.info? e = some i) (hz : i.zero = some z) (hzs : z.cells.size = i.size) (hsz : 0 < i.size)
  {A : Option Addr} {m c : Nat} {news : List Value} (hl : news.length = m * i.size)
  (hA : m ≠ 0 → ∃ b o, A = some ⟨b, o, none⟩ ∧ ∀ j v, news[j]? = some v → w.cell? ⟨b, o + j, none⟩ = some v) (h1 : ∀ v ∈ news, v.oneCell' = true) : tB P w t t ty e i.size i.bytes m news (.slice A m c) := fun u top xs hown hb hl2 => l6 ht hi hz hzs hsz hown hl hA h1 hb hl2
theorem IM {t tx e e' ty : TypeId} (ht : P.underlying t = some (.slice e)) (hx : P.underlying tx = some (.slice e')) (u x : Value) : (Builtin.append_ #[t, tx] ty #[u, x]).run P w = (Builtin.append_ #[t, t] ty #[u, x]).run P w := by
 unfold Builtin.append_
 cases u <;> simp [Sem.run_bind, run_underlying ht, run_underlying hx]
theorem xQ {t tx e e' ty : TypeId} {size bytes m : Nat} {news : List Value} {xv : Value} (ht : P.underlying t = some (.slice e)) (hx : P.underlying tx = some (.slice e')) (h : tB P w t t ty e size bytes m news xv) : tB P w t tx ty e size bytes m news xv := fun u top xs hown hb hl => by
 rw [IM ht hx];exact h u top xs hown hb hl
theorem xP {t tx e ty : TypeId} {i : TypeInfo} {z : Value} (ht : P.underlying t = some (.slice e)) (hu : P.underlying tx = some .string) (hi : P.info? e = some i) (hz : i.zero = some z) (hzs : z.cells.size = i.size) (hs1 : i.size = 1) (s : ByteArray) : tB P w t tx ty e i.size i.bytes s.size (Lib.strCells s) (.string s) := by
 intro u top xs hown hbytes hlen;have hsl := Lib.strCells_length s;rw [hs1] at hown ⊢;by_cases hm : s.size = 0
 ·have hn : Lib.strCells s = [] := aau (by rw [hsl]; exact hm);have hf := Lib.run_firstCells_string (P := P) w 1 s;rw [hm, hn] at hf;rw [hm, hn];refine ⟨u, w, ?_, by simpa using hown, World.grownBy.refl w _, .inl rfl, fun _ => rfl⟩;rcases hown.2 with ⟨rfl, rfl⟩ | ⟨g, cap, cur, rfl, hbg, hg, hnc, hcm, hcs, htake⟩
  ·simp [Builtin.append_, run_underlying ht, run_underlying hu, sizeOf, typeInfo, hi, hs1, Builtin.lenOf, hm, hf]
  ·simp [Builtin.append_, run_underlying ht, run_underlying hu, sizeOf, typeInfo, hi, hs1, Builtin.lenOf, hm, hf, hnc, storeCells]
 ·have h63 : top + s.size ≤ maxLen := by simp only [maxLen]; omega
  have hxl : xs.length = top := by simpa using hown.1
  have hxl2 : (xs ++ Lib.strCells s).length = (top + s.size) * 1 := by rw [aac, hxl, hsl, Nat.mul_one]
  have grown : ∀ (old : Nat), old < top + s.size →
    (w.drew.alloc (.cells (xs.toArray ++ (Lib.strCells s).toArray ++ Builtin.zeroCells z.cells (grownCap w (top + s.size) old e - (top + s.size))) e)).ownsRow 0 e 1
     (.slice (some ⟨w.heap.size, 0, none⟩) (top + s.size) (grownCap w (top + s.size) old e)) (top + s.size) (xs ++ Lib.strCells s) ∧
    ∀ row, w.grownBy (w.drew.alloc (.cells (xs.toArray ++ (Lib.strCells s).toArray ++ Builtin.zeroCells z.cells (grownCap w (top + s.size) old e - (top + s.size))) e)) row := by
   intro old ho;have hge := grownCap_ge w (top + s.size) old e;refine ⟨⟨hxl2, .inr ⟨w.heap.size, _, _, rfl, aby _, heap_alloc_new w.drew _, hge, grownCap_le_maxLen w (top + s.size) old e h63, ?_, ?_⟩⟩,
    fun row => ⟨rfl, rfl, rfl, by simp, fun k hk _ => heap_alloc_old w.drew _ hk⟩⟩
   ·simp only [Array.size_append, aa4, size_zeroCells, hzs, hs1, hxl, hsl];omega
   ·simp only [Array.toList_append, aak];rw [← aak, ← hxl2];exact List.take_left
  rcases hown.2 with ⟨rfl, rfl⟩ | ⟨g, cap, cur, rfl, hbg, hg, hnc, hcm, hcs, htake⟩
  ·have hx : xs = [] := aau hxl;subst hx;have hr := run_append_nil_string (P := P) w t tx ty e i z ht hu hi hz s (by omega) (by simp only [maxLen] at h63; omega) (by have hb := hbytes; simp only [aaS] at hb; omega);have e1 : (s.data.map fun b => Value.int .u8 b.toNat) = (Lib.strCells s).toArray := by
    apply Array.ext';simp [Lib.strCells]
   rw [e1] at hr;have hgr := grown 0 (by omega);simp only [aaS, aam, Array.empty_append] at hgr ⊢;exact ⟨_, _, hr, hgr.1, hgr.2 _, .inr ⟨rfl, hgr.2 _⟩, fun e => absurd e hm⟩
  ·by_cases hroom : top + s.size ≤ cap
   ·have hr := Lib.run_append_room_string (P := P) w t tx ty e i ht hu hi hs1 g top cap cur hg s hroom (by omega);refine ⟨_, _, hr, ⟨hxl2, .inr ⟨g, cap, _, rfl, hbg, setRow_heap w g cur _ e _ hg, hroom, hcm, ?_, ?_⟩⟩, ⟨rfl, rfl, rfl, by simp, fun k _ hk => setRow_other w g k _ (fun e => hk (by simp [Value.ownBlock, e]))⟩, .inl rfl, fun e => absurd e hm⟩
    ·simp only [aa4, aac, aan, abk, abM, hsl];omega
    ·have ht' : cur.toList.take top = xs := by simpa using htake
     rw [ht', ← hxl2];exact List.take_left
   ·have holds : ∀ (j : Nat) (u : Value), xs[j]? = some u → w.cell? ((⟨g, 0, none⟩ : Addr).add j) = some u := hown.cells (g := g) rfl;have hr := Lib.run_append_grow_string (P := P) w t tx ty e i z ht hu hi hz ⟨g, 0, none⟩ top cap xs (by rw [hs1]; simpa using hxl) holds s (by omega) (by simp only [maxLen] at h63; omega) (growslice_fits (by omega) hbytes);have hgr := grown cap (by omega);exact ⟨_, _, hr, hgr.1, hgr.2 _, .inr ⟨rfl, hgr.2 _⟩, fun e => absurd e hm⟩
end
end Go.Abs
