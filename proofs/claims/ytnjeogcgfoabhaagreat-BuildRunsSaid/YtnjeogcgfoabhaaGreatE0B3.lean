/- The engine, B3. -/
import Derived.Test.YtnjeogcgfoabhaaGreatE0B2
set_option linter.unusedVariables false
set_option linter.unusedSimpArgs false
namespace Go.Abs
open Go
section
variable {P : Program} {T : Tab} {an : Ann} {E : dQ} {st : St} {G : Gh} {a : Act} {w : World} {o : Oper} {k : St → Prop} {next : Act → World → Prop} {Q : Exit → Act → World → Prop}
theorem sn {c : List AV} {n : Nat} (h : sq c n = true) : c.length = n ∧ 0 < n ∧ ∀ a ∈ c, dT a = true := by
 simp only [sq, aaq, abP] at h;exact ⟨aah h.1, h.2.1, lN.1 h.2.2⟩
theorem B2 {A : AV} (h : ∀ a ∈ A.cells, dT a = true) : A ≠ .junk := by
 rintro rfl;have := h .junk (by simp [AV.cells]);simp [dT] at this
theorem AK (hI : Inv E st G a w) {fs : List (Nat × TypeId)} {place : Nat → Option (Nat × Nat)}
  (hpl : ∀ (i : Nat) (fo : Nat) (ft : TypeId), fs[i]? = some (fo, ft) → (T.ti ft).ok = true → place i = some (fo, (T.ti ft).size)) {K : List AV → Prop} : ∀ {ps : List (Nat × Operand)} {l : List AV} {cells : Array Value}, aB G l cells.toList → aQ.buildK T (evA st.slots) fs ps l K →
   ∃ l' cells', Instr.fill place cells (ps.map fun (i, x) => (i, a.eval x)) = some cells' ∧ aB G l' cells'.toList ∧ K l' := by
 intro ps
 induction ps with
 | nil => intro l cells hl h; exact ⟨l, cells, rfl, hl, h⟩
 | cons p ps ih =>
  obtain ⟨i, x⟩ := p;intro l cells hl h;unfold aQ.buildK at h;split at h
  ·exact h.elim
  ·rename_i off t he;obtain ⟨hok, h⟩ := bz h;rw [co] at h;obtain ⟨hco, h⟩ := az h;obtain ⟨hsz, hpos, hce⟩ := sn hco;have hx := (hI.eval x).cells (B2 hce);have hxl := hx.length;have hvs : (a.eval x).cells.size = (T.ti t).size := by rw [← hsz, ← hxl]; simp
   have hll := hl.length;have hnil : (evA st.slots x).cells ≠ [] := by intro e; rw [e] at hsz; simp at hsz; omega
   have hle := uG hnil h;rw [rp hle] at h;obtain ⟨hfit, h⟩ := h;simp only [aaF];rw [pS (hpl i off t he hok) hvs (by rw [← hsz]; simp at hll; omega)];refine ih ?_ h;simp only [abt];rw [hsz];exact ((hl.take off).append hx).append (hl.drop _)
theorem uB (hI : Inv E st G a w) {size : Nat} {K : List AV → Prop} : ∀ {ps : List (Nat × Operand)} {l : List AV} {cells : Array Value}, aB G l cells.toList → aQ.buildArrK (evA st.slots) size ps l K →
   ∃ l' cells', Instr.fill (fun i => some (i * size, size)) cells (ps.map fun (i, x) => (i, a.eval x)) = some cells' ∧ aB G l' cells'.toList ∧ K l' := by
 intro ps
 induction ps with
 | nil => intro l cells hl h; exact ⟨l, cells, rfl, hl, h⟩
 | cons p ps ih =>
  obtain ⟨i, x⟩ := p;intro l cells hl h;unfold aQ.buildArrK at h;rw [co] at h;obtain ⟨hco, h⟩ := az h;obtain ⟨hsz, hpos, hce⟩ := sn hco;have hx := (hI.eval x).cells (B2 hce);have hxl := hx.length;have hvs : (a.eval x).cells.size = size := by rw [← hsz, ← hxl]; simp
  have hll := hl.length;have hnil : (evA st.slots x).cells ≠ [] := by intro e; rw [e] at hsz; simp at hsz; omega
  have hle := uG hnil h;rw [rp hle] at h;obtain ⟨hfit, h⟩ := h;simp only [aaF];have hfit' : i * size + size ≤ cells.size := by simp at hll; rw [hsz] at hfit; omega
  rw [pS (off := i * size) rfl hvs hfit'];refine ih ?_ h;simp only [abt];rw [hsz];exact ((hl.take _).append hx).append (hl.drop _)
theorem IP {fs : List (Nat × TypeId)} : zf T fs = true ↔ ∀ f ∈ fs, (T.ti f.2).ok = true := by
 induction fs with
 | nil => simp [zf]
 | cons f l ih =>
  obtain ⟨x, t⟩ := f
  cases h : (T.ti t).ok
  ·simp [zf, h]
  ·simp [zf, h, ih]
theorem Hw (hT : cd P T) : ∀ {l : List Field}, (∀ f ∈ l, (T.ti f.type).ok = true) → l.mapM (fun f => (P.info? f.type).map fun i => (f.offset, i.size)) = some (l.map fun f => (f.offset, (T.ti f.type).size)) := by
 intro l
 induction l with
 | nil => intro _; rfl
 | cons f l ih =>
  intro h;obtain ⟨i, d, hi, _, hs, _⟩ := bN hT (h f (by simp));simp [List.mapM_cons, hi, ih (fun f' hf => h f' (by simp [hf])), hs]
theorem BA (hT : cd P T) {t : TypeId} {ps : Array (Nat × Operand)} (hop : o.op = .build t ps) (hI : Inv E st G a w) (h : ck P T an o st k) (hn : fy E k next) : o.wp P a w next Q := by
 unfold ck aQ at h;simp only [hop] at h;obtain ⟨hok, h⟩ := bz h;obtain ⟨inf, d, hinf, hd, hs, _, htd, _, _⟩ := bN hT hok;split at h
 ·rename_i fs hde;obtain ⟨hz, h⟩ := az h;simp only [aaq] at hz;obtain ⟨i, z, hi, hz1, hz2, hz3, hz4, _⟩ := fP hT hok hz.1;rw [htd] at hde;obtain ⟨f, rfl, hf⟩ := nu hde;have hall : ∀ fl ∈ f.toList, (T.ti fl.type).ok = true := fun fl hfl => by
   have := IP.1 hz.2 (fl.offset, fl.type) (by rw [← hf]; exact List.mem_map.2 ⟨fl, hfl, rfl⟩);exact this
  have hpl := Hw hT hall;obtain ⟨l', cells', h1, h2, h3⟩ := AK (T := T) (place := ((f.toList.map fun fl => (fl.offset, (T.ti fl.type).size)).toArray[·]?)) hI (fs := fs) (cells := z.cells) (fun i fo ft hi' _ => by
   rw [← hf] at hi';simp only [aaE, aa5] at hi';obtain ⟨fl, hfl, he⟩ := hi';simp only [Prod.mk.injEq] at he;obtain ⟨rfl, rfl⟩ := he;have hfl' : f[i]? = some fl := by simpa using hfl
   simp [hfl']) (by rw [hz2]; exact pF _ _) h
  refine ba (x := .agg cells') hI ?_ (by simp only [Rep]; exact ⟨cells'.toList, by simp, h2⟩) h3 hn;have hb : P.built t (ps.map fun (i, x) => (i, a.eval x)).toList = some cells' := by
   simp only [Program.built, hi, hd, hz1, hpl];simpa using h1
  simp [execOp, hop, run_build w t _ cells' hb]
 ·rename_i m e hde;obtain ⟨hz, h⟩ := az h;obtain ⟨i, z, hi, hz1, hz2, hz3, hz4, _⟩ := fP hT hok hz;rw [htd] at hde;obtain rfl := nv hde;obtain ⟨hoke, h⟩ := bz h;obtain ⟨inf', d', hinf', hd', hs', _⟩ := bN hT hoke;obtain ⟨l', cells', h1, h2, h3⟩ := uB hI (cells := z.cells) (by rw [hz2]; exact pF _ _) h;refine ba (x := .agg cells') hI ?_ (by simp only [Rep]; exact ⟨cells'.toList, by simp, h2⟩) h3 hn;rw [hs'] at h1;have hb : P.built t (ps.map fun (i, x) => (i, a.eval x)).toList = some cells' := by
   simp only [Program.built, hi, hd, hz1, hinf'];simpa using h1
  simp [execOp, hop, run_build w t _ cells' hb]
 ·exact h.elim
theorem Au (hI : Inv E st G a w) {size : Nat} (hpos : 0 < size) {K : List (List AV) → Prop} : ∀ {ps : List (Nat × Operand)} {n : Nat} {done : List Value} {zs : List Value}, done.length = n * size → ps.length * size ≤ zs.length → nX (evA st.slots) size ps n K →
   ∃ l vs, Instr.fill (fun i => some (i * size, size)) (done ++ zs).toArray (ps.map fun (i, x) => (i, a.eval x)) = some (done ++ vs ++ zs.drop (ps.length * size)).toArray ∧ aB G l.flatten vs ∧ (∀ e ∈ l, e.length = size ∧ bP e = true) ∧ l.length = ps.length ∧ K l := by
 intro ps
 induction ps generalizing K with
 | nil => intro n done zs hd hz h; exact ⟨[], [], by simp [Instr.fill], by simp [aB], by simp, rfl, h⟩
 | cons p ps ih =>
  obtain ⟨i, x⟩ := p;intro n done zs hd hz h;unfold nX at h;split at h
  ·exact h.elim
  ·rename_i hin;obtain rfl := aah hin;rw [co] at h;split at h
   ·exact h.elim
   ·rename_i hsz;have hsz := aah hsz;split at h
    ·exact h.elim
    ·rename_i hok;have hnj : evA st.slots x ≠ .junk := by
      intro e;rw [e] at hok;simp [AV.cells, AV.strip, bP, AV.okCell, jd] at hok
     have hx := ((hI.eval x).cells hnj).strip;have hxl := hx.length;have hvs : (a.eval x).cells.size = size := by rw [← hsz, ← hxl]; simp
     simp only [aag] at hz;have hz' : size + ps.length * size ≤ zs.length := by rw [abz] at hz; omega
     obtain ⟨l, vs, h1, h2, h3, h4, h5⟩ := ih (n := i + 1) (done := done ++ (a.eval x).cells.toList) (zs := zs.drop size) (by simp [hd, hvs, abz]) (by simp; omega) h;refine ⟨_, (a.eval x).cells.toList ++ vs, ?_, ?_, ?_, ?_, h5⟩
     ·simp only [aaF];rw [pS (off := i * size) rfl hvs (by simp [hd]; omega)];simp only [abt];rw [← hd, List.take_left];rw [List.drop_append];simp only [Nat.add_sub_cancel_left, aay (show done.length ≤ done.length + size by omega), aam];rw [h1];simp [abz, Nat.add_comm]
     ·simp only [aa2];exact hx.append h2
     ·intro e he;simp only [aaY] at he;rcases he with rfl | he
      ·exact ⟨hsz, hok⟩
      ·exact h3 e he
     ·simp [h4]
theorem o9 {n : Nm} {t : TypeId} {l : List AV} {vs : List Value} (hn : G.ob n = none) (hl : aB G l vs) (hk : ∀ o, G.K w.heap.size o = none) : sG ⟨G.K, aN G.ob n (.blk w.heap.size)⟩ (w.alloc (.cells vs.toArray t)) n (.cells t l) :=
 ⟨w.heap.size, vs, by simp [aN], heap_alloc_new w _, aB.mono (v8 hn _) _ _ hl, hk⟩
theorem kT {n : Nm} {b b' : Nat} {K : Nat → Nat → Option Value} (h : (⟨K, aN G.ob n (.blk b)⟩ : Gh).at n b') : b' = b := by
 rcases h with hb | ⟨u, t', hb, _⟩
 ·simp [aN] at hb; exact hb.symm
 ·simp [aN] at hb
theorem gD {n : Nm} {u : Value} {top : Nat} {b' : Nat} {K : Nat → Nat → Option Value} (h : (⟨K, aN G.ob n (.rowv u top)⟩ : Gh).at n b') : u.ownBlock = some b' := by
 rcases h with hb | ⟨u', t', hb, hu⟩
 ·simp [aN] at hb
 ·simp [aN] at hb; obtain ⟨rfl, _⟩ := hb; exact hu
theorem Inv.knone (hI : Inv E st G a w) (o : Nat) : G.K w.heap.size o = none := by
 cases e : G.K w.heap.size o with
 | none => rfl
 | some v => have := hI.wr.kltb e; omega
theorem LH : ∀ (l : List (List AV)) (s : Nat), (∀ e ∈ l, e.length = s) → l.flatten.length = l.length * s := by
 intro l s
 induction l with
 | nil => simp
 | cons e l ih => intro h; simp [h e (by simp), abz, Nat.add_comm] ; simpa using ih (fun e' he => h e' (by simp [he]))
theorem oy {t e : TypeId} {inf : TypeInfo} {z : Value} (ht : P.underlying t = some (.slice e)) (hi : P.info? e = some inf) (hz : inf.zero = some z) {len : Nat} (h24 : len * inf.size ≤ 16777216)
  {ps : Array (Nat × Value)} {cells : Array Value} (hf : Instr.fill (fun i => some (i * inf.size, inf.size)) ((Array.range (len * inf.size)).map (z.cells[· % z.cells.size]!)) ps.toList = some cells) : (Instr.buildSlice t len ps).run P w = .ok (.slice (some ⟨w.heap.size, 0, none⟩) len len) (w.alloc (.cells cells e)) := by
 have h24' : ¬ (len * inf.size > 2 ^ 24) := by omega
 have hs : (sizeOf e).run P w = .ok inf.size w := by simp [sizeOf, typeInfo, hi]
 have hzz : (zeroValue e).run P w = .ok z w := by simp [zeroValue, typeInfo, hi, hz]
 by_cases h0 : len * inf.size = 0
 ·rw [h0] at hf;have hr : Array.range 0 = #[] := by simp [← abO]
  rw [hr, Array.map_empty] at hf;simp [Instr.buildSlice, run_underlying ht, hs, h0, hr, hf, newRow]
 ·simp [Instr.buildSlice, run_underlying ht, hs, h24', h0, hzz, hf, newRow]
theorem sO (hT : cd P T) {t : TypeId} {len : Nat} {ps : Array (Nat × Operand)} (hop : o.op = .buildSlice t len ps) (hI : Inv E st G a w) (h : ck P T an o st k) (hn : fy E k next) : o.wp P a w next Q := by
 unfold ck aQ at h;simp only [hop] at h;obtain ⟨hok, h⟩ := bz h;obtain ⟨inf, d, hinf, hd, hs, _, htd, _, _⟩ := bN hT hok;split at h
 ·rename_i e hde;rw [htd] at hde;obtain rfl := dc hde;obtain ⟨hoke, h⟩ := bz h;obtain ⟨inf', d', hinf', hd', hs', _, _, _, hz'⟩ := bN hT hoke;obtain ⟨hz, h⟩ := az h;obtain ⟨iz, z, hiz, hz1, hz2, hz3, hz4, hz5⟩ := fP hT hoke hz;rw [hinf'] at hiz
  cases hiz;have hpos : 0 < (T.ti e).size := by omega
  obtain ⟨hlen, h⟩ := az h;simp only [aaq] at hlen;have hlen1 : ps.size = len := aah hlen.1;have hlen2 : len * (T.ti e).size ≤ 16777216 := Nat.le_of_ble_eq_true hlen.2;have hzl : (((Array.range (len * inf'.size)).map (z.cells[· % z.cells.size]!)).toList).length = len * inf'.size := by simp
  obtain ⟨l, vs, h1, h2, h3, h4, h5⟩ := Au hI hpos (n := 0) (done := []) (zs := ((Array.range (len * inf'.size)).map (z.cells[· % z.cells.size]!)).toList) (by simp) (by rw [hzl, ← hs', ← hlen1]; simp) h;have hll : l.length = len := by rw [h4, ← hlen1]; simp
  have hvl : vs.length = len * inf'.size := by
   rw [h2.length, LH l _ (fun x hx => (h3 x hx).1), hll, hs']
  have hfill : Instr.fill (fun i => some (i * inf'.size, inf'.size)) ((Array.range (len * inf'.size)).map (z.cells[· % z.cells.size]!)) (ps.map fun (i, x) => (i, a.eval x)).toList = some vs.toArray := by
   rw [hs'] at h1;have e0 : (List.drop (ps.toList.length * inf'.size) ((Array.range (len * inf'.size)).map (z.cells[· % z.cells.size]!)).toList) = [] := by
    apply aay;rw [hzl]; simp [hlen1]
   rw [e0] at h1;simp only [aam, aaR, Array.toArray_toList] at h1;rw [← h1];simp
  have hrun : (execOp a.eval o).run P w = .ok (.value (.slice (some ⟨w.heap.size, 0, none⟩) len len)) (w.alloc (.cells vs.toArray e)) := by
   have h24' : len * inf'.size ≤ 16777216 := by rw [← hs']; exact hlen2
   have hb := oy (P := P) (w := w) (ps := ps.map fun (i, x) => (i, a.eval x)) hd hinf' hz1 h24' hfill;simp only [execOp, hop, Sem.run_bind, hb, Result.andThen_ok, Sem.run_pure]
  split at h5
  ·exact h5.elim
  ·rename_i d0 hd0;split at h5
   ·obtain ⟨objs', g1, g2, g3⟩ := dK h5;have hno := hI.no_ob g2;have hown : (w.alloc (.cells vs.toArray e)).ownsRow 0 e (T.ti e).size (.slice (some ⟨w.heap.size, 0, none⟩) len len) l.length vs := by
     have hll' : len ≤ len * inf'.size := Nat.le_mul_of_pos_right _ hz4;rw [hll, hs'];rw [hs'] at hlen2;exact ⟨hvl, .inr ⟨w.heap.size, len, vs.toArray, rfl, aby _, heap_alloc_new w _, aar _, by simp only [maxLen]; omega, by simp [hvl], by rw [← hvl]; simp⟩⟩
    have hI' := hI.newObj (w' := w.alloc (.cells vs.toArray e)) (n := al d0) (o := .row e (T.ti e).size l.length) (objs' := objs') (g := .rowv (.slice (some ⟨w.heap.size, 0, none⟩) len len) l.length) (K' := iZ G.K w.heap.size vs) rfl rfl rfl (by simp)
     (fun b hb => heap_alloc_old w _ hb) (fun b o hb => by
      have hbn : b ≠ w.heap.size := Nat.ne_of_lt hb;simp [iZ, hbn]) (fun b o v hb ev => by
      by_cases hb' : b = w.heap.size
      ·subst hb';rw [iq (heap_alloc_new w _) o];simpa [iZ] using ev
      ·simp only [iZ, hb', aaW] at ev;have := hI.wr.kltb ev;omega) g2 g3
     ⟨_, vs, by simp [aN], hown, fun g hg o => by simp [Value.ownBlock] at hg; subst hg; simp [iZ]⟩
     (fun b hb => by have := gD hb; simp [Value.ownBlock] at this; omega)
    refine cQ hI'.1 hrun ?_ g1 hn;simp only [Rep];refine ⟨⟨_, _, by rw [hll], by omega, d7.of_flat (aB.mono hI'.2 _ _ h2) h3 fun j v hj => by simpa [iZ] using hj⟩, ⟨_, _, by simp [aN], aar _, fun _ => rfl⟩⟩
   ·split at h5
    ·obtain ⟨objs', g1, g2, g3⟩ := dK h5;have hno := hI.no_ob g2;have hI' := hI.newObj (w' := w.alloc (.cells vs.toArray e)) (n := al d0) (o := .cells e l.flatten) (objs' := objs') (g := .blk w.heap.size) (K' := G.K) rfl rfl rfl (by simp)
      (fun b hb => heap_alloc_old w _ hb) (fun _ _ _ => rfl) (fun b o v hb ev => by have := hI.wr.kltb ev; omega) g2 g3 (o9 hno h2 hI.knone)
      (fun b hb => by have := kT hb; omega)
     refine cQ hI'.1 hrun ?_ g1 hn;simp only [Rep];exact ⟨w.heap.size, by simp [aN], by rw [hll]⟩
    ·obtain ⟨hI', hle⟩ := hI.frozen vs e;refine cQ hI' hrun ?_ h5 hn;simp only [Rep];exact ⟨⟨_, _, by rw [hll], by omega, d7.of_flat (aB.mono hle _ _ h2) h3 fun j v hj => by simpa [iZ] using hj⟩, trivial⟩
 ·exact h.elim
theorem dz {k : IntKind} {i : Int} {y : Nat} {c : BoundsCode} (h0 : 0 ≤ i) (h1 : i ≤ (y : Int)) : (Instr.sliceBound (.int k i) y c).run P w = .ok i.toNat w := by
 simp [Instr.sliceBound, asIntOf, h0, h1]
theorem eR (hI : Inv E st G a w) {x : Option Operand} {d : Nat} {K : Int → Prop} (h : aQ.boundK (evA st.slots) x d K) : ∃ i, K i ∧ ((x = none ∧ i = (d : Int)) ∨ ∃ y k, x = some y ∧ a.eval y = .int k i) := by
 unfold aQ.boundK at h;split at h
 ·exact ⟨_, h, .inl ⟨rfl, rfl⟩⟩
 ·rename_i y;split at h
  ·rename_i k i he;have := hI.eval y;rw [he] at this;simp only [Rep] at this;exact ⟨i, h, .inr ⟨y, k, rfl, this⟩⟩
  ·exact h.elim
theorem kC {isS : Bool} {len cap : Nat} {lo hi : Option Operand} {l h : Int} (hl : (lo = none ∧ l = 0) ∨ ∃ y k, lo = some y ∧ a.eval y = .int k l) (hh : (hi = none ∧ h = (len : Int)) ∨ ∃ y k, hi = some y ∧ a.eval y = .int k h)
  (h0 : 0 ≤ l) (h1 : l ≤ h) (h2 : h ≤ (len : Int)) (hc : len ≤ cap) : (Instr.sliceBounds isS len cap (lo.map a.eval) (hi.map a.eval) none).run P w = .ok (l.toNat, h.toNat, cap) w := by
 have hlh : l ≤ (h.toNat : Int) := by omega
 have hhc : h ≤ (cap : Int) := by omega
 have h3 : 0 ≤ h := by omega
 rcases hl with ⟨rfl, rfl⟩ | ⟨y, k, rfl, hy⟩ <;> rcases hh with ⟨rfl, rfl⟩ | ⟨y', k', rfl, hy'⟩
 ·simp [Instr.sliceBounds]
 ·simp [Instr.sliceBounds, hy', dz h3 hhc]
 ·simp [Instr.sliceBounds, hy, dz h0 (show l ≤ ((len : Nat) : Int) by omega)]
 ·simp [Instr.sliceBounds, hy, hy', dz h0 hlh, dz h3 hhc]
theorem sQ {isS : Bool} {len cap : Nat} {lo : Option Operand} {hi mx : Operand} {l h m : Int} {k' k'' : IntKind} (hl : (lo = none ∧ l = 0) ∨ ∃ y k, lo = some y ∧ a.eval y = .int k l) (hh : a.eval hi = .int k' h) (hm : a.eval mx = .int k'' m)
  (h0 : 0 ≤ l) (h1 : l ≤ h) (h2 : h ≤ m) (h3 : m ≤ (cap : Int)) : (Instr.sliceBounds isS len cap (lo.map a.eval) ((some hi).map a.eval) ((some mx).map a.eval)).run P w = .ok (l.toNat, h.toNat, m.toNat) w := by
 have hlh : l ≤ (h.toNat : Int) := by omega
 have hhm : h ≤ (m.toNat : Int) := by omega
 have h4 : 0 ≤ h := by omega
 have h5 : 0 ≤ m := by omega
 rcases hl with ⟨rfl, rfl⟩ | ⟨y, k, rfl, hy⟩
 ·simp [Instr.sliceBounds, hh, hm, dz h4 hhm, dz h5 h3]
 ·simp [Instr.sliceBounds, hh, hm, hy, dz h0 hlh, dz h4 hhm, dz h5 h3]
theorem Bu (hT : cd P T) {t : TypeId} {x : Operand} {lo hi mx : Option Operand} (hop : o.op = .slice t x lo hi mx) (hI : Inv E st G a w) (h : ck P T an o st k) (hn : fy E k next) : o.wp P a w next Q := by
 unfold ck aQ at h
 cases mx with
 | some mx =>
  cases hi with
  | none => simp only [hop] at h
  | some hi =>
   simp only [hop] at h;obtain ⟨hok, h⟩ := bz h;obtain ⟨inf, d, hinf, hd, hs, _, htd, _, _⟩ := bN hT hok;have hx := hI.eval x;split at h
   ·rename_i own sz xs hxe;rw [hxe] at hx;simp only [Rep] at hx;obtain ⟨⟨A, c, hxv, hc, hE⟩, _⟩ := hx;split at h
    ·rename_i e hde;rw [htd] at hde;obtain rfl := dc hde;obtain ⟨hoke, h⟩ := bz h;obtain ⟨inf', d', hinf', hd', hs', _⟩ := bN hT hoke;obtain ⟨hsz, h⟩ := az h;have hsz : sz = inf'.size := by rw [← hs']; exact aah hsz
     obtain ⟨l, h, hl⟩ := eR hI h;obtain ⟨hh, h, hhh⟩ := eR hI h;obtain ⟨mm, h, hmm⟩ := eR hI h;obtain ⟨h0, h⟩ := az h;obtain ⟨h1, h⟩ := az h;obtain ⟨h2, h⟩ := az h;obtain ⟨h3, h⟩ := az h;have h0 : 0 ≤ l := by simpa using h0
     have h1 : l ≤ hh := by simpa using h1
     have h2 : hh ≤ mm := by simpa using h2
     have h3 : mm ≤ (xs.length : Int) := by simpa using h3
     rcases hhh with ⟨hn, _⟩ | ⟨y1, k1, hy1, hv1⟩
     ·cases hn
     rcases hmm with ⟨hn, _⟩ | ⟨y2, k2, hy2, hv2⟩
     ·cases hn
     cases hy1; cases hy2;have hb := sQ (P := P) (w := w) (isS := true) (len := xs.length) (cap := c) (by simpa using hl) hv1 hv2 h0 h1 h2 (by omega);simp only [abJ] at hb;have hlen : ((xs.take hh.toNat).drop l.toNat).length = hh.toNat - l.toNat := by simp; omega
     have hrun : (execOp a.eval o).run P w = .ok (.value (.slice (if mm.toNat = l.toNat then A else A.map (·.add (l.toNat * sz))) (hh.toNat - l.toNat) (mm.toNat - l.toNat))) w := by
      simp [execOp, hop, hxv, Instr.sliceAt, run_underlying hd, Instr.slice, hb, sizeOf, typeInfo, hinf', hsz]
     refine ba hI hrun ?_ h hn;simp only [Rep];refine ⟨⟨_, _, by rw [hlen], by rw [hlen]; omega, d7.of_get fun i e' hi' => ?_⟩, trivial⟩;have hi2 : xs[l.toNat + i]? = some e' ∧ l.toNat + i < hh.toNat := by
      rw [abd, List.getElem?_take] at hi';split at hi'
      ·rename_i hlt; exact ⟨hi', hlt⟩
      ·cases hi'
     obtain ⟨b, o', hA, g1, g2, g3⟩ := hE.get hi2.1;subst hA;have hcl : ¬ mm.toNat = l.toNat := by omega
     simp only [hcl, aaW, abJ, cU];refine ⟨b, o' + l.toNat * sz, rfl, g1, g2, ?_⟩;rwa [show o' + l.toNat * sz + (0 + i) * sz = o' + (0 + (l.toNat + i)) * sz by rw [aaS, aaS, abz]; omega]
    ·exact h.elim
   ·exact h.elim
 | none =>
  simp only [hop] at h;obtain ⟨hok, h⟩ := bz h;obtain ⟨inf, d, hinf, hd, hs, _, htd, _, _⟩ := bN hT hok;have hx := hI.eval x;split at h
  ·rename_i s hxe;rw [hxe] at hx;simp only [Rep] at hx;split at h
   ·rename_i hde;rw [htd] at hde;obtain rfl := dP hde;obtain ⟨l, h, hl⟩ := eR hI h;obtain ⟨hh, h, hhh⟩ := eR hI h;obtain ⟨h0, h⟩ := az h;obtain ⟨h1, h⟩ := az h;obtain ⟨h2, h⟩ := az h;have h0 : 0 ≤ l := by simpa using h0
    have h1 : l ≤ hh := by simpa using h1
    have h2 : hh ≤ (s.size : Int) := by simpa using h2
    refine ba (x := .string (s.extract l.toNat hh.toNat)) hI ?_ (by simp only [Rep]) h hn;have hb := kC (P := P) (w := w) (isS := false) (cap := s.size) (by simpa using hl) hhh h0 h1 h2 (aar _);simp [execOp, hop, hx, Instr.sliceAt, run_underlying hd, Instr.slice, hb]
   ·exact h.elim
  ·rename_i own sz xs hxe;rw [hxe] at hx;simp only [Rep] at hx;obtain ⟨⟨A, c, hxv, hc, hE⟩, _⟩ := hx;split at h
   ·rename_i e hde;rw [htd] at hde;obtain rfl := dc hde;obtain ⟨hoke, h⟩ := bz h;obtain ⟨inf', d', hinf', hd', hs', _⟩ := bN hT hoke;obtain ⟨hsz, h⟩ := az h;have hsz : sz = inf'.size := by rw [← hs']; exact aah hsz
    obtain ⟨l, h, hl⟩ := eR hI h;obtain ⟨hh, h, hhh⟩ := eR hI h;obtain ⟨h0, h⟩ := az h;obtain ⟨h1, h⟩ := az h;obtain ⟨h2, h⟩ := az h;have h0 : 0 ≤ l := by simpa using h0
    have h1 : l ≤ hh := by simpa using h1
    have h2 : hh ≤ (xs.length : Int) := by simpa using h2
    have hb := kC (P := P) (w := w) (isS := true) (cap := c) (by simpa using hl) hhh h0 h1 h2 hc;have hlen : ((xs.take hh.toNat).drop l.toNat).length = hh.toNat - l.toNat := by simp; omega
    have hrun : (execOp a.eval o).run P w = .ok (.value (.slice (if c = l.toNat then A else A.map (·.add (l.toNat * sz))) (hh.toNat - l.toNat) (c - l.toNat))) w := by
     simp [execOp, hop, hxv, Instr.sliceAt, run_underlying hd, Instr.slice, hb, sizeOf, typeInfo, hinf', hsz]
    refine ba hI hrun ?_ h hn;simp only [Rep];refine ⟨⟨_, _, by rw [hlen], by rw [hlen]; omega, d7.of_get fun i e' hi' => ?_⟩, trivial⟩;have hi2 : xs[l.toNat + i]? = some e' ∧ l.toNat + i < hh.toNat := by
     rw [abd, List.getElem?_take] at hi';split at hi'
     ·rename_i hlt; exact ⟨hi', hlt⟩
     ·cases hi'
    obtain ⟨b, o', hA, g1, g2, g3⟩ := hE.get hi2.1;subst hA;have hcl : ¬ c = l.toNat := by omega
    simp only [hcl, aaW, abJ, cU];refine ⟨b, o' + l.toNat * sz, rfl, g1, g2, ?_⟩;rwa [show o' + l.toNat * sz + (0 + i) * sz = o' + (0 + (l.toNat + i)) * sz by rw [aaS, aaS, abz]; omega]
   ·exact h.elim
  ·rename_i n sz ver off len hxe;rw [hxe] at hx;simp only [Rep] at hx;obtain ⟨⟨A, c, hxv, hA, hc⟩, u, top, e1, e2, e3⟩ := hx;split at h
   ·rename_i e hde;rw [htd] at hde;obtain rfl := dc hde;obtain ⟨hoke, h⟩ := bz h;obtain ⟨inf', d', hinf', hd', hs', _⟩ := bN hT hoke;obtain ⟨hsz, h⟩ := az h;have hsz : sz = inf'.size := by rw [← hs']; exact aah hsz
    obtain ⟨l, h, hl⟩ := eR hI h;obtain ⟨hh, h, hhh⟩ := eR hI h;obtain ⟨h0, h⟩ := az h;obtain ⟨h1, h⟩ := az h;obtain ⟨h2, h⟩ := az h;have h0 : 0 ≤ l := by simpa using h0
    have h1 : l ≤ hh := by simpa using h1
    have h2 : hh ≤ (len : Int) := by simpa using h2
    have hb := kC (P := P) (w := w) (isS := true) (cap := c) (by simpa using hl) hhh h0 h1 h2 hc;have hrun : (execOp a.eval o).run P w = .ok (.value (.slice (if c = l.toNat then A else A.map (·.add (l.toNat * sz))) (hh.toNat - l.toNat) (c - l.toNat))) w := by
     simp [execOp, hop, hxv, Instr.sliceAt, run_underlying hd, Instr.slice, hb, sizeOf, typeInfo, hinf', hsz]
    refine ba hI hrun ?_ h hn;simp only [Rep];refine ⟨⟨_, _, rfl, fun hne => ?_, by omega⟩, u, top, e1, e2, fun e => ?_⟩
    ·have hcl : ¬ c = l.toNat := by omega
     obtain ⟨b, o', rfl⟩ := hA (by omega);simp only [hcl, aaW, abJ, cU];exact ⟨_, _, rfl⟩
    ·obtain ⟨A0, L, c0, A', hu, hL, hLc, hv, hA0, hg⟩ := e3 e;rw [hxv] at hv;injection hv with hv hv1 hv2
     subst hv;refine ⟨A0, L, c0, _, hu, by omega, hLc, by rw [hv2]; congr 1; omega, fun hz => ?_, fun hne => ?_⟩
     ·have hoff : off = 0 := by omega
      have hl0 : l.toNat = 0 := by omega
      rw [hA0 hoff, hl0];split
      ·rfl
      ·cases A0 with
       | none => rfl
       | some ad => simp [Addr.add]
     ·have hcl : ¬ c = l.toNat := by omega
      obtain ⟨g, rfl, rfl⟩ := hg (by omega);refine ⟨g, rfl, ?_⟩;rw [aap (by omega)];simp only [abJ, cU, abz]
   ·exact h.elim
  ·rename_i n off hxe;rw [hxe] at hx;simp only [Rep] at hx;obtain ⟨b, hb, hxv⟩ := hx;split at h
   ·rename_i m e hde;rw [htd] at hde;obtain rfl := nv hde;obtain ⟨hoke, h⟩ := bz h;obtain ⟨inf', d', hinf', _⟩ := bN hT hoke;split at h
    ·refine ba (x := .slice (some ⟨b, off, none⟩) m m) hI ?_ (by simp only [Rep]; exact ⟨b, hb, rfl⟩) h hn;simp [execOp, hop, hxv, Instr.sliceAt, run_underlying hd, Instr.sureAddr, Instr.sliceBounds, sizeOf, typeInfo, hinf', cU]
    ·exact h.elim
   ·exact h.elim
  ·exact h.elim
end
end Go.Abs
