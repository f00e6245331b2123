/- The engine, B2. -/
import Derived.Test.YtnjeogcgfoabhaaGreatE0B1
set_option linter.unusedVariables false
set_option linter.unusedSimpArgs false
namespace Go.Abs
open Go
section
variable {P : Program} {T : Tab} {an : Ann} {E : dQ} {st : St} {G : Gh} {a : Act} {w : World} {o : Oper} {k : St → Prop} {next : Act → World → Prop} {Q : Exit → Act → World → Prop}
theorem toNat_lt {i : Int} {n : Nat} (h0 : 0 ≤ i) (h1 : i < (n : Int)) : i.toNat < n := by omega
theorem ut (hT : cd P T) {t : TypeId} {x i : Operand} (hop : o.op = .indexAddr t x i) (hI : Inv E st G a w) (h : ck P T an o st k) (hn : fy E k next) : o.wp P a w next Q := by
 unfold ck aQ at h;simp only [hop] at h;have hx := hI.eval x;have hi := hI.eval i;obtain ⟨hok, h⟩ := bz h;obtain ⟨inf, d, hinf, hd, _, _, htd, _, _⟩ := bN hT hok;split at h
 ·rename_i kk n he;rw [he] at hi;simp only [Rep] at hi;split at h
  ·rename_i e hde;rw [htd] at hde;obtain rfl := dc hde;obtain ⟨hoke, h⟩ := bz h;obtain ⟨inf', d', hinf', hd', hs', _⟩ := bN hT hoke;obtain ⟨hpos, h⟩ := az h;have hpos : 0 < (T.ti e).size := by simpa [abP] using hpos
   split at h
   ·rename_i own sz l hxe;obtain ⟨hsz, h⟩ := az h;obtain ⟨h0, h⟩ := az h;have h0 : 0 ≤ n := by simpa using h0
    obtain ⟨c, hc, h⟩ := gI.1 h;rw [hxe] at hx;simp only [Rep] at hx;obtain ⟨⟨A, cap, hxv, hcap, hE⟩, _⟩ := hx;obtain ⟨b, o', hA, hl, hok', hC⟩ := hE.get hc;subst hA;have hlt : n.toNat < l.length := (List.getElem?_eq_some_iff.1 hc).1;have hszz : sz = inf'.size := by rw [← hs']; exact aah hsz
    refine ba (x := .pointer (some ⟨b, o' + n.toNat * sz, none⟩)) hI ?_ (by simp only [Rep]; exact ⟨b, o' + n.toNat * sz, by simp, by simpa using hC, hok'⟩) h hn;have h1 : n < (l.length : Int) := by omega
    simp [execOp, hop, hxv, hi, Instr.indexAt, asIntOf, run_underlying hd, h0, h1, sizeOf, typeInfo, hinf', cU, hszz]
   ·rename_i m off len cap hxe;obtain ⟨h0, h⟩ := az h;obtain ⟨h1, h⟩ := az h;have h0 : 0 ≤ n := by simpa using h0
    have h1 : n < (len : Int) := by simpa using h1
    rw [hxe] at hx;simp only [Rep] at hx;obtain ⟨b, hb, hxv⟩ := hx;refine ba (x := .pointer (some ⟨b, off + n.toNat * (T.ti e).size, none⟩)) hI ?_ (by simp only [Rep]; exact ⟨b, hb, rfl⟩) h hn;simp [execOp, hop, hxv, hi, Instr.indexAt, asIntOf, run_underlying hd, h0, h1, sizeOf, typeInfo, hinf', cU, hs']
   ·rename_i m sz ver off len hxe;obtain ⟨hsz, h⟩ := az h;obtain ⟨h0, h⟩ := az h;obtain ⟨h1, h⟩ := az h;have h0 : 0 ≤ n := by simpa using h0
    have h1 : n < (len : Int) := by simpa using h1
    have hsz : sz = (T.ti e).size := aah hsz;rw [hxe] at hx;simp only [Rep] at hx;obtain ⟨⟨A, c, hxv, hA, _⟩, u, top, e1, e2, e3⟩ := hx;obtain ⟨b, o', rfl⟩ := hA (by omega);refine ba (x := .pointer (some ⟨b, o' + n.toNat * (T.ti e).size, none⟩)) hI ?_ ?_ h hn
    ·simp [execOp, hop, hxv, hi, Instr.indexAt, asIntOf, run_underlying hd, h0, h1, sizeOf, typeInfo, hinf', cU, hs']
    ·simp only [Rep];refine ⟨⟨_, rfl⟩, u, top, e1, e2, fun e => ?_⟩;obtain ⟨A0, L, c0, A', hu, _, _, hv, _, hg⟩ := e3 e;obtain ⟨g, rfl, rfl⟩ := hg (by omega);rw [hxv] at hv;injection hv with hv
     injection hv with hv
     injection hv with hv1 hv2
     refine ⟨g, by rw [hu]; rfl, ?_⟩;rw [hv1, hv2, hsz, abz, aa8]
   ·exact h.elim
  ·rename_i m e hde;rw [htd] at hde;obtain rfl := nv hde;obtain ⟨hoke, h⟩ := bz h;obtain ⟨inf', d', hinf', hd', hs', _⟩ := bN hT hoke;obtain ⟨hpos, h⟩ := az h;obtain ⟨h0, h⟩ := az h;obtain ⟨h1, h⟩ := az h;have h0 : 0 ≤ n := by simpa using h0
   have h1 : n < (m : Int) := by simpa using h1
   split at h
   ·rename_i c off hxe;rw [hxe] at hx;simp only [Rep] at hx;obtain ⟨b, o', hxv, hC, hok'⟩ := hx;refine ba (x := .pointer (some ⟨b, o' + (off + n.toNat * (T.ti e).size), none⟩)) hI ?_ (by simp only [Rep]; exact ⟨b, o', rfl, hC, hok'⟩) h hn;simp [execOp, hop, hxv, hi, Instr.indexAt, Instr.sureAddr, asIntOf, run_underlying hd, h0, h1, sizeOf, typeInfo, hinf', cU, hs', Nat.add_assoc]
   ·rename_i m' off hxe;rw [hxe] at hx;simp only [Rep] at hx;obtain ⟨b, hb, hxv⟩ := hx;refine ba (x := .pointer (some ⟨b, off + n.toNat * (T.ti e).size, none⟩)) hI ?_ (by simp only [Rep]; exact ⟨b, hb, rfl⟩) h hn;simp [execOp, hop, hxv, hi, Instr.indexAt, Instr.sureAddr, asIntOf, run_underlying hd, h0, h1, sizeOf, typeInfo, hinf', cU, hs']
   ·exact h.elim
  ·exact h.elim
 ·exact h.elim
theorem Bw (hT : cd P T) {t : TypeId} {x i : Operand} (hop : o.op = .index t x i) (hI : Inv E st G a w) (h : ck P T an o st k) (hn : fy E k next) : o.wp P a w next Q := by
 unfold ck aQ at h;simp only [hop] at h;have hx := hI.eval x;have hi := hI.eval i;obtain ⟨hok, h⟩ := bz h;obtain ⟨inf, d, hinf, hd, _, _, htd, _, _⟩ := bN hT hok;split at h
 ·rename_i kk n he;rw [he] at hi;simp only [Rep] at hi;split at h
  ·rename_i hde;rw [htd] at hde;obtain rfl := dP hde;split at h
   ·rename_i s hxe;rw [hxe] at hx;simp only [Rep] at hx;obtain ⟨h0, h⟩ := az h;obtain ⟨h1, h⟩ := az h;have h0 : 0 ≤ n := by simpa using h0
    have h1 : n < (s.size : Int) := by simpa using h1
    have h2 : n.toNat < s.size := by omega
    refine ba (x := .int .u8 (aD s n.toNat)) hI ?_ (by simp only [Rep]) h hn;have h3 : s[n.toNat]? = some s[n.toNat] := by simp [h2]
    simp [execOp, hop, hx, hi, Instr.index, asIntOf, run_underlying hd, h0, h3, aD, h2]
   ·exact h.elim
  ·rename_i m e hde;rw [htd] at hde;obtain rfl := nv hde;split at h
   ·rename_i l hxe;rw [hxe] at hx;simp only [Rep] at hx;obtain ⟨vs, hxv, hl⟩ := hx;obtain ⟨h0, h⟩ := az h;obtain ⟨h1, h⟩ := az h;have h0 : 0 ≤ n := by simpa using h0
    have h1 : n < (m : Int) := by simpa using h1
    obtain ⟨hoke, h⟩ := bz h;obtain ⟨inf', d', hinf', hd', hs', _, _, hag', _⟩ := bN hT hoke;rw [jE] at h;have hl' := hl.drop (n.toNat * (T.ti e).size);unfold nr at h;rw [hoke] at h;simp only at h;split at h
    ·rename_i ha;rw [mT] at h;obtain ⟨hle, hk⟩ := h;rw [hag'] at ha;refine ba (x := .agg ((vs.drop (n.toNat * (T.ti e).size)).take (T.ti e).size).toArray) hI ?_ (by simp only [Rep]; exact ⟨_, rfl, hl'.take _⟩) hk hn;simp [execOp, hop, hxv, hi, Instr.index, asIntOf, run_underlying hd, h0, h1, part, jU hd', ha, sizeOf, typeInfo, hinf', hs', List.extract_eq_take_drop]
    ·rename_i ha;rw [hag'] at ha;split at h
     ·rename_i y ys hys;rw [iY] at h;rw [hys] at hl';simp only [aB] at hl';obtain ⟨v, us, hve, h2, h3⟩ := hl';refine ba (x := v) hI ?_ h2 h hn;have hv : vs[n.toNat * inf'.size]? = some v := by
       have := congrArg (fun l => l[0]?) hve;rw [← hs'];simpa using this
      simp [execOp, hop, hxv, hi, Instr.index, asIntOf, run_underlying hd, h0, h1, part, jU hd', ha, sizeOf, typeInfo, hinf', hv]
     ·exact h.elim
   ·exact h.elim
  ·exact h.elim
 ·exact h.elim
theorem xg {x : Operand} {i : Nat} (hop : o.op = .extract x i) (hI : Inv E st G a w) (h : ck P T an o st k) (hn : fy E k next) : o.wp P a w next Q := by
 unfold ck aQ at h;simp only [hop] at h;have hx := hI.eval x;split at h
 ·rename_i l hxe;rw [hxe] at hx;simp only [Rep] at hx;obtain ⟨vs, hxv, hl⟩ := hx;obtain ⟨v, hv, h⟩ := gI.1 h;obtain ⟨u, hu, hr⟩ := hl.get hv;refine ba (x := u) hI ?_ hr h hn;simp [execOp, hop, hxv, Instr.extract, hu]
 ·exact h.elim
theorem vd {x : Operand} (hop : o.op = .nilCheck x) (hI : Inv E st G a w) (h : ck P T an o st k) (hn : fy E k next) : o.wp P a w next Q := by
 unfold ck aQ at h;simp only [hop] at h;have hx := hI.eval x;split at h
 ·rename_i n off he;rw [he] at hx;have hx' := hx;simp only [Rep] at hx;obtain ⟨b, hb, hxv⟩ := hx;refine ba hI ?_ hx' h hn;simp [execOp, hop, hxv]
 ·rename_i c off he;rw [he] at hx;have hx' := hx;simp only [Rep] at hx;obtain ⟨b, o', hxv, _⟩ := hx;refine ba hI ?_ hx' h hn;simp [execOp, hop, hxv]
 ·exact h.elim
theorem ve {f : Fn} {x y : Array Operand} (hop : o.op = .makeFunc f x y) (hI : Inv E st G a w) (h : ck P T an o st k) (hn : fy E k next) : o.wp P a w next Q := by
 unfold ck aQ at h;simp only [hop, co] at h;refine ba (x := .func f (x.map a.eval) (y.map a.eval)) hI (by simp [execOp, hop, Instr.makeFunc]) ?_ h hn;simp only [Rep];exact ⟨x.toList.map a.eval, y.toList.map a.eval, by simp [← abO], hI.evals _, hI.evals _⟩
theorem xf {t : TypeId} {r : Option Operand} (hop : o.op = .makeMap t r) (hI : Inv E st G a w) (h : ck P T an o st k) (hn : fy E k next) : o.wp P a w next Q := by
 unfold ck aQ at h
 cases r with
 | some r => simp only [hop] at h
 | none =>
  simp only [hop] at h;split at h
  ·exact h.elim
  ·rename_i d hd;obtain ⟨objs', h1, h2, h3⟩ := dK h;have hI' := hI.newObj (w' := w.alloc (.map #[] 0)) (n := al d) (o := .map []) (objs' := objs') (g := .blk w.heap.size) (K' := G.K) rfl rfl rfl (by simp)
    (fun b hb => heap_alloc_old w _ hb) (fun _ _ _ => rfl) (fun b o v hb e => by have := hI.wr.kltb e; omega) h2 h3
    ⟨w.heap.size, #[], 0, by simp [aN], heap_alloc_new w _, by simp [fw], fun o => by
     cases e : G.K w.heap.size o with
     | none => rfl
     | some v => have := hI.wr.kltb e; omega, by simp, by simp⟩
    (fun b hb => by
     rcases hb with hb | ⟨u, t', hb, _⟩
     ·simp [aN] at hb; omega
     ·simp [aN] at hb)
   refine cQ (x := .map (some w.heap.size)) hI'.1 ?_ (by simp only [Rep]; exact ⟨w.heap.size, by simp [aN], rfl⟩) h1 hn;simp [execOp, hop, Instr.makeMap]
theorem fP (hT : cd P T) {t : TypeId} (hok : (T.ti t).ok = true) (hz : ja (T.ti t) = true) : ∃ i z, P.info? t = some i ∧ i.zero = some z ∧ z.cells.toList = (T.ti t).zero ∧ z.cells.size = i.size ∧ 0 < i.size ∧ (T.ti t).size = i.size := by
 obtain ⟨inf, d, hinf, hd, hs, _, htd, _, hz'⟩ := bN hT hok;simp only [ja, aaq, abP] at hz;have h1 := aah hz.1
 cases e : inf.zero with
 | none => rw [e] at hz'; rw [hz'] at h1; simp at h1; omega
 | some z =>
  rw [e] at hz';refine ⟨inf, z, hinf, e, hz'.symm, ?_, by omega, hs⟩;rw [hz'] at h1;rw [← hs, ← h1]; simp
theorem pF (G : Gh) (l : List Value) : aB G (rl l) l := by
 induction l with
 | nil => simp [rl, aB]
 | cons v l ih => simp only [rl, aaF, aB]; exact ⟨v, l, rfl, by simp only [Rep], ih⟩
theorem BB (hT : cd P T) {t : TypeId} (hop : o.op = .alloc t) (hI : Inv E st G a w) (h : ck P T an o st k) (hn : fy E k next) : o.wp P a w next Q := by
 unfold ck aQ at h;simp only [hop] at h;obtain ⟨hok, h⟩ := bz h;split at h
 ·exact h.elim
 ·rename_i d' hd';obtain ⟨hz, h⟩ := az h;obtain ⟨i, z, hi, hz1, hz2, hz3, hz4, _⟩ := fP hT hok hz;obtain ⟨objs', h1, h2, h3⟩ := dK h;have hI' := hI.newObj (w' := w.alloc (.cells z.cells t)) (n := al d') (o := .cells t (rl (T.ti t).zero)) (objs' := objs') (g := .blk w.heap.size) (K' := G.K) rfl rfl rfl (by simp)
   (fun b hb => heap_alloc_old w _ hb) (fun _ _ _ => rfl) (fun b o v hb e => by have := hI.wr.kltb e; omega) h2 h3
   ⟨w.heap.size, z.cells.toList, by simp [aN], by simpa using heap_alloc_new w _, by rw [hz2]; exact pF _ _, fun o => by
    cases e : G.K w.heap.size o with
    | none => rfl
    | some v => have := hI.wr.kltb e; omega⟩
   (fun b hb => by
    rcases hb with hb | ⟨u, t', hb, _⟩
    ·simp [aN] at hb; omega
    ·simp [aN] at hb)
  refine cQ (x := .pointer (some ⟨w.heap.size, 0, none⟩)) hI'.1 ?_ (by simp only [Rep]; exact ⟨w.heap.size, by simp [aN], rfl⟩) h1 hn;simp [execOp, hop, Instr.alloc, zeroValue, typeInfo, hi, hz1, newVar, newRow]
theorem Inv.no_ob (h : Inv E st G a w) {n : Nm} (hn : ax st.objs n = none) : G.ob n = none := by
 cases e : G.ob n with
 | none => rfl
 | some g =>
  obtain ⟨o, ho⟩ := h.wr.dom n g e;rw [hn] at ho; cases ho
theorem v8 {n : Nm} (hn : G.ob n = none) (g : GO) : G.le ⟨G.K, aN G.ob n g⟩ := by
 have hne : ∀ m x, G.ob m = some x → m ≠ n := fun m x e hm => by subst hm; rw [hn] at e; cases e
 exact ⟨fun _ _ _ e => e, fun m b e => by simp [aN, hne m _ e, e], fun m u t e => ⟨u, t, by simp [aN, hne m _ e, e], .inr ⟨rfl, rfl⟩⟩⟩
theorem Hh {t : TypeId} {x : Operand} (hop : o.op = .box t x) (hI : Inv E st G a w) (h : ck P T an o st k) (hn : fy E k next) : o.wp P a w next Q := by
 unfold ck aQ at h;simp only [hop] at h;have hx := hI.eval x;split at h
 ·exact h.elim
 ·rename_i d' hd';split at h
  ·rw [co] at h;obtain ⟨hok, h⟩ := az h;have hnj : evA st.slots x ≠ .junk := by
    intro e;rw [e] at hok;simp [AV.cells, AV.strip, bP, AV.okCell, jd] at hok
   have hc := (hx.cells hnj).strip;obtain ⟨hI', hle⟩ := hI.frozen (a.eval x).cells.toList t;refine cQ (x := .pointer (some ⟨w.heap.size, 0, none⟩)) hI' ?_ ?_ h hn
   ·simp [execOp, hop, Instr.box, newVar, newRow]
   ·simp only [Rep];exact ⟨w.heap.size, 0, rfl, fv.of_vals (aB.mono hle _ _ hc) fun j v hj => by simpa [iZ] using hj, hok⟩
  ·rw [co] at h;obtain ⟨hce, h⟩ := az h;obtain ⟨objs', h1, h2, h3⟩ := dK h;have hnj : evA st.slots x ≠ .junk := by
    intro e;rw [e] at hce;simp [AV.cells, fq, dT] at hce
   have hc := hx.cells hnj;have hI' := hI.newObj (w' := w.alloc (.cells (a.eval x).cells t)) (n := al d') (o := .cells t (evA st.slots x).cells) (objs' := objs') (g := .blk w.heap.size) (K' := G.K) rfl rfl rfl (by simp)
    (fun b hb => heap_alloc_old w _ hb) (fun _ _ _ => rfl) (fun b o v hb e => by have := hI.wr.kltb e; omega) h2 h3
    ⟨w.heap.size, (a.eval x).cells.toList, by simp [aN], by simpa using heap_alloc_new w _, by
     exact aB.mono (v8 (hI.no_ob h2) _) _ _ hc, fun o => by
     cases e : G.K w.heap.size o with
     | none => rfl
     | some v => have := hI.wr.kltb e; omega⟩
    (fun b hb => by
     rcases hb with hb | ⟨u, t', hb, _⟩
     ·simp [aN] at hb; omega
     ·simp [aN] at hb)
   refine cQ (x := .pointer (some ⟨w.heap.size, 0, none⟩)) hI'.1 ?_ (by simp only [Rep]; exact ⟨w.heap.size, by simp [aN], rfl⟩) h1 hn;simp [execOp, hop, Instr.box, newVar, newRow]
end
end Go.Abs
