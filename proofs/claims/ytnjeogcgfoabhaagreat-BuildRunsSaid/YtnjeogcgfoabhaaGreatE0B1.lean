/- The engine, B1. -/
import Derived.Test.YtnjeogcgfoabhaaGreatE0A9
set_option linter.unusedVariables false
set_option linter.unusedSimpArgs false
namespace Go.Abs
open Go
theorem EP {α : Type} {size : Nat} : ∀ {l : List (List α)} {i : Nat} {e : List α}, (∀ e ∈ l, e.length = size) → l[i]? = some e → (l.flatten.drop (i * size)).take size = e := by
 intro l
 induction l with
 | nil => intro i e _ he; simp at he
 | cons x l ih =>
  intro i e hl he;have hx : x.length = size := hl x (by simp)
  cases i with
  | zero =>
   simp at he; subst he;simp [← hx]
  | succ i =>
   have := ih (i := i) (e := e) (fun e he => hl e (by simp [he])) (by simpa using he);rw [aa2, Nat.succ_mul, List.drop_append, show i * size + size - x.length = i * size by omega, aay (by omega), aam];exact this
theorem Jp {α : Type} : ∀ (l : List (List α)) (s : Nat), (∀ e ∈ l, e.length = s) → l.flatten.length = l.length * s := by
 intro l s
 induction l with
 | nil => simp
 | cons e l ih => intro h; rw [aa2, aac, h e (by simp), ih (fun e' he => h e' (by simp [he])), aag, Nat.succ_mul]; omega
theorem Cr {α : Type} {size off : Nat} {c : List α} : ∀ {l : List (List α)} {i : Nat} {e : List α}, (∀ e ∈ l, e.length = size) → l[i]? = some e → off + c.length ≤ size →
  (l.set i (e.take off ++ c ++ e.drop (off + c.length))).flatten = l.flatten.take (i * size + off) ++ c ++ l.flatten.drop (i * size + off + c.length) := by
 intro l
 induction l with
 | nil => intro i e _ he; simp at he
 | cons x l ih =>
  intro i e hl he hf;have hx : x.length = size := hl x (by simp)
  cases i with
  | zero =>
   simp at he; subst he;simp only [List.set_cons_zero, aa2, Nat.zero_mul, aaS];rw [aaB (by omega), abl (by omega)];simp
  | succ i =>
   have := ih (i := i) (e := e) (fun e he => hl e (by simp [he])) (by simpa using he) hf;simp only [List.set_cons_succ, aa2, this];rw [show (i + 1) * size + off = x.length + (i * size + off) by rw [Nat.succ_mul]; omega, abf, show x.length + (i * size + off) + c.length = x.length + (i * size + off + c.length) by omega, List.drop_length_add_append];simp
section
variable {P : Program} {T : Tab} {an : Ann} {E : dQ} {st : St} {G : Gh} {a : Act} {w : World} {o : Oper} {k : St → Prop} {next : Act → World → Prop} {Q : Exit → Act → World → Prop}
abbrev fy (E : dQ) (k : St → Prop) (next : Act → World → Prop) : Prop := ∀ st' G' a' w', Inv E st' G' a' w' → k st' → next a' w'
theorem cQ {v : AV} {x : Value} {st1 : St} {G1 : Gh} {w1 : World} (h : Inv E st1 G1 a w1) (hr : (execOp a.eval o).run P w = .ok (.value x) w1) (hv : Rep G1 v x) (hk : put st1 o.dst v k) (hn : fy E k next) : o.wp P a w next Q := by
 unfold Oper.wp;rw [hr, Oper.upon_value];exact jW h hv hk hn
theorem oH {st1 : St} {G1 : Gh} {w1 : World} (h : Inv E st1 G1 a w1) (hr : (execOp a.eval o).run P w = .ok .skip w1) (hk : put st1 o.dst .junk k) (hn : fy E k next) : o.wp P a w next Q := by
 unfold Oper.wp;rw [hr, Oper.upon_skip];exact jW h (by simp only [Rep]) hk hn
theorem Inv.obj_cells (h : Inv E st G a w) {n : Nm} {t : TypeId} {l : List AV} (ho : ax st.objs n = some (.cells t l)) : ∃ b vs, G.ob n = some (.blk b) ∧ w.heap[b]? = some (.cells (List.toArray vs) t (0, 0)) ∧ aB G l vs ∧ ∀ o, G.K b o = none := h.wr.obj n _ ho
theorem DW (hT : cd P T) {t : TypeId} {p : Operand} (hop : o.op = .load t p) (hI : Inv E st G a w) (h : ck P T an o st k) (hn : fy E k next) : o.wp P a w next Q := by
 unfold ck aQ at h;simp only [hop] at h;have hp := hI.eval p;split at h
 ·rename_i c off he;rw [he] at hp;simp only [Rep] at hp;obtain ⟨b, o', hpe, hc, hk⟩ := hp;obtain ⟨vs, h1, h2⟩ := (hc.drop off).vals;rw [jE] at h;obtain ⟨v, x, h3, h4, h5⟩ := kw (w := w) hT h h1 b (o' + off) (fun j v hj => hI.wr.know _ _ _ (h2 j v hj));refine ba hI ?_ h4 h3 hn;simp [execOp, hop, hpe, Instr.loadAt, Instr.sureAddr, h5]
 ·rename_i n off he;rw [he] at hp;simp only [Rep] at hp;obtain ⟨b, hb, hpe⟩ := hp;split at h
  ·rename_i t' l ho;obtain ⟨b', vs, e1, e2, e3, e4⟩ := hI.obj_cells ho;rw [hb] at e1
   cases e1;rw [jE] at h;obtain ⟨v, x, h3, h4, h5⟩ := kw (w := w) hT h (e3.drop off) b off (fun j v hj => by
    rw [iq e2];rwa [abd] at hj)
   refine ba hI ?_ h4 h3 hn;simp [execOp, hop, hpe, Instr.loadAt, Instr.sureAddr, h5]
  ·exact h.elim
 ·rename_i n size ver i off he;rw [he] at hp;simp only [Rep] at hp;obtain ⟨_, u, top, e1, e2, e3⟩ := hp;split at h
  ·rename_i te sz l ver' ho;obtain ⟨hsz, h0⟩ := az h;clear h;obtain rfl := aah hsz;obtain ⟨rfl, h0⟩ := h0;obtain ⟨e, hel, h⟩ := gI.1 h0;obtain ⟨u', xs, f1, f2, f3, f4, f5⟩ := hI.wr.obj _ _ ho;rw [e1] at f1;injection f1 with f1
   injection f1 with f1 f1'
   subst f1 f1';obtain ⟨g, hg, hpe⟩ := e3 rfl;have hrow : aB G e ((xs.drop (i * sz)).take sz) := by
    have := (f3.drop (i * sz)).take sz;rwa [EP (fun e he => (f4 e he).1) hel] at this
   rw [jE] at h;obtain ⟨v, x, h3, h4, h5⟩ := kw (w := w) hT h (hrow.drop off) g (i * sz + off) (fun j v hj => by
    rw [abd] at hj;have hj2 := (List.getElem?_eq_some_iff.1 hj).1;rw [abb (by simp at hj2; omega), abd] at hj;have := f2.cells hg (i * sz + (off + j)) v hj;rwa [cU, aaS, ← Nat.add_assoc] at this)
   refine ba hI ?_ h4 h3 hn;simp [execOp, hop, hpe, Instr.loadAt, Instr.sureAddr, h5]
  ·exact h.elim
 ·exact h.elim
theorem Bt (hT : cd P T) {t : TypeId} {p x : Operand} (hop : o.op = .store t p x) (hI : Inv E st G a w) (h : ck P T an o st k) (hn : fy E k next) : o.wp P a w next Q := by
 unfold ck aQ at h;simp only [hop] at h;have hp := hI.eval p;split at h
 ·rename_i n off he;rw [he] at hp;simp only [Rep] at hp;obtain ⟨b, hb, hpe⟩ := hp;split at h
  ·rename_i te l ho;obtain ⟨hok, h⟩ := bz h;rw [co] at h;obtain ⟨hsz, h⟩ := az h;obtain ⟨hce, h⟩ := az h;obtain ⟨i, d, hi, hd, hs, hby, htd, hag, hz⟩ := bN hT hok;have hsz : (evA st.slots x).cells.length = i.size := by rw [← hs]; exact aah hsz
   obtain ⟨b', vs, e1, e2, e3, e4⟩ := hI.obj_cells ho;rw [hb] at e1
   cases e1;have hx := hI.eval x;have hnj : evA st.slots x ≠ .junk := by
    intro e;rw [e] at hce;simp [AV.cells, fq, dT] at hce
   have hxc := hx.cells hnj;have hone := hxc.one (lN.1 hce);by_cases hnil : (evA st.slots x).cells = []
   ·rw [hnil] at h hxc hsz;simp only [sK] at h;obtain ⟨objs', h1, h2⟩ := cu h;have hv0 : (a.eval x).cells.toList = [] := by simpa [aB] using hxc
    have hv1 : (a.eval x).cells.size = i.size := by rw [← hsz]; simpa using congrArg List.length hv0
    refine oH (st1 := ⟨st.slots, objs'⟩) (G1 := G) (w1 := w) ⟨hI.slots, hI.defers, ⟨hI.wr.know, fun m o' e => ?_, fun m g e => ?_, hI.wr.apart, hI.wr.glob⟩, hI.le, hI.ext, hI.newb⟩ ?_ h1 hn
    ·have e : ax objs' m = some o' := e;rw [h2 m] at e;by_cases hm : m = n
     ·subst hm; simp at e; subst e; exact hI.wr.obj _ _ ho
     ·simp only [hm, aaW] at e; exact hI.wr.obj m o' e
    ·show ∃ o, ax objs' m = some o;rw [h2 m];by_cases hm : m = n
     ·simp [hm]
     ·simp only [hm, aaW]; exact hI.wr.dom m g e
    ·simp [execOp, hop, hpe, Instr.storeAt, Instr.sureAddr, storeVar, sizeOf, typeInfo, hi, hv1, hv0, storeCells]
   ·have hle := uG hnil h;rw [rp hle] at h;obtain ⟨hfit, h⟩ := h;obtain ⟨objs', h1, h2⟩ := cu h;have hvl := hxc.length;have hv1 : (a.eval x).cells.size = i.size := by rw [← hsz, ← hvl]; simp
    have hll := e3.length;have hrun := run_storeCells_at P b off te (a.eval x).cells.toList 0 vs.toArray w e2 (by simp only [aa4]; omega) hone;simp only [aa8, abt] at hrun;have hI' := hI.setObj (w' := w.setRow b (vs.take off ++ (a.eval x).cells.toList ++ vs.drop (off + (a.eval x).cells.toList.length)).toArray) (n := n)
     (o' := .cells te (l.take off ++ (evA st.slots x).cells ++ l.drop (off + (evA st.slots x).cells.length))) (objs' := objs') (g := .blk b) (K' := G.K) ho rfl rfl rfl (by simp)
     (fun b' hb' hnat => setRow_other w b b' _ (fun e => hnat (by subst e; exact .inl hb))) (fun _ _ _ _ => rfl)
     ⟨fun _ _ _ e => e, fun m b' e => by
      by_cases hm : m = n
      ·subst hm; rw [hb] at e; cases e; simp [aN]
      ·simp [aN, hm, e], fun m u t' e => ⟨u, t', by
      by_cases hm : m = n
      ·subst hm; rw [hb] at e; cases e
      ·simp [aN, hm, e], .inr ⟨rfl, rfl⟩⟩⟩
     (fun b' o' v hb' e => by
      rcases hb' with hb' | hb'
      ·have := hI.wr.kltb e; omega
      ·rcases hb' with hb' | ⟨u, t', hb', _⟩
       ·rw [hb] at hb'; cases hb'; rw [e4] at e; cases e
       ·rw [hb] at hb'; cases hb')
     h2
     ⟨b, _, by simp [aN], setRow_heap w b _ _ te _ e2, by
      have hle' : G.le ⟨G.K, aN G.ob n (.blk b)⟩ := ⟨fun _ _ _ e => e, fun m b' e => by
       by_cases hm : m = n
       ·subst hm; rw [hb] at e; cases e; simp [aN]
       ·simp [aN, hm, e], fun m u t' e => ⟨u, t', by
       by_cases hm : m = n
       ·subst hm; rw [hb] at e; cases e
       ·simp [aN, hm, e], .inr ⟨rfl, rfl⟩⟩⟩
      refine aB.mono hle' _ _ ?_;rw [hvl];exact ((e3.take off).append hxc).append (e3.drop _), e4⟩
     (fun b' hb' => by
      rcases hb' with hb' | ⟨u, t', hb', _⟩
      ·simp [aN] at hb'; subst hb'; exact .inr (.inl hb)
      ·simp [aN] at hb')
    refine oH hI' ?_ h1 hn;simp only [execOp, hop, hpe, Instr.storeAt, Instr.sureAddr, storeVar, sizeOf, typeInfo, Sem.run_bind, Sem.run_pure, Result.andThen_ok, run_program, hi, hv1, ne_eq, not_true_eq_false, aaW, hrun]
  ·exact h.elim
 ·rename_i n size ver j off he;rw [he] at hp;simp only [Rep] at hp;obtain ⟨_, u0, top, e1, e2, e3⟩ := hp;split at h
  ·rename_i te sz l ver' ho;obtain ⟨hok, hq⟩ := bz h;clear h;rw [co] at hq;obtain ⟨hsz, hq1⟩ := az hq;clear hq;obtain ⟨hce, hq2⟩ := az hq1;clear hq1;simp only [aaq] at hsz;obtain ⟨hsz0, hsz, hpos⟩ := hsz;obtain rfl := aah hsz0;obtain ⟨rfl, hq3⟩ := hq2;obtain ⟨i, d, hi, hd, hs, hby, htd, hag, hz⟩ := bN hT hok;have hsz : ((evA st.slots x).cells.map AV.strip).length = i.size := by rw [← hs]; exact aah hsz
   have hpos : 0 < i.size := by rw [← hs]; simpa [abP] using hpos
   obtain ⟨e, hel, h⟩ := gI.1 hq3;obtain ⟨u, xs, f1, f2, f3, f4, f5⟩ := hI.wr.obj _ _ ho;rw [e1] at f1;injection f1 with f1
   injection f1 with f1 f1'
   subst f1 f1';obtain ⟨g, hg, hpe⟩ := e3 rfl;have hx := hI.eval x;have hnj : evA st.slots x ≠ .junk := by
    intro e;rw [e] at hce;simp [AV.cells, AV.strip, bP, AV.okCell, jd] at hce
   have hxc := (hx.cells hnj).strip;generalize hcdef : (evA st.slots x).cells.map AV.strip = c at h hsz hce hxc;have hone := hxc.one (fun a ha => jJ (fJ.1 hce a ha));have hnil : c ≠ [] := by intro e; rw [e] at hsz; simp at hsz; omega
   have hle := uG hnil h;rw [rp hle] at h;obtain ⟨hfit, h⟩ := h;obtain ⟨objs', h1, h2⟩ := cu h;have hel2 : e.length = sz := (f4 e (aaO hel)).1;have hvl := hxc.length;have hv1 : (a.eval x).cells.size = i.size := by rw [← hsz, ← hvl]; simp
   have hfl := Cr (c := c) (off := off) (fun e he => (f4 e he).1) hel (by omega);have hfll := Jp l sz (fun e he => (f4 e he).1);have hjl : j < l.length := (List.getElem?_eq_some_iff.1 hel).1;have hjb : j * sz + off + c.length ≤ l.length * sz := by
    have : (j + 1) * sz ≤ l.length * sz := abI _ hjl;rw [Nat.succ_mul] at this;omega
   rcases f2.2 with ⟨hu, hz0⟩ | ⟨g', cap, cur, hu, hbase, hgb, r1, r2, r3, r4⟩
   ·omega
   ·rw [hu] at hg;simp only [Value.ownBlock, Option.some.injEq] at hg;subst hg;have hcl : l.length * sz ≤ cur.size := by rw [r3]; exact abI _ r1
    have hrun := run_storeCells_at P g' (j * sz + off) te (a.eval x).cells.toList 0 cur w hgb (by simp only [abM, hv1, ← hsz]; omega) hone;simp only [aa8] at hrun;rw [hvl] at hrun;have hatn : ∀ b, G.at n b ↔ g' = b := fun b => by
     constructor
     ·rintro (h1 | ⟨u1, t1, h1, h2⟩)
      ·rw [e1] at h1; cases h1
      ·rw [e1] at h1; cases h1; rw [hu] at h2; simpa [Value.ownBlock] using h2
     ·rintro rfl; exact .inr ⟨_, _, e1, by rw [hu]; rfl⟩
    have heq : (⟨G.K, aN G.ob n (.rowv u0 top)⟩ : Gh) = G := by
     cases G with
     | mk K ob =>
      congr 1;funext m;by_cases hm : m = n
      ·subst hm; simp only [aN, abq]; exact e1.symm
      ·simp [aN, hm]
    have hxl : xs.length = l.length * sz := f2.1;have hI' := hI.setObj (w' := w.setRow g' (cur.toList.take (j * sz + off) ++ (a.eval x).cells.toList ++ cur.toList.drop (j * sz + off + c.length)).toArray) (n := n)
     (o' := .vec te sz (l.set j (e.take off ++ c ++ e.drop (off + c.length))) top) (objs' := objs') (g := .rowv u0 top) (K' := G.K) ho rfl rfl rfl (by simp)
     (fun b' hb' hnat => setRow_other w g' b' _ (fun e => hnat ((hatn b').2 e.symm))) (fun _ _ _ _ => rfl)
     (by rw [heq]; exact Gh.le.refl G)
     (fun b' o' v hb' e => by
      rcases hb' with hb' | hb'
      ·have := hI.wr.kltb e; omega
      ·have := (hatn b').1 hb';subst this;rw [f5 g' (by rw [hu]; rfl)] at e; cases e)
     h2
     (by
      rw [heq];refine ⟨u0, xs.take (j * sz + off) ++ (a.eval x).cells.toList ++ xs.drop (j * sz + off + c.length), e1, ⟨?_, .inr ⟨g', cap, _, by rw [hu, List.length_set], hbase, setRow_heap w g' _ _ te _ hgb, by rw [List.length_set]; exact r1, r2, ?_, ?_⟩⟩, ?_, ?_, f5⟩
      ·rw [List.length_set];simp only [aac, aan, abk, hvl, hxl];omega
      ·simp only [aa4, aac, aan, abk, hvl, abM, ← r3];omega
      ·rw [List.length_set, ← r4];simp only [abt];apply List.ext_getElem?;intro q;have hcll : cur.toList.length = cur.size := by simp
       rw [List.getElem?_take];by_cases hq : q < l.length * sz
       ·rw [aaz hq];by_cases h3 : q < j * sz + off
        ·rw [aaM (by simp [hvl]; omega), aaM (by simp; omega), aaM (by simp [hvl]; omega), aaM (by simp; omega), abb h3, abb h3, abb hq]
        ·by_cases h4 : q < j * sz + off + c.length
         ·rw [aaM (by simp [hvl]; omega), aaV (by simp; omega), aaM (by simp [hvl]; omega), aaV (by simp; omega)];congr 1;simp; omega
         ·rw [aaV (by simp [hvl]; omega), aaV (by simp [hvl]; omega), abd, abd];have e1 : (cur.toList.take (j * sz + off) ++ (a.eval x).cells.toList).length = j * sz + off + c.length := by simp [hvl]; omega
          have e2 : ((cur.toList.take (l.length * sz)).take (j * sz + off) ++ (a.eval x).cells.toList).length = j * sz + off + c.length := by simp [hvl]; omega
          rw [e1, e2, abb (by omega)]
       ·rw [aap hq, aaP];simp [hvl]; omega
      ·rw [hfl];exact ((f3.take _).append hxc).append (f3.drop _)
      ·intro e' he';rcases List.mem_or_eq_of_mem_set he' with he' | rfl
       ·exact f4 e' he'
       ·refine ⟨by simp; omega, fJ.2 fun a ha => ?_⟩;have hoe := fJ.1 (f4 e (aaO hel)).2;simp only [aaJ] at ha;rcases ha with (ha | ha) | ha
        ·exact hoe a (aaU ha)
        ·exact fJ.1 hce a ha
        ·exact hoe a (abT ha))
     (fun b' hb' => by rw [heq] at hb'; exact .inr hb')
    refine oH hI' ?_ h1 hn;simp only [execOp, hop, hpe, Instr.storeAt, Instr.sureAddr, storeVar, sizeOf, typeInfo, Sem.run_bind, Sem.run_pure, Result.andThen_ok, run_program, hi, hv1, ne_eq, not_true_eq_false, aaW, hrun]
  ·exact h.elim
 ·exact h.elim
theorem LK {P : Program} {t : TypeId} {i : TypeInfo} (hi : P.info? t = some i) (hs : i.size ≠ 0) {w : World} (a : Addr) (f : Field) (hf : f.type = t) : (fieldPlace a f).run P w = .ok (a.add f.offset) w := by
 subst hf;simp [fieldPlace, sizeOf, typeInfo, hi, hs]
theorem uu (hT : cd P T) {t : TypeId} {p : Operand} {f : Nat} (hop : o.op = .fieldAddr t p f) (hI : Inv E st G a w) (h : ck P T an o st k) (hn : fy E k next) : o.wp P a w next Q := by
 unfold ck aQ at h;simp only [hop] at h;have hp := hI.eval p;split at h
 ·rename_i fo ft hfo;obtain ⟨hok, h⟩ := bz h;obtain ⟨hokf, h⟩ := bz h;obtain ⟨hpos, h⟩ := az h;have hpos : 0 < (T.ti ft).size := by simpa [abP] using hpos
  obtain ⟨i, d, hi, hd, hs, hby, htd, hag, hz⟩ := bN hT hok;obtain ⟨i', d', hi', hd', hs', _⟩ := bN hT hokf;unfold nj at hfo;split at hfo
  ·rename_i fs hfs;have : dOf T t = TD.of d := by simp [dOf, hok, htd]
   rw [this] at hfs;obtain ⟨f', rfl, hf'⟩ := nu hfs;rw [← hf'] at hfo;simp only [aaE, aa5] at hfo;obtain ⟨fld, hfl, hfe⟩ := hfo;have hfl' : f'[f]? = some fld := by simpa using hfl
   simp only [Prod.mk.injEq] at hfe;obtain ⟨hfe1, hfe2⟩ := hfe;have hrun : ∀ ad : Addr, (Instr.fieldAt t (.pointer (some ad)) f).run P w = .ok (.pointer (some (ad.add fo))) w := by
    intro ad;have h0 : i'.size ≠ 0 := by omega
    simp [Instr.fieldAt, run_underlying hd, hfl', Instr.sureAddr, LK hi' h0 ad fld hfe2, hfe1]
   split at h
   ·rename_i c off he;rw [he] at hp;simp only [Rep] at hp;obtain ⟨b, o', hpe, hc, hk⟩ := hp;refine ba (x := .pointer (some ⟨b, o' + (off + fo), none⟩)) hI ?_ (by simp only [Rep]; exact ⟨b, o', rfl, hc, hk⟩) h hn;simp [execOp, hop, hpe, hrun, cU, Nat.add_assoc]
   ·rename_i n off he;rw [he] at hp;simp only [Rep] at hp;obtain ⟨b, hb, hpe⟩ := hp;refine ba (x := .pointer (some ⟨b, off + fo, none⟩)) hI ?_ (by simp only [Rep]; exact ⟨b, hb, rfl⟩) h hn;simp [execOp, hop, hpe, hrun, cU]
   ·rename_i n size ver j off he;rw [he] at hp;simp only [Rep] at hp;obtain ⟨⟨ad, hpe⟩, u, top, e1, e2, e3⟩ := hp;refine ba (x := .pointer (some (ad.add fo))) hI ?_ ?_ h hn
    ·simp [execOp, hop, hpe, hrun]
    ·simp only [Rep];refine ⟨⟨_, rfl⟩, u, top, e1, e2, fun e => ?_⟩;obtain ⟨g, h1, h2⟩ := e3 e;rw [hpe] at h2;injection h2 with h2
     injection h2 with h2
     exact ⟨g, h1, by rw [h2, cU, Nat.add_assoc]⟩
   ·exact h.elim
  ·cases hfo
 ·exact h.elim
theorem By (hT : cd P T) {t : TypeId} {x : Operand} {f : Nat} (hop : o.op = .field t x f) (hI : Inv E st G a w) (h : ck P T an o st k) (hn : fy E k next) : o.wp P a w next Q := by
 unfold ck aQ at h;simp only [hop] at h;have hp := hI.eval x;split at h
 ·rename_i fo ft hfo;split at h
  ·rename_i l he;rw [he] at hp;simp only [Rep] at hp;obtain ⟨vs, hpe, hl⟩ := hp;obtain ⟨hok, h⟩ := bz h;obtain ⟨i, d, hi, hd, hs, hby, htd, hag, hz⟩ := bN hT hok;unfold nj at hfo;split at hfo
   ·rename_i fs hfs;have : dOf T t = TD.of d := by simp [dOf, hok, htd]
    rw [this] at hfs;obtain ⟨f', rfl, hf'⟩ := nu hfs;rw [← hf'] at hfo;simp only [aaE, aa5] at hfo;obtain ⟨fld, hfl, hfe⟩ := hfo;have hfl' : f'[f]? = some fld := by simpa using hfl
    simp only [Prod.mk.injEq] at hfe;obtain ⟨hfe1, hfe2⟩ := hfe;rw [jE] at h;have hl' := hl.drop fo;unfold nr at h;split at h
    ·rename_i hokf;obtain ⟨i', d', hi', hd', hs', _, _, hag', _⟩ := bN hT hokf;split at h
     ·rename_i ha;rw [mT] at h;obtain ⟨hle, hk⟩ := h;rw [hag'] at ha;refine ba (x := .agg ((vs.drop fo).take (T.ti ft).size).toArray) hI ?_ (by simp only [Rep]; exact ⟨_, rfl, hl'.take _⟩) hk hn;simp [execOp, hop, hpe, Instr.field, run_underlying hd, hfl', part, asAgg, hfe2, jU hd', ha, sizeOf, typeInfo, hi', hfe1, hs', List.extract_eq_take_drop]
     ·rename_i ha;rw [hag'] at ha;split at h
      ·rename_i y ys hys;rw [iY] at h;rw [hys] at hl';simp only [aB] at hl';obtain ⟨v, us, hve, h1, h2⟩ := hl';refine ba (x := v) hI ?_ h1 h hn;have hv : vs[fo]? = some v := by
        have := congrArg (fun l => l[0]?) hve;simpa using this
       simp [execOp, hop, hpe, Instr.field, run_underlying hd, hfl', part, asAgg, hfe2, jU hd', ha, hfe1, hv]
      ·exact h.elim
    ·exact h.elim
   ·cases hfo
  ·exact h.elim
 ·exact h.elim
end
end Go.Abs
