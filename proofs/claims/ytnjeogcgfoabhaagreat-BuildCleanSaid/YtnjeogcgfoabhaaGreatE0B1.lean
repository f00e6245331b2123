/- The engine, B1. -/
import Derived.Test.YtnjeogcgfoabhaaGreatE0A9
set_option linter.unusedVariables false
set_option linter.unusedSimpArgs false
namespace Go.Abs
open Go
theorem ER {α : Type} {size : Nat} : ∀ {l : List (List α)} {i : Nat} {e : List α}, (∀ e ∈ l, e.length = size) → l[i]? = some e → (l.flatten.drop (i * size)).take size = e := by
 intro l
 induction l with
 | nil => intro i e _ he; simp at he
 | cons x l ih =>
  intro i e hl he;have hx : x.length = size := hl x (by simp)
  cases i with
  | zero =>
   simp at he; subst he;simp [← hx]
  | succ i =>
   have := ih (i := i) (e := e) (fun e he => hl e (by simp [he])) (by simpa using he);rw [List.flatten_cons, Nat.succ_mul, List.drop_append, show i * size + size - x.length = i * size by omega, List.drop_eq_nil_of_le (by omega), List.nil_append];exact this
theorem Jq {α : Type} : ∀ (l : List (List α)) (s : Nat), (∀ e ∈ l, e.length = s) → l.flatten.length = l.length * s := by
 intro l s
 induction l with
 | nil => simp
 | cons e l ih => intro h; rw [List.flatten_cons, List.length_append, h e (by simp), ih (fun e' he => h e' (by simp [he])), List.length_cons, Nat.succ_mul]; omega
theorem Cv {α : Type} {size off : Nat} {c : List α} : ∀ {l : List (List α)} {i : Nat} {e : List α}, (∀ e ∈ l, e.length = size) → l[i]? = some e → off + c.length ≤ size →
  (l.set i (e.take off ++ c ++ e.drop (off + c.length))).flatten = l.flatten.take (i * size + off) ++ c ++ l.flatten.drop (i * size + off + c.length) := by
 intro l
 induction l with
 | nil => intro i e _ he; simp at he
 | cons x l ih =>
  intro i e hl he hf;have hx : x.length = size := hl x (by simp)
  cases i with
  | zero =>
   simp at he; subst he;simp only [List.set_cons_zero, List.flatten_cons, Nat.zero_mul, Nat.zero_add];rw [List.take_append_of_le_length (by omega), List.drop_append_of_le_length (by omega)];simp
  | succ i =>
   have := ih (i := i) (e := e) (fun e he => hl e (by simp [he])) (by simpa using he) hf;simp only [List.set_cons_succ, List.flatten_cons, this];rw [show (i + 1) * size + off = x.length + (i * size + off) by rw [Nat.succ_mul]; omega, List.take_length_add_append, show x.length + (i * size + off) + c.length = x.length + (i * size + off + c.length) by omega, List.drop_length_add_append];simp
section
variable {P : Program} {T : Tab} {an : Ann} {E : dY} {st : St} {G : Gh} {a : Act} {w : World} {o : Oper} {k : St → Prop} {next : Act → World → Prop} {Q : Exit → Act → World → Prop}
abbrev fE (E : dY) (k : St → Prop) (next : Act → World → Prop) : Prop := ∀ st' G' a' w', Inv E st' G' a' w' → k st' → next a' w'
theorem cW {v : AV} {x : Value} {st1 : St} {G1 : Gh} {w1 : World} (h : Inv E st1 G1 a w1) (hr : (execOp a.eval o).run P w = .ok (.value x) w1) (hv : Rep G1 v x) (hk : put st1 o.dst v k) (hn : fE E k next) :
  o.wp P a w next Q := by
 unfold Oper.wp;rw [hr, Oper.upon_value];exact kn h hv hk hn
theorem oL {st1 : St} {G1 : Gh} {w1 : World} (h : Inv E st1 G1 a w1) (hr : (execOp a.eval o).run P w = .ok .skip w1) (hk : put st1 o.dst .junk k) (hn : fE E k next) :
  o.wp P a w next Q := by
 unfold Oper.wp;rw [hr, Oper.upon_skip];exact kn h (by simp only [Rep]) hk hn
theorem Inv.obj_cells (h : Inv E st G a w) {n : Nm} {t : TypeId} {l : List AV} (ho : az st.objs n = some (.cells t l)) :
  ∃ b vs, G.ob n = some (.blk b) ∧ w.heap[b]? = some (.cells (List.toArray vs) t (0, 0)) ∧ aB G l vs ∧ ∀ o, G.K b o = none := h.wr.obj n _ ho
theorem DY (hT : cg P T) {t : TypeId} {p : Operand} (hop : o.op = .load t p) (hI : Inv E st G a w) (h : cn P T an o st k) (hn : fE E k next) : o.wp P a w next Q := by
 unfold cn aT at h;simp only [hop] at h;have hp := hI.eval p;split at h
 ·rename_i c off he;rw [he] at hp;simp only [Rep] at hp;obtain ⟨b, o', hpe, hc, hk⟩ := hp;obtain ⟨vs, h1, h2⟩ := (hc.drop off).vals;rw [jQ] at h;obtain ⟨v, x, h3, h4, h5⟩ := kP (w := w) hT h h1 b (o' + off) (fun j v hj => hI.wr.know _ _ _ (h2 j v hj));refine bd hI ?_ h4 h3 hn;simp [execOp, hop, hpe, Instr.loadAt, Instr.sureAddr, h5]
 ·rename_i n off he;rw [he] at hp;simp only [Rep] at hp;obtain ⟨b, hb, hpe⟩ := hp;split at h
  ·rename_i t' l ho;obtain ⟨b', vs, e1, e2, e3, e4⟩ := hI.obj_cells ho;rw [hb] at e1
   cases e1;rw [jQ] at h;obtain ⟨v, x, h3, h4, h5⟩ := kP (w := w) hT h (e3.drop off) b off (fun j v hj => by
    rw [iv e2];rwa [List.getElem?_drop] at hj)
   refine bd hI ?_ h4 h3 hn;simp [execOp, hop, hpe, Instr.loadAt, Instr.sureAddr, h5]
  ·exact h.elim
 ·rename_i n size ver i off he;rw [he] at hp;simp only [Rep] at hp;obtain ⟨_, u, top, e1, e2, e3⟩ := hp;split at h
  ·rename_i te sz l ver' ho;obtain ⟨hsz, h0⟩ := aA h;clear h;obtain rfl := Nat.eq_of_beq_eq_true hsz;obtain ⟨rfl, h0⟩ := h0;obtain ⟨e, hel, h⟩ := gN.1 h0;obtain ⟨u', xs, f1, f2, f3, f4, f5⟩ := hI.wr.obj _ _ ho;rw [e1] at f1;injection f1 with f1
   injection f1 with f1 f1'
   subst f1 f1';obtain ⟨g, hg, hpe⟩ := e3 rfl;have hrow : aB G e ((xs.drop (i * sz)).take sz) := by
    have := (f3.drop (i * sz)).take sz;rwa [ER (fun e he => (f4 e he).1) hel] at this
   rw [jQ] at h;obtain ⟨v, x, h3, h4, h5⟩ := kP (w := w) hT h (hrow.drop off) g (i * sz + off) (fun j v hj => by
    rw [List.getElem?_drop] at hj;have hj2 := (List.getElem?_eq_some_iff.1 hj).1;rw [List.getElem?_take_of_lt (by simp at hj2; omega), List.getElem?_drop] at hj;have := f2.cells hg (i * sz + (off + j)) v hj;rwa [c7, Nat.zero_add, ← Nat.add_assoc] at this)
   refine bd hI ?_ h4 h3 hn;simp [execOp, hop, hpe, Instr.loadAt, Instr.sureAddr, h5]
  ·exact h.elim
 ·exact h.elim
theorem Bw (hT : cg P T) {t : TypeId} {p x : Operand} (hop : o.op = .store t p x) (hI : Inv E st G a w) (h : cn P T an o st k) (hn : fE E k next) : o.wp P a w next Q := by
 unfold cn aT at h;simp only [hop] at h;have hp := hI.eval p;split at h
 ·rename_i n off he;rw [he] at hp;simp only [Rep] at hp;obtain ⟨b, hb, hpe⟩ := hp;split at h
  ·rename_i te l ho;obtain ⟨hok, h⟩ := bC h;rw [cq] at h;obtain ⟨hsz, h⟩ := aA h;obtain ⟨hce, h⟩ := aA h;obtain ⟨i, d, hi, hd, hs, hby, htd, hag, hz⟩ := bP hT hok;have hsz : (evA st.slots x).cells.length = i.size := by rw [← hs]; exact Nat.eq_of_beq_eq_true hsz
   obtain ⟨b', vs, e1, e2, e3, e4⟩ := hI.obj_cells ho;rw [hb] at e1
   cases e1;have hx := hI.eval x;have hnj : evA st.slots x ≠ .junk := by
    intro e;rw [e] at hce;simp [AV.cells, fA, dZ] at hce
   have hxc := hx.cells hnj;have hone := hxc.one (l9.1 hce);by_cases hnil : (evA st.slots x).cells = []
   ·rw [hnil] at h hxc hsz;simp only [sP] at h;obtain ⟨objs', h1, h2⟩ := cw h;have hv0 : (a.eval x).cells.toList = [] := by simpa [aB] using hxc
    have hv1 : (a.eval x).cells.size = i.size := by rw [← hsz]; simpa using congrArg List.length hv0
    refine oL (st1 := ⟨st.slots, objs'⟩) (G1 := G) (w1 := w) ⟨hI.slots, hI.defers, ⟨hI.wr.know, fun m o' e => ?_, fun m g e => ?_, hI.wr.apart, hI.wr.glob⟩, hI.le, hI.ext, hI.newb⟩ ?_ h1 hn
    ·have e : az objs' m = some o' := e;rw [h2 m] at e;by_cases hm : m = n
     ·subst hm; simp at e; subst e; exact hI.wr.obj _ _ ho
     ·simp only [hm, if_false] at e; exact hI.wr.obj m o' e
    ·show ∃ o, az objs' m = some o;rw [h2 m];by_cases hm : m = n
     ·simp [hm]
     ·simp only [hm, if_false]; exact hI.wr.dom m g e
    ·simp [execOp, hop, hpe, Instr.storeAt, Instr.sureAddr, storeVar, sizeOf, typeInfo, hi, hv1, hv0, storeCells]
   ·have hle := uL hnil h;rw [rz hle] at h;obtain ⟨hfit, h⟩ := h;obtain ⟨objs', h1, h2⟩ := cw h;have hvl := hxc.length;have hv1 : (a.eval x).cells.size = i.size := by rw [← hsz, ← hvl]; simp
    have hll := e3.length;have hrun := run_storeCells_at P b off te (a.eval x).cells.toList 0 vs.toArray w e2 (by simp only [List.size_toArray]; omega) hone;simp only [Nat.add_zero, List.toList_toArray] at hrun;have hI' := hI.setObj (w' := w.setRow b (vs.take off ++ (a.eval x).cells.toList ++ vs.drop (off + (a.eval x).cells.toList.length)).toArray) (n := n)
     (o' := .cells te (l.take off ++ (evA st.slots x).cells ++ l.drop (off + (evA st.slots x).cells.length))) (objs' := objs') (g := .blk b) (K' := G.K) ho rfl rfl rfl (by simp)
     (fun b' hb' hnat => setRow_other w b b' _ (fun e => hnat (by subst e; exact .inl hb))) (fun _ _ _ _ => rfl)
     ⟨fun _ _ _ e => e, fun m b' e => by
      by_cases hm : m = n
      ·subst hm; rw [hb] at e; cases e; simp [aN]
      ·simp [aN, hm, e], fun m u t' e => ⟨u, t', by
      by_cases hm : m = n
      ·subst hm; rw [hb] at e; cases e
      ·simp [aN, hm, e], .inr ⟨rfl, rfl⟩⟩⟩
     (fun b' o' v hb' e => by
      rcases hb' with hb' | hb'
      ·have := hI.wr.kltb e; omega
      ·rcases hb' with hb' | ⟨u, t', hb', _⟩
       ·rw [hb] at hb'; cases hb'; rw [e4] at e; cases e
       ·rw [hb] at hb'; cases hb')
     h2
     ⟨b, _, by simp [aN], setRow_heap w b _ _ te _ e2, by
      have hle' : G.le ⟨G.K, aN G.ob n (.blk b)⟩ := ⟨fun _ _ _ e => e, fun m b' e => by
       by_cases hm : m = n
       ·subst hm; rw [hb] at e; cases e; simp [aN]
       ·simp [aN, hm, e], fun m u t' e => ⟨u, t', by
       by_cases hm : m = n
       ·subst hm; rw [hb] at e; cases e
       ·simp [aN, hm, e], .inr ⟨rfl, rfl⟩⟩⟩
      refine aB.mono hle' _ _ ?_;rw [hvl];exact ((e3.take off).append hxc).append (e3.drop _), e4⟩
     (fun b' hb' => by
      rcases hb' with hb' | ⟨u, t', hb', _⟩
      ·simp [aN] at hb'; subst hb'; exact .inr (.inl hb)
      ·simp [aN] at hb')
    refine oL hI' ?_ h1 hn;simp only [execOp, hop, hpe, Instr.storeAt, Instr.sureAddr, storeVar, sizeOf, typeInfo, Sem.run_bind, Sem.run_pure, Result.andThen_ok, run_program, hi, hv1, ne_eq, not_true_eq_false, if_false, hrun]
  ·exact h.elim
 ·rename_i n size ver j off he;rw [he] at hp;simp only [Rep] at hp;obtain ⟨_, u0, top, e1, e2, e3⟩ := hp;split at h
  ·rename_i te sz l ver' ho;obtain ⟨hok, hq⟩ := bC h;clear h;rw [cq] at hq;obtain ⟨hsz, hq1⟩ := aA hq;clear hq;obtain ⟨hce, hq2⟩ := aA hq1;clear hq1;simp only [Bool.and_eq_true] at hsz;obtain ⟨hsz0, hsz, hpos⟩ := hsz;obtain rfl := Nat.eq_of_beq_eq_true hsz0;obtain ⟨rfl, hq3⟩ := hq2;obtain ⟨i, d, hi, hd, hs, hby, htd, hag, hz⟩ := bP hT hok;have hsz : ((evA st.slots x).cells.map AV.strip).length = i.size := by rw [← hs]; exact Nat.eq_of_beq_eq_true hsz
   have hpos : 0 < i.size := by rw [← hs]; simpa [Nat.blt_eq] using hpos
   obtain ⟨e, hel, h⟩ := gN.1 hq3;obtain ⟨u, xs, f1, f2, f3, f4, f5⟩ := hI.wr.obj _ _ ho;rw [e1] at f1;injection f1 with f1
   injection f1 with f1 f1'
   subst f1 f1';obtain ⟨g, hg, hpe⟩ := e3 rfl;have hx := hI.eval x;have hnj : evA st.slots x ≠ .junk := by
    intro e;rw [e] at hce;simp [AV.cells, AV.strip, bU, AV.okCell, jk] at hce
   have hxc := (hx.cells hnj).strip;generalize hcdef : (evA st.slots x).cells.map AV.strip = c at h hsz hce hxc;have hone := hxc.one (fun a ha => jY (fO.1 hce a ha));have hnil : c ≠ [] := by intro e; rw [e] at hsz; simp at hsz; omega
   have hle := uL hnil h;rw [rz hle] at h;obtain ⟨hfit, h⟩ := h;obtain ⟨objs', h1, h2⟩ := cw h;have hel2 : e.length = sz := (f4 e (List.mem_of_getElem? hel)).1;have hvl := hxc.length;have hv1 : (a.eval x).cells.size = i.size := by rw [← hsz, ← hvl]; simp
   have hfl := Cv (c := c) (off := off) (fun e he => (f4 e he).1) hel (by omega);have hfll := Jq l sz (fun e he => (f4 e he).1);have hjl : j < l.length := (List.getElem?_eq_some_iff.1 hel).1;have hjb : j * sz + off + c.length ≤ l.length * sz := by
    have : (j + 1) * sz ≤ l.length * sz := Nat.mul_le_mul_right _ hjl;rw [Nat.succ_mul] at this;omega
   rcases f2.2 with ⟨hu, hz0⟩ | ⟨g', cap, cur, hu, hbase, hgb, r1, r2, r3, r4⟩
   ·omega
   ·rw [hu] at hg;simp only [Value.ownBlock, Option.some.injEq] at hg;subst hg;have hcl : l.length * sz ≤ cur.size := by rw [r3]; exact Nat.mul_le_mul_right _ r1
    have hrun := run_storeCells_at P g' (j * sz + off) te (a.eval x).cells.toList 0 cur w hgb (by simp only [Array.length_toList, hv1, ← hsz]; omega) hone;simp only [Nat.add_zero] at hrun;rw [hvl] at hrun;have hatn : ∀ b, G.at n b ↔ g' = b := fun b => by
     constructor
     ·rintro (h1 | ⟨u1, t1, h1, h2⟩)
      ·rw [e1] at h1; cases h1
      ·rw [e1] at h1; cases h1; rw [hu] at h2; simpa [Value.ownBlock] using h2
     ·rintro rfl; exact .inr ⟨_, _, e1, by rw [hu]; rfl⟩
    have heq : (⟨G.K, aN G.ob n (.rowv u0 top)⟩ : Gh) = G := by
     cases G with
     | mk K ob =>
      congr 1;funext m;by_cases hm : m = n
      ·subst hm; simp only [aN, if_true]; exact e1.symm
      ·simp [aN, hm]
    have hxl : xs.length = l.length * sz := f2.1;have hI' := hI.setObj (w' := w.setRow g' (cur.toList.take (j * sz + off) ++ (a.eval x).cells.toList ++ cur.toList.drop (j * sz + off + c.length)).toArray) (n := n)
     (o' := .vec te sz (l.set j (e.take off ++ c ++ e.drop (off + c.length))) top) (objs' := objs') (g := .rowv u0 top) (K' := G.K) ho rfl rfl rfl (by simp)
     (fun b' hb' hnat => setRow_other w g' b' _ (fun e => hnat ((hatn b').2 e.symm))) (fun _ _ _ _ => rfl)
     (by rw [heq]; exact Gh.le.refl G)
     (fun b' o' v hb' e => by
      rcases hb' with hb' | hb'
      ·have := hI.wr.kltb e; omega
      ·have := (hatn b').1 hb';subst this;rw [f5 g' (by rw [hu]; rfl)] at e; cases e)
     h2
     (by
      rw [heq];refine ⟨u0, xs.take (j * sz + off) ++ (a.eval x).cells.toList ++ xs.drop (j * sz + off + c.length), e1, ⟨?_, .inr ⟨g', cap, _, by rw [hu, List.length_set], hbase, setRow_heap w g' _ _ te _ hgb, by rw [List.length_set]; exact r1, r2, ?_, ?_⟩⟩, ?_, ?_, f5⟩
      ·rw [List.length_set];simp only [List.length_append, List.length_take, List.length_drop, hvl, hxl];omega
      ·simp only [List.size_toArray, List.length_append, List.length_take, List.length_drop, hvl, Array.length_toList, ← r3];omega
      ·rw [List.length_set, ← r4];simp only [List.toList_toArray];apply List.ext_getElem?;intro q;have hcll : cur.toList.length = cur.size := by simp
       rw [List.getElem?_take];by_cases hq : q < l.length * sz
       ·rw [if_pos hq];by_cases h3 : q < j * sz + off
        ·rw [List.getElem?_append_left (by simp [hvl]; omega), List.getElem?_append_left (by simp; omega), List.getElem?_append_left (by simp [hvl]; omega), List.getElem?_append_left (by simp; omega), List.getElem?_take_of_lt h3, List.getElem?_take_of_lt h3, List.getElem?_take_of_lt hq]
        ·by_cases h4 : q < j * sz + off + c.length
         ·rw [List.getElem?_append_left (by simp [hvl]; omega), List.getElem?_append_right (by simp; omega), List.getElem?_append_left (by simp [hvl]; omega), List.getElem?_append_right (by simp; omega)];congr 1;simp; omega
         ·rw [List.getElem?_append_right (by simp [hvl]; omega), List.getElem?_append_right (by simp [hvl]; omega), List.getElem?_drop, List.getElem?_drop];have e1 : (cur.toList.take (j * sz + off) ++ (a.eval x).cells.toList).length = j * sz + off + c.length := by simp [hvl]; omega
          have e2 : ((cur.toList.take (l.length * sz)).take (j * sz + off) ++ (a.eval x).cells.toList).length = j * sz + off + c.length := by simp [hvl]; omega
          rw [e1, e2, List.getElem?_take_of_lt (by omega)]
       ·rw [if_neg hq, List.getElem?_eq_none];simp [hvl]; omega
      ·rw [hfl];exact ((f3.take _).append hxc).append (f3.drop _)
      ·intro e' he';rcases List.mem_or_eq_of_mem_set he' with he' | rfl
       ·exact f4 e' he'
       ·refine ⟨by simp; omega, fO.2 fun a ha => ?_⟩;have hoe := fO.1 (f4 e (List.mem_of_getElem? hel)).2;simp only [List.mem_append] at ha;rcases ha with (ha | ha) | ha
        ·exact hoe a (List.mem_of_mem_take ha)
        ·exact fO.1 hce a ha
        ·exact hoe a (List.mem_of_mem_drop ha))
     (fun b' hb' => by rw [heq] at hb'; exact .inr hb')
    refine oL hI' ?_ h1 hn;simp only [execOp, hop, hpe, Instr.storeAt, Instr.sureAddr, storeVar, sizeOf, typeInfo, Sem.run_bind, Sem.run_pure, Result.andThen_ok, run_program, hi, hv1, ne_eq, not_true_eq_false, if_false, hrun]
  ·exact h.elim
 ·exact h.elim
theorem LK {P : Program} {t : TypeId} {i : TypeInfo} (hi : P.info? t = some i) (hs : i.size ≠ 0) {w : World} (a : Addr) (f : Field) (hf : f.type = t) : (fieldPlace a f).run P w = .ok (a.add f.offset) w := by
 subst hf;simp [fieldPlace, sizeOf, typeInfo, hi, hs]
theorem uA (hT : cg P T) {t : TypeId} {p : Operand} {f : Nat} (hop : o.op = .fieldAddr t p f) (hI : Inv E st G a w) (h : cn P T an o st k) (hn : fE E k next) : o.wp P a w next Q := by
 unfold cn aT at h;simp only [hop] at h;have hp := hI.eval p;split at h
 ·rename_i fo ft hfo;obtain ⟨hok, h⟩ := bC h;obtain ⟨hokf, h⟩ := bC h;obtain ⟨hpos, h⟩ := aA h;have hpos : 0 < (T.ti ft).size := by simpa [Nat.blt_eq] using hpos
  obtain ⟨i, d, hi, hd, hs, hby, htd, hag, hz⟩ := bP hT hok;obtain ⟨i', d', hi', hd', hs', _⟩ := bP hT hokf;unfold nw at hfo;split at hfo
  ·rename_i fs hfs;have : dOf T t = TD.of d := by simp [dOf, hok, htd]
   rw [this] at hfs;obtain ⟨f', rfl, hf'⟩ := nD hfs;rw [← hf'] at hfo;simp only [List.getElem?_map, Option.map_eq_some_iff] at hfo;obtain ⟨fld, hfl, hfe⟩ := hfo;have hfl' : f'[f]? = some fld := by simpa using hfl
   simp only [Prod.mk.injEq] at hfe;obtain ⟨hfe1, hfe2⟩ := hfe;have hrun : ∀ ad : Addr, (Instr.fieldAt t (.pointer (some ad)) f).run P w = .ok (.pointer (some (ad.add fo))) w := by
    intro ad;have h0 : i'.size ≠ 0 := by omega
    simp [Instr.fieldAt, run_underlying hd, hfl', Instr.sureAddr, LK hi' h0 ad fld hfe2, hfe1]
   split at h
   ·rename_i c off he;rw [he] at hp;simp only [Rep] at hp;obtain ⟨b, o', hpe, hc, hk⟩ := hp;refine bd (x := .pointer (some ⟨b, o' + (off + fo), none⟩)) hI ?_ (by simp only [Rep]; exact ⟨b, o', rfl, hc, hk⟩) h hn;simp [execOp, hop, hpe, hrun, c7, Nat.add_assoc]
   ·rename_i n off he;rw [he] at hp;simp only [Rep] at hp;obtain ⟨b, hb, hpe⟩ := hp;refine bd (x := .pointer (some ⟨b, off + fo, none⟩)) hI ?_ (by simp only [Rep]; exact ⟨b, hb, rfl⟩) h hn;simp [execOp, hop, hpe, hrun, c7]
   ·rename_i n size ver j off he;rw [he] at hp;simp only [Rep] at hp;obtain ⟨⟨ad, hpe⟩, u, top, e1, e2, e3⟩ := hp;refine bd (x := .pointer (some (ad.add fo))) hI ?_ ?_ h hn
    ·simp [execOp, hop, hpe, hrun]
    ·simp only [Rep];refine ⟨⟨_, rfl⟩, u, top, e1, e2, fun e => ?_⟩;obtain ⟨g, h1, h2⟩ := e3 e;rw [hpe] at h2;injection h2 with h2
     injection h2 with h2
     exact ⟨g, h1, by rw [h2, c7, Nat.add_assoc]⟩
   ·exact h.elim
  ·cases hfo
 ·exact h.elim
theorem BB (hT : cg P T) {t : TypeId} {x : Operand} {f : Nat} (hop : o.op = .field t x f) (hI : Inv E st G a w) (h : cn P T an o st k) (hn : fE E k next) : o.wp P a w next Q := by
 unfold cn aT at h;simp only [hop] at h;have hp := hI.eval x;split at h
 ·rename_i fo ft hfo;split at h
  ·rename_i l he;rw [he] at hp;simp only [Rep] at hp;obtain ⟨vs, hpe, hl⟩ := hp;obtain ⟨hok, h⟩ := bC h;obtain ⟨i, d, hi, hd, hs, hby, htd, hag, hz⟩ := bP hT hok;unfold nw at hfo;split at hfo
   ·rename_i fs hfs;have : dOf T t = TD.of d := by simp [dOf, hok, htd]
    rw [this] at hfs;obtain ⟨f', rfl, hf'⟩ := nD hfs;rw [← hf'] at hfo;simp only [List.getElem?_map, Option.map_eq_some_iff] at hfo;obtain ⟨fld, hfl, hfe⟩ := hfo;have hfl' : f'[f]? = some fld := by simpa using hfl
    simp only [Prod.mk.injEq] at hfe;obtain ⟨hfe1, hfe2⟩ := hfe;rw [jQ] at h;have hl' := hl.drop fo;unfold nB at h;split at h
    ·rename_i hokf;obtain ⟨i', d', hi', hd', hs', _, _, hag', _⟩ := bP hT hokf;split at h
     ·rename_i ha;rw [m7] at h;obtain ⟨hle, hk⟩ := h;rw [hag'] at ha;refine bd (x := .agg ((vs.drop fo).take (T.ti ft).size).toArray) hI ?_ (by simp only [Rep]; exact ⟨_, rfl, hl'.take _⟩) hk hn;simp [execOp, hop, hpe, Instr.field, run_underlying hd, hfl', part, asAgg, hfe2, kj hd', ha, sizeOf, typeInfo, hi', hfe1, hs', List.extract_eq_take_drop]
     ·rename_i ha;rw [hag'] at ha;split at h
      ·rename_i y ys hys;rw [i6] at h;rw [hys] at hl';simp only [aB] at hl';obtain ⟨v, us, hve, h1, h2⟩ := hl';refine bd (x := v) hI ?_ h1 h hn;have hv : vs[fo]? = some v := by
        have := congrArg (fun l => l[0]?) hve;simpa using this
       simp [execOp, hop, hpe, Instr.field, run_underlying hd, hfl', part, asAgg, hfe2, kj hd', ha, hfe1, hv]
      ·exact h.elim
    ·exact h.elim
   ·cases hfo
  ·exact h.elim
 ·exact h.elim
end
end Go.Abs
