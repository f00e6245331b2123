/- The engine, B7. -/
import Derived.Test.YtnjeogcgfoabhaaGreatE0BN
set_option linter.unusedVariables false
set_option linter.unusedSimpArgs false
namespace Go.Abs
open Go
section
variable {P : Program} {T : Tab} {an : Ann} {E : dQ} {st : St} {G : Gh} {a : Act} {w : World} {o : Oper} {k : St → Prop} {next : Act → World → Prop} {Q : Exit → Act → World → Prop}
theorem fw.del {es : List (ByteArray × AV)} {ms : List MapEntry} (h : fw G es ms) {s : ByteArray} : (∃ j m, Instr.findNow .string (.string s) ms 0 = some (some (j, m)) ∧ j < ms.length ∧ fw G (jA es s) (ms.eraseIdx j)) ∨
  (Instr.findNow .string (.string s) ms 0 = some none ∧ jA es s = es) := by
 have key : ∀ (es : List (ByteArray × AV)) (ms : List MapEntry) (i : Nat), fw G es ms →
   (∃ j m, Instr.findNow .string (.string s) ms i = some (some (i + j, m)) ∧ j < ms.length ∧ fw G (jA es s) (ms.eraseIdx j)) ∨
   (Instr.findNow .string (.string s) ms i = some none ∧ jA es s = es) := by
  intro es
  induction es with
  | nil => intro ms i h; cases ms with
   | nil => exact .inr ⟨rfl, rfl⟩
   | cons m ms => exact h.elim
  | cons e es ih => intro ms i h; cases ms with
   | nil => exact h.elim
   | cons m ms =>
    obtain ⟨s', u⟩ := e;obtain ⟨⟨h1, h2⟩, h3, h4⟩ := h;by_cases hs : s' = s
    ·subst hs;exact .inl ⟨0, m.val, by simp [Instr.findNow, h1, Instr.sameNow, qW], by simp, by simpa [jA] using h4⟩
    ·have hb : (s == s') = false := by
      rw [qW]; simpa using fun e : s = s' => hs e.symm
     rcases ih ms (i + 1) h4 with ⟨j, m', g1, g2, g4⟩ | ⟨g1, g2⟩
     ·refine .inl ⟨j + 1, m', by simp [Instr.findNow, h1, Instr.sameNow, hb, g1]; omega, by simpa using g2, ?_⟩;simp only [jA, hs, aaW, List.eraseIdx_cons_succ];exact ⟨⟨h1, h2⟩, h3, g4⟩
     ·exact .inr ⟨by simp [Instr.findNow, h1, Instr.sameNow, hb, g1], by simp [jA, hs, g2]⟩
 have := key es ms 0 h;simpa using this
theorem QY {c : Array Operand} {x : Operand} (h : c.toList = [x]) : c = #[x] := by rw [← abO, h]
theorem Db {c : Array Operand} {x y : Operand} (h : c.toList = [x, y]) : c = #[x, y] := by rw [← abO, h]
theorem TE {c : Array TypeId} {x : TypeId} (h : c.toList = [x]) : c = #[x] := by rw [← abO, h]
theorem NX {c : Array TypeId} {x y : TypeId} (h : c.toList = [x, y]) : c = #[x, y] := by rw [← abO, h]
theorem ix {g : FuncId} {args : Array Value} (h : su P g = true) : (callFunc g args).run P w = .ok (.enter g args) w := by
 unfold su at h;split at h
 ·rename_i fn hfn;simp only [aaq, Bool.not_eq_true'] at h;obtain ⟨h1, h2⟩ := h;have h1' : fn.name ≠ "runtime.NumGoroutine" := by simpa using h1
  have h2' : fn.body ≠ none := by
   intro e; rw [e] at h2; cases h2
  simp [callFunc, hfn, h1', h2']
 ·cases h
theorem IF {d : Nat} {ns : List Nm} {k : Nat} {objs : List (Nm × aE)} (hnd : ns.Nodup) (hl : ∀ n ∈ ns, ∃ o, ax objs n = some o) (hf : ∀ i, ns.length ≤ i → i < k → ax objs (dI d ns 0 i) = none)
  {i j : Nat} (hi : i < k) (hj : j < k) (e : dI d ns 0 i = dI d ns 0 j) : i = j := by
 have low : ∀ i, i < ns.length → ∃ n, ns[i]? = some n ∧ dI d ns 0 i = n := fun i hi => ⟨ns[i], aad hi, pz (aad hi)⟩;rcases aaN i ns.length with h1 | h1 <;> rcases aaN j ns.length with h2 | h2
 ·obtain ⟨n, e1, e2⟩ := low i h1;obtain ⟨m, e3, e4⟩ := low j h2;rw [e2, e4] at e;subst e;rw [← nf hnd e1, ← nf hnd e3]
 ·obtain ⟨n, e1, e2⟩ := low i h1;obtain ⟨o, ho⟩ := hl n (aaO e1);rw [← e2, e, hf j h2 hj] at ho
  cases ho
 ·obtain ⟨n, e1, e2⟩ := low j h2;obtain ⟨o, ho⟩ := hl n (aaO e1);rw [← e2, ← e, hf i h1 hi] at ho
  cases ho
 ·rw [C8 h1, C8 h2] at e;have e : (2 * d + 200000 * (0 + (i - ns.length) + 1) + 65 : Nat) = 2 * d + 200000 * (0 + (j - ns.length) + 1) + 65 := e;omega
theorem Inv.back (hI : Inv E st G a w) {ns : List Nm} {os' : List aE} {d : Nat} {objs' : List (Nm × aE)} {G' : Gh} {w' : World} (hnd : ns.Nodup) (hl : ∀ n ∈ ns, ∃ o, ax st.objs n = some o)
  (g2 : ns.length ≤ os'.length) (g3 : ∀ (i : Nat) (o : aE), os'[i]? = some o → ax objs' (dI d ns 0 i) = some (rD (dI d ns 0) o))
  (g4 : ∀ m, (∀ i, i < os'.length → dI d ns 0 i ≠ m) → ax objs' m = ax st.objs m) (g5 : ∀ i, ns.length ≤ i → i < os'.length → ax st.objs (dI d ns 0 i) = none)
  (hW : WR G' (bC 0 os') w') (hle : (G.part ns).le G') (hext : Ext (fun b => ∃ n, (G.part ns).at n b) G.K w G'.K w') (hnew : ∀ n b, G'.at n b → (∃ m, (G.part ns).at m b) ∨ w.heap.size ≤ b)
  (hcl : ∀ (i : Nat) (o : aE), os'[i]? = some o → ∀ m ∈ ce o, m < os'.length) : ∃ G2 : Gh, Inv E ⟨st.slots, objs'⟩ G2 a w' ∧ G2.K = G'.K ∧ ∀ i, i < os'.length → G2.ob (dI d ns 0 i) = G'.ob i := by
 classical
 let bk := dI d ns 0
 have inj : ∀ {i j}, i < os'.length → j < os'.length → bk i = bk j → i = j := fun hi hj e => IF hnd hl g5 hi hj e
 let ob2 : Nm → Option GO := fun m => if h : ∃ i, i < os'.length ∧ bk i = m then G'.ob h.choose else G.ob m
 have ob_bk : ∀ i, i < os'.length → ob2 (bk i) = G'.ob i := by
  intro i hi;have h : ∃ j, j < os'.length ∧ bk j = bk i := ⟨i, hi, rfl⟩;simp only [ob2, h, dif_pos];rw [inj h.choose_spec.1 hi h.choose_spec.2]
 have ob_old : ∀ m, (¬ ∃ i, i < os'.length ∧ bk i = m) → ob2 m = G.ob m := fun m h => by simp only [ob2, h, dif_neg, not_false_eq_true]
 have inside : ∀ i g, G'.ob i = some g → i < os'.length := fun i g hg => by
  obtain ⟨o, ho⟩ := hW.dom i g hg;rw [bU] at ho;exact (List.getElem?_eq_some_iff.1 ho).1
 let G2 : Gh := ⟨G'.K, ob2⟩
 have at_bk : ∀ {i b}, i < os'.length → G2.at (bk i) b → G'.at i b := by
  intro i b hi h;rcases h with h | ⟨u, t, h, hu⟩
  ·exact .inl (by rw [← ob_bk i hi]; exact h)
  ·exact .inr ⟨u, t, by rw [← ob_bk i hi]; exact h, hu⟩
 have at_old : ∀ {m b}, (¬ ∃ i, i < os'.length ∧ bk i = m) → G2.at m b → G.at m b := by
  intro m b hm h;rcases h with h | ⟨u, t, h, hu⟩
  ·exact .inl (by rw [← ob_old m hm]; exact h)
  ·exact .inr ⟨u, t, by rw [← ob_old m hm]; exact h, hu⟩
 have part_old : ∀ {b}, (∃ n, (G.part ns).at n b) → ∃ n ∈ ns, G.at n b := by
  rintro b ⟨i, h⟩;obtain ⟨n, h1, h2⟩ := Gh.part_at h;exact ⟨n, aaO h1, h2⟩
 have live_lt : ∀ {m b}, G.at m b → b < w.heap.size := by
  intro m b h;have : ∃ g, G.ob m = some g := by rcases h with h | ⟨u, t, h, _⟩ <;> exact ⟨_, h⟩
  obtain ⟨g, hg⟩ := this;obtain ⟨o, ho⟩ := hI.wr.dom m g hg;exact (hI.wr.obj m o ho).lt h
 have old_ne : ∀ {n m}, n ∈ ns → (¬ ∃ i, i < os'.length ∧ bk i = m) → n ≠ m := by
  rintro n m hn hm rfl;obtain ⟨i, hi⟩ := List.getElem?_of_mem hn;exact hm ⟨i, aaX (List.getElem?_eq_some_iff.1 hi).1 g2, pz hi⟩
 have hKle : ∀ b o v, G.K b o = some v → G'.K b o = some v := hle.K;have le2 : G.le G2 := by
  refine ⟨hKle, fun n b hb => ?_, fun n u t hb => ?_⟩
  ·show ob2 n = _;by_cases h : ∃ i, i < os'.length ∧ bk i = n
   ·obtain ⟨i, hi, rfl⟩ := h;rw [ob_bk i hi];rcases aaN i ns.length with h1 | h1
    ·have e : bk i = ns[i] := pz (aad h1);rw [e] at hb;exact hle.blk i b (by simp [Gh.part, aad h1, hb])
    ·obtain ⟨o, ho⟩ := hI.wr.dom _ _ hb;rw [g5 i h1 hi] at ho
     cases ho
   ·rw [ob_old n h]; exact hb
  ·show ∃ u' t', ob2 n = _ ∧ _;by_cases h : ∃ i, i < os'.length ∧ bk i = n
   ·obtain ⟨i, hi, rfl⟩ := h;rw [ob_bk i hi];rcases aaN i ns.length with h1 | h1
    ·have e : bk i = ns[i] := pz (aad h1);rw [e] at hb;exact hle.row i u t (by simp [Gh.part, aad h1, hb])
    ·obtain ⟨o, ho⟩ := hI.wr.dom _ _ hb;rw [g5 i h1 hi] at ho
     cases ho
   ·rw [ob_old n h]; exact ⟨u, t, hb, .inr ⟨rfl, rfl⟩⟩
 refine ⟨G2, ⟨aB.mono le2 _ _ hI.slots, hI.defers.keep (fun D hD hn => hext.block D hD (fun hp => let ⟨n, _, hnb⟩ := part_old hp; hn n hnb)) (fun m D hD hm => ?_), ⟨hW.know, fun m o ho => ?_, fun m g hg => ?_, fun n m b hn hm => ?_, hW.glob⟩, hI.le.trans le2, ⟨?_, ?_, ?_, ?_, ?_, ?_⟩, fun m b hm => ?_⟩, rfl, ob_bk⟩
 ·by_cases h : ∃ i, i < os'.length ∧ bk i = m
  ·obtain ⟨i, hi, rfl⟩ := h;rcases hnew i D (at_bk hi hm) with hp | hb
   ·obtain ⟨n, _, hnb⟩ := part_old hp;exact ⟨n, hnb⟩
   ·omega
  ·exact ⟨m, at_old h hm⟩
 ·by_cases h : ∃ i, i < os'.length ∧ bk i = m
  ·obtain ⟨i, hi, rfl⟩ := h;rw [g3 i _ (aad hi)] at ho
   cases ho;have := hW.obj i os'[i] (by rw [bU]; exact aad hi);exact this.rename (G' := G2) (r := bk) rfl (ob_bk i hi) (fun m hm => ob_bk m (hcl i _ (aad hi) m hm))
  ·rw [g4 m (fun i hi e => h ⟨i, hi, e⟩)] at ho;refine (hI.wr.obj m o ho).keep le2 (ob_old m h) fun b hb => ?_;have hlt := live_lt hb;have hT : ¬ ∃ n, (G.part ns).at n b := fun hp => by
    obtain ⟨n, hn, hnb⟩ := part_old hp;exact old_ne hn h (hI.wr.apart n m b hnb hb)
   exact ⟨hext.block b hlt hT, fun o => hext.knew b o hlt hT⟩
 ·by_cases h : ∃ i, i < os'.length ∧ bk i = m
  ·obtain ⟨i, hi, rfl⟩ := h;exact ⟨_, g3 i _ (aad hi)⟩
  ·have hg : ob2 m = some g := hg;rw [ob_old m h] at hg;obtain ⟨o, ho⟩ := hI.wr.dom m g hg;exact ⟨o, by rw [g4 m (fun i hi e => h ⟨i, hi, e⟩)]; exact ho⟩
 ·have mixed : ∀ {i m}, i < os'.length → (¬ ∃ i, i < os'.length ∧ bk i = m) → G'.at i b → G.at m b → False := by
   intro i m hi hm h1 h2;rcases hnew i b h1 with hp | hb
   ·obtain ⟨n, hn, hnb⟩ := part_old hp;exact old_ne hn hm (hI.wr.apart n m b hnb h2)
   ·have := live_lt h2;omega
  by_cases h1 : ∃ i, i < os'.length ∧ bk i = n <;> by_cases h2 : ∃ i, i < os'.length ∧ bk i = m
  ·obtain ⟨i, hi, rfl⟩ := h1;obtain ⟨j, hj, rfl⟩ := h2;rw [hW.apart i j b (at_bk hi hn) (at_bk hj hm)]
  ·obtain ⟨i, hi, rfl⟩ := h1;exact (mixed hi h2 (at_bk hi hn) (at_old h2 hm)).elim
  ·obtain ⟨i, hi, rfl⟩ := h2;exact (mixed hi h1 (at_bk hi hm) (at_old h1 hn)).elim
  ·exact hI.wr.apart n m b (at_old h1 hn) (at_old h2 hm)
 ·rw [hext.os, hI.ext.os]
 ·rw [hext.tape, hI.ext.tape]
 ·rw [hext.output, hI.ext.output]
 ·exact aba hI.ext.size hext.size
 ·intro b hb hT;have hlt := aaX hb hI.ext.size;rw [hext.block b hlt (fun hp => ?_), hI.ext.block b hb hT];obtain ⟨n, hn, hnb⟩ := part_old hp;rcases hI.newb n b hnb with h | h
  ·exact hT h
  ·omega
 ·intro b o hb hT;have hlt := aaX hb hI.ext.size;show G'.K b o = _;rw [hext.knew b o hlt (fun hp => ?_), hI.ext.knew b o hb hT];obtain ⟨n, hn, hnb⟩ := part_old hp;rcases hI.newb n b hnb with h | h
  ·exact hT h
  ·omega
 ·by_cases h : ∃ i, i < os'.length ∧ bk i = m
  ·obtain ⟨i, hi, rfl⟩ := h;rcases hnew i b (at_bk hi hm) with hp | hb
   ·obtain ⟨n, hn, hnb⟩ := part_old hp;exact hI.newb n b hnb
   ·exact .inr (aba hI.ext.size hb)
  ·exact hI.newb m b (at_old h hm)
theorem u7 {l : List AV} {vs : List Value} (h : aB G l vs) : aB G (l.map AV.strips) vs := by
 induction l generalizing vs with
 | nil => exact h
 | cons a l ih =>
  simp only [aB] at h;obtain ⟨v, us, rfl, h1, h2⟩ := h;simp only [aaF, aB];exact ⟨v, us, rfl, pc h1, ih h2⟩
theorem rL (hI : Inv E st G a w) (l : List Operand) (b : Bool) : aB G (match b with | true => l.map (evA st.slots) | false => (l.map (evA st.slots)).map AV.strips) (l.map a.eval) := by
 cases b
 ·exact u7 (hI.evals l)
 ·exact hI.evals l
theorem DY (hT : cd P T) {c : Call} (hop : o.op = .call c) (hI : Inv E st G a w) (h : ck P T an o st k) (hn : fy E k next) : o.wp P a w next Q := by
 unfold ck aQ at h;simp only [hop] at h;split at h
 ·-- a function value
  rename_i f hcal;have hf := hI.eval f;split at h
  ·rename_i g first cap hfe
   rw [hfe] at hf;simp only [Rep] at hf;obtain ⟨vs, us, hfv, hl1, hl2⟩ := hf;rw [co] at h;obtain ⟨hcan, h⟩ := az h;have hcan := hT.fn g hcan;have hargs := (hl1.append (rL hI c.args.toList (Ep an o.dst))).append hl2;have hrun : (execOp a.eval o).run P w = .ok (.enter g (vs ++ c.args.toList.map a.eval ++ us).toArray) w := by
    have harr : vs.toArray ++ Array.map a.eval c.args ++ us.toArray = (vs ++ c.args.toList.map a.eval ++ us).toArray := by simp [← abO]
    simp only [execOp, hop, resolve, hcal, Deferred.ofValue, hfv, invoke, Sem.run_bind, Sem.run_pure, Result.andThen_ok, ix hcan, harr]
   obtain ⟨os, h, hnd, hlen, hlive, hWR, _⟩ := qD h hI.wr;obtain ⟨hsub, h⟩ := az h;rw [co] at h;rw [oP] at hsub;have hRL := aB.rename (G := G) (G' := G.part _) (fun _ _ _ e => e) _ _ (fun n hn => Gh.part_idx hnd (hsub n hn)) hargs;have hcall := h.run (G.part _) w _ hWR hRL;unfold Oper.wp;rw [hrun, Oper.upon_enter];refine hcall.mono ?_;rintro e w' ⟨v, r, os', G', rfl, hR, hRep, hWR', hle, hext, hnew, hcl, hrn⟩;obtain ⟨objs', hR, g2, g3, g4, g5⟩ := Fs hnd hlive hR;obtain ⟨G2, hI2, hK2, hob2⟩ := hI.back hnd hlive g2 g3 g4 g5 hWR' hle hext hnew hcl;exact jW hI2 (Rep.rename (fun b o v e => by rw [hK2]; exact e) _ _ (fun n hn => hob2 n (hrn n hn)) hRep) hR hn
  ·exact h.elim
 ·-- a builtin
  rename_i b hcal;split at h
  ·rename_i x t ha ht;have ha := QY ha;have ht := TE ht;obtain ⟨hlt, h⟩ := az h;split at h
   ·rename_i n hn';have hne : dOf T t ≠ .other := by
     intro e; rw [e] at hlt; simp [qb] at hlt
    obtain ⟨i, d, hi, hd, _, _, htd, _, _⟩ := fc hT hne;rw [htd] at hlt;have hr := Hg (ty := o.type) (hI.eval x) hI hd hlt hn';refine ba (x := .int .i64 n) hI ?_ (by simp only [Rep]) h hn;simp [execOp, hop, resolve, hcal, ha, ht, invoke, builtin, hr]
   ·exact h.elim
  ·rename_i s x t t2 ha ht;have ha := Db ha;have ht := NX ht;split at h
   ·rename_i d htt hd;obtain rfl := aah htt;split at h
    ·obtain ⟨u', w', v, objs', G', hr, hK, hI', hRep⟩ := xd (ty := o.type) hT hI h;refine cQ hI' ?_ hRep hK hn;simp [execOp, hop, resolve, hcal, ha, ht, invoke, builtin, hr]
    ·obtain ⟨u', w', v, objs', G', hr, hK, hI', hRep⟩ := zx (ty := o.type) hT hI h;refine cQ hI' ?_ hRep hK hn;simp [execOp, hop, resolve, hcal, ha, ht, invoke, builtin, hr]
   ·rename_i d htt hd;obtain ⟨u', w', v, objs', G', hr, hK, hI', hRep⟩ := xe (ty := o.type) hT hI h;refine cQ hI' ?_ hRep hK hn;simp [execOp, hop, resolve, hcal, ha, ht, invoke, builtin, hr]
   ·exact h.elim
  ·rename_i m x t t2 ha ht;have ha := Db ha;have ht := NX ht;have hm := hI.eval m;have hx := hI.eval x;split at h
   ·rename_i kt e hde;obtain ⟨inf, d, hinf, hd, htd⟩ := cB hT hde (by simp);obtain rfl := q9 htd;split at h
    ·rename_i hdk;obtain ⟨infk, dk, hinfk, hdkk, htdk⟩ := cB hT hdk (by simp);obtain rfl := dP htdk;split at h
     ·rename_i n s hme hxe;rw [hme] at hm;rw [hxe] at hx;simp only [Rep] at hm hx;obtain ⟨b, hb, hmv⟩ := hm;split at h
      ·rename_i es ho;obtain ⟨objs', g1, g2⟩ := cu h;obtain ⟨b', ms, cl, e1, e2, e3, e4, e5⟩ := hI.obj_map ho;rw [hb] at e1; cases e1;rcases e3.del (s := s) with ⟨j, m', f1, f2, f4⟩ | ⟨f1, f2⟩
       ·have hI' := hI.setMap (ms' := ms.eraseIdxIfInBounds j) (cl' := cl) ho hb e2 e4 (e5.erase j) (by simpa using f4) g2;refine cQ (x := .tuple #[]) hI' ?_ (by simp only [Rep]) g1 hn;simp [execOp, hop, resolve, hcal, ha, ht, invoke, builtin, Builtin.delete_, run_underlying hd, hmv, hx, jV e2, iw hdkk, ji hdkk f1, nE e2]
       ·have hI' := hI.setMap (ms' := ms) (cl' := cl) ho hb e2 e4 e5 (by rw [f2]; exact e3) g2;refine cQ (x := .tuple #[]) hI' ?_ (by simp only [Rep]) g1 hn;simp [execOp, hop, resolve, hcal, ha, ht, invoke, builtin, Builtin.delete_, run_underlying hd, hmv, hx, jV e2, iw hdkk, ji hdkk f1, nE e2]
      ·exact h.elim
     ·exact h.elim
    ·exact h.elim
   ·exact h.elim
  ·rename_i x y t t2 ha ht;have ha := Db ha;have hx := hI.eval x;have hy := hI.eval y;split at h
   ·rename_i ka m kb n hxe hye;rw [hxe] at hx;rw [hye] at hy;simp only [Rep] at hx hy;obtain ⟨_, h⟩ := az h;refine ba (x := .int ka (if n < m then n else m)) hI ?_ (by simp only [Rep]) h hn;simp [execOp, hop, resolve, hcal, ha, invoke, builtin, Builtin.min_, hx, hy, Builtin.min2]
   ·exact h.elim
  ·rename_i x y t t2 ha ht;have ha := Db ha;have hx := hI.eval x;have hy := hI.eval y;split at h
   ·rename_i ka m kb n hxe hye;rw [hxe] at hx;rw [hye] at hy;simp only [Rep] at hx hy;obtain ⟨_, h⟩ := az h;refine ba (x := .int ka (if m < n then n else m)) hI ?_ (by simp only [Rep]) h hn;simp [execOp, hop, resolve, hcal, ha, invoke, builtin, Builtin.max_, hx, hy, Builtin.max2]
   ·exact h.elim
  ·exact h.elim
 ·exact h.elim
theorem pV (hT : cd P T) {t : TypeId} {x : Operand} (hop : o.op = .makeInterface t x) (hI : Inv E st G a w) (h : ck P T an o st k) (hn : fy E k next) : o.wp P a w next Q := by
 unfold ck aQ at h;simp only [hop] at h;split at h
 ·exact h.elim
 ·exact h.elim
 ·rename_i h1 h2;rw [iY] at h;obtain ⟨i, d, hi, hd, _, _, htd, _, _⟩ := fc hT (t := t) (fun e => h2 e);refine ba (x := .iface t (a.eval x)) hI ?_ (by simp only [Rep]; exact ⟨_, rfl, hI.eval x⟩) h hn;have hni : ∀ ms, d ≠ .interface ms := fun ms e => by subst e; exact h1 (by rw [htd]; rfl)
  cases d <;> first | (simp [execOp, hop, Instr.makeInterface, run_underlying hd]; done) | (exact absurd rfl (hni _))
theorem vM (hT : cd P T) (hI : Inv E st G a w) (h : ck P T an o st k) (hn : fy E k next) : o.wp P a w next Q := by
 cases hop : o.op with
 | move x => (unfold ck aQ at h; simp only [hop] at h; exact ba hI (by simp [execOp, hop]) (hI.eval x) h hn)
 | assign x => (unfold ck aQ at h; simp only [hop] at h; exact ba hI (by simp [execOp, hop]) (hI.eval x) h hn)
 | pick c x y =>
  unfold ck aQ at h;simp only [hop] at h;have hc := hI.eval c;split at h
  ·rename_i b he;rw [he] at hc;simp only [Rep] at hc
   cases b
   ·exact ba hI (by simp [execOp, hop, hc, asBool]) (hI.eval y) h hn
   ·exact ba hI (by simp [execOp, hop, hc, asBool]) (hI.eval x) h hn
  ·exact h.elim
 | binOp op t x y yt =>
  unfold ck aQ at h;simp only [hop] at h;obtain ⟨v, r, h1, h2, h3⟩ := FD (w := w) hT h (hI.eval x) (hI.eval y);refine ba (x := r) hI ?_ h2 h1 hn;have h3 := h3 x y;simp only [execOp, hop];rw [Sem.run_bind, h3];rfl
 | unOp op t x =>
  unfold ck aQ at h;simp only [hop] at h;obtain ⟨v, r, h1, h2, h3⟩ := IJ (P := P) (w := w) h (hI.eval x);exact ba (x := r) hI (by simp [execOp, hop, h3]) h2 h1 hn
 | load t p => exact DW hT hop hI h hn
 | store t p x => exact Bt hT hop hI h hn
 | fieldAddr t p f => exact uu hT hop hI h hn
 | field t x f => exact By hT hop hI h hn
 | indexAddr t x i => exact ut hT hop hI h hn
 | index t x i => exact Bw hT hop hI h hn
 | extract x i => exact xg hop hI h hn
 | build t ps => exact BA hT hop hI h hn
 | buildSlice t n ps => exact sO hT hop hI h hn
 | alloc t => exact BB hT hop hI h hn
 | box t x => exact Hh hop hI h hn
 | nilCheck x => exact vd hop hI h hn
 | makeFunc f x y => exact ve hop hI h hn
 | makeMap t r => exact xf hop hI h hn
 | slice t x lo hi mx => exact Bu hT hop hI h hn
 | convert s d x => exact xh hT hop hI h hn
 | lookup t m x ok => exact zt hT hop hI h hn
 | mapUpdate t m x v => exact uo hT hop hI h hn
 | call c => exact DY hT hop hI h hn
 | makeInterface t x => exact pV hT hop hI h hn
 | _ => (unfold ck aQ at h; simp only [hop] at h)
end
end Go.Abs
