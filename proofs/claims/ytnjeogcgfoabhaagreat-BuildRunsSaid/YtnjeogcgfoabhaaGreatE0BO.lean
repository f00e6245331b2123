/- The engine, BO. -/
import Derived.Test.YtnjeogcgfoabhaaGreatE0B7
import Derived.Maps.RangeRun
set_option linter.unusedVariables false
set_option linter.unusedSimpArgs false
namespace Go.Abs
open Go
section
variable {P : Program} {T : Tab} {an : Ann} {E : dQ} {st : St} {G : Gh} {a : Act} {w : World} {o : Oper} {k : St → Prop} {next : Act → World → Prop} {Q : Exit → Act → World → Prop}
theorem fw.length {es : List (ByteArray × AV)} {ms : List MapEntry} (h : fw G es ms) : es.length = ms.length := by
 induction es generalizing ms with
 | nil => cases ms with
  | nil => rfl
  | cons m ms => exact h.elim
 | cons e es ih => cases ms with
  | nil => exact h.elim
  | cons m ms => simp [ih h.2.2]
theorem fw.get {es : List (ByteArray × AV)} {ms : List MapEntry} (h : fw G es ms) {i : Nat} {m : MapEntry} (hm : ms[i]? = some m) : ∃ e, es[i]? = some e ∧ m.key = .string e.1 ∧ Rep G e.2 m.val := by
 induction es generalizing ms i with
 | nil => cases ms with
  | nil => simp at hm
  | cons m ms => exact h.elim
 | cons e es ih => cases ms with
  | nil => exact h.elim
  | cons m' ms => cases i with
   | zero => simp at hm; subst hm; exact ⟨e, rfl, h.1.1, h.2.1⟩
   | succ i =>
    obtain ⟨e', h1, h2⟩ := ih h.2.2 (i := i) (by simpa using hm);exact ⟨e', by simpa using h1, h2⟩
theorem Inv.retell (hI : Inv E st G a w) {n : Nm} {o o' : aE} {objs' : List (Nm × aE)} {b : Nat} (ho : ax st.objs n = some o) (hb : G.ob n = some (.blk b)) (hobjs : ∀ m, ax objs' m = if m = n then some o' else ax st.objs m) (hob : sG G w n o') : Inv E ⟨st.slots, objs'⟩ G a w := by
 have hle : G.le ⟨G.K, aN G.ob n (.blk b)⟩ := ⟨fun _ _ _ e => e, fun m b' e => by
  by_cases hm : m = n
  ·subst hm; rw [hb] at e; cases e; simp [aN]
  ·simp [aN, hm, e], fun m u t' e => ⟨u, t', by
  by_cases hm : m = n
  ·subst hm; rw [hb] at e; cases e
  ·simp [aN, hm, e], .inr ⟨rfl, rfl⟩⟩⟩
 have heq : (⟨G.K, aN G.ob n (.blk b)⟩ : Gh) = G := by
  cases G with
  | mk K ob =>
   congr 1;funext m;by_cases hm : m = n
   ·subst hm; simp [aN]; exact hb.symm
   ·simp [aN, hm]
 have := hI.setObj (w' := w) (n := n) (o' := o') (objs' := objs') (g := .blk b) (K' := G.K) ho rfl rfl rfl (aar _) (fun _ _ _ => rfl) (fun _ _ _ _ => rfl) hle
  (fun b o v _ e => hI.wr.know b o v e) hobjs (by rw [heq]; exact hob) (fun b' hb' => by rw [heq] at hb'; exact .inr hb')
 rwa [heq] at this
theorem Bv (hT : cd P T) {t : TypeId} {x : Operand} {d : Nat} (hop : o.op = .range t x) (hd : o.dst = some d) (hI : Inv E st G a w) (h : vA T d t (evA st.slots x) st.objs fun v objs => put ⟨st.slots, objs⟩ o.dst v k) (hn : fy E k next) : o.wp P a w next Q := by
 have hx := hI.eval x;unfold vA at h;split at h
 ·rename_i kt e hde;obtain ⟨inf, dd, hinf, hdd, htd⟩ := cB hT hde (by simp);obtain rfl := q9 htd;split at h
  ·rename_i n hxe;rw [hxe] at hx;simp only [Rep] at hx;obtain ⟨b, hb, hxv⟩ := hx;split at h
   ·rename_i es ho;obtain ⟨b', ms, cl, e1, e2, e3, e4, e5⟩ := hI.obj_map ho;rw [hb] at e1; cases e1;have h := h ms cl;obtain ⟨objs1, h, g2⟩ := cu h;obtain ⟨objs2, h1, h2, h3⟩ := dK h;have hI1 := hI.retell (o' := .mapc es ms cl) ho hb g2 ⟨b, hb, e2, e3, e4, e5⟩;have hlt : b < w.heap.size := (Array.getElem?_eq_some_iff.1 e2).1;have hI' := hI1.newObj (w' := w.alloc (.mapIter (some b) cl #[] cl)) (n := al d) (o := .iter n ms cl []) (objs' := objs2) (g := .blk w.heap.size) (K' := G.K) rfl rfl rfl (by simp)
     (fun b hb => heap_alloc_old w _ hb) (fun _ _ _ => rfl) (fun b o v hb e => by have := hI.wr.kltb e; omega) h2 h3
     ⟨b, w.heap.size, by simp [aN], by
      have hne : n ≠ al d := by
       intro e;have := g2 n;rw [aaz rfl, e] at this;rw [this] at h2; cases h2
      simp [aN, hne, hb], by simpa using heap_alloc_new w _, by simp, fun o => by
      show G.K _ _ = none
      cases e : G.K w.heap.size o with
      | none => rfl
      | some v => have := hI.wr.kltb e; omega⟩
     (fun b hb => by
      rcases hb with hb | ⟨u, t', hb, _⟩
      ·simp [aN] at hb; omega
      ·simp [aN] at hb)
    refine cQ (x := .pointer (some ⟨w.heap.size, 0, none⟩)) hI'.1 ?_ (by simp only [Rep]; exact ⟨w.heap.size, by simp [aN], rfl⟩) h1 hn;have hgo : (getObj b).run P w = .ok (.map ms cl) w := jV e2;simp [execOp, hop, hxv, Instr.range, run_underlying hdd, hgo]
   ·exact h.elim
  ·exact h.elim
 ·exact h.elim
theorem Inv.obj_iter (hI : Inv E st G a w) {r n : Nm} {ms : Array MapEntry} {cl : Nat} {seen : List Nat} {es : List (ByteArray × AV)} (hr : ax st.objs r = some (.iter n ms cl seen)) (hn : ax st.objs n = some (.mapc es ms cl)) : ∃ b rb, G.ob r = some (.blk rb) ∧ G.ob n = some (.blk b) ∧ w.heap[rb]? = some (.mapIter (some b) cl (seen.reverse.map (jM ms)).toArray cl) ∧ (∀ j ∈ seen, j < ms.size) ∧ w.heap[b]? = some (.map ms cl) ∧ fw G es ms.toList ∧ (∀ o, G.K b o = none) ∧ ky ms cl ∧ ∀ o, G.K rb o = none := by
 obtain ⟨b, rb, e1, e2, e3, e4, e5⟩ := hI.wr.obj _ _ hr;obtain ⟨b', f1, f2, f3, f4, f5⟩ := hI.wr.obj _ _ hn;rw [e2] at f1
 cases f1;exact ⟨b, rb, e1, e2, e3, e4, f2, f3, f4, f5, e5⟩
theorem KM {ms : Array MapEntry} {cl : Nat} (h : ky ms cl) {i j : Nat} (hi : i < ms.size) (hj : j < ms.size) (e : jM ms i = jM ms j) : i = j := by
 have hn := List.pairwise_iff_getElem.1 h.1;have e : ms[i].born = ms[j].born := by simpa [jM, aaK hi, aaK hj] using e
 rcases Nat.lt_trichotomy i j with hl | hl | hl
 ·exact absurd (by rw [abD, abD]; exact e) (hn i j (by simpa using hi) (by simpa using hj) hl)
 ·exact hl
 ·exact absurd (by rw [abD, abD]; exact e.symm) (hn j i (by simpa using hj) (by simpa using hi) hl)
theorem n9 {ms : Array MapEntry} {i : Nat} {m : MapEntry} (h : ms[i]? = some m) : jM ms i = m.born := by simp [jM, h]
theorem Inv.drew' (h : Inv E st G a w) : Inv E st G a w.drew :=
 ⟨h.slots, h.defers, ⟨h.wr.know, fun n o ho => by
  have := h.wr.obj n o ho
  cases o <;> exact this, h.wr.dom, h.wr.apart, h.wr.glob⟩, h.le, ⟨h.ext.os, h.ext.tape, h.ext.output, h.ext.size, h.ext.block, h.ext.knew⟩, h.newb⟩
theorem DV {it : Operand} (hop : o.op = .next it false) (hI : Inv E st G a w) (h : zZ (evA st.slots it) st.objs fun v objs => put ⟨st.slots, objs⟩ o.dst v k) (hn : fy E k next) : o.wp P a w next Q := by
 have hi := hI.eval it;unfold zZ at h;split at h
 ·rename_i r off hie;split at h
  ·rw [hie] at hi;simp only [Rep] at hi;split at h
   ·rename_i n ms cl seen hor;split at h
    ·rename_i es ms' cl' hon;obtain ⟨⟨rfl, rfl⟩, hover, hmore⟩ := h;obtain ⟨b, rb, e1, e2, e3, e4, f2, f3, f4, f5, e5⟩ := hI.obj_iter hor hon;obtain ⟨rb', hrb, hiv⟩ := hi;rw [e1] at hrb
     cases hrb;have hlen : es.length = ms'.size := by rw [f3.length]; simp
     have key : ∀ (i : Nat) (m : MapEntry), ms'[i]? = some m → m.born ∈ (seen.reverse.map (jM ms')) → i ∈ seen := by
      intro i m hm hb;obtain ⟨j, hj, he⟩ := List.mem_map.1 hb;rw [List.mem_reverse] at hj;have hi := (Array.getElem?_eq_some_iff.1 hm).1;have := KM f5 hi (e4 j hj) (by rw [n9 hm, he]);rw [this]; exact hj
     rcases run_next_at (P := P) w o.type rb b cl' cl' (seen.reverse.map (jM ms')).toArray ms' cl' e3 f2 f5.2 (aar _) with ⟨h0, hrun⟩ | ⟨e, he, w1, hw1, hrun⟩
     ·have hall : ∀ i, i < es.length → i ∈ seen := by
       intro i hi;rw [hlen] at hi;have hm : ms'[i]? = some ms'[i] := aaK hi;refine key i _ hm ?_;have hemp : Go.leftOf ms' (seen.reverse.map (jM ms')).toArray = #[] := Array.eq_empty_of_size_eq_zero h0;unfold Go.leftOf at hemp;rw [Array.filter_eq_empty_iff] at hemp;have := hemp ms'[i] (Array.getElem_mem hi);simpa using this
      obtain ⟨objs', g1, g2⟩ := cu (hover hall);have hI' := hI.retell (o' := .map es) hon e2 g2 ⟨b, ms', cl', e2, f2, f3, f4, f5⟩;refine cQ (x := .tuple #[.bool false]) hI' ?_ ?_ g1 hn
      ·simp [execOp, hop, hiv, hrun]
      ·simp only [Rep];exact ⟨[.bool false], by simp, by simp only [aB]; exact ⟨_, _, rfl, by simp only [Rep], rfl⟩⟩
     ·have hem : e ∈ ms'.toList ∧ e.born ∉ (seen.reverse.map (jM ms')) := by
       unfold Go.leftOf at he;simp at he;refine ⟨by simpa using he.1, ?_⟩;simp;exact he.2
      obtain ⟨i, hie'⟩ := List.mem_iff_getElem?.1 hem.1;have hie' : ms'[i]? = some e := by simpa using hie'
      have hilt : i < ms'.size := (Array.getElem?_eq_some_iff.1 hie').1;have hns : i ∉ seen := by
       intro hs;refine hem.2 (List.mem_map.2 ⟨i, List.mem_reverse.2 hs, n9 hie'⟩)
      obtain ⟨e', g0, g1, g2⟩ := f3.get (i := i) (m := e) (by simpa using hie');obtain ⟨objs', q1, q2⟩ := cu (hmore i e' g0 hns);have hI1 : Inv E st G a w1 := by
       rcases hw1 with rfl | rfl
       ·exact hI
       ·exact hI.drew'
      have hh : w1.heap = w.heap := by rcases hw1 with rfl | rfl <;> rfl
      have hrlt : rb < w1.heap.size := by rw [hh]; exact (Array.getElem?_eq_some_iff.1 e3).1
      have hrne : r ≠ n := by
       intro e; subst e;rw [hor] at hon; cases hon
      have hle : G.le ⟨G.K, aN G.ob r (.blk rb)⟩ := ⟨fun _ _ _ e => e, fun m b' e => by
       by_cases hm : m = r
       ·subst hm; rw [e1] at e; cases e; simp [aN]
       ·simp [aN, hm, e], fun m u t' e => ⟨u, t', by
       by_cases hm : m = r
       ·subst hm; rw [e1] at e; cases e
       ·simp [aN, hm, e], .inr ⟨rfl, rfl⟩⟩⟩
      have hI' := hI1.setObj (w' := ChangeMaps.setBlock w1 rb (.mapIter (some b) cl' ((seen.reverse.map (jM ms')).toArray.push e.born) cl')) (n := r) (o' := .iter n ms' cl' (i :: seen)) (objs' := objs') (g := .blk rb) (K' := G.K) hor rfl rfl rfl (by simp [ChangeMaps.setBlock])
       (fun b' hb' hnat => by
        have : b' ≠ rb := fun e => hnat (by subst e; exact .inl e1);simp [ChangeMaps.setBlock, Array.getElem?_setIfInBounds, Ne.symm this]) (fun _ _ _ _ => rfl) hle
       (fun b' o' v hb' e => by
        rcases hb' with hb' | hb'
        ·have := hI1.wr.kltb e; omega
        ·rcases hb' with hb' | ⟨u, t', hb', _⟩
         ·rw [e1] at hb'; cases hb'; rw [e5] at e; cases e
         ·rw [e1] at hb'; cases hb') q2
       ⟨b, rb, by simp [aN], by simp [aN, Ne.symm hrne, e2], by
        simp only [ChangeMaps.setBlock, Array.getElem?_setIfInBounds, abq, hrlt, List.reverse_cons, aaG, aaF, abi, n9 hie'];simp, by
        intro j hj;simp at hj;rcases hj with rfl | hj
        ·exact hilt
        ·exact e4 j hj, e5⟩
       (fun b' hb' => .inr (.inl (by rw [kT hb']; exact e1)))
      refine cQ (x := .tuple #[.bool true, e.key, e.val]) hI' ?_ ?_ q1 hn
      ·simp [execOp, hop, hiv, hrun]
      ·simp only [Rep];refine ⟨[.bool true, e.key, e.val], by simp, ?_⟩;simp only [aB];exact ⟨_, _, rfl, by simp only [Rep], _, _, rfl, by simp only [Rep]; exact g1, _, _, rfl, Rep.mono hle _ _ g2, rfl⟩
    ·exact h.elim
   ·exact h.elim
  ·exact h.elim
 ·exact h.elim
theorem Bz {it : Operand} (hop : o.op = .entry it) (hI : Inv E st G a w) (h : ww (evA st.slots it) st.objs fun v objs => put ⟨st.slots, objs⟩ o.dst v k) (hn : fy E k next) : o.wp P a w next Q := by
 have hi := hI.eval it;unfold ww at h;split at h
 ·rename_i r off hie;split at h
  ·rw [hie] at hi;simp only [Rep] at hi;split at h
   ·rename_i n ms cl seen hor;split at h
    ·rename_i i tl;split at h
     ·rename_i es ms' cl' hon;obtain ⟨⟨rfl, rfl⟩, h⟩ := h;obtain ⟨b, rb, e1, e2, e3, e4, f2, f3, f4, f5, e5⟩ := hI.obj_iter hor hon;obtain ⟨rb', hrb, hiv⟩ := hi;rw [e1] at hrb
      cases hrb;obtain ⟨e, he, h⟩ := gI.1 h;have hilt : i < ms'.size := e4 i (by simp);have hm : ms'[i]? = some ms'[i] := aaK hilt;obtain ⟨e', g0, g1, g2⟩ := f3.get (i := i) (m := ms'[i]) (by simp);rw [he] at g0
      cases g0;have harr : ((i :: tl).reverse.map (jM ms')).toArray = ((tl.reverse.map (jM ms')).toArray).push ms'[i].born := by
       simp [n9 hm]
      rw [harr] at e3;have hrun := run_entry_at (P := P) w rb b cl' _ ms' cl' ms'[i] e3 f2 (by simp) f5.1;refine ba (x := .tuple #[ms'[i].key, ms'[i].val]) hI ?_ ?_ h hn
      ·simp [execOp, hop, hiv, hrun]
      ·simp only [Rep];refine ⟨[ms'[i].key, ms'[i].val], by simp, ?_⟩;simp only [aB];exact ⟨_, _, rfl, by simp only [Rep]; exact g1, _, _, rfl, g2, rfl⟩
     ·exact h.elim
    ·exact h.elim
   ·exact h.elim
  ·exact h.elim
 ·exact h.elim
end
end Go.Abs
