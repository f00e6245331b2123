/- The engine, B6. -/
import Derived.Test.YtnjeogcgfoabhaaGreatE0B5
set_option linter.unusedVariables false
set_option linter.unusedSimpArgs false
namespace Go.Abs
open Go
section
variable {P : Program} {T : Tab} {an : Ann} {E : dQ} {st : St} {G : Gh} {a : Act} {w : World} {o : Oper} {k : St → Prop} {next : Act → World → Prop} {Q : Exit → Act → World → Prop}
theorem iw {kt : TypeId} (h : P.underlying kt = some .string) (b : Bool) (s : ByteArray) : (Instr.checkKey b 10000 kt (.string s)).run P w = .ok () w := by
 have : ∀ n, (Instr.checkKey b (n + 1) kt (.string s)).run P w = .ok () w := fun n => by simp [Instr.checkKey, run_underlying h]
 exact this 9999
theorem qW (x y : ByteArray) : (x == y) = decide (x = y) := by rw [beq_toListBytes, qX]
theorem fw.find {es : List (ByteArray × AV)} {ms : List MapEntry} (h : fw G es ms) (s : ByteArray) (i : Nat) : (cD es s = none ∧ Instr.findNow .string (.string s) ms i = some none) ∨ ∃ v x j, cD es s = some v ∧ Instr.findNow .string (.string s) ms i = some (some (i + j, x)) ∧ Rep G v x ∧ ∃ m, ms[j]? = some m ∧ m.key = .string s := by
 induction es generalizing ms i with
 | nil => cases ms with
  | nil => exact .inl ⟨rfl, rfl⟩
  | cons m ms => exact h.elim
 | cons e es ih => cases ms with
  | nil => exact h.elim
  | cons m ms =>
   obtain ⟨s', v⟩ := e;obtain ⟨⟨h1, h2⟩, h3, h4⟩ := h;by_cases hs : s' = s
   ·subst hs;refine .inr ⟨v, m.val, 0, by simp [cD], ?_, h3, m, rfl, h1⟩;simp [Instr.findNow, h1, Instr.sameNow, qW]
   ·have hb : (s == s') = false := by
     rw [qW]; simpa using fun e : s = s' => hs e.symm
    rcases ih h4 (i + 1) with ⟨g1, g2⟩ | ⟨v', x, j, g1, g2, g3, m', g4, g5⟩
    ·exact .inl ⟨by simp [cD, hs, g1], by simp [Instr.findNow, h1, Instr.sameNow, hb, g2]⟩
    ·exact .inr ⟨v', x, j + 1, by simp [cD, hs, g1], by simp [Instr.findNow, h1, Instr.sameNow, hb, g2]; omega, g3, m', by simpa using g4, g5⟩
theorem ji {kt : TypeId} (h : P.underlying kt = some .string) {s : ByteArray} {ms : List MapEntry} {r : Option (Nat × Value)} (hf : Instr.findNow .string (.string s) ms 0 = some r) : (Instr.findKey kt (.string s) ms).run P w = .ok r w := by
 simp [Instr.findKey, run_underlying h, hf]
theorem jV {b : Nat} {ms : Array MapEntry} {c : Nat} (h : w.heap[b]? = some (.map ms c)) : (getObj b).run P w = .ok (.map ms c) w := by
 simp [getObj, Sem.run, h]
theorem Inv.obj_map (h : Inv E st G a w) {n : Nm} {es : List (ByteArray × AV)} (ho : ax st.objs n = some (.map es)) : ∃ b ms clock, G.ob n = some (.blk b) ∧ w.heap[b]? = some (.map ms clock) ∧ fw G es ms.toList ∧ (∀ o, G.K b o = none) ∧ ky ms clock := h.wr.obj n _ ho
theorem tC (hT : cd P T) {t : TypeId} (hok : (T.ti t).ok = true) {K : AV → Prop} (h : xU (T.ti t) K) : ∃ v x, K v ∧ (∀ G, Rep G v x) ∧ (zeroValue t).run P w = .ok x w := by
 unfold xU at h;obtain ⟨hz, h⟩ := az h;obtain ⟨i, z, hi, hz1, hz2, hz3, hz4, hz5⟩ := fP hT hok hz;have hrun : (zeroValue t).run P w = .ok z w := by simp [zeroValue, typeInfo, hi, hz1]
 have hzag : (T.ti t).zagg = (match i.zero with | some (.agg _) => true | _ => false) := by
  have e := hT.ti t hok;have h0 := hok;rw [e] at h0 ⊢;unfold LE at h0 ⊢;split
  ·rename_i i' d h1 h2;rw [hi] at h1; cases h1; rfl
  ·rename_i hno;split at h0
   ·rename_i i' d h1 h2;exact absurd h2 (hno i' d h1)
   ·cases h0
 rw [hz1] at hzag;split at h
 ·rename_i ha;rw [ha] at hzag;refine ⟨_, z, h, fun G => ?_, hrun⟩
  cases z <;> simp at hzag
  rename_i cs;simp only [Rep];exact ⟨cs.toList, by simp, by rw [← hz2]; exact pF _ _⟩
 ·rename_i ha;rw [ha] at hzag;split at h
  ·rename_i v hv;refine ⟨_, z, h, fun G => ?_, hrun⟩;simp only [Rep];rw [hv] at hz2
   cases z <;> simp [Value.cells] at hz2 hzag <;> exact hz2
  ·exact h.elim
theorem zt (hT : cd P T) {t : TypeId} {m x : Operand} {ok : Bool} (hop : o.op = .lookup t m x ok) (hI : Inv E st G a w) (h : ck P T an o st k) (hn : fy E k next) : o.wp P a w next Q := by
 unfold ck aQ at h;simp only [hop] at h;have hm := hI.eval m;have hx := hI.eval x;split at h
 ·rename_i kt e hde;obtain ⟨inf, d, hinf, hd, htd⟩ := cB hT hde (by simp);obtain rfl := q9 htd;split at h
  ·rename_i hdk;obtain ⟨infk, dk, hinfk, hdkk, htdk⟩ := cB hT hdk (by simp);obtain rfl := dP htdk;obtain ⟨hoke, h⟩ := bz h;split at h
   ·rename_i n s hme hxe;rw [hme] at hm;rw [hxe] at hx;simp only [Rep] at hm hx;obtain ⟨b, hb, hmv⟩ := hm;split at h
    ·rename_i es ho;obtain ⟨b', ms, cl, e1, e2, e3, e4, _⟩ := hI.obj_map ho;rw [hb] at e1; cases e1;obtain ⟨z, zv, h, hzr, hzrun⟩ := tC (w := w) hT hoke h;have hrun : ∀ {v : Value} {c : Bool}, (∃ r, Instr.findNow .string (.string s) ms.toList 0 = some r ∧ ((r = none ∧ v = zv ∧ c = false) ∨ ∃ j, r = some (j, v) ∧ c = true)) →
       (Instr.lookup t (.map (some b)) (.string s) ok).run P w = .ok (if ok then .tuple #[v, .bool c] else v) w := by
      rintro v c ⟨r, hr, hc⟩;simp only [Instr.lookup, Sem.run_bind, run_underlying hd, Result.andThen_ok, jV e2, Sem.run_pure, iw hdkk, ji hdkk hr];rcases hc with ⟨rfl, rfl, rfl⟩ | ⟨j, rfl, rfl⟩
      ·simp [hzrun]
      ·simp
     rcases e3.find s 0 with ⟨g1, g2⟩ | ⟨v, vv, j, g1, g2, g3, _⟩
     ·rw [g1] at h;have hr := hrun (v := zv) (c := false) ⟨_, g2, .inl ⟨rfl, rfl, rfl⟩⟩;split at h
      ·refine ba (x := .tuple #[zv, .bool false]) hI ?_ ?_ h hn
       ·simp [execOp, hop, hmv, hx, hr]
       ·simp only [Rep];exact ⟨[zv, .bool false], by simp, by simp only [aB]; exact ⟨_, _, rfl, hzr G, _, _, rfl, by simp only [Rep]; rfl, rfl⟩⟩
      ·refine ba (x := zv) hI ?_ (hzr G) h hn;simp [execOp, hop, hmv, hx, hr]
     ·rw [g1] at h;have hr := hrun (v := vv) (c := true) ⟨_, g2, .inr ⟨_, rfl, rfl⟩⟩;split at h
      ·refine ba (x := .tuple #[vv, .bool true]) hI ?_ ?_ h hn
       ·simp [execOp, hop, hmv, hx, hr]
       ·simp only [Rep];exact ⟨[vv, .bool true], by simp, by simp only [aB]; exact ⟨_, _, rfl, g3, _, _, rfl, by simp only [Rep]; rfl, rfl⟩⟩
      ·refine ba (x := vv) hI ?_ g3 h hn;simp [execOp, hop, hmv, hx, hr]
    ·exact h.elim
   ·exact h.elim
  ·exact h.elim
 ·exact h.elim
theorem ky.modify {ms : Array MapEntry} {cl : Nat} (h : ky ms cl) (j : Nat) {k v : Value} : ky (ms.modify j fun e => { e with key := k, val := v }) cl := by
 have e : (ms.modify j fun e => { e with key := k, val := v }).toList.map (·.born) = ms.toList.map (·.born) := by
  rw [Array.toList_modify];apply List.ext_getElem?;intro i;simp only [aaE, List.getElem?_modify];by_cases hi : j = i
  ·subst hi
   cases ms.toList[j]? <;> simp
  ·simp [hi]
 refine ⟨by rw [e]; exact h.1, fun x hx => ?_⟩;have : x.born ∈ (ms.modify j fun e => { e with key := k, val := v }).toList.map (·.born) := aaD hx;rw [e] at this;obtain ⟨y, hy, he⟩ := List.mem_map.1 this;rw [← he];exact h.2 y hy
theorem ky.push {ms : Array MapEntry} {cl : Nat} (h : ky ms cl) (k v : Value) : ky (ms.push { key := k, val := v, born := cl }) (cl + 1) := by
 refine ⟨?_, fun e he => ?_⟩
 ·rw [Array.toList_push, aaG, List.nodup_append];refine ⟨h.1, by simp, fun a ha b hb => ?_⟩;obtain ⟨y, hy, rfl⟩ := List.mem_map.1 ha;simp at hb;subst hb;have := h.2 y hy;omega
 ·rw [Array.toList_push, aaJ] at he;rcases he with he | he
  ·have := h.2 e he; omega
  ·simp at he; subst he; simp
theorem ky.erase {ms : Array MapEntry} {cl : Nat} (h : ky ms cl) (j : Nat) : ky (ms.eraseIdxIfInBounds j) cl := by
 have e : (ms.eraseIdxIfInBounds j).toList = ms.toList.eraseIdx j := by simp
 have hs : (ms.eraseIdxIfInBounds j).toList.Sublist ms.toList := by rw [e]; exact List.eraseIdx_sublist _ _
 exact ⟨h.1.sublist (hs.map _), fun x hx => h.2 x (hs.subset hx)⟩
theorem Inv.setMap (hI : Inv E st G a w) {n : Nm} {es es' : List (ByteArray × AV)} (ho : ax st.objs n = some (.map es)) {b : Nat} (hb : G.ob n = some (.blk b)) {ms : Array MapEntry} {cl : Nat} (e2 : w.heap[b]? = some (.map ms cl)) (e4 : ∀ o, G.K b o = none)
  {ms' : Array MapEntry} {cl' : Nat} (hok : ky ms' cl') (hr : fw G es' ms'.toList) {objs' : List (Nm × aE)} (hobjs : ∀ m, ax objs' m = if m = n then some (.map es') else ax st.objs m) : Inv E ⟨st.slots, objs'⟩ ⟨G.K, aN G.ob n (.blk b)⟩ a { w with heap := w.heap.setIfInBounds b (.map ms' cl') } := by
 have hbl : b < w.heap.size := (Array.getElem?_eq_some_iff.1 e2).1;have hle : G.le ⟨G.K, aN G.ob n (.blk b)⟩ := ⟨fun _ _ _ e => e, fun m b' e => by
  by_cases hm : m = n
  ·subst hm; rw [hb] at e; cases e; simp [aN]
  ·simp [aN, hm, e], fun m u t' e => ⟨u, t', by
  by_cases hm : m = n
  ·subst hm; rw [hb] at e; cases e
  ·simp [aN, hm, e], .inr ⟨rfl, rfl⟩⟩⟩
 refine hI.setObj (n := n) (o' := .map es') (g := .blk b) (K' := G.K) ho rfl rfl rfl (by simp) (fun b' hb' hnat => ?_) (fun _ _ _ _ => rfl) hle (fun b' o' v hb' e => ?_) hobjs ?_ (fun b' hb' => .inr (.inl (by rw [kT hb']; exact hb)))
 ·have : b' ≠ b := fun e => hnat (by subst e; exact .inl hb);simp [Array.getElem?_setIfInBounds, Ne.symm this]
 ·rcases hb' with hb' | hb'
  ·have := hI.wr.kltb e; omega
  ·rcases hb' with hb' | ⟨u, t', hb', _⟩
   ·rw [hb] at hb'; cases hb'; rw [e4] at e; cases e
   ·rw [hb] at hb'; cases hb'
 ·exact ⟨b, ms', cl', by simp [aN], by simp [hbl], hr.mono hle, e4, hok⟩
theorem pc {A : AV} {v : Value} (h : Rep G A v) : Rep G A.strips v := by
 cases A with
 | sl own s l =>
  simp only [Rep] at h;simp only [AV.strips, Rep];exact ⟨h.1, trivial⟩
 | agg l =>
  simp only [Rep] at h;obtain ⟨vs, rfl, h⟩ := h;simp only [AV.strips, Rep];exact ⟨vs, rfl, h.strip⟩
 | tup l =>
  simp only [Rep] at h;obtain ⟨vs, rfl, h⟩ := h;simp only [AV.strips, Rep];refine ⟨vs, rfl, ?_⟩
  induction l generalizing vs with
  | nil => exact h
  | cons x l ih =>
   simp only [aB] at h;obtain ⟨v, us, rfl, h1, h2⟩ := h;simp only [aaF, aB];refine ⟨v, us, rfl, ?_, ih us h2⟩
   cases x with
   | agg l =>
    simp only [Rep] at h1;obtain ⟨vs, rfl, h1⟩ := h1;simp only [Rep];exact ⟨vs, rfl, h1.strip⟩
   | sl own s l =>
    simp only [Rep] at h1;simp only [AV.strip, Rep];exact ⟨h1.1, trivial⟩
   | _ => exact h1
 | _ => exact h
theorem fw.put {es : List (ByteArray × AV)} {ms : List MapEntry} (h : fw G es ms) {s : ByteArray} {v : AV} {x : Value} (hv : Rep G v x) (hnn : cC v = true) (cl : Nat) : (∃ j m, Instr.findNow .string (.string s) ms 0 = some (some (j, m)) ∧ ∃ e, ms[j]? = some e ∧ e.key = .string s ∧ fw G (dU es s v) (ms.modify j fun e => { e with key := .string s, val := x })) ∨
  (Instr.findNow .string (.string s) ms 0 = some none ∧ fw G (dU es s v) (ms ++ [{ key := .string s, val := x, born := cl }])) := by
 have key : ∀ (es : List (ByteArray × AV)) (ms : List MapEntry) (i : Nat), fw G es ms →
   (∃ j m, Instr.findNow .string (.string s) ms i = some (some (i + j, m)) ∧ ∃ e, ms[j]? = some e ∧ e.key = .string s ∧ fw G (dU es s v) (ms.modify j fun e => { e with key := .string s, val := x })) ∨
   (Instr.findNow .string (.string s) ms i = some none ∧ fw G (dU es s v) (ms ++ [{ key := .string s, val := x, born := cl }])) := by
  intro es
  induction es with
  | nil => intro ms i h; cases ms with
   | nil => exact .inr ⟨rfl, ⟨⟨rfl, hnn⟩, hv, trivial⟩⟩
   | cons m ms => exact h.elim
  | cons e es ih => intro ms i h; cases ms with
   | nil => exact h.elim
   | cons m ms =>
    obtain ⟨s', u⟩ := e;obtain ⟨⟨h1, h2⟩, h3, h4⟩ := h;by_cases hs : s' = s
    ·subst hs;refine .inl ⟨0, m.val, by simp [Instr.findNow, h1, Instr.sameNow, qW], m, rfl, h1, ?_⟩;simp only [dU, abq, List.modify_zero_cons];exact ⟨⟨rfl, hnn⟩, hv, h4⟩
    ·have hb : (s == s') = false := by
      rw [qW]; simpa using fun e : s = s' => hs e.symm
     rcases ih ms (i + 1) h4 with ⟨j, m', g1, e', g2, g3, g4⟩ | ⟨g1, g2⟩
     ·refine .inl ⟨j + 1, m', by simp [Instr.findNow, h1, Instr.sameNow, hb, g1]; omega, e', by simpa using g2, g3, ?_⟩;simp only [dU, hs, aaW, List.modify_succ_cons];exact ⟨⟨h1, h2⟩, h3, g4⟩
     ·refine .inr ⟨by simp [Instr.findNow, h1, Instr.sameNow, hb, g1], ?_⟩;simp only [dU, hs, aaW, aav];exact ⟨⟨h1, h2⟩, h3, g2⟩
 have := key es ms 0 h;simpa using this
theorem nE {b : Nat} {ms ms' : Array MapEntry} {c c' : Nat} (h : w.heap[b]? = some (.map ms c)) : (Go.setObj b (.map ms' c')).run P w = .ok () { w with heap := w.heap.setIfInBounds b (.map ms' c') } := by
 simp [Go.setObj, Sem.run, h]
theorem uo (hT : cd P T) {t : TypeId} {m x v : Operand} (hop : o.op = .mapUpdate t m x v) (hI : Inv E st G a w) (h : ck P T an o st k) (hn : fy E k next) : o.wp P a w next Q := by
 unfold ck aQ at h;simp only [hop] at h;have hm := hI.eval m;have hx := hI.eval x;have hv := pc (hI.eval v);split at h
 ·rename_i kt e hde;obtain ⟨inf, d, hinf, hd, htd⟩ := cB hT hde (by simp);obtain rfl := q9 htd;split at h
  ·rename_i hdk;obtain ⟨infk, dk, hinfk, hdkk, htdk⟩ := cB hT hdk (by simp);obtain rfl := dP htdk;split at h
   ·rename_i n s hme hxe;rw [hme] at hm;rw [hxe] at hx;simp only [Rep] at hm hx;obtain ⟨b, hb, hmv⟩ := hm;split at h
    ·rename_i es ho;rw [iY] at h;obtain ⟨hnn, h⟩ := az h;obtain ⟨objs', g1, g2⟩ := cu h;obtain ⟨b', ms, cl, e1, e2, e3, e4, e5⟩ := hI.obj_map ho;rw [hb] at e1; cases e1;rcases e3.put (s := s) hv hnn cl with ⟨j, m', f1, e', f2, f3, f4⟩ | ⟨f1, f2⟩
     ·have hI' := hI.setMap (ms' := ms.modify j fun e => { e with key := .string s, val := a.eval v }) (cl' := cl) ho hb e2 e4 (e5.modify j) (by simpa using f4) g2;refine oH hI' ?_ g1 hn;have hms : ms[j]? = some e' := by simpa using f2
      simp only [execOp, hop, hmv, hx, Instr.mapUpdate, Sem.run_bind, run_underlying hd, Result.andThen_ok, jV e2, iw hdkk, ji hdkk f1, hms, abJ, abN, f3];have hsb : Instr.sameBits 10000 (.string s) (.string s) = true := by
       have : ∀ n, Instr.sameBits n (.string s) (.string s) = true := fun n => by cases n <;> simp [Instr.sameBits, qW]
       exact this _
      simp only [Instr.keyThatStays, hsb, abq, Sem.run_pure, Result.andThen_ok, nE e2]
     ·have hI' := hI.setMap (ms' := ms.push { key := .string s, val := a.eval v, born := cl }) (cl' := cl + 1) ho hb e2 e4 (e5.push _ _) (by simpa using f2) g2;refine oH hI' ?_ g1 hn;simp only [execOp, hop, hmv, hx, Instr.mapUpdate, Sem.run_bind, run_underlying hd, Result.andThen_ok, jV e2, iw hdkk, ji hdkk f1, nE e2, Sem.run_pure]
    ·exact h.elim
   ·exact h.elim
  ·exact h.elim
 ·exact h.elim
end
end Go.Abs
