/- The engine, part 16: the builtins, calls; every operation. -/
import Derived.Test.YtlagdcbgkfaheaaB6
set_option linter.unusedVariables false
set_option linter.unusedSimpArgs false
namespace Go.Abs
open Go

section
variable {P : Program} {T : Tab} {an : Ann} {E : Entry} {st : St} {G : Gh} {a : Act} {w : World} {o : Oper} {k : St → Prop} {next : Act → World → Prop} {Q : Exit → Act → World → Prop}

theorem MapR.del {es : List (ByteArray × AV)} {ms : List MapEntry} (h : MapR G es ms) {s : ByteArray} :
    (∃ j m, Instr.findNow .string (.string s) ms 0 = some (some (j, m)) ∧ j < ms.length ∧ MapR G (mapDel es s) (ms.eraseIdx j)) ∨
    (Instr.findNow .string (.string s) ms 0 = some none ∧ mapDel es s = es) := by
  have key : ∀ (es : List (ByteArray × AV)) (ms : List MapEntry) (i : Nat), MapR G es ms →
      (∃ j m, Instr.findNow .string (.string s) ms i = some (some (i + j, m)) ∧ j < ms.length ∧ MapR G (mapDel es s) (ms.eraseIdx j)) ∨
      (Instr.findNow .string (.string s) ms i = some none ∧ mapDel es s = es) := by
    intro es
    induction es with
    | nil => intro ms i h; cases ms with
      | nil => exact .inr ⟨rfl, rfl⟩
      | cons m ms => exact h.elim
    | cons e es ih => intro ms i h; cases ms with
      | nil => exact h.elim
      | cons m ms =>
        obtain ⟨s', u⟩ := e
        obtain ⟨⟨h1, h2⟩, h3, h4⟩ := h
        by_cases hs : s' = s
        · subst hs
          exact .inl ⟨0, m.val, by simp [Instr.findNow, h1, Instr.sameNow, ba_beq], by simp, by simpa [mapDel] using h4⟩
        · have hb : (s == s') = false := by
            rw [ba_beq]; simpa using fun e : s = s' => hs e.symm
          rcases ih ms (i + 1) h4 with ⟨j, m', g1, g2, g4⟩ | ⟨g1, g2⟩
          · refine .inl ⟨j + 1, m', by simp [Instr.findNow, h1, Instr.sameNow, hb, g1]; omega, by simpa using g2, ?_⟩
            simp only [mapDel, hs, if_false, List.eraseIdx_cons_succ]
            exact ⟨⟨h1, h2⟩, h3, g4⟩
          · exact .inr ⟨by simp [Instr.findNow, h1, Instr.sameNow, hb, g1], by simp [mapDel, hs, g2]⟩
  have := key es ms 0 h
  simpa using this

theorem args1 {c : Array Operand} {x : Operand} (h : c.toList = [x]) : c = #[x] := by rw [← Array.toList_inj, h]
theorem args2 {c : Array Operand} {x y : Operand} (h : c.toList = [x, y]) : c = #[x, y] := by rw [← Array.toList_inj, h]
theorem tys1 {c : Array TypeId} {x : TypeId} (h : c.toList = [x]) : c = #[x] := by rw [← Array.toList_inj, h]
theorem tys2 {c : Array TypeId} {x y : TypeId} (h : c.toList = [x, y]) : c = #[x, y] := by rw [← Array.toList_inj, h]

theorem run_callFunc {g : FuncId} {args : Array Value} (h : canEnter P g = true) : (callFunc g args).run P w = .ok (.enter g args) w := by
  unfold canEnter at h
  split at h
  · rename_i fn hfn
    simp only [Bool.and_eq_true, Bool.not_eq_true'] at h
    obtain ⟨h1, h2⟩ := h
    have h1' : fn.name ≠ "runtime.NumGoroutine" := by simpa using h1
    have h2' : fn.body ≠ none := by
      intro e; rw [e] at h2; cases h2
    simp [callFunc, hfn, h1', h2']
  · cases h

theorem sound_call (hT : TabOk P T) {c : Call} (hop : o.op = .call c) (hI : Inv E st G a w) (h : awpOp P T an o st k) (hn : Nexts E k next) : o.wp P a w next Q := by
  unfold awpOp at h
  simp only [hop] at h
  split at h
  · -- a function value
    rename_i f hcal
    have hf := hI.eval f
    split at h
    · rename_i g first cap hfe
      rw [hfe] at hf
      simp only [Rep] at hf
      obtain ⟨vs, us, hfv, hl1, hl2⟩ := hf
      rw [forceL_eq] at h
      obtain ⟨hnn, h⟩ := must_elim h
      obtain ⟨hcan, h⟩ := must_elim h
      have hcan := hT.fn g hcan
      have hargs : RepL G (first ++ c.args.toList.map (evA st.slots) ++ cap) (vs ++ c.args.toList.map a.eval ++ us) := (hl1.append (hI.evals _)).append hl2
      have hrun : (execOp a.eval o).run P w = .ok (.enter g (vs ++ c.args.toList.map a.eval ++ us).toArray) w := by
        have harr : vs.toArray ++ Array.map a.eval c.args ++ us.toArray = (vs ++ c.args.toList.map a.eval ++ us).toArray := by simp [← Array.toList_inj]
        simp only [execOp, hop, resolve, hcal, Deferred.ofValue, hfv, invoke, Sem.run_bind, Sem.run_pure, Result.andThen_ok, run_callFunc hcan, harr]
      unfold ACalls at h
      have hK : ∀ (b o : Nat) (v : Value), G.K b o = some v → (⟨G.K, fun _ => none⟩ : Gh).K b o = some v := fun _ _ _ e => e
      have hWR : WR ⟨G.K, fun _ => none⟩ (numbered 0 []) w := ⟨hI.wr.know, fun n o e => (by cases e), fun n g e => (by cases e), fun n m b h1 h2 => (by
        rcases h1 with h1 | ⟨_, _, h1, _⟩
        · cases h1
        · cases h1)⟩
      have hRL : RepL ⟨G.K, fun _ => none⟩ (first ++ c.args.toList.map (evA st.slots) ++ cap) (vs ++ c.args.toList.map a.eval ++ us) := by
        have : ∀ {l : List AV} {vs : List Value}, (∀ a ∈ l, noNames a = true) → RepL G l vs → RepL ⟨G.K, fun _ => none⟩ l vs := by
          intro l
          induction l with
          | nil => intro vs _ h; exact h
          | cons x l ih =>
            intro vs hnn h
            simp only [RepL] at h ⊢
            obtain ⟨v, us, rfl, h1, h2⟩ := h
            exact ⟨v, us, rfl, Rep.nameless hK x v (hnn x (by simp)) h1, ih (fun y hy => hnn y (by simp [hy])) h2⟩
        exact this (allNoNames_iff.1 hnn) hargs
      have hcall := h ⟨G.K, fun _ => none⟩ w _ hWR hRL
      unfold Oper.wp
      rw [hrun, Oper.upon_enter]
      refine hcall.mono ?_
      rintro e w' ⟨v, r, os', G', rfl, hR, hRep, hWR', hle, hext⟩
      split at hR
      · have hob : ∀ n, G'.ob n = none := fun n => by
          cases e : G'.ob n with
          | none => rfl
          | some g => obtain ⟨o', ho'⟩ := hWR'.dom n g e; cases ho'
        have hnoT : ∀ b, ¬ ∃ n, (⟨G.K, fun _ => none⟩ : Gh).at n b := by
          rintro b ⟨n, h1 | ⟨_, _, h1, _⟩⟩ <;> cases h1
        have hI' := hI.grow (w' := w') (K' := G'.K) hext.os hext.tape hext.output hext.size (fun b hb => hext.block b hb (hnoT b)) (fun b o hb => hext.knew b o hb (hnoT b)) (fun b o v _ e => hWR'.know b o v e)
        have hle2 : G'.le ⟨G'.K, G.ob⟩ := ⟨fun _ _ _ e => e, fun n b e => (by rw [hob n] at e; cases e), fun n u t e => (by rw [hob n] at e; cases e)⟩
        exact put_sound hI'.1 (Rep.mono hle2 _ _ hRep) hR hn
      · exact hR.elim
    · exact h.elim
  · -- a builtin
    rename_i b hcal
    split at h
    · rename_i x t ha ht
      have ha := args1 ha
      have ht := tys1 ht
      obtain ⟨hlt, h⟩ := must_elim h
      split at h
      · rename_i n hn'
        have hne : dOf T t ≠ .other := by
          intro e; rw [e] at hlt; simp [lenTy] at hlt
        obtain ⟨i, d, hi, hd, _, _, htd, _, _⟩ := dOf_facts hT hne
        rw [htd] at hlt
        have hr := sound_len (ty := o.type) (hI.eval x) hI hd hlt hn'
        refine wp_value (x := .int .i64 n) hI ?_ (by simp only [Rep]) h hn
        simp [execOp, hop, resolve, hcal, ha, ht, invoke, builtin, hr]
      · exact h.elim
    · rename_i s x t t2 ha ht
      have ha := args2 ha
      have ht := tys2 ht
      split at h
      · rename_i d htt hd
        obtain rfl := Nat.eq_of_beq_eq_true htt
        obtain ⟨u', w', v, objs', G', hr, hK, hI', hRep⟩ := sound_append (ty := o.type) hT hI h
        refine wp_value' hI' ?_ hRep hK hn
        simp [execOp, hop, resolve, hcal, ha, ht, invoke, builtin, hr]
      · exact h.elim
    · rename_i m x t t2 ha ht
      have ha := args2 ha
      have ht := tys2 ht
      have hm := hI.eval m
      have hx := hI.eval x
      split at h
      · rename_i kt e hde
        obtain ⟨inf, d, hinf, hd, htd⟩ := dOf_under hT hde (by simp)
        obtain rfl := TD_map htd
        split at h
        · rename_i hdk
          obtain ⟨infk, dk, hinfk, hdkk, htdk⟩ := dOf_under hT hdk (by simp)
          obtain rfl := TD_string htdk
          split at h
          · rename_i n s hme hxe
            rw [hme] at hm
            rw [hxe] at hx
            simp only [Rep] at hm hx
            obtain ⟨b, hb, hmv⟩ := hm
            split at h
            · rename_i es ho
              obtain ⟨objs', g1, g2⟩ := objGet_set h
              obtain ⟨b', ms, cl, e1, e2, e3, e4⟩ := hI.obj_map ho
              rw [hb] at e1; cases e1
              rcases e3.del (s := s) with ⟨j, m', f1, f2, f4⟩ | ⟨f1, f2⟩
              · have hI' := hI.setMap (ms' := ms.eraseIdxIfInBounds j) (cl' := cl) ho hb e2 e4 (by simpa using f4) g2
                refine wp_value' (x := .tuple #[]) hI' ?_ (by simp only [Rep]) g1 hn
                simp [execOp, hop, resolve, hcal, ha, ht, invoke, builtin, Builtin.delete_, run_underlying hd, hmv, hx, run_getMap e2, run_checkKey hdkk, run_findKey hdkk f1, run_setObj e2]
              · have hI' := hI.setMap (ms' := ms) (cl' := cl) ho hb e2 e4 (by rw [f2]; exact e3) g2
                refine wp_value' (x := .tuple #[]) hI' ?_ (by simp only [Rep]) g1 hn
                simp [execOp, hop, resolve, hcal, ha, ht, invoke, builtin, Builtin.delete_, run_underlying hd, hmv, hx, run_getMap e2, run_checkKey hdkk, run_findKey hdkk f1, run_setObj e2]
            · exact h.elim
          · exact h.elim
        · exact h.elim
      · exact h.elim
    · rename_i x y t t2 ha ht
      have ha := args2 ha
      have hx := hI.eval x
      have hy := hI.eval y
      split at h
      · rename_i ka m kb n hxe hye
        rw [hxe] at hx
        rw [hye] at hy
        simp only [Rep] at hx hy
        obtain ⟨_, h⟩ := must_elim h
        refine wp_value (x := .int ka (if n < m then n else m)) hI ?_ (by simp only [Rep]) h hn
        simp [execOp, hop, resolve, hcal, ha, invoke, builtin, Builtin.min_, hx, hy, Builtin.min2]
      · exact h.elim
    · rename_i x y t t2 ha ht
      have ha := args2 ha
      have hx := hI.eval x
      have hy := hI.eval y
      split at h
      · rename_i ka m kb n hxe hye
        rw [hxe] at hx
        rw [hye] at hy
        simp only [Rep] at hx hy
        obtain ⟨_, h⟩ := must_elim h
        refine wp_value (x := .int ka (if m < n then n else m)) hI ?_ (by simp only [Rep]) h hn
        simp [execOp, hop, resolve, hcal, ha, invoke, builtin, Builtin.max_, hx, hy, Builtin.max2]
      · exact h.elim
    · exact h.elim
  · exact h.elim

theorem sound_makeInterface (hT : TabOk P T) {t : TypeId} {x : Operand} (hop : o.op = .makeInterface t x) (hI : Inv E st G a w) (h : awpOp P T an o st k) (hn : Nexts E k next) : o.wp P a w next Q := by
  unfold awpOp at h
  simp only [hop] at h
  split at h
  · exact h.elim
  · exact h.elim
  · rename_i h1 h2
    rw [force_eq] at h
    obtain ⟨i, d, hi, hd, _, _, htd, _, _⟩ := dOf_facts hT (t := t) (fun e => h2 e)
    refine wp_value (x := .iface t (a.eval x)) hI ?_ (by simp only [Rep]; exact ⟨_, rfl, hI.eval x⟩) h hn
    have hni : ∀ ms, d ≠ .interface ms := fun ms e => by subst e; exact h1 (by rw [htd]; rfl)
    cases d <;> first | (simp [execOp, hop, Instr.makeInterface, run_underlying hd]; done) | (exact absurd rfl (hni _))

theorem op_sound (hT : TabOk P T) (hI : Inv E st G a w) (h : awpOp P T an o st k) (hn : Nexts E k next) : o.wp P a w next Q := by
  cases hop : o.op with
  | move x => (unfold awpOp at h; simp only [hop] at h; exact wp_value hI (by simp [execOp, hop]) (hI.eval x) h hn)
  | assign x => (unfold awpOp at h; simp only [hop] at h; exact wp_value hI (by simp [execOp, hop]) (hI.eval x) h hn)
  | pick c x y =>
    unfold awpOp at h
    simp only [hop] at h
    have hc := hI.eval c
    split at h
    · rename_i b he
      rw [he] at hc
      simp only [Rep] at hc
      cases b
      · exact wp_value hI (by simp [execOp, hop, hc, asBool]) (hI.eval y) h hn
      · exact wp_value hI (by simp [execOp, hop, hc, asBool]) (hI.eval x) h hn
    · exact h.elim
  | binOp op t x y yt =>
    unfold awpOp at h
    simp only [hop] at h
    obtain ⟨v, r, h1, h2, h3⟩ := abin_sound (w := w) hT h (hI.eval x) (hI.eval y)
    refine wp_value (x := r) hI ?_ h2 h1 hn
    have h3 := h3 x y
    simp only [execOp, hop]
    rw [Sem.run_bind, h3]
    rfl
  | unOp op t x =>
    unfold awpOp at h
    simp only [hop] at h
    obtain ⟨v, r, h1, h2, h3⟩ := aun_sound (P := P) (w := w) h (hI.eval x)
    exact wp_value (x := r) hI (by simp [execOp, hop, h3]) h2 h1 hn
  | load t p => exact sound_load hT hop hI h hn
  | store t p x => exact sound_store hT hop hI h hn
  | fieldAddr t p f => exact sound_fieldAddr hT hop hI h hn
  | field t x f => exact sound_field hT hop hI h hn
  | indexAddr t x i => exact sound_indexAddr hT hop hI h hn
  | index t x i => exact sound_index hT hop hI h hn
  | extract x i => exact sound_extract hop hI h hn
  | build t ps => exact sound_build hT hop hI h hn
  | buildSlice t n ps => exact sound_buildSlice hT hop hI h hn
  | alloc t => exact sound_alloc hT hop hI h hn
  | box t x => exact sound_box hop hI h hn
  | nilCheck x => exact sound_nilCheck hop hI h hn
  | makeFunc f x y => exact sound_makeFunc hop hI h hn
  | makeMap t r => exact sound_makeMap hop hI h hn
  | slice t x lo hi mx => exact sound_slice hT hop hI h hn
  | convert s d x => exact sound_convert hT hop hI h hn
  | lookup t m x ok => exact sound_lookup hT hop hI h hn
  | mapUpdate t m x v => exact sound_mapUpdate hT hop hI h hn
  | call c => exact sound_call hT hop hI h hn
  | makeInterface t x => exact sound_makeInterface hT hop hI h hn
  | _ => (unfold awpOp at h; simp only [hop] at h)
end
end Go.Abs
