/- The engine, part 10: each operation is as 'awpOp' says. -/
import Derived.Test.YtnifkinpogopkaaA9
set_option linter.unusedVariables false
set_option linter.unusedSimpArgs false
namespace Go.Abs
open Go

section
variable {P : Program} {T : Tab} {an : Ann} {E : Entry} {st : St} {G : Gh} {a : Act} {w : World} {o : Oper} {k : St → Prop} {next : Act → World → Prop} {Q : Exit → Act → World → Prop}

/-- What a piece of an operation hands on to. -/
abbrev Nexts (E : Entry) (k : St → Prop) (next : Act → World → Prop) : Prop := ∀ st' G' a' w', Inv E st' G' a' w' → k st' → next a' w'

/-- An operation that gives a value in a new world. -/
theorem wp_value' {v : AV} {x : Value} {st1 : St} {G1 : Gh} {w1 : World} (h : Inv E st1 G1 a w1) (hr : (execOp a.eval o).run P w = .ok (.value x) w1) (hv : Rep G1 v x) (hk : put st1 o.dst v k) (hn : Nexts E k next) :
    o.wp P a w next Q := by
  unfold Oper.wp
  rw [hr, Oper.upon_value]
  exact put_sound h hv hk hn
theorem wp_skip' {st1 : St} {G1 : Gh} {w1 : World} (h : Inv E st1 G1 a w1) (hr : (execOp a.eval o).run P w = .ok .skip w1) (hk : put st1 o.dst .junk k) (hn : Nexts E k next) :
    o.wp P a w next Q := by
  unfold Oper.wp
  rw [hr, Oper.upon_skip]
  exact put_sound h (by simp only [Rep]) hk hn

theorem Inv.obj_cells (h : Inv E st G a w) {n : Nm} {t : TypeId} {l : List AV} (ho : objGet st.objs n = some (.cells t l)) :
    ∃ b vs, G.ob n = some (.blk b) ∧ w.heap[b]? = some (.cells (List.toArray vs) t (0, 0)) ∧ RepL G l vs ∧ ∀ o, G.K b o = none := h.wr.obj n _ ho

theorem sound_load (hT : TabOk P T) {t : TypeId} {p : Operand} (hop : o.op = .load t p) (hI : Inv E st G a w) (h : awpOp P T an o st k) (hn : Nexts E k next) : o.wp P a w next Q := by
  unfold awpOp genOp at h
  simp only [hop] at h
  have hp := hI.eval p
  split at h
  · rename_i c off he
    rw [he] at hp
    simp only [Rep] at hp
    obtain ⟨b, o', hpe, hc, hk⟩ := hp
    obtain ⟨vs, h1, h2⟩ := (hc.drop off).vals
    rw [dropL_eq] at h
    obtain ⟨v, x, h3, h4, h5⟩ := aload_sound (w := w) hT h h1 b (o' + off) (fun j v hj => hI.wr.know _ _ _ (h2 j v hj))
    refine wp_value hI ?_ h4 h3 hn
    simp [execOp, hop, hpe, Instr.loadAt, Instr.sureAddr, h5]
  · rename_i n off he
    rw [he] at hp
    simp only [Rep] at hp
    obtain ⟨b, hb, hpe⟩ := hp
    split at h
    · rename_i t' l ho
      obtain ⟨b', vs, e1, e2, e3, e4⟩ := hI.obj_cells ho
      rw [hb] at e1
      cases e1
      rw [dropL_eq] at h
      obtain ⟨v, x, h3, h4, h5⟩ := aload_sound (w := w) hT h (e3.drop off) b off (fun j v hj => by
        rw [cell_row e2]
        rwa [List.getElem?_drop] at hj)
      refine wp_value hI ?_ h4 h3 hn
      simp [execOp, hop, hpe, Instr.loadAt, Instr.sureAddr, h5]
    · exact h.elim
  · exact h.elim

theorem sound_store (hT : TabOk P T) {t : TypeId} {p x : Operand} (hop : o.op = .store t p x) (hI : Inv E st G a w) (h : awpOp P T an o st k) (hn : Nexts E k next) : o.wp P a w next Q := by
  unfold awpOp genOp at h
  simp only [hop] at h
  have hp := hI.eval p
  split at h
  · rename_i n off he
    rw [he] at hp
    simp only [Rep] at hp
    obtain ⟨b, hb, hpe⟩ := hp
    split at h
    · rename_i te l ho
      obtain ⟨hok, h⟩ := tyOk_elim h
      rw [forceL_eq] at h
      obtain ⟨hsz, h⟩ := must_elim h
      obtain ⟨hce, h⟩ := must_elim h
      obtain ⟨i, d, hi, hd, hs, hby, htd, hag, hz⟩ := ti_facts hT hok
      have hsz : (evA st.slots x).cells.length = i.size := by rw [← hs]; exact Nat.eq_of_beq_eq_true hsz
      obtain ⟨b', vs, e1, e2, e3, e4⟩ := hI.obj_cells ho
      rw [hb] at e1
      cases e1
      have hx := hI.eval x
      have hnj : evA st.slots x ≠ .junk := by
        intro e
        rw [e] at hce
        simp [AV.cells, allCellish, cellish] at hce
      have hxc := hx.cells hnj
      have hone := hxc.one (allCellish_iff.1 hce)
      by_cases hnil : (evA st.slots x).cells = []
      · rw [hnil] at h hxc hsz
        simp only [updK] at h
        obtain ⟨objs', h1, h2⟩ := objGet_set h
        have hv0 : (a.eval x).cells.toList = [] := by simpa [RepL] using hxc
        have hv1 : (a.eval x).cells.size = i.size := by rw [← hsz]; simpa using congrArg List.length hv0
        refine wp_skip' (st1 := ⟨st.slots, objs'⟩) (G1 := G) (w1 := w) ⟨hI.slots, hI.defers, ⟨hI.wr.know, fun m o' e => ?_, fun m g e => ?_, hI.wr.apart⟩, hI.le, hI.ext, hI.newb⟩ ?_ h1 hn
        · have e : objGet objs' m = some o' := e
          rw [h2 m] at e
          by_cases hm : m = n
          · subst hm; simp at e; subst e; exact hI.wr.obj _ _ ho
          · simp only [hm, if_false] at e; exact hI.wr.obj m o' e
        · show ∃ o, objGet objs' m = some o
          rw [h2 m]
          by_cases hm : m = n
          · simp [hm]
          · simp only [hm, if_false]; exact hI.wr.dom m g e
        · simp [execOp, hop, hpe, Instr.storeAt, Instr.sureAddr, storeVar, sizeOf, typeInfo, hi, hv1, hv0, storeCells]
      · have hle := updK_le hnil h
        rw [updK_iff hle] at h
        obtain ⟨hfit, h⟩ := h
        obtain ⟨objs', h1, h2⟩ := objGet_set h
        have hvl := hxc.length
        have hv1 : (a.eval x).cells.size = i.size := by rw [← hsz, ← hvl]; simp
        have hll := e3.length
        have hrun := run_storeCells_at P b off te (a.eval x).cells.toList 0 vs.toArray w e2 (by simp only [List.size_toArray]; omega) hone
        simp only [Nat.add_zero, List.toList_toArray] at hrun
        have hI' := hI.setObj (w' := w.setRow b (vs.take off ++ (a.eval x).cells.toList ++ vs.drop (off + (a.eval x).cells.toList.length)).toArray) (n := n)
          (o' := .cells te (l.take off ++ (evA st.slots x).cells ++ l.drop (off + (evA st.slots x).cells.length))) (objs' := objs') (g := .blk b) (K' := G.K) ho rfl rfl rfl (by simp)
          (fun b' hb' hnat => setRow_other w b b' _ (fun e => hnat (by subst e; exact .inl hb))) (fun _ _ _ _ => rfl)
          ⟨fun _ _ _ e => e, fun m b' e => by
            by_cases hm : m = n
            · subst hm; rw [hb] at e; cases e; simp [addOb]
            · simp [addOb, hm, e], fun m u t' e => ⟨u, t', by
            by_cases hm : m = n
            · subst hm; rw [hb] at e; cases e
            · simp [addOb, hm, e], .inr ⟨rfl, rfl⟩⟩⟩
          (fun b' o' v hb' e => by
            rcases hb' with hb' | hb'
            · have := hI.wr.kltb e; omega
            · rcases hb' with hb' | ⟨u, t', hb', _⟩
              · rw [hb] at hb'; cases hb'; rw [e4] at e; cases e
              · rw [hb] at hb'; cases hb')
          h2
          ⟨b, _, by simp [addOb], setRow_heap w b _ _ te _ e2, by
            have hle' : G.le ⟨G.K, addOb G.ob n (.blk b)⟩ := ⟨fun _ _ _ e => e, fun m b' e => by
              by_cases hm : m = n
              · subst hm; rw [hb] at e; cases e; simp [addOb]
              · simp [addOb, hm, e], fun m u t' e => ⟨u, t', by
              by_cases hm : m = n
              · subst hm; rw [hb] at e; cases e
              · simp [addOb, hm, e], .inr ⟨rfl, rfl⟩⟩⟩
            refine RepL.mono hle' _ _ ?_
            rw [hvl]
            exact ((e3.take off).append hxc).append (e3.drop _), e4⟩
          (fun b' hb' => by
            rcases hb' with hb' | ⟨u, t', hb', _⟩
            · simp [addOb] at hb'; subst hb'; exact .inr (.inl hb)
            · simp [addOb] at hb')
        refine wp_skip' hI' ?_ h1 hn
        simp only [execOp, hop, hpe, Instr.storeAt, Instr.sureAddr, storeVar, sizeOf, typeInfo, Sem.run_bind, Sem.run_pure, Result.andThen_ok, run_program, hi, hv1, ne_eq, not_true_eq_false, if_false, hrun]
    · exact h.elim
  · exact h.elim

theorem size_ne {P : Program} {t : TypeId} {i : TypeInfo} (hi : P.info? t = some i) (hs : i.size ≠ 0) {w : World} (a : Addr) (f : Field) (hf : f.type = t) : (fieldPlace a f).run P w = .ok (a.add f.offset) w := by
  subst hf
  simp [fieldPlace, sizeOf, typeInfo, hi, hs]

theorem sound_fieldAddr (hT : TabOk P T) {t : TypeId} {p : Operand} {f : Nat} (hop : o.op = .fieldAddr t p f) (hI : Inv E st G a w) (h : awpOp P T an o st k) (hn : Nexts E k next) : o.wp P a w next Q := by
  unfold awpOp genOp at h
  simp only [hop] at h
  have hp := hI.eval p
  split at h
  · rename_i fo ft hfo
    obtain ⟨hok, h⟩ := tyOk_elim h
    obtain ⟨hokf, h⟩ := tyOk_elim h
    obtain ⟨hpos, h⟩ := must_elim h
    have hpos : 0 < (T.ti ft).size := by simpa [Nat.blt_eq] using hpos
    obtain ⟨i, d, hi, hd, hs, hby, htd, hag, hz⟩ := ti_facts hT hok
    obtain ⟨i', d', hi', hd', hs', _⟩ := ti_facts hT hokf
    unfold fieldOff at hfo
    split at hfo
    · rename_i fs hfs
      have : dOf T t = TD.of d := by simp [dOf, hok, htd]
      rw [this] at hfs
      obtain ⟨f', rfl, hf'⟩ := TD_struct hfs
      rw [← hf'] at hfo
      simp only [List.getElem?_map, Option.map_eq_some_iff] at hfo
      obtain ⟨fld, hfl, hfe⟩ := hfo
      have hfl' : f'[f]? = some fld := by simpa using hfl
      simp only [Prod.mk.injEq] at hfe
      obtain ⟨hfe1, hfe2⟩ := hfe
      have hrun : ∀ ad : Addr, (Instr.fieldAt t (.pointer (some ad)) f).run P w = .ok (.pointer (some (ad.add fo))) w := by
        intro ad
        have h0 : i'.size ≠ 0 := by omega
        simp [Instr.fieldAt, run_underlying hd, hfl', Instr.sureAddr, size_ne hi' h0 ad fld hfe2, hfe1]
      split at h
      · rename_i c off he
        rw [he] at hp
        simp only [Rep] at hp
        obtain ⟨b, o', hpe, hc, hk⟩ := hp
        refine wp_value (x := .pointer (some ⟨b, o' + (off + fo), none⟩)) hI ?_ (by simp only [Rep]; exact ⟨b, o', rfl, hc, hk⟩) h hn
        simp [execOp, hop, hpe, hrun, addr_add, Nat.add_assoc]
      · rename_i n off he
        rw [he] at hp
        simp only [Rep] at hp
        obtain ⟨b, hb, hpe⟩ := hp
        refine wp_value (x := .pointer (some ⟨b, off + fo, none⟩)) hI ?_ (by simp only [Rep]; exact ⟨b, hb, rfl⟩) h hn
        simp [execOp, hop, hpe, hrun, addr_add]
      · exact h.elim
    · cases hfo
  · exact h.elim

theorem sound_field (hT : TabOk P T) {t : TypeId} {x : Operand} {f : Nat} (hop : o.op = .field t x f) (hI : Inv E st G a w) (h : awpOp P T an o st k) (hn : Nexts E k next) : o.wp P a w next Q := by
  unfold awpOp genOp at h
  simp only [hop] at h
  have hp := hI.eval x
  split at h
  · rename_i fo ft hfo
    split at h
    · rename_i l he
      rw [he] at hp
      simp only [Rep] at hp
      obtain ⟨vs, hpe, hl⟩ := hp
      obtain ⟨hok, h⟩ := tyOk_elim h
      obtain ⟨i, d, hi, hd, hs, hby, htd, hag, hz⟩ := ti_facts hT hok
      unfold fieldOff at hfo
      split at hfo
      · rename_i fs hfs
        have : dOf T t = TD.of d := by simp [dOf, hok, htd]
        rw [this] at hfs
        obtain ⟨f', rfl, hf'⟩ := TD_struct hfs
        rw [← hf'] at hfo
        simp only [List.getElem?_map, Option.map_eq_some_iff] at hfo
        obtain ⟨fld, hfl, hfe⟩ := hfo
        have hfl' : f'[f]? = some fld := by simpa using hfl
        simp only [Prod.mk.injEq] at hfe
        obtain ⟨hfe1, hfe2⟩ := hfe
        rw [dropL_eq] at h
        have hl' := hl.drop fo
        unfold aload at h
        split at h
        · rename_i hokf
          obtain ⟨i', d', hi', hd', hs', _, _, hag', _⟩ := ti_facts hT hokf
          split at h
          · rename_i ha
            rw [takeK_iff] at h
            obtain ⟨hle, hk⟩ := h
            rw [hag'] at ha
            refine wp_value (x := .agg ((vs.drop fo).take (T.ti ft).size).toArray) hI ?_ (by simp only [Rep]; exact ⟨_, rfl, hl'.take _⟩) hk hn
            simp [execOp, hop, hpe, Instr.field, run_underlying hd, hfl', part, asAgg, hfe2, run_isAgg hd', ha, sizeOf, typeInfo, hi', hfe1, hs', List.extract_eq_take_drop]
          · rename_i ha
            rw [hag'] at ha
            split at h
            · rename_i y ys hys
              rw [force_eq] at h
              rw [hys] at hl'
              simp only [RepL] at hl'
              obtain ⟨v, us, hve, h1, h2⟩ := hl'
              refine wp_value (x := v) hI ?_ h1 h hn
              have hv : vs[fo]? = some v := by
                have := congrArg (fun l => l[0]?) hve
                simpa using this
              simp [execOp, hop, hpe, Instr.field, run_underlying hd, hfl', part, asAgg, hfe2, run_isAgg hd', ha, hfe1, hv]
            · exact h.elim
        · exact h.elim
      · cases hfo
    · exact h.elim
  · exact h.elim
end
end Go.Abs
