/- The engine, part 16 and a half: operations that are taken only in the order of the text; rows of no elements. -/
import Derived.Test.YthgjcmfbfigpbaaDoorBO
set_option linter.unusedVariables false
set_option linter.unusedSimpArgs false
namespace Go.Abs
open Go

section
variable {P : Program} {T : Tab} {an : Ann} {E : Entry} {st : St} {G : Gh} {a : Act} {w : World} {o : Oper} {k : St → Prop} {next : Act → World → Prop} {Q : Exit → Act → World → Prop}

theorem sound_nilSlice (hT : TabOk P T) {t te : TypeId} {e : TypeId} (hde : dOf T t = .slice e) {own : Option Nm} {sz : Nat} {l : List (List AV)} {x y : Value} (hx : Rep G (.sl own sz l) x) (hy : y = .slice none 0 0) :
    ∃ b : Bool, (b = true → l = []) ∧ (∀ xo yo, (do eqGuard .eql t xo yo x y; Go.binOp .eql t x y).run P w = .ok (.bool b) w) ∧ (∀ xo yo, (do eqGuard .neq t xo yo x y; Go.binOp .neq t x y).run P w = .ok (.bool (!b)) w) := by
  obtain ⟨inf, d, hinf, hd, htd⟩ := dOf_under hT hde (by simp)
  obtain rfl := TD_slice htd
  simp only [Rep] at hx
  obtain ⟨⟨A, c, rfl, hc, hE⟩, _⟩ := hx
  subst hy
  have key : ∀ (x y : Value) (c : Bool), (∀ n, (Op.equalIn (n + 1) t x y).run P w = .ok c w) → (Op.equal t x y).run P w = .ok c w := fun x y c h => h 9999
  cases A with
  | none =>
    have := key (.slice none l.length c) (.slice none 0 0) true (fun n => by simp [Op.equalIn, run_underlying hd])
    refine ⟨true, fun _ => ?_, ?_, ?_⟩
    · cases l with
      | nil => rfl
      | cons e l =>
        obtain ⟨_, _, h1, _⟩ := hE.get (i := 0) (e := e) (by simp)
        cases h1
    all_goals intro xo yo; simp [eqGuard, Go.binOp, this]
  | some ad =>
    have := key (.slice (some ad) l.length c) (.slice none 0 0) false (fun n => by simp [Op.equalIn, run_underlying hd])
    refine ⟨false, fun e => (by cases e), ?_, ?_⟩
    all_goals intro xo yo; simp [eqGuard, Go.binOp, this]

/-- What is laid for good. -/
theorem freeze_sound {p : Option Nat} {k : St → Prop} (hI : Inv E st G a w) (h : freezeK p st.slots st.objs k) : ∃ st' G', Inv E st' G' a w ∧ k st' := by
  cases p with
  | none => exact ⟨st, G, hI, h⟩
  | some p =>
    simp only [freezeK] at h
    split at h
    · rename_i n off hs
      split at h
      · rename_i h0
        obtain rfl : off = 0 := Nat.eq_of_beq_eq_true h0
        split at h
        · rename_i t c ho
          rw [forceL_eq] at h
          obtain ⟨hok, h⟩ := must_elim h
          obtain ⟨objs', h1, h3⟩ := objGet_set h
          rw [setK_eq] at h1
          obtain ⟨b, vs, e1, e2, e3, e4⟩ := hI.obj_cells ho
          have hlt : b < w.heap.size := (Array.getElem?_eq_some_iff.1 e2).1
          have hat : ∀ b', G.at n b' → b' = b := by
            rintro b' (hb | ⟨u, t', hb, _⟩)
            · rw [e1] at hb; cases hb; rfl
            · rw [e1] at hb; cases hb
          have hle : G.le ⟨addK G.K b vs, addOb G.ob n (.blk b)⟩ := by
            refine ⟨fun b' o v e => ?_, fun m b' e => ?_, fun m u t' e => ⟨u, t', ?_, .inr ⟨rfl, rfl⟩⟩⟩
            · show addK G.K b vs b' o = some v
              by_cases hb : b' = b
              · subst hb; rw [e4] at e; cases e
              · simp [addK, hb, e]
            · by_cases hm : m = n
              · subst hm; rw [e1] at e; cases e; simp [addOb]
              · simp [addOb, hm, e]
            · by_cases hm : m = n
              · subst hm; rw [e1] at e; cases e
              · simp [addOb, hm, e]
          have hI1 := hI.setObj (w' := w) (n := n) (o := .cells t c) (o' := .dead) (objs' := objs') (g := .blk b) (K' := addK G.K b vs) ho rfl rfl rfl (Nat.le_refl _) (fun _ _ _ => rfl)
            (fun b' o _ hn => by
              have hb : b' ≠ b := fun e => hn (by subst e; exact .inl e1)
              simp [addK, hb]) hle
            (fun b' o v _ e => by
              have e : addK G.K b vs b' o = some v := e
              by_cases hb : b' = b
              · subst hb
                rw [cell_row e2]
                simpa [addK] using e
              · simp only [addK, hb, if_false] at e
                exact hI.wr.know _ _ _ e) h3
            ⟨⟨.blk b, by simp [addOb]⟩, fun b' hb => by
              rcases hb with hb | ⟨u, t', hb, hb'⟩
              · simp [addOb] at hb; omega
              · simp [addOb] at hb⟩
            (fun b' hb => by
              rcases hb with hb | ⟨u, t', hb, hb'⟩
              · simp [addOb] at hb; subst hb; exact .inr (.inl e1)
              · simp [addOb] at hb)
          refine ⟨⟨setL st.slots p (.cptr (c.map AV.strip) 0), objs'⟩, ⟨addK G.K b vs, addOb G.ob n (.blk b)⟩, ⟨?_, hI1.defers, hI1.wr, hI1.le, hI1.ext, hI1.newb⟩, h1⟩
          have hltp : p < st.slots.length := by
            rcases Nat.lt_or_ge p st.slots.length with h | h
            · exact h
            · rw [getL_eq, List.getD_eq_getElem?_getD, List.getElem?_eq_none h] at hs; simp at hs
          have hsl : RepL G st.slots a.tmps.toList := hI.slots
          obtain ⟨v, g1, g2⟩ := hsl.get (List.getElem?_eq_getElem hltp)
          have he : st.slots[p] = .ptr n 0 := by
            rw [getL_eq, List.getD_eq_getElem?_getD, List.getElem?_eq_getElem hltp] at hs
            exact hs
          rw [he] at g2
          simp only [Rep] at g2
          obtain ⟨b', hb', rfl⟩ := g2
          rw [e1] at hb'
          cases hb'
          have hset : a.tmps.toList.set p (.pointer (some ⟨b, 0, none⟩)) = a.tmps.toList := by
            obtain ⟨h5, h6⟩ := List.getElem?_eq_some_iff.1 g1
            rw [← h6, List.set_getElem_self]
          show RepL _ (setL st.slots p _) a.tmps.toList
          rw [← hset]
          refine RepL.set hI1.slots p ?_
          simp only [Rep]
          exact ⟨b, 0, rfl, RepC.of_vals (RepL.mono hle _ _ e3.strip) fun j v hj => by simpa [addK] using hj, hok⟩
        · exact h.elim
      · exact h.elim
    · exact h.elim

/-- A row whose elements may change is one whose elements never change. -/
theorem freezeV_sound {p : Option Nat} {k : St → Prop} (hI : Inv E st G a w) (h : freezeVK p st k) : ∃ st' G', Inv E st' G' a w ∧ k st' := by
  cases p with
  | none => exact ⟨st, G, hI, h⟩
  | some p =>
    simp only [freezeVK] at h
    split at h
    · rename_i n size ver off len hs
      split at h
      · rename_i te sz l ver' ho
        obtain ⟨hsz, hq⟩ := must_elim h
        clear h
        obtain rfl := Nat.eq_of_beq_eq_true hsz
        obtain ⟨⟨rfl, rfl, rfl⟩, h⟩ := hq
        obtain ⟨objs', h1, h3⟩ := objGet_set h
        rw [setK_eq] at h1
        obtain ⟨u, xs, o1, o2, o3, o4, o5⟩ := hI.wr.obj _ _ ho
        have hatn : ∀ b, G.at n b ↔ u.ownBlock = some b := fun b => by
          constructor
          · rintro (h1 | ⟨u1, t1, h1, h2⟩)
            · rw [o1] at h1; cases h1
            · rw [o1] at h1; cases h1; exact h2
          · intro h1; exact .inr ⟨u, _, o1, h1⟩
        have heq : addOb G.ob n (.rowv u ver) = G.ob := by
          funext m
          by_cases hm : m = n
          · subst hm; simp only [addOb, if_true]; exact o1.symm
          · simp [addOb, hm]
        have hK0 : ∀ b o v, G.K b o = some v → rowK G.K u xs b o = some v := fun b o v e => by
          by_cases hb : some b = u.ownBlock
          · rw [o5 b hb.symm o] at e; cases e
          · simp [rowK, hb, e]
        have hle : G.le ⟨rowK G.K u xs, addOb G.ob n (.rowv u ver)⟩ := by
          rw [heq]
          exact ⟨hK0, fun _ _ e => e, fun m u t e => ⟨u, t, e, .inr ⟨rfl, rfl⟩⟩⟩
        have hI1 := hI.setObj (w' := w) (n := n) (o := .vec te sz l ver) (o' := .dead) (objs' := objs') (g := .rowv u ver) (K' := rowK G.K u xs) ho rfl rfl rfl (Nat.le_refl _) (fun _ _ _ => rfl)
          (fun b o _ hnb => by
            have : some b ≠ u.ownBlock := fun e => hnb ((hatn b).2 e.symm)
            simp [rowK, this]) hle
          (fun b o v _ e => by
            by_cases hb : some b = u.ownBlock
            · simp only [rowK, hb, if_true] at e
              exact row_vals (K := G.K) o2 hb e
            · simp only [rowK, hb, if_false] at e
              exact hI.wr.know _ _ _ e) h3
          (by
            rw [heq]
            refine ⟨⟨_, o1⟩, fun b hb => ?_⟩
            rcases hb with hb | ⟨u', t', hb, hb'⟩
            · rw [o1] at hb; cases hb
            · rw [o1] at hb; cases hb
              exact (o2.lt b hb').2)
          (fun b hb => by rw [heq] at hb; exact .inr hb)
        rw [heq] at hI1 hle
        refine ⟨⟨setL st.slots p (.sl none sz l), objs'⟩, ⟨rowK G.K u xs, G.ob⟩, ⟨?_, hI1.defers, hI1.wr, hI1.le, hI1.ext, hI1.newb⟩, h1⟩
        have hltp : p < st.slots.length := by
          rcases Nat.lt_or_ge p st.slots.length with h | h
          · exact h
          · rw [getL_eq, List.getD_eq_getElem?_getD, List.getElem?_eq_none h] at hs; simp at hs
        have hsl : RepL G st.slots a.tmps.toList := hI.slots
        obtain ⟨v, g1, g2⟩ := hsl.get (List.getElem?_eq_getElem hltp)
        have he : st.slots[p] = .slv n sz ver 0 l.length := by
          rw [getL_eq, List.getD_eq_getElem?_getD, List.getElem?_eq_getElem hltp] at hs
          exact hs
        rw [he] at g2
        simp only [Rep] at g2
        obtain ⟨⟨A, c, rfl, _, hlc⟩, u', top, e1, e2, e3⟩ := g2
        rw [o1] at e1
        injection e1 with e1
        injection e1 with e1 e1'
        subst e1 e1'
        obtain ⟨A0, L, c0, A', hu, hL, hLc, hv, hA0, hgg⟩ := e3 rfl
        have hset : a.tmps.toList.set p (.slice A l.length c) = a.tmps.toList := by
          obtain ⟨h5, h6⟩ := List.getElem?_eq_some_iff.1 g1
          rw [← h6, List.set_getElem_self]
        show RepL _ (setL st.slots p _) a.tmps.toList
        rw [← hset]
        refine RepL.set hI1.slots p ?_
        simp only [Rep]
        refine ⟨⟨A, c, rfl, hlc, ?_⟩, trivial⟩
        by_cases hl0 : l = []
        · subst hl0; simp [RepE]
        · obtain ⟨g, hg1, hg2⟩ := hgg (fun e => hl0 (List.eq_nil_of_length_eq_zero e))
          injection hv with hv1 hv2 hv3
          rw [hv1, hg2, Nat.zero_mul]
          refine RepE.of_flat (RepL.mono hle _ _ o3) o4 fun j v hj => ?_
          have : some g = u.ownBlock := by rw [hu, hg1]; rfl
          simp only [rowK, this, if_true]
          simpa using hj
      · exact h.elim
    · rename_i n size hs
      split at h
      · rename_i te sz top ho
        obtain ⟨hsz, hq⟩ := must_elim h
        clear h
        simp only [Bool.and_eq_true] at hsz
        obtain rfl := Nat.eq_of_beq_eq_true hsz.1
        obtain rfl := Nat.eq_of_beq_eq_true hsz.2
        obtain ⟨objs', h1, h3⟩ := objGet_set hq
        rw [setK_eq] at h1
        obtain ⟨u, xs, o1, o2, o3⟩ := hI.wr.obj _ _ ho
        have hx0 : xs = [] := List.eq_nil_of_length_eq_zero (by rw [o2.1]; simp)
        subst hx0
        have heq : addOb G.ob n (.rowv u 0) = G.ob := by
          funext m
          by_cases hm : m = n
          · subst hm; simp only [addOb, if_true]; exact o1.symm
          · simp [addOb, hm]
        have hI1 := hI.setObj (w' := w) (n := n) (o := .row te sz 0) (o' := .vec te sz [] 0) (objs' := objs') (g := .rowv u 0) (K' := G.K) ho rfl rfl rfl (Nat.le_refl _) (fun _ _ _ => rfl)
          (fun _ _ _ _ => rfl) (by rw [heq]; exact Gh.le.refl G) (fun b o v _ e => hI.wr.know _ _ _ e) h3
          (by
            rw [heq]
            exact ⟨u, [], o1, o2, by simp [RepL], by simp, fun g hg o => by rw [o3 g hg o]; rfl⟩)
          (fun b hb => by rw [heq] at hb; exact .inr hb)
        rw [heq] at hI1
        refine ⟨⟨setL st.slots p (.slv n sz 0 0 0), objs'⟩, G, ⟨?_, hI1.defers, hI1.wr, hI1.le, hI1.ext, hI1.newb⟩, h1⟩
        have hltp : p < st.slots.length := by
          rcases Nat.lt_or_ge p st.slots.length with h | h
          · exact h
          · rw [getL_eq, List.getD_eq_getElem?_getD, List.getElem?_eq_none h] at hs; simp at hs
        have hsl : RepL G st.slots a.tmps.toList := hI.slots
        obtain ⟨v, g1, g2⟩ := hsl.get (List.getElem?_eq_getElem hltp)
        have he : st.slots[p] = .sl (some n) sz [] := by
          rw [getL_eq, List.getD_eq_getElem?_getD, List.getElem?_eq_getElem hltp] at hs
          exact hs
        rw [he] at g2
        simp only [Rep] at g2
        obtain ⟨⟨A, c, rfl, hlc, _⟩, u', top, e1, e2, e3⟩ := g2
        rw [o1] at e1
        injection e1 with e1
        injection e1 with e1 e1'
        subst e1 e1'
        have hu := e3 rfl
        have hset : a.tmps.toList.set p (.slice A 0 c) = a.tmps.toList := by
          obtain ⟨h5, h6⟩ := List.getElem?_eq_some_iff.1 g1
          have h6 : a.tmps.toList[p] = .slice A 0 c := h6
          rw [← h6, List.set_getElem_self]
        show RepL _ (setL st.slots p _) a.tmps.toList
        rw [← hset]
        refine RepL.set hI1.slots p ?_
        simp only [Rep]
        exact ⟨⟨A, c, rfl, fun h => absurd rfl h, Nat.zero_le _⟩, u, 0, o1, Nat.le_refl _, fun _ => ⟨A, 0, c, A, hu.symm, Nat.le_refl _, Nat.zero_le _, rfl, fun _ => rfl, fun h => absurd rfl h⟩⟩
      · exact h.elim
    · exact h.elim

theorem opY_sound (hT : TabOk P T) (hI : Inv E st G a w) (h : awpOpY P T an o st k) (hn : Nexts E k next) : o.wp P a w next Q := by
  unfold awpOpY at h
  split at h
  · cases hop : o.op with
    | convert s d x =>
      simp only [hop, extraOp] at h
      obtain ⟨hok, h⟩ := tyOk_elim h
      obtain ⟨hok', h⟩ := tyOk_elim h
      obtain ⟨inf, ds, hinf, hd, _, _, htd, _, _⟩ := ti_facts hT hok
      obtain ⟨inf', dd, hinf', hd', _, _, htd', _, _⟩ := ti_facts hT hok'
      have hx := hI.eval x
      split at h
      · rename_i n off len cap hde hxe
        rw [hxe] at hx
        simp only [Rep] at hx
        obtain ⟨b, hb, hxv⟩ := hx
        rw [htd'] at hde
        obtain rfl := TD_string hde
        split at h
        · rename_i e hse
          rw [htd] at hse
          obtain rfl := TD_slice hse
          split at h
          · rename_i hee
            obtain ⟨ie, de, hie, hue, hte⟩ := dOf_under hT hee (by simp)
            obtain rfl := TD_int hte
            split at h
            · rename_i t' l ho
              obtain ⟨bs, hbs, hlen, h⟩ := h
              obtain ⟨b', vs, e1, e2, e3, e4⟩ := hI.obj_cells ho
              rw [hb] at e1
              cases e1
              refine wp_value (x := .string (strOfNums bs)) hI ?_ (by simp only [Rep]) h hn
              simp only [execOp, hop, hxv, Sem.run_bind]
              have hvs : RepL G (bs.map fun b => AV.val (.int .u8 b)) ((vs.drop off).take len) := by
                rw [← hbs]
                exact (e3.drop off).take len
              have hvs' := RepL_vmap_eq (fun b => Value.int .u8 b) hvs
              subst hlen
              rw [run_convert_bytes_arg (P := P) w s e hd hue b off bs.length cap bs rfl (fun i hi => by
                rw [cell_row e2]
                have h1 : ((vs.drop off).take bs.length)[i]? = some (.int .u8 (bs.getD i 0)) := by
                  rw [hvs']
                  simp [List.getElem?_eq_getElem hi, List.getD_eq_getElem?_getD]
                rw [List.getElem?_take_of_lt hi, List.getElem?_drop] at h1
                simpa using h1) d hd']
              rfl
            · exact h.elim
          · exact h.elim
        · exact h.elim
      · rename_i e own sz l hde hxe
        split at h
        · rename_i n
          split at h
          · rename_i hee
            split at h
            · rename_i t' rsz top ho
              split at h
              · exact h.elim
              · rename_i x0 l0
                obtain ⟨hsd, hq⟩ := must_elim h
                obtain ⟨htop, hq⟩ := must_elim hq
                clear h
                have hsd : s = d := by simpa using hsd
                subst hsd
                have htop : top = (x0 :: l0).length := by simpa using htop
                rw [htd'] at hde
                obtain rfl := TD_slice hde
                obtain ⟨ie, de, hie, hue, hte⟩ := dOf_under hT hee (by simp)
                obtain rfl := TD_int hte
                rw [hxe] at hx
                simp only [Rep] at hx
                obtain ⟨⟨A, c, hxv, hc, hE⟩, u, top', q1, q2, q3⟩ := hx
                obtain ⟨u', xs, r1, r2, r3⟩ := hI.wr.obj n _ ho
                rw [r1] at q1
                cases q1
                have hxu := q3 htop.symm
                rcases r2.2 with ⟨_, hz⟩ | ⟨g, cap, cur, hu, _, hg, hnc, hcm, hcs, htake⟩
                · rw [hz] at htop; cases htop
                subst hu
                rw [hxu] at hxv
                have hsh : w.shape? g = some (t', cur.size) := by simp [World.shape?, hg]
                have hrun : (convert s s (.slice (some ⟨g, 0, none⟩) top cap)).run P w = .ok (.slice (some ⟨g, 0, none⟩) top cap) (w.freeze ⟨g, cur.size, none⟩ 1) := by
                  simp [convert, run_underlying hd', run_underlying hue, markStringish, hsh]
                obtain ⟨objs', hk', hobjs⟩ := objGet_set hq
                have hsame : addOb G.ob n (.rowv (.slice (some ⟨g, 0, none⟩) top cap) top) = G.ob := by
                  funext m
                  unfold addOb
                  split
                  · rename_i e; subst e; exact r1.symm
                  · rfl
                have hat : G.at n g := .inr ⟨_, _, r1, rfl⟩
                have hfsz : (w.freeze ⟨g, cur.size, none⟩ 1).heap.size = w.heap.size := by unfold World.freeze; split <;> simp
                have hfo : ∀ b, b ≠ g → (w.freeze ⟨g, cur.size, none⟩ 1).heap[b]? = w.heap[b]? := fun b hb => by
                  unfold World.freeze
                  split
                  · rfl
                  · simp [Array.getElem?_modify, Ne.symm hb]
                have hfs : ∃ fz, (w.freeze ⟨g, cur.size, none⟩ 1).heap[g]? = some (.cells cur t' fz) := by
                  unfold World.freeze
                  split
                  · exact ⟨_, hg⟩
                  · exact ⟨_, by simp [Array.getElem?_modify, hg]; rfl⟩
                obtain ⟨fz, hfz⟩ := hfs
                have hI' := hI.setObj (w' := w.freeze ⟨g, cur.size, none⟩ 1) (n := n) (o := .row t' rsz top) (o' := .dead) (objs' := objs') (g := .rowv (.slice (some ⟨g, 0, none⟩) top cap) top) (K' := G.K) ho
                  (by unfold World.freeze; split <;> rfl) (by unfold World.freeze; split <;> rfl) (by unfold World.freeze; split <;> rfl) (by rw [hfsz]; exact Nat.le_refl _)
                  (fun b hb hn => hfo b (fun e => hn (by subst e; exact hat))) (fun _ _ _ _ => rfl) (by rw [hsame]; exact Gh.le.refl _)
                  (fun b o v hb ev => by
                    rcases hb with hb | hb
                    · have := hI.wr.kltb ev; omega
                    · have hbg : b = g := by
                        rcases hb with hb | ⟨_, _, hb, hb'⟩
                        · rw [r1] at hb; cases hb
                        · rw [r1] at hb; cases hb; simpa [Value.ownBlock] using hb'.symm
                      subst hbg
                      have := hI.wr.know _ _ _ ev
                      rw [cell_row hg] at this
                      simp only [World.cell?, hfz]
                      simpa using this)
                  hobjs
                  (by
                    rw [hsame]
                    refine ⟨⟨_, r1⟩, fun b hb => ?_⟩
                    rcases hb with hb | ⟨_, _, hb, hb'⟩
                    · rw [r1] at hb; cases hb
                    · rw [r1] at hb; cases hb
                      have : g = b := by simpa [Value.ownBlock] using hb'
                      subst this
                      rw [hfsz]
                      exact (Array.getElem?_eq_some_iff.1 hg).1)
                  (fun b hb => .inr (by rw [hsame] at hb; exact hb))
                rw [hsame] at hI'
                refine wp_value' (x := .slice (some ⟨g, 0, none⟩) top cap) hI' ?_ ?_ hk' hn
                · simp only [execOp, hop, hxu, Sem.run_bind, hrun, Result.andThen_ok, Sem.run_pure]
                · simp only [Rep]
                  exact ⟨⟨A, c, hxv, hc, hE⟩, trivial⟩
            · exact h.elim
          · exact h.elim
        · exact h.elim
      · exact h.elim
    | binOp op t x y yt =>
      simp only [hop, extraOp] at h
      have hx := hI.eval x
      have hy := hI.eval y
      split at h
      · rename_i e hde
        split at h
        · rename_i own sz l hxe hye
          rw [hxe] at hx
          rw [hye] at hy
          simp only [Rep] at hy
          obtain ⟨b, h1, h2, h3⟩ := sound_nilSlice (P := P) (w := w) (te := t) hT hde hx hy
          split at h
          · refine wp_value (x := .bool b) hI ?_ (by simp only [Rep]) (h b h1) hn
            have h2 := h2 x y
            simp only [execOp, hop]
            rw [Sem.run_bind, h2]
            rfl
          · refine wp_value (x := .bool (!b)) hI ?_ (by simp only [Rep]) (h b h1) hn
            have h3 := h3 x y
            simp only [execOp, hop]
            rw [Sem.run_bind, h3]
            rfl
          · exact h.elim
        · exact h.elim
      · exact h.elim
    | call c =>
      simp only [hop, extraOp] at h
      split at h
      · rename_i f hcal
        have hf := hI.eval f
        split at h
        · rename_i g first cap hfe
          rw [hfe] at hf
          simp only [Rep] at hf
          obtain ⟨vs, us, hfv, hl1, hl2⟩ := hf
          rw [forceL_eq] at h
          have hargs := (hl1.append (passArgs_rep hI c.args.toList (passes an o.dst))).append hl2
          obtain ⟨v, r, h1, h2, h3⟩ := h.run G w _ hI.wr.know hargs
          refine wp_value hI ?_ h3 h2 hn
          have harr : vs.toArray ++ Array.map a.eval c.args ++ us.toArray = (vs ++ c.args.toList.map a.eval ++ us).toArray := by simp [← Array.toList_inj]
          simp only [execOp, hop, resolve, hcal, Deferred.ofValue, hfv, invoke, Sem.run_bind, Sem.run_pure, Result.andThen_ok, harr, h1]
        · exact h.elim
      · exact h.elim
    | range t x =>
      simp only [hop, extraOp] at h
      split at h
      · rename_i d hd
        exact sound_range hT hop hd hI h hn
      · exact h.elim
    | next it s =>
      simp only [hop, extraOp] at h
      split at h
      · exact h.elim
      · exact sound_next hop hI h hn
    | entry it =>
      simp only [hop, extraOp] at h
      exact sound_entry hop hI h hn
    | lookup t m x ok =>
      simp only [hop, extraOp] at h
      have hm := hI.eval m
      have hx := hI.eval x
      split at h
      · rename_i kt e hde
        obtain ⟨inf, d, hinf, hd, htd⟩ := dOf_under hT hde (by simp)
        obtain rfl := TD_map htd
        split at h
        · rename_i hdk
          obtain ⟨infk, dk, hinfk, hdkk, htdk⟩ := dOf_under hT hdk (by simp)
          obtain rfl := TD_string htdk
          obtain ⟨hoke, h⟩ := tyOk_elim h
          split at h
          · rename_i s hme hxe
            rw [hme] at hm
            rw [hxe] at hx
            simp only [Rep] at hm hx
            obtain ⟨z, zv, h, hzr, hzrun⟩ := zeroA_sound (w := w) hT hoke h
            have hr : (Instr.lookup t (.map none) (.string s) ok).run P w = .ok (if ok then .tuple #[zv, .bool false] else zv) w := by
              have hf := run_findKey (P := P) (w := w) (ms := []) (r := none) hdkk (s := s) rfl
              simp only [Instr.lookup, Sem.run_bind, run_underlying hd, Result.andThen_ok, Sem.run_pure, run_checkKey hdkk]
              simp [hf, hzrun]
            split at h
            · refine wp_value (x := .tuple #[zv, .bool false]) hI ?_ ?_ h hn
              · simp [execOp, hop, hm, hx, hr]
              · simp only [Rep]
                exact ⟨[zv, .bool false], by simp, by simp only [RepL]; exact ⟨_, _, rfl, hzr G, _, _, rfl, by simp only [Rep], rfl⟩⟩
            · refine wp_value (x := zv) hI ?_ (hzr G) h hn
              simp [execOp, hop, hm, hx, hr]
          · exact h.elim
        · exact h.elim
      · exact h.elim
    | _ => simp [hop, extraOp] at h
  · refine op_sound hT hI h fun st' G' a' w' hI' hk => ?_
    obtain ⟨st2, G2, hI2, hk2⟩ := freeze_sound hI' hk
    exact hn st2 G2 a' w' hI2 hk2

theorem opX_sound (hT : TabOk P T) (hI : Inv E st G a w) (h : awpOpX P T an o st k) (hn : Nexts E k next) : o.wp P a w next Q := by
  obtain ⟨st', G', hI', h'⟩ := freezeV_sound hI h
  exact opY_sound hT hI' h' hn

theorem rows_sound {vec : List Nat} : ∀ {l : List (Nat × TypeId)} {st : St} {G : Gh} {k : St → Prop}, Inv E st G a w → rowsK T vec l st k → ∃ st' G', Inv E st' G' a w ∧ k st' := by
  intro l
  induction l with
  | nil => intro st G k hI h; exact ⟨st, G, hI, h⟩
  | cons p l ih =>
    obtain ⟨d, e⟩ := p
    intro st G k hI h
    obtain ⟨s, ob⟩ := st
    unfold rowsK at h
    simp only at h
    split at h
    · rename_i hs
      split at h
      · obtain ⟨ob', h1, h2, h3⟩ := objGet_ins h
        rw [setK_eq] at h1
        obtain ⟨hI1, hle⟩ := hI.newObj (w' := w) (n := nameOf d) (o := .vec e (T.ti e).size [] 0) (objs' := ob') (g := .rowv (.slice none 0 0) 0) (K' := G.K) rfl rfl rfl (Nat.le_refl _)
          (fun b hb => rfl) (fun _ _ _ => rfl) (fun b o v hb e => by have := hI.wr.kltb e; omega) h2 h3
          ⟨.slice none 0 0, [], by simp [addOb], World.ownsRow_nil _ _ _ _, by simp [RepL], by simp, fun g hg => by cases hg⟩
          (fun b hb => by
            rcases hb with hb | ⟨u, t', hb, hb'⟩
            · simp [addOb] at hb
            · simp [addOb] at hb
              obtain ⟨rfl, _⟩ := hb
              cases hb')
        refine ih (st := ⟨setL s d (.slv (nameOf d) (T.ti e).size 0 0 0), ob'⟩) (G := ⟨G.K, addOb G.ob (nameOf d) (.rowv (.slice none 0 0) 0)⟩) ?_ h1
        refine ⟨?_, hI1.defers, hI1.wr, hI1.le, hI1.ext, hI1.newb⟩
        have hlt : d < s.length := by
          rcases Nat.lt_or_ge d s.length with h | h
          · exact h
          · rw [getL_eq, List.getD_eq_getElem?_getD, List.getElem?_eq_none h] at hs; simp at hs
        have hsl : RepL G s a.tmps.toList := hI.slots
        obtain ⟨v, g1, g2⟩ := hsl.get (List.getElem?_eq_getElem hlt)
        have he : s[d] = .val (.slice none 0 0) := by
          rw [getL_eq, List.getD_eq_getElem?_getD, List.getElem?_eq_getElem hlt] at hs
          exact hs
        rw [he] at g2
        simp only [Rep] at g2
        subst g2
        have hset : a.tmps.toList.set d (.slice none 0 0) = a.tmps.toList := by
          obtain ⟨h5, h6⟩ := List.getElem?_eq_some_iff.1 g1
          rw [← h6, List.set_getElem_self]
        show RepL _ (setL s d _) a.tmps.toList
        rw [← hset]
        refine RepL.set hI1.slots d ?_
        simp only [Rep]
        exact ⟨⟨none, 0, rfl, fun h => absurd rfl h, Nat.le_refl _⟩, .slice none 0 0, 0, by simp [addOb], by simp, fun _ => ⟨none, 0, 0, none, rfl, by simp, by simp, rfl, fun _ => rfl, fun h => absurd rfl h⟩⟩
      obtain ⟨ob', h1, h2, h3⟩ := objGet_ins h
      rw [setK_eq] at h1
      obtain ⟨hI1, hle⟩ := hI.newObj (w' := w) (n := nameOf d) (o := .row e (T.ti e).size 0) (objs' := ob') (g := .rowv (.slice none 0 0) 0) (K' := G.K) rfl rfl rfl (Nat.le_refl _)
        (fun b hb => rfl) (fun _ _ _ => rfl) (fun b o v hb e => by have := hI.wr.kltb e; omega) h2 h3
        ⟨.slice none 0 0, [], by simp [addOb], World.ownsRow_nil _ _ _ _, fun g hg => by cases hg⟩
        (fun b hb => by
          rcases hb with hb | ⟨u, t', hb, hb'⟩
          · simp [addOb] at hb
          · simp [addOb] at hb
            obtain ⟨rfl, _⟩ := hb
            cases hb')
      refine ih (st := ⟨setL s d (.sl (some (nameOf d)) (T.ti e).size []), ob'⟩) (G := ⟨G.K, addOb G.ob (nameOf d) (.rowv (.slice none 0 0) 0)⟩) ?_ h1
      refine ⟨?_, hI1.defers, hI1.wr, hI1.le, hI1.ext, hI1.newb⟩
      have hlt : d < s.length := by
        rcases Nat.lt_or_ge d s.length with h | h
        · exact h
        · rw [getL_eq, List.getD_eq_getElem?_getD, List.getElem?_eq_none h] at hs; simp at hs
      have hsl : RepL G s a.tmps.toList := hI.slots
      obtain ⟨v, g1, g2⟩ := hsl.get (List.getElem?_eq_getElem hlt)
      have he : s[d] = .val (.slice none 0 0) := by
        rw [getL_eq, List.getD_eq_getElem?_getD, List.getElem?_eq_getElem hlt] at hs
        exact hs
      rw [he] at g2
      simp only [Rep] at g2
      subst g2
      have hset : a.tmps.toList.set d (.slice none 0 0) = a.tmps.toList := by
        obtain ⟨h5, h6⟩ := List.getElem?_eq_some_iff.1 g1
        rw [← h6, List.set_getElem_self]
      show RepL _ (setL s d _) a.tmps.toList
      rw [← hset]
      refine RepL.set hI1.slots d ?_
      simp only [Rep]
      exact ⟨⟨none, 0, rfl, by simp, by simp [RepE]⟩, .slice none 0 0, 0, by simp [addOb], by simp, fun _ => rfl⟩
    · exact ih hI h
end
end Go.Abs
