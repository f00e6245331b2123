/- The engine, part 14: append, look-ups, calls; every operation. -/
import Derived.Test.YtnifkinpogopkaaB4
set_option linter.unusedVariables false
set_option linter.unusedSimpArgs false
namespace Go.Abs
open Go

section
variable {P : Program} {T : Tab} {an : Ann} {E : Entry} {st : St} {G : Gh} {a : Act} {w : World} {o : Oper} {k : St → Prop} {next : Act → World → Prop} {Q : Exit → Act → World → Prop}

/-- What is known behind an append. -/
def rowK (K : Nat → Nat → Option Value) (u' : Value) (ys : List Value) : Nat → Nat → Option Value := fun b o => if some b = u'.ownBlock then ys[o]? else K b o

theorem mul_split {n b X : Nat} (h : n * (b + 1) ≤ X) : n * b ≤ X ∧ n ≤ X := by
  rw [Nat.mul_succ] at h
  omega

theorem row_vals {K : Nat → Nat → Option Value} {u' : Value} {ys : List Value} {w' : World} {size top : Nat} {e : TypeId} (h : w'.ownsRow 0 e size u' top ys) {b o : Nat} {v : Value} (hb : some b = u'.ownBlock) (hv : ys[o]? = some v) :
    w'.cell? ⟨b, o, none⟩ = some v := by
  have := h.cells (g := b) hb.symm o v hv
  rwa [addr_add, Nat.zero_add] at this

/-- The slice that an owned row gives. -/
theorem rep_row {G' : Gh} {n : Nm} {e : TypeId} {size top : Nat} {u' : Value} {ys : List Value} {w' : World} {l : List (List AV)} (hown : w'.ownsRow 0 e size u' top ys) (htop : l.length = top) (hob : G'.ob n = some (.rowv u' top))
    (hK : ∀ g, u'.ownBlock = some g → ∀ o, G'.K g o = ys[o]?) (hl : RepL G' l.flatten ys) (hok : ∀ e' ∈ l, e'.length = size ∧ okCells e' = true) : Rep G' (.sl (some n) size l) u' := by
  simp only [Rep]
  refine ⟨?_, u', top, hob, by omega, fun _ => rfl⟩
  rcases hown.2 with ⟨rfl, h0⟩ | ⟨g, cap, cur, rfl, _, _, hc, _⟩
  · have : l = [] := List.eq_nil_of_length_eq_zero (by omega)
    subst this
    exact ⟨none, 0, rfl, by simp, by simp [RepE]⟩
  · refine ⟨_, cap, by rw [htop], by omega, RepE.of_flat hl hok fun j v hj => ?_⟩
    rw [hK g rfl]
    simpa using hj

theorem sound_append (hT : TabOk P T) {t ty : TypeId} {d : Nat} {s x : Operand} {K : AV → List (Nm × AObj) → Prop} (hI : Inv E st G a w) (h : appendK T st.objs d t (evA st.slots s) (evA st.slots x) K) :
    ∃ u' w' v objs' G', (Builtin.append_ #[t, t] ty #[a.eval s, a.eval x]).run P w = .ok u' w' ∧ K v objs' ∧ Inv E ⟨st.slots, objs'⟩ G' a w' ∧ Rep G' v u' := by
  have hs := hI.eval s
  have hx := hI.eval x
  unfold appendK at h
  split at h
  · rename_i e hde
    obtain ⟨inf, dd, hinf, hd, htd⟩ := dOf_under hT hde (by simp)
    obtain rfl := TD_slice htd
    split at h
    · exact h.elim
    · rename_i hoke
      obtain ⟨ie, de, hie, hue, hse, hbe, _, _, hze⟩ := ti_facts hT hoke
      split at h
      · rename_i own sz m hxe
        rw [hxe] at hx
        simp only [Rep] at hx
        obtain ⟨⟨A, c, hxv, hc, hE⟩, _⟩ := hx
        split at h
        · exact h.elim
        · rename_i hsz
          simp only [Bool.and_eq_true] at hsz
          obtain ⟨hsz, hzok⟩ := hsz
          obtain ⟨iz, z, hiz, hz1, hz2, hz3, hz4, hz5⟩ := zero_facts hT hoke hzok
          rw [hie] at hiz
          cases hiz
          have hsz : sz = ie.size := by rw [← hse]; exact Nat.eq_of_beq_eq_true hsz
          subst hsz
          obtain ⟨news, n1, n2, n3, n4⟩ := hE.flat
          have hok : ∀ e' ∈ m, e'.length = ie.size ∧ okCells e' = true := fun e' he' => by
            obtain ⟨i, hi⟩ := List.mem_iff_getElem?.1 he'
            obtain ⟨_, _, _, h1, h2, _⟩ := hE.get hi
            exact ⟨h1, h2⟩
          have hnews : m.length ≠ 0 → ∃ b o, A = some ⟨b, o, none⟩ ∧ ∀ (j : Nat) v, news[j]? = some v → w.cell? ⟨b, o + j, none⟩ = some v := by
            intro hm
            obtain ⟨b, o', hA, h5⟩ := n4 (by intro e; rw [e] at hm; exact hm rfl)
            exact ⟨b, o', hA, fun j v hj => hI.wr.know _ _ _ (by simpa using h5 j v hj)⟩
          split at h
          · -- an owned row
            rename_i n sz' l hse'
            split at h
            · exact h.elim
            · rename_i hsz'
              have hsz' : sz' = ie.size := by rw [← hse]; exact Nat.eq_of_beq_eq_true hsz'
              subst hsz'
              split at h
              · rename_i te sr top ho
                split at h
                · exact h.elim
                · rename_i hte
                  simp only [Bool.and_eq_true] at hte
                  obtain rfl := Nat.eq_of_beq_eq_true hte.1
                  have hsr : sr = ie.size := by rw [← hse]; exact Nat.eq_of_beq_eq_true hte.2
                  subst hsr
                  obtain ⟨htop, hby, h⟩ := h
                  subst htop
                  obtain ⟨objs', g1, g2⟩ := objGet_set h
                  rw [hse'] at hs
                  simp only [Rep] at hs
                  obtain ⟨⟨A', c', hsv, hc', hE'⟩, u0, top0, e1, e2, e3⟩ := hs
                  obtain ⟨u, xs, o1, o2, o3⟩ := hI.wr.obj _ _ ho
                  rw [o1] at e1
                  injection e1 with e1
                  injection e1 with e1 e1'
                  subst e1 e1'
                  have hu : a.eval s = u := e3 rfl
                  have hokl : ∀ e' ∈ l, e'.length = ie.size ∧ okCells e' = true := fun e' he' => by
                    obtain ⟨i, hi⟩ := List.mem_iff_getElem?.1 he'
                    obtain ⟨_, _, _, h1, h2, _⟩ := hE'.get hi
                    exact ⟨h1, h2⟩
                  have hxs : RepL G l.flatten xs := by
                    obtain ⟨vs, v1, v2, _, v4⟩ := hE'.flat
                    by_cases hl0 : l = []
                    · subst hl0
                      have : xs = [] := List.eq_nil_of_length_eq_zero (by rw [o2.1]; simp)
                      subst this
                      simp [RepL]
                    · obtain ⟨b, o', hA', hkv⟩ := v4 hl0
                      subst hA'
                      have hub : u.ownBlock = some b := by rw [← hu, hsv]; rfl
                      have ho0 : o' = 0 := by
                        rcases o2.2 with ⟨hn, _⟩ | ⟨g, cap, cur, hg, _⟩
                        · rw [hu, hn] at hsv; cases hsv
                        · rw [hu, hg] at hsv; cases hsv; rfl
                      subst ho0
                      have : xs = vs := by
                        apply List.ext_getElem?
                        intro j
                        rcases Nat.lt_or_ge j vs.length with hj | hj
                        · have h1 := hkv j vs[j] (List.getElem?_eq_getElem hj)
                          rw [o3 b hub] at h1
                          rw [List.getElem?_eq_getElem hj]
                          simpa using h1
                        · rw [List.getElem?_eq_none hj, List.getElem?_eq_none (by rw [o2.1, ← v2]; exact hj)]
                      rw [this]; exact v1
                  obtain ⟨hby, hlen⟩ := mul_split hby
                  obtain ⟨u', w', hr, hown', hg, hat, hm0⟩ := run_append' (w := w) (ty := ty) hd hie hz1 hz3 hz4 o2 n2 hnews n3 (by rw [← hbe]; exact hby) hlen (c := c)
                  have hatn : ∀ b, G.at n b ↔ u.ownBlock = some b := fun b => by
                    constructor
                    · rintro (h1 | ⟨u1, t1, h1, h2⟩)
                      · rw [o1] at h1; cases h1
                      · rw [o1] at h1; cases h1; exact h2
                    · intro h1; exact .inr ⟨u, _, o1, h1⟩
                  have hK1 : ∀ b o, b < w.heap.size → ¬ G.at n b → rowK G.K u' (xs ++ news) b o = G.K b o := by
                    intro b o hb hnat
                    have : some b ≠ u'.ownBlock := by
                      intro e
                      rcases hat with h1 | ⟨h1, _⟩
                      · rw [h1] at e; exact hnat ((hatn b).2 e.symm)
                      · rw [h1] at e; injection e with e; omega
                    simp [rowK, this]
                  have hle : G.le ⟨rowK G.K u' (xs ++ news), addOb G.ob n (.rowv u' (l.length + m.length))⟩ := by
                    refine ⟨fun b o v ev => ?_, fun m' b e => ?_, fun m' u1 t1 e => ?_⟩
                    · show rowK _ _ _ _ _ = _
                      by_cases hb : some b = u'.ownBlock
                      · simp only [rowK, hb, if_true]
                        rcases hat with h1 | ⟨h1, _⟩
                        · rw [h1] at hb
                          rw [o3 b hb.symm] at ev
                          rw [List.getElem?_append_left (List.getElem?_eq_some_iff.1 ev).1]; exact ev
                        · rw [h1] at hb; injection hb with hb
                          have := hI.wr.kltb ev; omega
                      · simp only [rowK, hb, if_false]; exact ev
                    · by_cases hmn : m' = n
                      · subst hmn; rw [o1] at e; cases e
                      · simp [addOb, hmn, e]
                    · by_cases hmn : m' = n
                      · subst hmn
                        rw [o1] at e
                        cases e
                        refine ⟨u', l.length + m.length, by simp [addOb], ?_⟩
                        by_cases hm' : m.length = 0
                        · exact .inr ⟨hm0 hm', by omega⟩
                        · exact .inl (by omega)
                      · exact ⟨u1, t1, by simp [addOb, hmn, e], .inr ⟨rfl, rfl⟩⟩
                  have hI' := hI.setObj (w' := w') (n := n) (o' := .row te ie.size (l.length + m.length)) (objs' := objs') (g := .rowv u' (l.length + m.length)) (K' := rowK G.K u' (xs ++ news)) ho hg.os hg.tape hg.output hg.size
                    (fun b hb hnat => hg.block b hb (fun e => hnat ((hatn b).2 e.symm))) hK1 hle
                    (fun b o v hb ev => by
                      by_cases hbu : some b = u'.ownBlock
                      · simp only [rowK, hbu, if_true] at ev
                        exact row_vals (K := G.K) hown' hbu ev
                      · simp only [rowK, hbu, if_false] at ev
                        have hlt := hI.wr.kltb ev
                        rcases hb with hb | hb
                        · omega
                        · rcases hat with h1 | ⟨h1, hgn⟩
                          · rw [h1] at hbu
                            exact absurd ((hatn b).1 hb).symm hbu
                          · rw [cell_of_heap (hgn.block b hlt (by simp))]
                            exact hI.wr.know b o v ev)
                    (by rw [hse] at g2; exact g2)
                    ⟨u', xs ++ news, by simp [addOb], hown', fun g hg o => by simp [rowK, hg]⟩
                    (fun b hb => by
                      have := at_addOb_row hb
                      rcases hat with h1 | ⟨h1, _⟩
                      · rw [h1] at this; exact .inr ((hatn b).2 this)
                      · rw [h1] at this; injection this with this; exact .inl (by omega))
                  refine ⟨u', w', _, objs', _, by rw [hu, hxv]; exact hr, by rw [hse] at g1; exact g1, hI', ?_⟩
                  exact rep_row hown' (by simp) (by simp [addOb]) (fun g hg o => by simp [rowK, hg]) (by rw [List.flatten_append]; exact (RepL.mono hle _ _ hxs).append (RepL.mono hle _ _ n1)) (fun e' he' => by
                    simp only [List.mem_append] at he'
                    rcases he' with he' | he'
                    · exact hokl e' he'
                    · exact hok e' he')
              · exact h.elim
          · -- nil
            rename_i hse'
            obtain ⟨hby, h⟩ := h
            obtain ⟨objs', g1, g2, g3⟩ := objGet_ins h
            rw [hse'] at hs
            simp only [Rep] at hs
            obtain ⟨hby, hlen⟩ := mul_split hby
            have hlen : 0 + m.length ≤ 140737488355328 := by omega
            obtain ⟨u', w', hr, hown', hg, hat, hm0⟩ := run_append' (w := w) (ty := ty) hd hie hz1 hz3 hz4 (World.ownsRow_nil w 0 e ie.size) n2 hnews n3 (by rw [← hbe, Nat.zero_add]; exact hby) hlen (c := c)
            have hub : u'.ownBlock = none ∨ u'.ownBlock = some w.heap.size := by
              rcases hat with h1 | ⟨h1, _⟩
              · exact .inl h1
              · exact .inr h1
            simp only [List.nil_append, Nat.zero_add] at hown'
            have hI' := hI.newObj (w' := w') (n := nameOf d) (o := .row e ie.size m.length) (objs' := objs') (g := .rowv u' m.length) (K' := rowK G.K u' news) hg.os hg.tape hg.output hg.size
              (fun b hb => hg.block b hb (by simp [Value.ownBlock])) (fun b o hb => by
                have : some b ≠ u'.ownBlock := by
                  intro e
                  rcases hub with h1 | h1
                  · rw [h1] at e; cases e
                  · rw [h1] at e; injection e with e; omega
                simp [rowK, this]) (fun b o v hb ev => by
                by_cases hbu : some b = u'.ownBlock
                · simp only [rowK, hbu, if_true] at ev
                  exact row_vals (K := G.K) hown' hbu ev
                · simp only [rowK, hbu, if_false] at ev
                  have := hI.wr.kltb ev
                  omega) g2 (by rw [hse] at g3; exact g3)
              ⟨u', news, by simp [addOb], hown', fun g hg o => by simp [rowK, hg]⟩
              (fun b hb => by
                have := at_addOb_row hb
                rcases hub with h1 | h1
                · rw [h1] at this; cases this
                · rw [h1] at this; injection this with this; omega)
            refine ⟨u', w', _, objs', _, by rw [hs, hxv]; exact hr, by rw [hse] at g1; exact g1, hI'.1, ?_⟩
            exact rep_row hown' rfl (by simp [addOb]) (fun g hg o => by simp [rowK, hg]) (RepL.mono hI'.2 _ _ n1) hok
          · exact h.elim
      · exact h.elim
  · exact h.elim
end
end Go.Abs
