/- Graphs: the document's order. -/
import Derived.Test.YtlagdcbgkfaheaaE4
set_option maxRecDepth 100000
set_option linter.unusedVariables false
set_option linter.unusedSimpArgs false
namespace Go.Abs
open Go Go.Proofs
attribute [local irreducible] ibits byteAt strLt firstIdx

theorem nm_inj {l : List Nd} (hd : (l.map (·.name)).Nodup) {i j : Nat} (hi : i < l.length) (hj : j < l.length) (h : nm l i = nm l j) : i = j := by
  rw [nm_eq hi, nm_eq hj] at h
  have h1 : (l.map (·.name))[i]'(by simpa using hi) = (l.map (·.name))[j]'(by simpa using hj) := by simpa using h
  exact (List.getElem_inj hd).1 h1
theorem mem_out {l : List Nd} (hd : (l.map (·.name)).Nodup) {out : List Nat} (hb : ∀ b ∈ out, b < l.length) {i : Nat} (hi : i < l.length) : i ∈ out ↔ l[i].name ∈ out.map (nm l) := by
  rw [List.mem_map]
  constructor
  · exact fun h => ⟨i, h, nm_eq hi⟩
  · rintro ⟨j, hj, e⟩
    rw [← nm_eq hi] at e
    rw [← nm_inj hd (hb j hj) hi e]
    exact hj
/-- Stands the place of a name among the places that are out? -/
theorem place_out {l : List Nd} (hd : (l.map (·.name)).Nodup) {out : List Nat} (hb : ∀ b ∈ out, b < l.length) (d : B) : (∃ i ∈ out, (i : Int) = placeI (l.map (·.name)) d) ↔ d ∈ out.map (nm l) := by
  unfold placeI
  cases e : placeOf (l.map (·.name)) d with
  | none =>
    simp only
    refine ⟨fun ⟨i, _, hi⟩ => by omega, fun h => ?_⟩
    obtain ⟨j, hj, e'⟩ := List.mem_map.1 h
    rw [nm_eq (hb j hj)] at e'
    exact absurd (List.mem_map.2 ⟨_, List.getElem_mem (hb j hj), e'⟩) (placeOf_none.1 e)
  | some p =>
    simp only
    obtain ⟨h1, h2⟩ := placeOf_some e
    have hp : p < l.length := by
      have := (List.getElem?_eq_some_iff.1 h1).1
      simpa using this
    have hn : l[p].name = d := by
      rw [List.getElem?_map, List.getElem?_eq_getElem hp] at h1
      simpa using h1
    rw [← hn, ← mem_out hd hb hp]
    exact ⟨fun ⟨i, hi, e⟩ => by have : i = p := by omega
                                rwa [← this], fun h => ⟨p, h, rfl⟩⟩

theorem refRow_calls (l : List Nd) (hl : small l) (hd : (l.map (·.name)).Nodup) {R} (h : ∀ r, r = rowP l → R (.sl none 1 (ints r)) []) : ACalls Try.prog 48 [.sl none 4 (nds l)] [] R := by
  refine acalls_of_xwp (an := an48) tab_ok Try.func48 ?_
  obtain ⟨hlen, hsm⟩ := hl
  have hsl := nds_length l
  (conv => whnf)
  refine LoopP.ind1 (fun (out : List Nat) => [(3, .sl (some (nameOf 8)) 1 (ints out))]) (fun out => [(nameOf 8, .row 3 1 out.length)])
    (fun out => l.length - out.length) (fun out => out.length ≤ l.length ∧ rowFrom l (l.length - out.length) out = rowP l ∧ out.Nodup ∧ ∀ b ∈ out, b < l.length) [] rfl ⟨by simp, rfl, by simp, by simp⟩ ?_
  rintro out ⟨h0, h1, hnd, hb⟩ IH
  have hol := ints_length out
  (conv => whnf)
  refine LoopP.ind1 (fun (k : Nat) => [(4, vi (bestI (best l (out.map (nm l)) k))), (5, vi k)]) (fun _ => [(nameOf 8, .row 3 1 out.length)]) (fun k => l.length - k) (fun k => k ≤ l.length) 0 rfl (by omega) ?_
  rintro k hk0 IH2
  (conv => whnf)
  refine br_intro (fun hc2 => ?_) (fun hc2 => ?_)
  · have hc2 := lt_of_decE hsl hc2
    have hsl2 := strs_length l[k].deps
    obtain ⟨hs1, hs2, hs3⟩ := hsm _ (List.getElem_mem hc2)
    (conv => whnf)
    refine in_calls out k (by omega) rfl fun b hbq => ?_
    have hbq : b = decide (l[k].name ∈ out.map (nm l)) := by
      rw [hbq]
      apply decide_eq_decide.2
      rw [← mem_out hd hb hc2]
      exact ⟨fun ⟨i, hi, e⟩ => by have : i = k := by omega
                                  rwa [← this], fun h => ⟨k, h, rfl⟩⟩
    (conv => whnf)
    refine LoopP.ind2 (fun (j : Nat) (r : Bool) => [(6, .val (.bool r)), (7, vi j)]) (fun _ _ => [(nameOf 8, .row 3 1 out.length)]) (fun j _ => l[k].deps.length - j)
      (fun j r => j ≤ l[k].deps.length ∧ (r = true ↔ (l[k].name ∉ out.map (nm l) ∧ ∀ d ∈ l[k].deps.take j, d ∈ out.map (nm l)))) 0 (!b) rfl ⟨by omega, by rw [hbq]; simp⟩ ?_
    rintro j r ⟨hj0, hr⟩ IH3
    (conv => whnf); (repeat ((with_reducible refine must_intro ?_ ?_); exact decide_eq_true (by omega); (conv => whnf)))
    refine idxK_map_intro (show (k : Int).toNat < l.length by simpa using hc2) ?_
    rw [show l[(k : Int).toNat]'(by simpa using hc2) = l[k] from by congr 1]
    (conv => whnf)
    refine br_intro (fun hc3 => ?_) (fun hc3 => ?_)
    · have hc3 := lt_of_decE hsl2 hc3
      have hr' : ∀ r' : Bool, (r' = true ↔ (r = true ∧ l[k].deps[j] ∈ out.map (nm l))) → (r' = true ↔ (l[k].name ∉ out.map (nm l) ∧ ∀ d ∈ l[k].deps.take (j + 1), d ∈ out.map (nm l))) := by
        intro r' e
        rw [e, hr, List.take_succ_eq_append_getElem hc3]
        constructor
        · rintro ⟨⟨g1, g2⟩, g3⟩
          refine ⟨g1, fun d hd => ?_⟩
          rw [List.mem_append, List.mem_singleton] at hd
          rcases hd with hd | rfl
          · exact g2 d hd
          · exact g3
        · rintro ⟨g1, g2⟩
          exact ⟨⟨g1, fun d hd => g2 d (List.mem_append_left _ hd)⟩, g2 _ (List.mem_append_right _ (by simp))⟩
      (conv => whnf)
      refine br_intro (fun hc4 => ?_) (fun hc4 => ?_)
      · (conv => whnf); (repeat ((with_reducible refine must_intro ?_ ?_); exact decide_eq_true (by omega); (conv => whnf)))
        refine idxK_map_intro (show (k : Int).toNat < l.length by simpa using hc2) ?_
        rw [show l[(k : Int).toNat]'(by simpa using hc2) = l[k] from by congr 1]
        (conv => whnf); (repeat ((with_reducible refine must_intro ?_ ?_); exact decide_eq_true (by omega); (conv => whnf)))
        refine idxK_map_intro (show (j : Int).toNat < l[k].deps.length by simpa using hc3) ?_
        rw [show l[k].deps[(j : Int).toNat]'(by simpa using hc3) = l[k].deps[j] from by congr 1]
        (conv => whnf)
        refine nPlace_calls l l[k].deps[j] (by omega) rfl fun p hp => ?_
        (conv => whnf)
        refine in_calls out p (by omega) rfl fun b' hb' => ?_
        (conv => whnf)
        rw [i64_nat (by omega)]
        refine IH3 (j + 1) b' ⟨by omega, hr' b' ?_⟩ (by omega)
        rw [hb', decide_eq_true_iff, hp, place_out hd hb]
        exact ⟨fun h => ⟨hc4, h⟩, fun h => h.2⟩
      · (conv => whnf)
        rw [i64_nat (by omega)]
        refine IH3 (j + 1) false ⟨by omega, hr' false ?_⟩ (by omega)
        have hc4 : r = false := hc4
        rw [hc4]
        simp
    · have hc3 := ge_of_decE hsl2 hc3
      rw [List.take_of_length_le hc3] at hr
      have hrr : ready l (out.map (nm l)) k = r := by
        unfold ready
        rw [nm_eq hc2, dps_eq hc2, Bool.eq_iff_iff, Bool.and_eq_true, decide_eq_true_iff, decide_eq_true_iff, hr]
      (conv => whnf)
      refine br_intro (fun hc4 => ?_) (fun hc4 => ?_)
      · have hr2 : ready l (out.map (nm l)) k = true := hrr.trans hc4
        cases hbk : best l (out.map (nm l)) k with
        | none =>
          have e2 : best l (out.map (nm l)) (k + 1) = some k := by
            rw [best_succ, hbk]
            unfold bstep
            rw [if_pos ⟨hr2, fun b hb => by cases hb⟩]
          (conv => whnf)
          rw [i64_nat (by omega)]
          have := IH2 (k + 1) (by omega) (by omega)
          rw [e2] at this
          exact this
        | some b0 =>
          obtain ⟨g1, g2⟩ := best_some hbk
          have g1 : b0 < l.length := by omega
          rw [show bestI (some b0) = (b0 : Int) from rfl]
          (conv => whnf); (repeat ((with_reducible refine must_intro ?_ ?_); exact decide_eq_true (by omega); (conv => whnf)))
          refine idxK_map_intro (show (k : Int).toNat < l.length by simpa using hc2) ?_
          rw [show l[(k : Int).toNat]'(by simpa using hc2) = l[k] from by congr 1]
          (conv => whnf); (repeat ((with_reducible refine must_intro ?_ ?_); exact decide_eq_true (by omega); (conv => whnf)))
          refine idxK_map_intro (show (b0 : Int).toNat < l.length by simpa using g1) ?_
          rw [show l[(b0 : Int).toNat]'(by simpa using g1) = l[b0] from by congr 1]
          (conv => whnf)
          refine Less_calls l[k].name l[b0].name (by omega) (by have := (hsm _ (List.getElem_mem g1)).2.1; omega) fun p hp => ?_
          (conv => whnf)
          refine br_intro (fun hlt => ?_) (fun hlt => ?_)
          · have hlt : p = true := hlt
            have e2 : best l (out.map (nm l)) (k + 1) = some k := by
              rw [best_succ, hbk]
              unfold bstep
              rw [if_pos ⟨hr2, fun b hb => by cases hb; rw [nm_eq hc2, nm_eq g1, ← hp]; exact hlt⟩]
            (conv => whnf)
            rw [i64_nat (by omega)]
            have := IH2 (k + 1) (by omega) (by omega)
            rw [e2] at this
            exact this
          · have hlt : p = false := hlt
            have e2 : best l (out.map (nm l)) (k + 1) = some b0 := by
              rw [best_succ, hbk]
              unfold bstep
              rw [if_neg (fun hh => by have := hh.2 b0 rfl; rw [nm_eq hc2, nm_eq g1, ← hp, hlt] at this; cases this)]
            (conv => whnf)
            rw [i64_nat (by omega)]
            have := IH2 (k + 1) (by omega) (by omega)
            rw [e2] at this
            exact this
      · have hr2 : ready l (out.map (nm l)) k = false := hrr.trans hc4
        have e2 : best l (out.map (nm l)) (k + 1) = best l (out.map (nm l)) k := by
          rw [best_succ]
          unfold bstep
          rw [if_neg (by rw [hr2]; simp)]
        (conv => whnf)
        rw [i64_nat (by omega)]
        have := IH2 (k + 1) (by omega) (by omega)
        rw [e2] at this
        exact this
  · have hc2 := ge_of_decE hsl hc2
    obtain rfl : k = l.length := by omega
    cases hbk : best l (out.map (nm l)) l.length with
    | none =>
      have hr : rowFrom l (l.length - out.length) out = out := by
        cases l.length - out.length with
        | zero => rfl
        | succ j => rw [rowFrom, hbk]
      (conv => whnf)
      exact h _ (hr.symm.trans h1)
    | some b =>
      obtain ⟨g1, g2⟩ := best_some hbk
      have hbn : b ∉ out := by
        unfold ready at g2
        rw [Bool.and_eq_true, decide_eq_true_iff, nm_eq g1] at g2
        intro hm
        exact g2.1 ((mem_out hd hb g1).1 hm)
      have hlt : out.length < l.length := by
        have hnd' : (b :: out).Nodup := List.nodup_cons.2 ⟨hbn, hnd⟩
        have hsub : (b :: out) ⊆ List.range l.length := by
          intro x hx
          rw [List.mem_cons] at hx
          rcases hx with rfl | hx
          · exact List.mem_range.2 g1
          · exact List.mem_range.2 (hb x hx)
        have := hnd'.length_le_of_subset hsub
        rw [List.length_range, List.length_cons] at this
        omega
      obtain ⟨j, hj⟩ : ∃ j, l.length - out.length = j + 1 := ⟨l.length - out.length - 1, by omega⟩
      rw [hj, rowFrom, hbk] at h1
      rw [show bestI (some b) = (b : Int) from rfl]
      (conv => whnf)
      refine ⟨hol.symm, ?_, ?_⟩
      · rw [hol]
        show (out.length + 1) * (8 + 1) ≤ _
        omega
      (conv => whnf)
      have e1 : ints out ++ [[AV.val (Value.int IntKind.i64 (b : Int))]] = ints (out ++ [b]) := by simp [ints, vi]
      have e2 : (ints out).length + [[AV.val (Value.int IntKind.i64 (b : Int))]].length = (out ++ [b]).length := by simp [hol]
      rw [e1, e2]
      refine IH (out ++ [b]) ⟨by simp; omega, ?_, ?_, ?_⟩ (by simp; omega)
      · rw [← h1]
        congr 1
        simp; omega
      · rw [List.nodup_append]
        exact ⟨hnd, by simp, fun x hx y hy e => hbn (by rw [List.mem_singleton] at hy; rw [← hy, ← e]; exact hx)⟩
      · intro x hx
        rw [List.mem_append, List.mem_singleton] at hx
        rcases hx with hx | rfl
        · exact hb x hx
        · exact g1
end Go.Abs
