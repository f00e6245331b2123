/- Several texts of this claim, one behind the other: H6. -/
import Derived.Test.YtnifkinpogopkaaYCompactRecords1

section
/- The statement CompactRecords. -/
set_option maxRecDepth 100000
set_option maxHeartbeats 1000000
set_option linter.unusedVariables false
set_option linter.unusedSimpArgs false
namespace Go.Abs
open Go Go.Proofs Dig
attribute [local irreducible] ibits byteAt strLt firstIdx

theorem Records_calls (l : List Rc) (hl : l.length < 1000000) (hd : ∀ r ∈ l, r.deps.length < 1000000) {R} (h : R (.sl none 7 (recs (docOf l))) []) : ACalls Try.prog 15 [.sl none 7 (recs l)] [] R := by
  refine acalls_of_xwp (an := an15) tab_ok Try.func15 ?_
  (conv => whnf)
  refine Of_records l hl hd ?_
  (conv => whnf)
  exact h
def wasteP (l : List Rc) : Int := (l.length : Int) - (docOf l).length
theorem Waste_calls (l : List Rc) (hl : l.length < 1000000) (hd : ∀ r ∈ l, r.deps.length < 1000000) {R} (h : ∀ x, x = wasteP l → R (vi x) []) : ACalls Try.prog 18 [.sl none 7 (recs l)] [] R := by
  refine acalls_of_xwp (an := an18) tab_ok Try.func18 ?_
  have h1 := recs_length l
  have h2 := recs_length (docOf l)
  have h3 := docOf_len l
  (conv => whnf)
  refine Records_calls l hl hd ?_
  (conv => whnf)
  rw [h1, h2, wrap_i64 (by omega) (by omega)]
  exact h _ rfl
theorem docWaste_calls (l : List Rc) (hl : l.length < 1000000) (hT : ∀ s ∈ l, s.target.length < 1000000) {R} (h : ∀ x, x = wasteP l → R (vi x) []) : ACalls Try.prog 19 [.sl none 7 (recs l)] [] R := by
  refine acalls_of_xwp (an := an19) tab_ok Try.func19 ?_
  have h1 := recs_length l
  have h2 := recs_length (docOf l)
  have h3 := docOf_len l
  (conv => whnf)
  refine docOf_calls l hl hT ?_
  (conv => whnf)
  rw [h1, h2, wrap_i64 (by omega) (by omega)]
  exact h _ rfl

def fixA : Rc := ⟨1, [97], 0, [], 1, 0, []⟩
def fixB : Rc := ⟨1, [97], 0, [], 2, 0, []⟩
theorem cfix_of : docOf [fixA, fixB] = [fixB] := by decide +kernel
theorem le_rec (k : Int) (t : B) (u o w : U) (g : B) : leL [.val (.int .i64 k), .val (.string (ofB t)), .val (.int .u64 (u.toNat : Int)), .val (.slice none 0 0), .val (.int .u64 (o.toNat : Int)), .val (.int .u64 (w.toNat : Int)), .val (.string (ofB g))] (Rc.enc ⟨k, t, u, [], o, w, g⟩) :=
  leL.cons (.refl _) (leL.cons (.refl _) (leL.cons (.refl _) (leL.cons (le_nil 3) (leL.refl _))))
theorem cfixed_calls {R} (h : R (.val (.bool true)) []) : ACalls Try.prog 14 [] [] R := by
  refine acalls_of_xwp (an := an14) tab_ok Try.func14 ?_
  have hle := leE.cons (le_rec 1 [97] 0 1 0 []) rfl (leE.cons (le_rec 1 [97] 0 2 0 []) rfl leE.nil)
  (conv => whnf)
  refine ACalls.args ?_ (Records_calls [fixA, fixB] (by decide) (by decide) ?_)
  · exact leL.cons (le_sl _ _ hle) leL.nil
  rw [cfix_of]
  (conv => whnf)
  refine ACalls.args ?_ (Waste_calls [fixA, fixB] (by decide) (by decide) fun x hx => ?_)
  · exact leL.cons (le_sl _ _ hle) leL.nil
  have hx : x = 1 := by rw [hx, wasteP, cfix_of]; rfl
  subst hx
  (conv => whnf)
  exact h

theorem CompactRecords_calls (l : List Rc) (hl : l.length ≤ maxLen) (hd : ∀ r ∈ l, r.deps.length ≤ maxLen) {R} (h : R (.val (.bool true)) []) : ACalls Try.prog 3 [.sl none 7 (recs l)] [] R := by
  refine acalls_of_xwp (an := an3) tab_ok Try.func3 ?_
  (conv => whnf)
  refine Great10_calls l hl hd fun b hb => ?_
  (conv => whnf)
  refine br_intro (fun g => ?_) (fun g => ?_)
  · (conv => whnf)
    refine cfixed_calls ?_
    (conv => whnf)
    exact h
  obtain ⟨c1, c2⟩ := hb g
  have hl : l.length < 1000000 := by omega
  have hd : ∀ r ∈ l, r.deps.length < 1000000 := fun r hr => by have := (c2 r hr).1; omega
  have hT : ∀ r ∈ l, r.target.length < 1000000 := fun r hr => by have := (c2 r hr).2.1; omega
  generalize hm : docOf l = m
  have hms : Srt m := by rw [← hm]; exact docOf_srt l
  have hml : m.length ≤ l.length := by rw [← hm]; exact docOf_len l
  have hmd : ∀ r ∈ m, r.deps.length < 1000000 := fun r hr => hd r (docOf_sub (by rw [hm]; exact hr)).1
  have hmT : ∀ r ∈ m, r.target.length < 1000000 := fun r hr => hT r (docOf_sub (by rw [hm]; exact hr)).1
  have hmm : docOf m = m := by rw [← hm]; exact docOf_docOf l
  have hsm := recs_length m
  (conv => whnf)
  refine Records_calls l hl hd ?_
  rw [hm]
  (conv => whnf)
  refine LoopP.ind1 (fun (i : Nat) => [(15, vi i)]) (fun _ => []) (fun i => m.length - i) (fun i => i ≤ m.length) 0 rfl (by omega) ?_
  rintro i h0 IH
  (conv => whnf)
  refine br_intro (fun hc => ?_) (fun hc => ?_)
  · have hc := lt_of_decE hsm hc
    have hst := recs_length (m.take i)
    (conv => whnf); (repeat ((with_reducible refine must_intro ?_ ?_); exact decide_eq_true (by omega); (conv => whnf)))
    refine idxK_map_intro (show (i : Int).toNat < m.length by simpa using hc) ?_
    rw [show m[(i : Int).toNat]'(by simpa using hc) = m[i] from by congr 1]
    (conv => whnf); (repeat ((with_reducible refine must_intro ?_ ?_); exact decide_eq_true (by omega); (conv => whnf)))
    have hsub : List.drop (Int.toNat ((0 : Nat) : Int)) (List.take (Int.toNat (i : Int)) (recs m)) = recs (m.take i) := by simp [recs, List.map_take]
    rw [hsub]
    have hst2 : (recs (m.take i)).length = i := by rw [hst]; simp; omega
    refine LoopP.ind1 (fun (j : Nat) => [(24, vi j)]) (fun _ => []) (fun j => i - j) (fun j => j ≤ i) 0 rfl (by omega) ?_
    rintro j hj0 IH2
    (conv => whnf)
    refine br_intro (fun hc2 => ?_) (fun hc2 => ?_)
    · have hc2 : j < i := lt_of_decE hst2 hc2
      have hjt : j < (m.take i).length := by simp; omega
      have hne : ¬ m[i].target = m[j].target := by
        have := List.pairwise_iff_getElem.1 hms j i (by omega) hc hc2
        intro e
        rw [e] at this
        exact List.lt_irrefl _ this
      (conv => whnf); (repeat ((with_reducible refine must_intro ?_ ?_); exact decide_eq_true (by omega); (conv => whnf)))
      refine idxK_map_intro (show (j : Int).toNat < (m.take i).length by simpa using hjt) ?_
      rw [show (m.take i)[(j : Int).toNat]'(by simpa using hjt) = m[j]'(by omega) from by simp]
      (conv => whnf)
      refine br_false (decide_eq_false fun e => hne (ofB_inj e)) ?_
      (conv => whnf)
      rw [i64_nat (by omega)]
      exact IH2 (j + 1) (by omega) (by omega)
    · (conv => whnf)
      rw [i64_nat (by omega)]
      exact IH (i + 1) (by omega) (by omega)
  · have hc := ge_of_decE hsm hc
    (conv => whnf)
    refine cfixed_calls ?_
    (conv => whnf)
    refine docOf_calls l hl hT ?_
    rw [hm]
    (conv => whnf)
    refine All_calls m m (by omega) hmd fun p hp => ?_
    have hp : p = true := by rw [hp]; exact decide_eq_true rfl
    subst hp
    (conv => whnf)
    refine docOf_calls m (by omega) hmT ?_
    rw [hmm]
    (conv => whnf)
    refine docOf_calls l hl hT ?_
    rw [hm]
    (conv => whnf)
    refine All_calls m m (by omega) hmd fun p hp => ?_
    have hp : p = true := by rw [hp]; exact decide_eq_true rfl
    subst hp
    (conv => whnf)
    refine Waste_calls l hl hd fun x hx => ?_
    (conv => whnf)
    refine docWaste_calls l hl hT fun y hy => ?_
    (conv => whnf)
    refine br_true (by rw [hx, hy]; simp) ?_
    (conv => whnf)
    refine Waste_calls m (by omega) hmd fun z hz => ?_
    have hz : z = 0 := by rw [hz, wasteP, hmm]; omega
    subst hz
    (conv => whnf)
    exact h
theorem CompactRecords_row (l : List AV) (h : Args tab 12 [22] l) : ACalls Try.prog 3 l [] fun r _ => r = .val (.bool true) := by
  obtain ⟨a, l1, rfl, h1, h2, h3⟩ := args_recs h
  obtain rfl := args_nil h3
  exact CompactRecords_calls a h1 h2 rfl
end Go.Abs
end
