/- The document's Why; great; the chapter's example. -/
import Derived.Test.YtlagdcbgkfaheaaG4
set_option maxRecDepth 100000
set_option linter.unusedVariables false
set_option linter.unusedSimpArgs false
namespace Go.Abs
open Go Go.Proofs Dig
attribute [local irreducible] ibits byteAt strLt firstIdx

theorem docWhy_calls (n : Nd) (hn : n.deps.length < 1000000) (l : List Rc) (hl : l.length < 1000000) (hs : List U) {R} (h : ∀ e, e = whyP n l hs → R (vi e) []) :
    ACalls Try.prog 35 [.agg n.enc, .sl none 7 (recs l), .sl none 1 (nums hs)] [] R := by
  refine acalls_of_xwp (an := an35) tab_ok Try.func35 ?_
  (conv => whnf)
  refine br_intro (fun g => ?_) (fun g => ?_)
  · (conv => whnf)
    exact h 0 (by rw [whyP, if_pos g])
  have g : ¬ n.source = true := by simp [g]
  (conv => whnf)
  refine docFind_calls l hl n.name ?_
  generalize hr : findR l n.name = r
  generalize hb : (findP l n.name).isSome = b
  have hw : whyP n l hs = if b = false then 1 else whyR n r hs := by rw [whyP, if_neg g, hr, hb]
  have hsd := strs_length n.deps
  have hsr := dpsA_length r.deps
  have hsh := nums_len hs
  (conv => whnf)
  refine br_intro (fun q1 => ?_) (fun q1 => ?_)
  · (conv => whnf)
    exact h 1 (by rw [hw, if_pos (by simpa using q1)])
  have q1 : b = true := by simpa using q1
  rw [if_neg (by simp [q1])] at hw
  (conv => whnf)
  refine br_intro (fun q2 => ?_) (fun q2 => ?_)
  · have q2 : decide (r.rule ≠ n.rule) = true := (u_ne _ _).symm.trans q2
    (conv => whnf)
    exact h 2 (by rw [hw, whyR, if_pos (of_decide_eq_true q2)])
  have q2 : decide (r.rule ≠ n.rule) = false := (u_ne _ _).symm.trans q2
  rw [whyR, if_neg (of_decide_eq_false q2)] at hw
  have bad3 : depsBad n r hs = true → R (vi 3) [] := fun hb => h 3 (by rw [hw, if_pos hb])
  (conv => whnf)
  rw [hsr, hsd]
  refine br_intro (fun q3 => ?_) (fun q3 => ?_)
  · have q3 : r.deps.length ≠ n.deps.length := by simp at q3; omega
    (conv => whnf)
    refine bad3 ?_
    have : r.deps.map (·.name) ≠ n.deps := fun e => q3 (by rw [← e]; simp)
    simp [depsBad, this]
  have q3 : r.deps.length = n.deps.length := by simp at q3; omega
  (conv => whnf)
  rw [hsh, hsd]
  refine br_intro (fun q4 => ?_) (fun q4 => ?_)
  · have q4 : hs.length ≠ n.deps.length := by simp at q4; omega
    (conv => whnf)
    refine bad3 ?_
    simp [depsBad, q4]
  have q4 : hs.length = n.deps.length := by simp at q4; omega
  have hle : hs.length = r.deps.length := by omega
  (conv => whnf)
  refine LoopP.ind1 (fun (i : Nat) => [(9, vi i)]) (fun _ => []) (fun i => n.deps.length - i) (fun i => i ≤ n.deps.length ∧ (r.deps.take i).map (·.name) = n.deps.take i) 0 rfl ⟨by omega, by simp⟩ ?_
  rintro i ⟨h0, h1⟩ IH
  (conv => whnf)
  refine br_intro (fun hc => ?_) (fun hc => ?_)
  · have hc := lt_of_decE hsd hc
    have hcr : i < r.deps.length := by omega
    (conv => whnf); (repeat ((with_reducible refine must_intro ?_ ?_); exact decide_eq_true (by omega); (conv => whnf)))
    refine idxK_map_intro (show (i : Int).toNat < r.deps.length by simpa using hcr) ?_
    rw [show r.deps[(i : Int).toNat]'(by simpa using hcr) = r.deps[i] from by congr 1]
    (conv => whnf); (repeat ((with_reducible refine must_intro ?_ ?_); exact decide_eq_true (by omega); (conv => whnf)))
    refine idxK_map_intro (show (i : Int).toNat < n.deps.length by simpa using hc) ?_
    rw [show n.deps[(i : Int).toNat]'(by simpa using hc) = n.deps[i] from by congr 1]
    (conv => whnf)
    refine br_intro (fun q => ?_) (fun q => ?_)
    · have q : ¬ r.deps[i].name = n.deps[i] := by simpa [ofB_eq] using q
      (conv => whnf)
      refine bad3 ?_
      have : r.deps.map (·.name) ≠ n.deps := fun e => q (by
        have : (r.deps.map (·.name))[i]'(by simpa using hcr) = n.deps[i] := by congr 1
        simpa using this)
      simp [depsBad, this]
    · have q : r.deps[i].name = n.deps[i] := by simpa [ofB_eq] using q
      (conv => whnf)
      rw [i64_nat (by omega)]
      refine IH (i + 1) ⟨by omega, ?_⟩ (by omega)
      rw [List.take_succ_eq_append_getElem hc, List.take_succ_eq_append_getElem hcr, List.map_append, h1]
      simp [q]
  · have hc := ge_of_decE hsd hc
    rw [List.take_of_length_le hc, List.take_of_length_le (by omega)] at h1
    clear IH
    have q5 : ¬ depsBad n r hs = true := by simp [depsBad, h1, q4]
    rw [if_neg q5] at hw
    (conv => whnf)
    refine LoopP.ind1 (fun (i : Nat) => [(10, vi i)]) (fun _ => []) (fun i => n.deps.length - i) (fun i => i ≤ n.deps.length ∧ hashBad (r.deps.take i) (hs.take i) = false) 0 rfl ⟨by omega, by simp [hashBad]⟩ ?_
    rintro i ⟨h0, h1⟩ IH
    (conv => whnf)
    refine br_intro (fun hc => ?_) (fun hc => ?_)
    · have hc := lt_of_decE hsd hc
      have hcr : i < r.deps.length := by omega
      have hch : i < hs.length := by omega
      have htk := hashBad_take hle hcr
      (conv => whnf); (repeat ((with_reducible refine must_intro ?_ ?_); exact decide_eq_true (by omega); (conv => whnf)))
      refine idxK_map_intro (show (i : Int).toNat < r.deps.length by simpa using hcr) ?_
      rw [show r.deps[(i : Int).toNat]'(by simpa using hcr) = r.deps[i] from by congr 1]
      (conv => whnf)
      refine br_intro (fun ho => ?_) (fun ho => ?_)
      · (conv => whnf); (repeat ((with_reducible refine must_intro ?_ ?_); exact decide_eq_true (by omega); (conv => whnf)))
        refine idxK_map_intro (show (i : Int).toNat < r.deps.length by simpa using hcr) ?_
        rw [show r.deps[(i : Int).toNat]'(by simpa using hcr) = r.deps[i] from by congr 1]
        (conv => whnf); (repeat ((with_reducible refine must_intro ?_ ?_); exact decide_eq_true (by omega); (conv => whnf)))
        refine idxK_map_intro (show (i : Int).toNat < hs.length by simpa using hch) ?_
        rw [show hs[(i : Int).toNat]'(by simpa using hch) = hs[i] from by congr 1]
        (conv => whnf)
        refine br_intro (fun hh => ?_) (fun hh => ?_)
        · have hh : decide (r.deps[i].hash ≠ hs[i]) = true := (u_ne _ _).symm.trans hh
          (conv => whnf)
          exact h 4 (by rw [hw, if_pos (hashBad_drop hle hcr (by rw [ho, hh]; rfl))])
        · have hh : decide (r.deps[i].hash ≠ hs[i]) = false := (u_ne _ _).symm.trans hh
          (conv => whnf)
          rw [i64_nat (by omega)]
          exact IH (i + 1) ⟨by omega, by rw [htk, h1, hh]; simp⟩ (by omega)
      · (conv => whnf)
        rw [i64_nat (by omega)]
        exact IH (i + 1) ⟨by omega, by rw [htk, h1, ho]; simp⟩ (by omega)
    · have hc := ge_of_decE hsd hc
      rw [List.take_of_length_le (by omega), List.take_of_length_le (by omega)] at h1
      (conv => whnf)
      exact h 0 (by rw [hw, if_neg (by simp [h1])])

theorem great_calls (n : Nd) (hn : n.deps.length ≤ maxLen) {R} (h : ∀ b : Bool, (b = false → n.deps.length ≤ 60 ∧ n.name.length ≤ 300 ∧ ∀ d ∈ n.deps, d.length ≤ 300) → R (.val (.bool b)) []) :
    ACalls Try.prog 31 [.agg n.enc] [] R := by
  refine acalls_of_xwp (an := an31) tab_ok Try.func31 ?_
  have hsl := strs_length n.deps
  have hmx : maxLen ≤ 9223372036854775807 := by decide
  have yes : R (.val (.bool true)) [] := h true (fun e => by cases e)
  (conv => whnf)
  refine LoopP.ind1 (fun (i : Nat) => [(8, vi i)]) (fun _ => []) (fun i => n.deps.length - i) (fun i => i ≤ n.deps.length ∧ ∀ d ∈ n.deps.take i, d.length ≤ 300) 0 rfl ⟨by omega, by simp⟩ ?_
  rintro i ⟨h0, hdo⟩ IH
  (conv => whnf)
  refine br_intro (fun hc => ?_) (fun hc => ?_)
  · have hc := lt_of_decE hsl hc
    (conv => whnf); (repeat ((with_reducible refine must_intro ?_ ?_); exact decide_eq_true (by omega); (conv => whnf)))
    refine idxK_map_intro (show (i : Int).toNat < n.deps.length by simpa using hc) ?_
    rw [show n.deps[(i : Int).toNat]'(by simpa using hc) = n.deps[i] from by congr 1]
    have hsn := size_ofB n.deps[i]
    (conv => whnf)
    rw [hsn]
    refine br_intro (fun g => ?_) (fun g => ?_)
    · (conv => whnf)
      exact yes
    have g : n.deps[i].length ≤ 300 := by simp at g; omega
    (conv => whnf)
    rw [wrap_i64 (by omega) (by omega), show ((i : Int) + 1) = ((i + 1 : Nat) : Int) by omega]
    refine IH (i + 1) ⟨by omega, fun d hd => ?_⟩ (by omega)
    rw [List.take_succ_eq_append_getElem hc, List.mem_append, List.mem_singleton] at hd
    rcases hd with hd | rfl
    · exact hdo d hd
    · exact g
  · have hc := ge_of_decE hsl hc
    rw [List.take_of_length_le hc] at hdo
    have hst := size_ofB n.name
    (conv => whnf)
    rw [hsl]
    refine br_intro (fun g1 => ?_) (fun g1 => ?_)
    · (conv => whnf)
      exact yes
    have g1 : n.deps.length ≤ 60 := by simp at g1; omega
    (conv => whnf)
    rw [hst]
    refine h _ fun e => ⟨g1, ?_, hdo⟩
    simp at e
    omega

def fixN : Nd := ⟨[97], false, 1, []⟩
def fixN2 : Nd := ⟨[97], false, 2, []⟩
theorem le_fixN : leL [.agg [.val (.string (ofB [97])), .val (.bool false), .val (.int .u64 1), .val (.slice none 0 0)]] [.agg fixN.enc] :=
  leL.cons (le_agg (leL.cons (.refl _) (leL.cons (.refl _) (leL.cons (.refl _) (leL.cons (le_nil 1) leL.nil))))) leL.nil
theorem dfix_calls {R} (h : R (.val (.bool true)) []) : ACalls Try.prog 33 [] [] R := by
  refine acalls_of_xwp (an := an33) tab_ok Try.func33 ?_
  (conv => whnf)
  refine ACalls.args ?_ (Trace_calls fixN (by decide) [] 5 6 fun r e hr he => ?_)
  · exact leL.append (l := [_]) le_fixN (leL.cons (le_nil 1) (leL.refl _))
  have he : e = 0 := by rw [he]; rfl
  have hr : r = ⟨1, [97], 1, [], dig 5, 6, []⟩ := by rw [hr]; rfl
  subst he
  (conv => whnf)
  refine ACalls.args ?_ (Why_calls fixN [] (by decide) (by simp) [] fun e he => ?_)
  · exact leL.append (l := [_]) le_fixN (leL.cons (le_nil 7) (leL.cons (le_nil 1) leL.nil))
  have he : e = 1 := by rw [he]; rfl
  subst he
  (conv => whnf)
  refine ACalls.args ?_ (Why_calls fixN [r] (by simp) (by simp [hr]) [] fun e he => ?_)
  · exact leL.append (l := [_]) le_fixN (leL.cons (.refl _) (leL.cons (le_nil 1) leL.nil))
  have he : e = 0 := by rw [he, hr]; rfl
  subst he
  (conv => whnf)
  refine ACalls.args ?_ (Why_calls fixN2 [r] (by simp) (by simp [hr]) [] fun e he => ?_)
  · refine leL.cons (le_agg (leL.cons (.refl _) (leL.cons (.refl _) (leL.cons (.refl _) (leL.cons (le_nil 1) leL.nil))))) (leL.cons (.refl _) (leL.cons (le_nil 1) leL.nil))
  have he : e = 2 := by rw [he, hr]; rfl
  subst he
  (conv => whnf)
  exact h
end Go.Abs
