/- The statement DigestFolds: the function. -/
import Derived.Test.YtlagdcbgkfaheaaD3
set_option maxRecDepth 100000
set_option linter.unusedVariables false
set_option linter.unusedSimpArgs false
namespace Go.Abs
open Go Go.Proofs Dig
attribute [local irreducible] ibits byteAt strLt

theorem fold_split (n : U) (l : List U) (k : Nat) : fold (dBack (fold n (l.take k))) (l.drop k) = fold n l := by
  simp only [fold, dOf_dBack]
  rw [← List.foldl_append, List.take_append_drop]

theorem DigestFolds_calls (n : U) (l : List U) (x : Int) (hx : 0 ≤ x ∧ x ≤ 255) {R} (h : R (.val (.bool true)) []) : ACalls Try.prog 5 [uv n, .sl none 1 (nums l), .val (.int .u8 x)] [] R := by
  refine acalls_of_xwp (an := an5) tab_ok Try.func5 ?_
  have hnl : (nums l).length = l.length := by simp [nums]
  conv => whnf
  refine br_intro (fun hc => ?_) (fun hc => ?_)
  · conv => whnf
    refine dfixed_calls ?_
    conv => whnf
    exact h
  · have hc : l.length ≤ 100 := by simp [hnl] at hc; omega
    conv => whnf
    obtain ⟨k, hk, hkl⟩ : ∃ k : Nat, (if ((nums l).length : Int) < IntKind.i64.wrap x then ((nums l).length : Int) else IntKind.i64.wrap x) = (k : Int) ∧ k ≤ l.length := by
      rw [wrap_i64 (by omega) (by omega), hnl]
      refine ⟨min x.toNat l.length, ?_, by omega⟩
      split <;> omega
    rw [hk]
    refine must_intro (decide_eq_true (by rw [hnl]; omega)) ?_
    have e1 : List.drop (Int.toNat 0) (List.take (Int.toNat (k : Int)) (nums l)) = nums (l.take k) := by simp [nums, List.map_take]
    have e2 : List.drop (Int.toNat (k : Int)) (List.take (Int.toNat ((nums l).length : Int)) (nums l)) = nums (l.drop k) := by
      simp only [nums, Int.toNat_natCast, List.map_drop, List.length_map]
      rw [List.take_of_length_le (by simp)]
    conv => whnf
    refine Fold_calls n (l.take k) (by simp; omega) e1 fun d0 h0 => ?_
    conv => whnf
    refine dfixed_calls ?_
    conv => whnf
    refine Fold_calls n l (by omega) rfl fun d1 h1 => ?_
    conv => whnf
    refine refFold_calls n l (by omega) rfl fun d2 h2 => ?_
    conv => whnf
    refine br_true (by simp [h1, h2]) ?_
    conv => whnf
    (conv => whnf); (repeat ((with_reducible refine must_intro ?_ ?_); exact decide_eq_true (by omega); (conv => whnf)))
    refine refFold_calls n (l.take k) (by simp; omega) e1 fun d3 h3 => ?_
    conv => whnf
    refine br_true (by simp [h0, h3]) ?_
    conv => whnf
    refine Back_calls _ fun d4 h4 => ?_
    conv => whnf
    (conv => whnf); (repeat ((with_reducible refine must_intro ?_ ?_); exact decide_eq_true (by omega); (conv => whnf)))
    refine Fold_calls _ (l.drop k) (by simp; omega) e2 fun d5 h5 => ?_
    conv => whnf
    refine refFold_calls n l (by omega) rfl fun d6 h6 => ?_
    conv => whnf
    simpa [h5, h4, h0, fold_split, h6] using h

theorem wf_u64 {x : Int} (h : (Lit.int .u64 x).wf = true) : x = ((BitVec.ofInt 64 x : U).toNat : Int) := by
  simp only [Lit.wf, Bool.and_eq_true, decide_eq_true_eq] at h
  have e1 : IntKind.u64.min = 0 := rfl
  have e2 : IntKind.u64.max = 18446744073709551615 := rfl
  rw [e1, e2] at h
  exact u_of (by omega) (by omega)
theorem typed_nums {l : List (List AV)} (h : ∀ x ∈ l, ∃ y, x = [.val (.int .u64 y)] ∧ (Lit.int .u64 y).wf = true) : ∃ ns : List U, l = nums ns := by
  induction l with
  | nil => exact ⟨[], rfl⟩
  | cons x l ih =>
    obtain ⟨ns, rfl⟩ := ih fun y hy => h y (by simp [hy])
    obtain ⟨y, rfl, hy⟩ := h x (by simp)
    exact ⟨BitVec.ofInt 64 y :: ns, by simp only [nums, List.map_cons, uv]; rw [← wf_u64 hy]⟩
theorem args_nums {ts : List TypeId} {l : List AV} (h : Args tab 12 (28 :: ts) l) : ∃ (x : List U) (l' : List AV), l = .sl none 1 (nums x) :: l' ∧ x.length ≤ maxLen ∧ Args tab 12 ts l' := by
  obtain ⟨a, l', rfl, h1, h2⟩ := h
  obtain ⟨x, e, hl, hx⟩ : ∃ x : List (List AV), [a] = [.sl none 1 x] ∧ x.length ≤ maxLen ∧ ∀ y ∈ x, Typed tab 11 22 y := h1
  obtain ⟨ns, rfl⟩ := typed_nums (l := x) hx
  simp only [List.cons.injEq, and_true] at e
  subst e
  exact ⟨ns, l', rfl, by simpa [nums] using hl, h2⟩
theorem args_u8 {ts : List TypeId} {l : List AV} (h : Args tab 12 (5 :: ts) l) : ∃ (x : Int) (l' : List AV), l = .val (.int .u8 x) :: l' ∧ (0 ≤ x ∧ x ≤ 255) ∧ Args tab 12 ts l' := by
  obtain ⟨a, l', rfl, h1, h2⟩ := h
  obtain ⟨x, e, hx⟩ : ∃ x, [a] = [.val (.int .u8 x)] ∧ (Lit.int .u8 x).wf = true := h1
  simp only [Lit.wf, Bool.and_eq_true, decide_eq_true_eq] at hx
  have e1 : IntKind.u8.min = 0 := rfl
  have e2 : IntKind.u8.max = 255 := rfl
  rw [e1, e2] at hx
  simp only [List.cons.injEq, and_true] at e
  exact ⟨x, l', by rw [e], hx, h2⟩
theorem DigestFolds_row (l : List AV) (h : Args tab 12 [22, 28, 5] l) : ACalls Try.prog 5 l [] fun r _ => r = .val (.bool true) := by
  obtain ⟨n, l1, rfl, h1⟩ := args_u64 h
  obtain ⟨a, l2, rfl, _, h2⟩ := args_nums h1
  obtain ⟨x, l3, rfl, hx, h3⟩ := args_u8 h2
  obtain rfl := args_nil h3
  exact DigestFolds_calls n a x hx rfl
end Go.Abs
