/- Arguments that are numbers. -/
import Derived.Test.YtlagdcbgkfaheaaD2
import Derived.Test.YtlagdcbgkfaheaaC1
set_option maxRecDepth 100000
set_option linter.unusedVariables false
set_option linter.unusedSimpArgs false
namespace Go.Abs
open Go Go.Proofs Dig
theorem args_u64 {ts : List TypeId} {l : List AV} (h : Args tab 12 (22 :: ts) l) : ∃ (x : U) (l' : List AV), l = uv x :: l' ∧ Args tab 12 ts l' := by
  obtain ⟨a, l', rfl, h1, h2⟩ := h
  obtain ⟨x, e, hx⟩ : ∃ x, [a] = [.val (.int .u64 x)] ∧ (Lit.int .u64 x).wf = true := h1
  simp only [Lit.wf, Bool.and_eq_true, decide_eq_true_eq] at hx
  have e1 : IntKind.u64.min = 0 := rfl
  have e2 : IntKind.u64.max = 18446744073709551615 := rfl
  rw [e1, e2] at hx
  refine ⟨BitVec.ofInt 64 x, l', ?_, h2⟩
  simp only [List.cons.injEq, and_true] at e ⊢
  rw [e]
  show _ = AV.val (.int .u64 _)
  congr 2
  exact u_of (by omega) (by omega)
theorem args_nil {l : List AV} (h : Args tab 12 [] l) : l = [] := h
theorem wf_u64 {x : Int} (h : (Lit.int .u64 x).wf = true) : x = ((BitVec.ofInt 64 x : U).toNat : Int) := by
  simp only [Lit.wf, Bool.and_eq_true, decide_eq_true_eq] at h
  have e1 : IntKind.u64.min = 0 := rfl
  have e2 : IntKind.u64.max = 18446744073709551615 := rfl
  rw [e1, e2] at h
  exact u_of (by omega) (by omega)
theorem typed_nums {l : List (List AV)} (h : ∀ x ∈ l, ∃ y, x = [.val (.int .u64 y)] ∧ (Lit.int .u64 y).wf = true) : ∃ ns : List U, l = nums ns := by
  induction l with
  | nil => exact ⟨[], rfl⟩
  | cons x l ih =>
    obtain ⟨ns, rfl⟩ := ih fun y hy => h y (by simp [hy])
    obtain ⟨y, rfl, hy⟩ := h x (by simp)
    exact ⟨BitVec.ofInt 64 y :: ns, by simp only [nums, List.map_cons, uv]; rw [← wf_u64 hy]⟩
theorem args_nums {ts : List TypeId} {l : List AV} (h : Args tab 12 (28 :: ts) l) : ∃ (x : List U) (l' : List AV), l = .sl none 1 (nums x) :: l' ∧ x.length ≤ maxLen ∧ Args tab 12 ts l' := by
  obtain ⟨a, l', rfl, h1, h2⟩ := h
  obtain ⟨x, e, hl, hx⟩ : ∃ x : List (List AV), [a] = [.sl none 1 x] ∧ x.length ≤ maxLen ∧ ∀ y ∈ x, Typed tab 11 22 y := h1
  obtain ⟨ns, rfl⟩ := typed_nums (l := x) hx
  simp only [List.cons.injEq, and_true] at e
  subst e
  exact ⟨ns, l', rfl, by simpa [nums] using hl, h2⟩
theorem args_u8 {ts : List TypeId} {l : List AV} (h : Args tab 12 (5 :: ts) l) : ∃ (x : Int) (l' : List AV), l = .val (.int .u8 x) :: l' ∧ (0 ≤ x ∧ x ≤ 255) ∧ Args tab 12 ts l' := by
  obtain ⟨a, l', rfl, h1, h2⟩ := h
  obtain ⟨x, e, hx⟩ : ∃ x, [a] = [.val (.int .u8 x)] ∧ (Lit.int .u8 x).wf = true := h1
  simp only [Lit.wf, Bool.and_eq_true, decide_eq_true_eq] at hx
  have e1 : IntKind.u8.min = 0 := rfl
  have e2 : IntKind.u8.max = 255 := rfl
  rw [e1, e2] at hx
  simp only [List.cons.injEq, and_true] at e
  exact ⟨x, l', by rw [e], hx, h2⟩
end Go.Abs
