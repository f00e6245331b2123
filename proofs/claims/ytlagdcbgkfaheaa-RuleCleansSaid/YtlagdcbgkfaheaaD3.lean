/- The statements of the digest: the functions. -/
import Derived.Test.YtlagdcbgkfaheaaD2
import Derived.Test.YtlagdcbgkfaheaaC1
set_option maxRecDepth 100000
set_option linter.unusedVariables false
set_option linter.unusedSimpArgs false
namespace Go.Abs
open Go Go.Proofs Dig
attribute [local irreducible] ibits byteAt strLt

theorem dig0 : dig 0 = 0xe220a8397b1dcdaf#64 := by decide +kernel

theorem dfixed_calls {R} (h : R (.val (.bool true)) []) : ACalls Try.prog 15 [] [] R := by
  refine acalls_of_xwp (an := an15) tab_ok Try.func15 ?_
  conv => whnf
  refine Of_calls 0 fun d hd => ?_
  rw [dig0] at hd
  subst hd
  conv => whnf
  exact h

theorem DigestOf_calls (n : U) {R} (h : R (.val (.bool true)) []) : ACalls Try.prog 4 [uv n] [] R := by
  refine acalls_of_xwp (an := an4) tab_ok Try.func4 ?_
  conv => whnf
  refine dfixed_calls ?_
  conv => whnf
  refine Of_calls n fun d1 h1 => ?_
  conv => whnf
  refine refOf_calls n fun d2 h2 => ?_
  conv => whnf
  refine br_true (by simp [h1, h2]) ?_
  conv => whnf
  refine Of_calls n fun d3 h3 => ?_
  conv => whnf
  refine Back_calls _ fun d4 h4 => ?_
  conv => whnf
  refine br_true (by simp [h4, h3, dBack_dOf]) ?_
  conv => whnf
  refine Back_calls _ fun d5 h5 => ?_
  conv => whnf
  refine refOf_calls _ fun d6 h6 => ?_
  conv => whnf
  simpa [h6, h5, dOf_dBack] using h

theorem DigestApart_calls (a b c : U) {R} (h : R (.val (.bool true)) []) : ACalls Try.prog 3 [uv a, uv b, uv c] [] R := by
  refine acalls_of_xwp (an := an3) tab_ok Try.func3 ?_
  conv => whnf
  refine dfixed_calls ?_
  conv => whnf
  refine Of_calls a fun d1 h1 => ?_
  conv => whnf
  refine Of_calls b fun d2 h2 => ?_
  conv => whnf
  have e1 : ∀ x y : U, (((dig x).toNat : Int) == ((dig y).toNat : Int)) = ((x.toNat : Int) == (y.toNat : Int)) := by
    intro x y
    rw [u_beq, u_beq]
    exact decide_eq_decide.2 ⟨dOf_inj, fun e => by rw [e]⟩
  refine br_true (by simp [h1, h2, e1]) ?_
  conv => whnf
  refine Fold_calls c [a] (by simp) rfl fun d3 h3 => ?_
  conv => whnf
  refine Fold_calls c [b] (by simp) rfl fun d4 h4 => ?_
  conv => whnf
  have e2 : (((fold c [a]).toNat : Int) == ((fold c [b]).toNat : Int)) = ((a.toNat : Int) == (b.toNat : Int)) := by
    simp only [fold, List.foldl_cons, List.foldl_nil]
    rw [e1, u_beq, u_beq]
    exact decide_eq_decide.2 ⟨fun h => by simpa using h, fun e => by rw [e]⟩
  simpa [h3, h4, e2] using h

theorem args_u64 {ts : List TypeId} {l : List AV} (h : Args tab 12 (22 :: ts) l) : ∃ (x : U) (l' : List AV), l = uv x :: l' ∧ Args tab 12 ts l' := by
  obtain ⟨a, l', rfl, h1, h2⟩ := h
  obtain ⟨x, e, hx⟩ : ∃ x, [a] = [.val (.int .u64 x)] ∧ (Lit.int .u64 x).wf = true := h1
  simp only [Lit.wf, Bool.and_eq_true, decide_eq_true_eq] at hx
  have e1 : IntKind.u64.min = 0 := rfl
  have e2 : IntKind.u64.max = 18446744073709551615 := rfl
  rw [e1, e2] at hx
  refine ⟨BitVec.ofInt 64 x, l', ?_, h2⟩
  simp only [List.cons.injEq, and_true] at e ⊢
  rw [e]
  show _ = AV.val (.int .u64 _)
  congr 2
  exact u_of (by omega) (by omega)
theorem args_nil {l : List AV} (h : Args tab 12 [] l) : l = [] := h

theorem DigestOf_row (l : List AV) (h : Args tab 12 [22] l) : ACalls Try.prog 4 l [] fun r _ => r = .val (.bool true) := by
  obtain ⟨n, l1, rfl, h1⟩ := args_u64 h
  obtain rfl := args_nil h1
  exact DigestOf_calls n rfl
theorem DigestApart_row (l : List AV) (h : Args tab 12 [22, 22, 22] l) : ACalls Try.prog 3 l [] fun r _ => r = .val (.bool true) := by
  obtain ⟨a, l1, rfl, h1⟩ := args_u64 h
  obtain ⟨b, l2, rfl, h2⟩ := args_u64 h1
  obtain ⟨c, l3, rfl, h3⟩ := args_u64 h2
  obtain rfl := args_nil h3
  exact DigestApart_calls a b c rfl
end Go.Abs
