/- Few steps; what is run (rule.Run). -/
import Derived.Test.YtlagdcbgkfaheaaF3
import Derived.Test.YtlagdcbgkfaheaaD2
import Derived.Test.YtlagdcbgkfaheaaE3
set_option maxRecDepth 100000
set_option linter.unusedVariables false
set_option linter.unusedSimpArgs false
namespace Go.Abs
open Go Go.Proofs Dig

theorem Few_x (l : List StepV) {R} (h : ∀ b : Bool, (b = true → l.length ≤ 100 ∧ ∀ s ∈ l, s.name.size ≤ 100) → R (.val (.bool b)) []) (hl : l.length < 1000000) :
    ACalls Try.prog 49 [.sl none 3 (l.map stepC)] [] R := by
  refine acalls_of_xwp (an := an49) tab_ok Try.func49 ?_
  (conv => whnf)
  have hlen : (l.map stepC).length = l.length := by simp
  refine LoopP.ind1 (fun (i : Nat) => [(7, .val (.int .i64 i))]) (fun _ => []) (fun i => l.length - i) (fun i => i ≤ l.length ∧ ∀ s ∈ l.take i, s.name.size ≤ 100) 0 rfl ⟨Nat.zero_le _, by simp⟩ ?_
  rintro i ⟨hi, hn⟩ IH
  (conv => whnf)
  refine br_intro (fun hc => ?_) (fun hc => ?_)
  · have hc : i < l.length := by simp at hc; omega
    have ht : l.take (i + 1) = l.take i ++ [l[i]] := by rw [List.take_add_one, List.getElem?_eq_getElem hc]; rfl
    (conv => whnf)
    refine idxK_map_intro (show (i : Int).toNat < l.length by simpa using hc) ?_
    rw [show l[(i : Int).toNat]'(by simpa using hc) = l[i] from by congr 1]
    (conv => whnf)
    refine br_intro (fun hb => ?_) (fun hb => ?_)
    · (conv => whnf)
      exact h false (by simp)
    · (conv => whnf)
      rw [i64_nat (by omega)]
      refine IH (i + 1) ⟨by omega, fun s hs => ?_⟩ (by omega)
      rw [ht, List.mem_append] at hs
      rcases hs with hs | hs
      · exact hn s hs
      · simp at hs; subst hs
        have := of_decide_eq_false hb
        omega
  · (conv => whnf)
    have e : i = l.length := by simp at hc; omega
    refine h _ fun hb => ⟨?_, fun s hs => hn s (by rw [e, List.take_length]; exact hs)⟩
    have := of_decide_eq_true hb
    rw [hlen] at this
    omega

theorem Run_x (n : Nd) (l : List U) (hl : l.length ≤ 1000000) {R} (h : ∀ d, d = fold n.rule l → R (uv d) []) : ACalls Try.prog 54 [.agg n.enc, .sl none 1 (nums l)] [] R := by
  refine acalls_of_xwp (an := an54) tab_ok Try.func54 ?_
  (conv => whnf)
  refine Fold_calls n.rule l hl rfl fun d hd => ?_
  (conv => whnf)
  exact h d hd
end Go.Abs
