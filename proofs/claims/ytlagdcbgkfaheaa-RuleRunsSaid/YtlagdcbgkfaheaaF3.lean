/- What is given of a name, as the document has it. -/
import Derived.Test.YtlagdcbgkfaheaaF2
set_option maxRecDepth 100000
set_option linter.unusedVariables false
set_option linter.unusedSimpArgs false
namespace Go.Abs
open Go Go.Proofs

def givenOf (l : List StepV) (name : ByteArray) : Int := match l.reverse.find? (fun s => decide (s.name = name)) with | some s => s.con | none => 0
theorem givenOf_snoc (l : List StepV) (s : StepV) (name : ByteArray) : givenOf (l ++ [s]) name = if s.name = name then s.con else givenOf l name := by
  unfold givenOf
  rw [List.reverse_append]
  simp only [List.reverse_cons, List.reverse_nil, List.nil_append, List.cons_append, List.find?_cons]
  by_cases h : s.name = name <;> simp [h]

theorem refGiven_x (l : List StepV) (hl : l.length < 1000000) (name : ByteArray) {R} (h : ∀ d : Int, d = givenOf l name → R (.val (.int .u64 d)) []) :
    ACalls Try.prog 56 [.sl none 3 (l.map stepC), .val (.string name)] [] R := by
  refine acalls_of_xwp (an := an56) tab_ok Try.func56 ?_
  (conv => whnf)
  refine LoopP.ind2 (fun (i : Nat) (n : Int) => [(5, .val (.int .u64 n)), (6, .val (.int .i64 i))]) (fun _ _ => []) (fun i _ => l.length - i) (fun i n => i ≤ l.length ∧ n = givenOf (l.take i) name) 0 0 rfl ⟨Nat.zero_le _, rfl⟩ ?_
  rintro i n ⟨hi, hn⟩ IH
  (conv => whnf)
  have hlen : (l.map stepC).length = l.length := by simp
  refine br_intro (fun hc => ?_) (fun hc => ?_)
  · have hc : i < l.length := by simp at hc; omega
    have ht : l.take (i + 1) = l.take i ++ [l[i]] := by rw [List.take_add_one, List.getElem?_eq_getElem hc]; rfl
    (conv => whnf)
    refine idxK_map_intro (show (i : Int).toNat < l.length by simpa using hc) ?_
    rw [show l[(i : Int).toNat]'(by simpa using hc) = l[i] from by congr 1]
    (conv => whnf)
    refine br_intro (fun hb => ?_) (fun hb => ?_)
    · (conv => whnf)
      refine idxK_map_intro (show (i : Int).toNat < l.length by simpa using hc) ?_
      rw [show l[(i : Int).toNat]'(by simpa using hc) = l[i] from by congr 1]
      (conv => whnf)
      rw [i64_nat (by omega)]
      refine IH (i + 1) _ ⟨by omega, ?_⟩ (by omega)
      rw [ht, givenOf_snoc, if_pos (of_decide_eq_true hb)]
    · (conv => whnf)
      rw [i64_nat (by omega)]
      refine IH (i + 1) _ ⟨by omega, ?_⟩ (by omega)
      rw [ht, givenOf_snoc, if_neg (of_decide_eq_false hb)]
      exact hn
  · (conv => whnf)
    have : i = l.length := by simp at hc; omega
    refine h _ ?_
    rw [hn, this, List.take_length]
end Go.Abs
