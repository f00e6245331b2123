/- What is given of a name (rule.Given): a range over slices.Backward. -/
import Derived.Test.YtlagdcbgkfaheaaD6
import Derived.Test.YtlagdcbgkfaheaaE2
set_option maxRecDepth 100000
set_option linter.unusedVariables false
set_option linter.unusedSimpArgs false
namespace Go.Abs
open Go Go.Proofs

/-- A step: name, run, contents. -/
structure StepV where
  name : ByteArray
  ran : Bool
  con : Int
def stepC (s : StepV) : List AV := [.val (.string s.name), .val (.bool s.ran), .val (.int .u64 s.con)]
def backs (l : List StepV) : List (List AV) := l.zipIdx.reverse.map fun p => [.val (.int .i64 p.2), .agg (stepC p.1)]

theorem Backward_step (l : List (List AV)) {R} (h : R (.fn (.func 103) [] [.cptr [.sl none 3 l] 0]) []) :
    ACalls Try.prog 82 [.sl none 3 l] [] R := by
  refine acalls_of_xwp (an := an82) tab_ok Try.func82 ?_
  (conv => whnf)
  exact h

theorem backs_get {l : List StepV} {i : Nat} {x : List AV} (h : (backs l)[i]? = some x) : ∃ s k, l.reverse[i]? = some s ∧ x = [.val (.int .i64 k), .agg (stepC s)] := by
  unfold backs at h
  rw [List.getElem?_map, Option.map_eq_some_iff] at h
  obtain ⟨p, hp, rfl⟩ := h
  have h1 : (l.zipIdx.reverse.map (·.1))[i]? = some p.1 := by rw [List.getElem?_map, hp]; rfl
  rw [List.map_reverse, List.zipIdx_map_fst] at h1
  exact ⟨p.1, p.2, h1, rfl⟩
theorem backs_length (l : List StepV) : (backs l).length = l.length := by simp [backs]
theorem find_at {l : List StepV} {name : ByteArray} {i : Nat} {s : StepV} (h0 : ∀ j x, j < i → l[j]? = some x → x.name ≠ name) (h1 : l[i]? = some s) (h2 : s.name = name) : l.find? (fun s => decide (s.name = name)) = some s := by
  induction l generalizing i with
  | nil => simp at h1
  | cons a l ih =>
    cases i with
    | zero => simp at h1; subst h1; simp [h2]
    | succ i =>
      have : a.name ≠ name := h0 0 a (by omega) rfl
      simp only [List.find?_cons]
      have hb : decide (a.name = name) = false := by simp [this]
      rw [hb]
      exact ih (i := i) (fun j x hj hx => h0 (j + 1) x (by omega) (by simpa using hx)) (by simpa using h1)
theorem find_no {l : List StepV} {name : ByteArray} (h0 : ∀ j x, j < l.length → l[j]? = some x → x.name ≠ name) : l.find? (fun s => decide (s.name = name)) = none := by
  rw [List.find?_eq_none]
  intro x hx
  obtain ⟨j, hj, rfl⟩ := List.getElem_of_mem hx
  simpa using h0 j _ hj (List.getElem?_eq_getElem hj)

theorem Given_of (l : List StepV) (hit : AIter Try.prog 103 [.cptr [.sl none 3 (l.map stepC)] 0] (backs l)) (name : ByteArray) {R}
    (h : ∀ d : Int, d = (match l.reverse.find? (fun s => decide (s.name = name)) with | some s => s.con | none => 0) → R (.val (.int .u64 d)) []) :
    ACalls Try.prog 55 [.sl none 3 (l.map stepC), .val (.string name)] [] R := by
  refine acalls_of_xwp (an := an55) tab_ok Try.func55 ?_
  (conv => whnf)
  refine Backward_step _ ?_
  (conv => whnf)
  refine ⟨backs l, hit, ?_, ?_⟩
  · intro x hx
    simp only [backs, List.mem_map] at hx
    obtain ⟨p, _, rfl⟩ := hx
    rfl
  refine ⟨fun i s => s = _ ∧ ∀ j x, j < i → l.reverse[j]? = some x → x.name ≠ name, ⟨rfl, fun j x hj => absurd hj (Nat.not_lt_zero _)⟩, ?_, ?_⟩
  · rintro i x s hx ⟨rfl, hno⟩
    obtain ⟨s, k, hs, rfl⟩ := backs_get hx
    (conv => whnf)
    refine br_intro (fun hb => ?_) (fun hb => ?_)
    · (conv => whnf)
      exact h _ (by rw [find_at hno hs (of_decide_eq_true hb)])
    · (conv => whnf)
      refine ⟨rfl, fun j x hj hxj => ?_⟩
      rcases Nat.lt_or_ge j i with hji | hji
      · exact hno j x hji hxj
      · have : j = i := by omega
        subst this
        rw [hs] at hxj
        cases hxj
        exact of_decide_eq_false hb
  · rintro s ⟨rfl, hno⟩
    (conv => whnf)
    refine h _ ?_
    rw [find_no (fun j x hj hx => hno j x (by rw [backs_length]; simpa using hj) hx)]
end Go.Abs
