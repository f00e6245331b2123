/- What is found of a target (fold.Find), and the document's. -/
import Derived.Test.YtlagdcbgkfaheaaG1
import Derived.Test.YtlagdcbgkfaheaaG2
set_option maxRecDepth 100000
set_option linter.unusedVariables false
set_option linter.unusedSimpArgs false
namespace Go.Abs
open Go Go.Proofs Dig
attribute [local irreducible] ibits byteAt strLt firstIdx

def isOf (t : B) (r : Rc) : Bool := decide (r.kind = 1) && decide (r.target = t)
def findP (l : List Rc) (t : B) : Option Rc := l.reverse.find? (isOf t)
def findR (l : List Rc) (t : B) : Rc := (findP l t).getD zeroR

theorem BackwardR (l : List (List AV)) {R} (h : R (.fn (.func 105) [] [.cptr [.sl none 7 l] 0]) []) :
    ACalls Try.prog 90 [.sl none 7 l] [] R := by
  refine acalls_of_xwp (an := an90) tab_ok Try.func90 ?_
  (conv => whnf)
  exact h
theorem backsR_get {l : List Rc} {i : Nat} {x : List AV} (h : (backsR l)[i]? = some x) : ∃ s k, l.reverse[i]? = some s ∧ x = [.val (.int .i64 k), .agg s.enc] := by
  unfold backsR at h
  rw [List.getElem?_map, Option.map_eq_some_iff] at h
  obtain ⟨p, hp, rfl⟩ := h
  have h1 : (l.zipIdx.reverse.map (·.1))[i]? = some p.1 := by rw [List.getElem?_map, hp]; rfl
  rw [List.map_reverse, List.zipIdx_map_fst] at h1
  exact ⟨p.1, p.2, h1, rfl⟩
theorem backsR_length (l : List Rc) : (backsR l).length = l.length := by simp [backsR]
theorem find?_at {α : Type} {l : List α} {f : α → Bool} {i : Nat} {s : α} (h0 : ∀ j x, j < i → l[j]? = some x → f x = false) (h1 : l[i]? = some s) (h2 : f s = true) : l.find? f = some s := by
  induction l generalizing i with
  | nil => simp at h1
  | cons a l ih =>
    cases i with
    | zero => simp at h1; subst h1; simp [h2]
    | succ i =>
      have : f a = false := h0 0 a (by omega) rfl
      simp only [List.find?_cons, this]
      exact ih (i := i) (fun j x hj hx => h0 (j + 1) x (by omega) (by simpa using hx)) (by simpa using h1)
theorem find?_no {α : Type} {l : List α} {f : α → Bool} (h0 : ∀ j x, j < l.length → l[j]? = some x → f x = false) : l.find? f = none := by
  rw [List.find?_eq_none]
  intro x hx
  obtain ⟨j, hj, rfl⟩ := List.getElem_of_mem hx
  simp [h0 j _ hj (List.getElem?_eq_getElem hj)]

theorem Find_calls (l : List Rc) (hl : l.length < 1000000) (hd : ∀ r ∈ l, r.deps.length < 1000000) (t : B) {R} (h : R (.tup [.agg (findR l t).enc, .val (.bool (findP l t).isSome)]) []) :
    ACalls Try.prog 68 [.sl none 7 (recs l), vs t] [] R := by
  refine ACalls.res ?_
  refine acalls_of_xwp (an := an68) tab_ok Try.func68 ?_
  (conv => whnf)
  refine BackwardR _ ?_
  (conv => whnf)
  refine ⟨backsR l, back_iterR l hl, ?_, ?_⟩
  · intro x hx
    simp only [backsR, List.mem_map] at hx
    obtain ⟨p, _, rfl⟩ := hx
    rfl
  refine ⟨fun i s => s = _ ∧ ∀ j x, j < i → l.reverse[j]? = some x → isOf t x = false, ⟨rfl, fun j x hj => absurd hj (Nat.not_lt_zero _)⟩, ?_, ?_⟩
  · rintro i x s hx ⟨rfl, hno⟩
    obtain ⟨s, k, hs, rfl⟩ := backsR_get hx
    have hsl : s.deps.length < 1000000 := hd s (by rw [← List.mem_reverse]; exact List.mem_of_getElem? hs)
    have next : isOf t s = false → ∀ j x, j < i + 1 → l.reverse[j]? = some x → isOf t x = false := by
      intro hb j x hj hxj
      rcases Nat.lt_or_ge j i with hji | hji
      · exact hno j x hji hxj
      · have : j = i := by omega
        subst this
        rw [hs] at hxj
        cases hxj
        exact hb
    (conv => whnf)
    refine br_intro (fun hb => ?_) (fun hb => ?_)
    · have hb : s.kind = 1 := by simpa using hb
      (conv => whnf)
      refine br_intro (fun hc => ?_) (fun hc => ?_)
      · have hc : s.target = t := ofB_inj (of_decide_eq_true hc)
        have hf : findP l t = some s := find?_at hno hs (by simp [isOf, hb, hc])
        have hr : findR l t = s := by rw [findR, hf]; rfl
        rw [hr, hf] at h
        (conv => whnf)
        refine Clone_calls s hsl ?_
        (conv => whnf)
        refine res_same ?_
        exact h
      · have hc : ¬ s.target = t := fun e => of_decide_eq_false hc (by rw [e])
        (conv => whnf)
        exact ⟨rfl, next (by simp [isOf, hc])⟩
    · have hb : ¬ s.kind = 1 := by simpa using hb
      (conv => whnf)
      exact ⟨rfl, next (by simp [isOf, hb])⟩
  · rintro s ⟨rfl, hno⟩
    have hf : findP l t = none := find?_no (fun j x hj hx => hno j x (by rw [backsR_length]; simpa using hj) hx)
    have hr : findR l t = zeroR := by rw [findR, hf]; rfl
    rw [hr, hf] at h
    (conv => whnf)
    exact res_le (le_tup (leL.cons (le_agg le_zeroR) (leL.refl _))) rfl h

theorem docFind_calls (l : List Rc) (hl : l.length < 1000000) (t : B) {R} (h : R (.tup [.agg (findR l t).enc, .val (.bool (findP l t).isSome)]) []) :
    ACalls Try.prog 70 [.sl none 7 (recs l), vs t] [] R := by
  refine ACalls.res ?_
  refine acalls_of_xwp (an := an70) tab_ok Try.func70 ?_
  have hsl := recs_length l
  (conv => whnf)
  rw [hsl, wrap_i64 (by omega) (by omega), show (l.length : Int) - 1 = (l.length : Int) - 1 - ((0 : Nat) : Int) by omega]
  refine LoopP.ind1 (fun (k : Nat) => [(6, vi ((l.length : Int) - 1 - k))]) (fun _ => [(nameOf 4, .cells 51 [.val (.int .i64 0), .val (.string ⟨#[]⟩), .val (.int .u64 0), .val (.slice none 0 0), .val (.int .u64 0), .val (.int .u64 0), .val (.string ⟨#[]⟩)])]) (fun k => l.length - k)
    (fun k => k ≤ l.length ∧ ∀ j x, j < k → l.reverse[j]? = some x → isOf t x = false) 0 rfl ⟨by omega, fun j x hj => absurd hj (Nat.not_lt_zero _)⟩ ?_
  rintro k ⟨h0, hno⟩ IH
  by_cases hk : k < l.length
  · obtain ⟨i, hi⟩ : ∃ i : Nat, i + k + 1 = l.length := ⟨l.length - 1 - k, by omega⟩
    have hil : i < l.length := by omega
    have hs : l.reverse[k]? = some l[i] := by
      rw [List.getElem?_reverse hk, show l.length - 1 - k = i by omega, List.getElem?_eq_getElem hil]
    have next : isOf t l[i] = false → ∀ j x, j < k + 1 → l.reverse[j]? = some x → isOf t x = false := by
      intro hb j x hj hxj
      rcases Nat.lt_or_ge j k with hji | hji
      · exact hno j x hji hxj
      · have : j = k := by omega
        subst this
        rw [hs] at hxj
        cases hxj
        exact hb
    have again : IntKind.i64.wrap ((i : Int) - 1) = (l.length : Int) - 1 - ((k + 1 : Nat) : Int) := by
      rw [wrap_i64 (by omega) (by omega)]; omega
    rw [show (l.length : Int) - 1 - k = (i : Int) by omega]
    (conv => whnf); (repeat ((with_reducible refine must_intro ?_ ?_); exact decide_eq_true (by omega); (conv => whnf)))
    refine idxK_map_intro (show (i : Int).toNat < l.length by simpa using hil) ?_
    rw [show l[(i : Int).toNat]'(by simpa using hil) = l[i] from by congr 1]
    (conv => whnf)
    refine br_intro (fun hb => ?_) (fun hb => ?_)
    · have hb : l[i].kind = 1 := by simpa using hb
      (conv => whnf); (repeat ((with_reducible refine must_intro ?_ ?_); exact decide_eq_true (by omega); (conv => whnf)))
      refine idxK_map_intro (show (i : Int).toNat < l.length by simpa using hil) ?_
      rw [show l[(i : Int).toNat]'(by simpa using hil) = l[i] from by congr 1]
      (conv => whnf)
      refine br_intro (fun hc => ?_) (fun hc => ?_)
      · have hc : l[i].target = t := ofB_inj (of_decide_eq_true hc)
        have hf : findP l t = some l[i] := find?_at hno hs (by simp [isOf, hb, hc])
        have hr : findR l t = l[i] := by rw [findR, hf]; rfl
        rw [hr, hf] at h
        (conv => whnf); (repeat ((with_reducible refine must_intro ?_ ?_); exact decide_eq_true (by omega); (conv => whnf)))
        refine idxK_map_intro (show (i : Int).toNat < l.length by simpa using hil) ?_
        rw [show l[(i : Int).toNat]'(by simpa using hil) = l[i] from by congr 1]
        (conv => whnf)
        refine res_same ?_
        exact h
      · have hc : ¬ l[i].target = t := fun e => of_decide_eq_false hc (by rw [e])
        (conv => whnf)
        rw [again]
        exact IH (k + 1) ⟨by omega, next (by simp [isOf, hc])⟩ (by omega)
    · have hb : ¬ l[i].kind = 1 := by simpa using hb
      (conv => whnf)
      rw [again]
      exact IH (k + 1) ⟨by omega, next (by simp [isOf, hb])⟩ (by omega)
  · have ek : k = l.length := by omega
    have hf : findP l t = none := find?_no (fun j x hj hx => hno j x (by simpa [ek] using hj) hx)
    have hr : findR l t = zeroR := by rw [findR, hf]; rfl
    rw [hr, hf] at h
    rw [show (l.length : Int) - 1 - k = -1 by omega]
    (conv => whnf)
    exact res_le (le_tup (leL.cons (le_agg le_zeroR) (leL.refl _))) rfl h
end Go.Abs
