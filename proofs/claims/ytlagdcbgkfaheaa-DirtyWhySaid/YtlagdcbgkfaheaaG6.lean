/- The statements DirtyWhy and DirtyTraces. -/
import Derived.Test.YtlagdcbgkfaheaaG5
set_option maxRecDepth 100000
set_option linter.unusedVariables false
set_option linter.unusedSimpArgs false
namespace Go.Abs
open Go Go.Proofs Dig
attribute [local irreducible] ibits byteAt strLt firstIdx

theorem args_u2 {ts : List TypeId} {l : List AV} (h : Args tab 12 (48 :: ts) l) : ∃ (x y : U) (l' : List AV), l = .agg [uv x, uv y] :: l' ∧ Args tab 12 ts l' := by
  obtain ⟨a, l', rfl, h1, h2⟩ := h
  obtain ⟨z, rfl, a1, r1, rfl, ⟨x, rfl, hx⟩, a2, r2, rfl, ⟨y, rfl, hy⟩, rfl⟩ : ∃ z, a = .agg z ∧ ∃ a r, z = a ++ r ∧ (∃ y, a = [.val (.int .u64 y)] ∧ (Lit.int .u64 y).wf = true) ∧
    ∃ a r', r = a ++ r' ∧ (∃ y, a = [.val (.int .u64 y)] ∧ (Lit.int .u64 y).wf = true) ∧ r' = [] := h1
  refine ⟨BitVec.ofInt 64 x, BitVec.ofInt 64 y, l', ?_, h2⟩
  simp only [uv, List.cons_append, List.nil_append]
  rw [← wf_u64 hx, ← wf_u64 hy]

theorem DirtyWhy_calls (n : Nd) (hn : n.deps.length ≤ maxLen) (l : List Rc) (hl : l.length ≤ maxLen) (hd : ∀ r ∈ l, r.deps.length ≤ maxLen) (hs : List U) (hh : hs.length ≤ maxLen) {R} (h : R (.val (.bool true)) []) :
    ACalls Try.prog 9 [.agg n.enc, .sl none 7 (recs l), .sl none 1 (nums hs)] [] R := by
  refine acalls_of_xwp (an := an9) tab_ok Try.func9 ?_
  have hsh := nums_len hs
  (conv => whnf)
  refine great_calls n hn fun b hb => ?_
  (conv => whnf)
  refine br_intro (fun g => ?_) (fun g => ?_)
  · (conv => whnf)
    refine dfix_calls ?_
    (conv => whnf)
    exact h
  obtain ⟨b1, b2, b3⟩ := hb g
  (conv => whnf)
  refine Great10_calls l hl hd fun b hb => ?_
  (conv => whnf)
  refine br_intro (fun g => ?_) (fun g => ?_)
  · (conv => whnf)
    refine dfix_calls ?_
    (conv => whnf)
    exact h
  obtain ⟨c1, c2⟩ := hb g
  (conv => whnf)
  rw [hsh]
  refine br_intro (fun g => ?_) (fun g => ?_)
  · (conv => whnf)
    refine dfix_calls ?_
    (conv => whnf)
    exact h
  (conv => whnf)
  refine dfix_calls ?_
  (conv => whnf)
  refine Why_calls n l (by omega) (fun r hr => by have := (c2 r hr).1; omega) hs fun e he => ?_
  (conv => whnf)
  refine docWhy_calls n (by omega) l (by omega) hs fun e' he' => ?_
  (conv => whnf)
  rw [he, he']
  simpa using h

theorem DirtyTraces_calls (n : Nd) (hn : n.deps.length ≤ maxLen) (hs : List U) (hh : hs.length ≤ maxLen) (c w : U) {R} (h : R (.val (.bool true)) []) :
    ACalls Try.prog 10 [.agg n.enc, .sl none 1 (nums hs), .agg [uv c, uv w]] [] R := by
  refine acalls_of_xwp (an := an10) tab_ok Try.func10 ?_
  have hsh := nums_len hs
  (conv => whnf)
  refine great_calls n hn fun b hb => ?_
  (conv => whnf)
  refine br_intro (fun g => ?_) (fun g => ?_)
  · (conv => whnf)
    refine dfix_calls ?_
    (conv => whnf)
    exact h
  obtain ⟨b1, b2, b3⟩ := hb g
  (conv => whnf)
  rw [hsh]
  refine br_intro (fun g => ?_) (fun g => ?_)
  · (conv => whnf)
    refine dfix_calls ?_
    (conv => whnf)
    exact h
  have g : hs.length ≤ 60 := by simp at g; omega
  (conv => whnf)
  refine Trace_calls n (by omega) hs c w fun r e hr he => ?_
  (conv => whnf)
  refine docTrace_calls n (by omega) hs c w fun r' e' hr' he' => ?_
  have hrd : r.deps.length < 1000000 := by
    rw [hr, traceP]
    split
    · decide
    · rename_i hb
      have : hs.length = n.deps.length := by
        simp [traceBad] at hb
        exact hb.2
      rw [depsOf_length this]
      omega
  (conv => whnf)
  refine dfix_calls ?_
  (conv => whnf)
  refine Same8_calls r r' hrd fun p hp => ?_
  have hp : p = true := by rw [hp]; exact decide_eq_true (by rw [hr, hr'])
  subst hp
  (conv => whnf)
  refine br_true (by rw [he, he']; simp) ?_
  (conv => whnf)
  refine Hashes_calls hs (by omega) fun a ha => ?_
  (conv => whnf)
  refine docHashes_calls hs (by omega) fun a' ha' => ?_
  (conv => whnf)
  refine SameN_calls a a' (by rw [ha]; simp; omega) fun p hp => ?_
  have hp : p = true := by rw [hp]; exact decide_eq_true (by rw [ha, ha'])
  subst hp
  (conv => whnf)
  exact h

theorem DirtyWhy_row (l : List AV) (h : Args tab 12 [42, 43, 28] l) : ACalls Try.prog 9 l [] fun r _ => r = .val (.bool true) := by
  obtain ⟨n, l1, rfl, h1, h2⟩ := args_node h
  obtain ⟨a, l2, rfl, h3, h4, h5⟩ := args_recs h2
  obtain ⟨b, l3, rfl, h6, h7⟩ := args_nums h5
  obtain rfl := args_nil h7
  exact DirtyWhy_calls n h1 a h3 h4 b h6 rfl
theorem DirtyTraces_row (l : List AV) (h : Args tab 12 [42, 28, 48] l) : ACalls Try.prog 10 l [] fun r _ => r = .val (.bool true) := by
  obtain ⟨n, l1, rfl, h1, h2⟩ := args_node h
  obtain ⟨b, l2, rfl, h3, h4⟩ := args_nums h2
  obtain ⟨x, y, l3, rfl, h5⟩ := args_u2 h4
  obtain rfl := args_nil h5
  exact DirtyTraces_calls n h1 b h3 x y rfl
end Go.Abs
