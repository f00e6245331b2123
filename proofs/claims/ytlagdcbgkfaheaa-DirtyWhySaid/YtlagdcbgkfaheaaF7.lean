/- Records: their cells; the document's Same; Great. -/
import Derived.Test.YtlagdcbgkfaheaaE7
set_option maxRecDepth 100000
set_option linter.unusedVariables false
set_option linter.unusedSimpArgs false
namespace Go.Abs
open Go Go.Proofs Dig
attribute [local irreducible] ibits byteAt strLt firstIdx

structure Dp where
  name : B
  hash : U
  order : Bool
  deriving DecidableEq
def Dp.enc (d : Dp) : List AV := [vs d.name, uv d.hash, .val (.bool d.order)]
def dpsA (l : List Dp) : List (List AV) := l.map Dp.enc
theorem dpsA_length (l : List Dp) : (dpsA l).length = l.length := by simp [dpsA]
structure Rc where
  kind : Int
  target : B
  rule : U
  deps : List Dp
  out : U
  wen : U
  tag : B
  deriving DecidableEq
def Rc.enc (r : Rc) : List AV := [vi r.kind, vs r.target, uv r.rule, .sl none 3 (dpsA r.deps), uv r.out, uv r.wen, vs r.tag]
def recs (l : List Rc) : List (List AV) := l.map Rc.enc
theorem recs_length (l : List Rc) : (recs l).length = l.length := by simp [recs]

theorem Same8_calls (a b : Rc) (ha : a.deps.length < 1000000) {R} (h : ∀ p, p = decide (a = b) → R (.val (.bool p)) []) : ACalls Try.prog 38 [.agg a.enc, .agg b.enc] [] R := by
  refine acalls_of_xwp (an := an38) tab_ok Try.func38 ?_
  have hsa := dpsA_length a.deps
  have hsb := dpsA_length b.deps
  have no : a ≠ b → R (.val (.bool false)) [] := fun e => h false (decide_eq_false e).symm
  (conv => whnf)
  refine br_intro (fun g1 => ?_) (fun g1 => ?_)
  · (conv => whnf)
    exact no (by rintro rfl; simp at g1)
  (conv => whnf)
  refine br_intro (fun g2 => ?_) (fun g2 => ?_)
  · (conv => whnf)
    exact no (by rintro rfl; simp at g2)
  (conv => whnf)
  refine br_intro (fun g3 => ?_) (fun g3 => ?_)
  · (conv => whnf)
    exact no (by rintro rfl; simp at g3)
  (conv => whnf)
  refine br_intro (fun g4 => ?_) (fun g4 => ?_)
  · (conv => whnf)
    exact no (by rintro rfl; simp at g4)
  (conv => whnf)
  refine br_intro (fun g5 => ?_) (fun g5 => ?_)
  · (conv => whnf)
    exact no (by rintro rfl; simp at g5)
  (conv => whnf)
  refine br_intro (fun g6 => ?_) (fun g6 => ?_)
  · (conv => whnf)
    exact no (by rintro rfl; simp at g6)
  (conv => whnf)
  refine br_intro (fun g7 => ?_) (fun g7 => ?_)
  · (conv => whnf)
    exact no (by rintro rfl; simp at g7)
  have g7 : a.deps.length = b.deps.length := by rw [hsa, hsb] at g7; simp at g7; omega
  (conv => whnf)
  refine LoopP.ind1 (fun (i : Nat) => [(5, vi i)]) (fun _ => []) (fun i => a.deps.length - i) (fun i => i ≤ a.deps.length ∧ a.deps.take i = b.deps.take i) 0 rfl ⟨by omega, by simp⟩ ?_
  rintro i ⟨h0, h1⟩ IH
  (conv => whnf)
  refine br_intro (fun hc => ?_) (fun hc => ?_)
  · have hc := lt_of_decE hsa hc
    have hcb : i < b.deps.length := by omega
    have nox : a.deps[i] ≠ b.deps[i] → R (.val (.bool false)) [] := fun e => no fun hab => by subst hab; exact e rfl
    (conv => whnf); (repeat ((with_reducible refine must_intro ?_ ?_); exact decide_eq_true (by omega); (conv => whnf)))
    refine idxK_map_intro (show (i : Int).toNat < a.deps.length by simpa using hc) ?_
    rw [show a.deps[(i : Int).toNat]'(by simpa using hc) = a.deps[i] from by congr 1]
    (conv => whnf); (repeat ((with_reducible refine must_intro ?_ ?_); exact decide_eq_true (by omega); (conv => whnf)))
    refine idxK_map_intro (show (i : Int).toNat < b.deps.length by simpa using hcb) ?_
    rw [show b.deps[(i : Int).toNat]'(by simpa using hcb) = b.deps[i] from by congr 1]
    (conv => whnf)
    refine br_intro (fun e1 => ?_) (fun e1 => ?_)
    · (conv => whnf)
      exact nox (fun e => by rw [e] at e1; simp at e1)
    (conv => whnf); (repeat ((with_reducible refine must_intro ?_ ?_); exact decide_eq_true (by omega); (conv => whnf)))
    refine idxK_map_intro (show (i : Int).toNat < a.deps.length by simpa using hc) ?_
    rw [show a.deps[(i : Int).toNat]'(by simpa using hc) = a.deps[i] from by congr 1]
    (conv => whnf); (repeat ((with_reducible refine must_intro ?_ ?_); exact decide_eq_true (by omega); (conv => whnf)))
    refine idxK_map_intro (show (i : Int).toNat < b.deps.length by simpa using hcb) ?_
    rw [show b.deps[(i : Int).toNat]'(by simpa using hcb) = b.deps[i] from by congr 1]
    (conv => whnf)
    refine br_intro (fun e2 => ?_) (fun e2 => ?_)
    · (conv => whnf)
      exact nox (fun e => by rw [e] at e2; simp at e2)
    (conv => whnf); (repeat ((with_reducible refine must_intro ?_ ?_); exact decide_eq_true (by omega); (conv => whnf)))
    refine idxK_map_intro (show (i : Int).toNat < a.deps.length by simpa using hc) ?_
    rw [show a.deps[(i : Int).toNat]'(by simpa using hc) = a.deps[i] from by congr 1]
    (conv => whnf); (repeat ((with_reducible refine must_intro ?_ ?_); exact decide_eq_true (by omega); (conv => whnf)))
    refine idxK_map_intro (show (i : Int).toNat < b.deps.length by simpa using hcb) ?_
    rw [show b.deps[(i : Int).toNat]'(by simpa using hcb) = b.deps[i] from by congr 1]
    (conv => whnf)
    refine br_intro (fun e3 => ?_) (fun e3 => ?_)
    · (conv => whnf)
      exact nox (fun e => by rw [e] at e3; simp at e3)
    have ee : a.deps[i] = b.deps[i] := by
      have q1 : a.deps[i].name = b.deps[i].name := by simpa [ofB_eq] using e1
      have q2 : a.deps[i].hash = b.deps[i].hash := by
        have : (a.deps[i].hash.toNat : Int) = b.deps[i].hash.toNat := by simpa using e2
        exact BitVec.eq_of_toNat_eq (by omega)
      have q3 : a.deps[i].order = b.deps[i].order := by simpa using e3
      cases hx : a.deps[i]; cases hy : b.deps[i]
      rw [hx, hy] at q1 q2 q3
      simp at q1 q2 q3
      simp [q1, q2, q3]
    (conv => whnf)
    rw [i64_nat (by omega)]
    refine IH (i + 1) ⟨by omega, ?_⟩ (by omega)
    rw [List.take_succ_eq_append_getElem hc, List.take_succ_eq_append_getElem hcb, h1, ee]
  · have hc := ge_of_decE hsa hc
    rw [List.take_of_length_le hc, List.take_of_length_le (by omega)] at h1
    (conv => whnf)
    refine h true (decide_eq_true ?_).symm
    have uq : ∀ {x y : U}, (!((x.toNat : Int) == y.toNat)) = false → x = y := fun {x y} h => by
      have : (x.toNat : Int) = y.toNat := by simpa using h
      exact BitVec.eq_of_toNat_eq (by omega)
    have q1 : a.kind = b.kind := by simpa using g1
    have q2 : a.target = b.target := by simpa [ofB_eq] using g2
    have q3 : a.rule = b.rule := by
      have : (a.rule.toNat : Int) = b.rule.toNat := by simpa using g3
      exact BitVec.eq_of_toNat_eq (by omega)
    have q4 : a.out = b.out := by
      have : (a.out.toNat : Int) = b.out.toNat := by simpa using g4
      exact BitVec.eq_of_toNat_eq (by omega)
    have q5 : a.wen = b.wen := by
      have : (a.wen.toNat : Int) = b.wen.toNat := by simpa using g5
      exact BitVec.eq_of_toNat_eq (by omega)
    have q6 : a.tag = b.tag := by simpa [ofB_eq] using g6
    cases a; cases b
    simp_all

theorem Great8_calls (r : Rc) (hr : r.deps.length ≤ maxLen) {R} (h : ∀ b : Bool, (b = false → r.deps.length ≤ 60 ∧ r.target.length ≤ 300 ∧ r.tag.length ≤ 300 ∧ ∀ d ∈ r.deps, d.name.length ≤ 300) → R (.val (.bool b)) []) :
    ACalls Try.prog 67 [.agg r.enc] [] R := by
  refine acalls_of_xwp (an := an67) tab_ok Try.func67 ?_
  have hsl := dpsA_length r.deps
  have hmx : maxLen ≤ 9223372036854775807 := by decide
  have yes : R (.val (.bool true)) [] := h true (fun e => by cases e)
  (conv => whnf)
  refine LoopP.ind1 (fun (i : Nat) => [(8, vi i)]) (fun _ => []) (fun i => r.deps.length - i) (fun i => i ≤ r.deps.length ∧ ∀ d ∈ r.deps.take i, d.name.length ≤ 300) 0 rfl ⟨by omega, by simp⟩ ?_
  rintro i ⟨h0, hdo⟩ IH
  (conv => whnf)
  refine br_intro (fun hc => ?_) (fun hc => ?_)
  · have hc := lt_of_decE hsl hc
    (conv => whnf); (repeat ((with_reducible refine must_intro ?_ ?_); exact decide_eq_true (by omega); (conv => whnf)))
    refine idxK_map_intro (show (i : Int).toNat < r.deps.length by simpa using hc) ?_
    rw [show r.deps[(i : Int).toNat]'(by simpa using hc) = r.deps[i] from by congr 1]
    have hsn := size_ofB r.deps[i].name
    (conv => whnf)
    rw [hsn]
    refine br_intro (fun g => ?_) (fun g => ?_)
    · (conv => whnf)
      exact yes
    have g : r.deps[i].name.length ≤ 300 := by simp at g; omega
    (conv => whnf)
    rw [wrap_i64 (by omega) (by omega), show ((i : Int) + 1) = ((i + 1 : Nat) : Int) by omega]
    refine IH (i + 1) ⟨by omega, fun d hd => ?_⟩ (by omega)
    rw [List.take_succ_eq_append_getElem hc, List.mem_append, List.mem_singleton] at hd
    rcases hd with hd | rfl
    · exact hdo d hd
    · exact g
  · have hc := ge_of_decE hsl hc
    rw [List.take_of_length_le hc] at hdo
    have hst := size_ofB r.target
    have hsg := size_ofB r.tag
    (conv => whnf)
    rw [hsl]
    refine br_intro (fun g1 => ?_) (fun g1 => ?_)
    · (conv => whnf)
      exact yes
    have g1 : r.deps.length ≤ 60 := by simp at g1; omega
    (conv => whnf)
    rw [hst]
    refine br_intro (fun g2 => ?_) (fun g2 => ?_)
    · (conv => whnf)
      exact yes
    have g2 : r.target.length ≤ 300 := by simp at g2; omega
    (conv => whnf)
    rw [hsg]
    refine h _ fun e => ⟨g1, g2, ?_, hdo⟩
    simp at e
    omega

theorem Great10_calls (l : List Rc) (hl : l.length ≤ maxLen) (hn : ∀ r ∈ l, r.deps.length ≤ maxLen) {R} (h : ∀ b : Bool, (b = false → l.length ≤ 30 ∧ ∀ r ∈ l, r.deps.length ≤ 60 ∧ r.target.length ≤ 300 ∧ r.tag.length ≤ 300 ∧ ∀ d ∈ r.deps, d.name.length ≤ 300) → R (.val (.bool b)) []) :
    ACalls Try.prog 32 [.sl none 7 (recs l)] [] R := by
  refine acalls_of_xwp (an := an32) tab_ok Try.func32 ?_
  have hsl := recs_length l
  have hmx : maxLen ≤ 9223372036854775807 := by decide
  have yes : R (.val (.bool true)) [] := h true (fun e => by cases e)
  (conv => whnf)
  refine LoopP.ind1 (fun (i : Nat) => [(7, vi i)]) (fun _ => []) (fun i => l.length - i) (fun i => i ≤ l.length ∧ ∀ r ∈ l.take i, r.deps.length ≤ 60 ∧ r.target.length ≤ 300 ∧ r.tag.length ≤ 300 ∧ ∀ d ∈ r.deps, d.name.length ≤ 300) 0 rfl ⟨by omega, by simp⟩ ?_
  rintro i ⟨h0, hdo⟩ IH
  (conv => whnf)
  refine br_intro (fun hc => ?_) (fun hc => ?_)
  · have hc := lt_of_decE hsl hc
    (conv => whnf); (repeat ((with_reducible refine must_intro ?_ ?_); exact decide_eq_true (by omega); (conv => whnf)))
    refine idxK_map_intro (show (i : Int).toNat < l.length by simpa using hc) ?_
    rw [show l[(i : Int).toNat]'(by simpa using hc) = l[i] from by congr 1]
    (conv => whnf)
    refine Great8_calls l[i] (hn _ (List.getElem_mem hc)) fun b hb => ?_
    (conv => whnf)
    refine br_intro (fun g => ?_) (fun g => ?_)
    · (conv => whnf)
      exact yes
    (conv => whnf)
    rw [wrap_i64 (by omega) (by omega), show ((i : Int) + 1) = ((i + 1 : Nat) : Int) by omega]
    refine IH (i + 1) ⟨by omega, fun d hd => ?_⟩ (by omega)
    rw [List.take_succ_eq_append_getElem hc, List.mem_append, List.mem_singleton] at hd
    rcases hd with hd | rfl
    · exact hdo d hd
    · exact hb g
  · have hc := ge_of_decE hsl hc
    rw [List.take_of_length_le hc] at hdo
    (conv => whnf)
    rw [hsl]
    refine h _ fun e => ⟨?_, hdo⟩
    simp at e
    omega

theorem typed_dep {n : Nat} {x : List AV} (h : Typed tab (n + 3) 104 x) : ∃ d : Dp, x = d.enc := by
  obtain ⟨a1, r1, rfl, ⟨s, rfl, hs⟩, a2, r2, rfl, ⟨u, rfl, hu⟩, a3, r3, rfl, ⟨b, rfl⟩, rfl⟩ : ∃ a r, x = a ++ r ∧ (∃ s : ByteArray, a = [.val (.string s)] ∧ s.size ≤ maxLen) ∧
      ∃ a r', r = a ++ r' ∧ (∃ y, a = [.val (.int .u64 y)] ∧ (Lit.int .u64 y).wf = true) ∧ ∃ a r'', r' = a ++ r'' ∧ (∃ b, a = [.val (.bool b)]) ∧ r'' = [] := h
  refine ⟨⟨bs s, BitVec.ofInt 64 u, b⟩, ?_⟩
  simp only [Dp.enc, vs, ofB_bs, uv, List.cons_append, List.nil_append]
  rw [← wf_u64 hu]
theorem typed_deps {n : Nat} {l : List (List AV)} (h : ∀ x ∈ l, Typed tab (n + 3) 104 x) : ∃ m : List Dp, l = dpsA m := by
  induction l with
  | nil => exact ⟨[], rfl⟩
  | cons x l ih =>
    obtain ⟨m, rfl⟩ := ih fun y hy => h y (by simp [hy])
    obtain ⟨d, rfl⟩ := typed_dep (h x (by simp))
    exact ⟨d :: m, rfl⟩
theorem typed_rec {n : Nat} {x : List AV} (h : Typed tab (n + 6) 51 x) : ∃ r : Rc, x = r.enc ∧ r.deps.length ≤ maxLen ∧ (Lit.int .i64 r.kind).wf = true := by
  obtain ⟨a0, r0, rfl, ⟨k, rfl, hk⟩, a1, r1, rfl, ⟨s, rfl, hs⟩, a2, r2, rfl, ⟨u, rfl, hu⟩, a3, r3, rfl, ⟨l, rfl, hl, hx⟩, a4, r4, rfl, ⟨o, rfl, ho⟩, a5, r5, rfl, ⟨w, rfl, hw⟩, a6, r6, rfl, ⟨t, rfl, ht⟩, rfl⟩ :
      ∃ a r, x = a ++ r ∧ (∃ y, a = [.val (.int .i64 y)] ∧ (Lit.int .i64 y).wf = true) ∧ ∃ a r', r = a ++ r' ∧ (∃ s : ByteArray, a = [.val (.string s)] ∧ s.size ≤ maxLen) ∧
      ∃ a r'', r' = a ++ r'' ∧ (∃ y, a = [.val (.int .u64 y)] ∧ (Lit.int .u64 y).wf = true) ∧
      ∃ a r3, r'' = a ++ r3 ∧ (∃ l : List (List AV), a = [.sl none 3 l] ∧ l.length ≤ maxLen ∧ ∀ x ∈ l, Typed tab (n + 4) 104 x) ∧
      ∃ a r4, r3 = a ++ r4 ∧ (∃ y, a = [.val (.int .u64 y)] ∧ (Lit.int .u64 y).wf = true) ∧
      ∃ a r5, r4 = a ++ r5 ∧ (∃ y, a = [.val (.int .u64 y)] ∧ (Lit.int .u64 y).wf = true) ∧
      ∃ a r6, r5 = a ++ r6 ∧ (∃ s : ByteArray, a = [.val (.string s)] ∧ s.size ≤ maxLen) ∧ r6 = [] := h
  obtain ⟨m, rfl⟩ := typed_deps (n := n + 1) hx
  refine ⟨⟨k, bs s, BitVec.ofInt 64 u, m, BitVec.ofInt 64 o, BitVec.ofInt 64 w, bs t⟩, ?_, by simpa [dpsA] using hl, hk⟩
  simp only [Rc.enc, vs, vi, ofB_bs, uv, List.cons_append, List.nil_append]
  rw [← wf_u64 hu, ← wf_u64 ho, ← wf_u64 hw]
theorem typed_recs {n : Nat} {l : List (List AV)} (h : ∀ x ∈ l, Typed tab (n + 6) 51 x) : ∃ m : List Rc, l = recs m ∧ ∀ r ∈ m, r.deps.length ≤ maxLen := by
  induction l with
  | nil => exact ⟨[], rfl, by simp⟩
  | cons x l ih =>
    obtain ⟨m, rfl, hm⟩ := ih fun y hy => h y (by simp [hy])
    obtain ⟨r, rfl, hr, _⟩ := typed_rec (h x (by simp))
    exact ⟨r :: m, rfl, by
      intro y hy
      rw [List.mem_cons] at hy
      rcases hy with rfl | hy
      · exact hr
      · exact hm y hy⟩
theorem args_recs {ts : List TypeId} {l : List AV} (h : Args tab 12 (43 :: ts) l) : ∃ (x : List Rc) (l' : List AV), l = .sl none 7 (recs x) :: l' ∧ x.length ≤ maxLen ∧ (∀ r ∈ x, r.deps.length ≤ maxLen) ∧ Args tab 12 ts l' := by
  obtain ⟨a, l', rfl, h1, h2⟩ := h
  obtain ⟨x, e, hl, hx⟩ : ∃ x : List (List AV), [a] = [.sl none 7 x] ∧ x.length ≤ maxLen ∧ ∀ y ∈ x, Typed tab 11 51 y := h1
  obtain ⟨m, rfl, hm⟩ := typed_recs (n := 5) hx
  simp only [List.cons.injEq, and_true] at e
  subst e
  exact ⟨m, l', rfl, by simpa [recs] using hl, hm, h2⟩
end Go.Abs
