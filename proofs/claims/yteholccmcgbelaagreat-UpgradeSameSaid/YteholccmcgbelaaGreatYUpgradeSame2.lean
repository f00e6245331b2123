/- Several texts of this claim, one behind the other: F7, G1, G2, G3, H2, H3, H4, H5, H7, HB, P1, UA, N9, P2, P3, P4, UB, H8, MC, UC, P5, P6. -/
import Derived.Test.YteholccmcgbelaaGreatYUpgradeSame1
import Derived.Shelf.Abstract
import Derived.WalkKit
import Derived.OwnWalkIn
import Derived.TacticsInMore
import Derived.LoopNIn
import Derived.LoopIn
import Derived.Sort.Walk0
import Derived.Test.YteholccmcgbelaaGreatBA
set_option maxRecDepth 100000
set_option maxHeartbeats 4000000
set_option linter.unusedVariables false
set_option linter.unusedSimpArgs false
section
namespace Go.Abs
open Go Go.Proofs Dig
attribute [local irreducible] ibits byteAt strLt firstIdx
structure Dp where
 name : B
 hash : U
 order : Bool
 deriving DecidableEq
def Dp.enc (d : Dp) : List AV := [vs d.name, uv d.hash, .val (.bool d.order)]
def dpsA (l : List Dp) : List (List AV) := l.map Dp.enc
theorem dpsA_length (l : List Dp) : (dpsA l).length = l.length := by simp [dpsA]
structure Rc where
 kind : Int
 target : B
 rule : U
 deps : List Dp
 out : U
 wen : U
 tag : B
 deriving DecidableEq
def Rc.enc (r : Rc) : List AV := [vi r.kind, vs r.target, uv r.rule, .sl none 3 (dpsA r.deps), uv r.out, uv r.wen, vs r.tag]
def recs (l : List Rc) : List (List AV) := l.map Rc.enc
theorem recs_length (l : List Rc) : (recs l).length = l.length := by simp [recs]
theorem Same8_calls (a b : Rc) (ha : a.deps.length < 1000000) {R} (h : ∀ p, p = decide (a = b) → R (.val (.bool p)) []) : ACalls Tryz.prog 58 [.agg a.enc, .agg b.enc] [] R := by
 refine acalls_of_xwp (an := an58) tab_ok Tryz.func58 ?_
 have hsa := dpsA_length a.deps
 have hsb := dpsA_length b.deps
 have no : a ≠ b → R (.val (.bool false)) [] := fun e => h false (decide_eq_false e).symm
 conv => whnf
 refine br_intro (fun g1 => ?_) (fun g1 => ?_)
 ·conv => whnf
  exact no (by rintro rfl; simp at g1)
 conv => whnf
 refine br_intro (fun g2 => ?_) (fun g2 => ?_)
 ·conv => whnf
  exact no (by rintro rfl; simp at g2)
 conv => whnf
 refine br_intro (fun g3 => ?_) (fun g3 => ?_)
 ·conv => whnf
  exact no (by rintro rfl; simp at g3)
 conv => whnf
 refine br_intro (fun g4 => ?_) (fun g4 => ?_)
 ·conv => whnf
  exact no (by rintro rfl; simp at g4)
 conv => whnf
 refine br_intro (fun g5 => ?_) (fun g5 => ?_)
 ·conv => whnf
  exact no (by rintro rfl; simp at g5)
 conv => whnf
 refine br_intro (fun g6 => ?_) (fun g6 => ?_)
 ·conv => whnf
  exact no (by rintro rfl; simp at g6)
 conv => whnf
 refine br_intro (fun g7 => ?_) (fun g7 => ?_)
 ·conv => whnf
  exact no (by rintro rfl; simp at g7)
 have g7 : a.deps.length = b.deps.length := by rw [hsa, hsb] at g7; simp at g7; omega
 conv => whnf
 refine LoopP.ind1 (fun (i : Nat) => [(5, vi i)]) (fun _ => []) (fun i => a.deps.length - i) (fun i => i ≤ a.deps.length ∧ a.deps.take i = b.deps.take i) 0 rfl ⟨by omega, by simp⟩ ?_
 rintro i ⟨h0, h1⟩ IH
 conv => whnf
 refine br_intro (fun hc => ?_) (fun hc => ?_)
 ·have hc := lt_of_decE hsa hc
  have hcb : i < b.deps.length := by omega
  have nox : a.deps[i] ≠ b.deps[i] → R (.val (.bool false)) [] := fun e => no fun hab => by subst hab; exact e rfl
  (conv => whnf); (repeat ((with_reducible refine must_intro ?_ ?_); exact decide_eq_true (by omega); (conv => whnf)))
  refine idxK_map_intro (show (i : Int).toNat < a.deps.length by simpa using hc) ?_
  rw [show a.deps[(i : Int).toNat]'(by simpa using hc) = a.deps[i] from by congr 1]
  (conv => whnf); (repeat ((with_reducible refine must_intro ?_ ?_); exact decide_eq_true (by omega); (conv => whnf)))
  refine idxK_map_intro (show (i : Int).toNat < b.deps.length by simpa using hcb) ?_
  rw [show b.deps[(i : Int).toNat]'(by simpa using hcb) = b.deps[i] from by congr 1]
  conv => whnf
  refine br_intro (fun e1 => ?_) (fun e1 => ?_)
  ·conv => whnf
   exact nox (fun e => by rw [e] at e1; simp at e1)
  (conv => whnf); (repeat ((with_reducible refine must_intro ?_ ?_); exact decide_eq_true (by omega); (conv => whnf)))
  refine idxK_map_intro (show (i : Int).toNat < a.deps.length by simpa using hc) ?_
  rw [show a.deps[(i : Int).toNat]'(by simpa using hc) = a.deps[i] from by congr 1]
  (conv => whnf); (repeat ((with_reducible refine must_intro ?_ ?_); exact decide_eq_true (by omega); (conv => whnf)))
  refine idxK_map_intro (show (i : Int).toNat < b.deps.length by simpa using hcb) ?_
  rw [show b.deps[(i : Int).toNat]'(by simpa using hcb) = b.deps[i] from by congr 1]
  conv => whnf
  refine br_intro (fun e2 => ?_) (fun e2 => ?_)
  ·conv => whnf
   exact nox (fun e => by rw [e] at e2; simp at e2)
  (conv => whnf); (repeat ((with_reducible refine must_intro ?_ ?_); exact decide_eq_true (by omega); (conv => whnf)))
  refine idxK_map_intro (show (i : Int).toNat < a.deps.length by simpa using hc) ?_
  rw [show a.deps[(i : Int).toNat]'(by simpa using hc) = a.deps[i] from by congr 1]
  (conv => whnf); (repeat ((with_reducible refine must_intro ?_ ?_); exact decide_eq_true (by omega); (conv => whnf)))
  refine idxK_map_intro (show (i : Int).toNat < b.deps.length by simpa using hcb) ?_
  rw [show b.deps[(i : Int).toNat]'(by simpa using hcb) = b.deps[i] from by congr 1]
  conv => whnf
  refine br_intro (fun e3 => ?_) (fun e3 => ?_)
  ·conv => whnf
   exact nox (fun e => by rw [e] at e3; simp at e3)
  have ee : a.deps[i] = b.deps[i] := by
   have q1 : a.deps[i].name = b.deps[i].name := by simpa [ofB_eq] using e1
   have q2 : a.deps[i].hash = b.deps[i].hash := by
    have : (a.deps[i].hash.toNat : Int) = b.deps[i].hash.toNat := by simpa using e2
    exact BitVec.eq_of_toNat_eq (by omega)
   have q3 : a.deps[i].order = b.deps[i].order := by simpa using e3
   cases hx : a.deps[i]; cases hy : b.deps[i]
   rw [hx, hy] at q1 q2 q3
   simp at q1 q2 q3
   simp [q1, q2, q3]
  conv => whnf
  rw [i64_nat (by omega)]
  refine IH (i + 1) ⟨by omega, ?_⟩ (by omega)
  rw [List.take_succ_eq_append_getElem hc, List.take_succ_eq_append_getElem hcb, h1, ee]
 ·have hc := ge_of_decE hsa hc
  rw [List.take_of_length_le hc, List.take_of_length_le (by omega)] at h1
  conv => whnf
  refine h true (decide_eq_true ?_).symm
  have uq : ∀ {x y : U}, (!((x.toNat : Int) == y.toNat)) = false → x = y := fun {x y} h => by
   have : (x.toNat : Int) = y.toNat := by simpa using h
   exact BitVec.eq_of_toNat_eq (by omega)
  have q1 : a.kind = b.kind := by simpa using g1
  have q2 : a.target = b.target := by simpa [ofB_eq] using g2
  have q3 : a.rule = b.rule := by
   have : (a.rule.toNat : Int) = b.rule.toNat := by simpa using g3
   exact BitVec.eq_of_toNat_eq (by omega)
  have q4 : a.out = b.out := by
   have : (a.out.toNat : Int) = b.out.toNat := by simpa using g4
   exact BitVec.eq_of_toNat_eq (by omega)
  have q5 : a.wen = b.wen := by
   have : (a.wen.toNat : Int) = b.wen.toNat := by simpa using g5
   exact BitVec.eq_of_toNat_eq (by omega)
  have q6 : a.tag = b.tag := by simpa [ofB_eq] using g6
  cases a; cases b
  simp_all
theorem Great8_calls (r : Rc) (hr : r.deps.length ≤ maxLen) {R} (h : ∀ b : Bool, (b = false → r.deps.length ≤ 60 ∧ r.target.length ≤ 300 ∧ r.tag.length ≤ 300 ∧ ∀ d ∈ r.deps, d.name.length ≤ 300) → R (.val (.bool b)) []) :
  ACalls Tryz.prog 38 [.agg r.enc] [] R := by
 refine acalls_of_xwp (an := an38) tab_ok Tryz.func38 ?_
 have hsl := dpsA_length r.deps
 have hmx : maxLen ≤ 9223372036854775807 := by decide
 have yes : R (.val (.bool true)) [] := h true (fun e => by cases e)
 conv => whnf
 refine LoopP.ind1 (fun (i : Nat) => [(8, vi i)]) (fun _ => []) (fun i => r.deps.length - i) (fun i => i ≤ r.deps.length ∧ ∀ d ∈ r.deps.take i, d.name.length ≤ 300) 0 rfl ⟨by omega, by simp⟩ ?_
 rintro i ⟨h0, hdo⟩ IH
 conv => whnf
 refine br_intro (fun hc => ?_) (fun hc => ?_)
 ·have hc := lt_of_decE hsl hc
  (conv => whnf); (repeat ((with_reducible refine must_intro ?_ ?_); exact decide_eq_true (by omega); (conv => whnf)))
  refine idxK_map_intro (show (i : Int).toNat < r.deps.length by simpa using hc) ?_
  rw [show r.deps[(i : Int).toNat]'(by simpa using hc) = r.deps[i] from by congr 1]
  have hsn := size_ofB r.deps[i].name
  conv => whnf
  rw [hsn]
  refine br_intro (fun g => ?_) (fun g => ?_)
  ·conv => whnf
   exact yes
  have g : r.deps[i].name.length ≤ 300 := by simp at g; omega
  conv => whnf
  rw [wrap_i64 (by omega) (by omega), show ((i : Int) + 1) = ((i + 1 : Nat) : Int) by omega]
  refine IH (i + 1) ⟨by omega, fun d hd => ?_⟩ (by omega)
  rw [List.take_succ_eq_append_getElem hc, List.mem_append, List.mem_singleton] at hd
  rcases hd with hd | rfl
  ·exact hdo d hd
  ·exact g
 ·have hc := ge_of_decE hsl hc
  rw [List.take_of_length_le hc] at hdo
  have hst := size_ofB r.target
  have hsg := size_ofB r.tag
  conv => whnf
  rw [hsl]
  refine br_intro (fun g1 => ?_) (fun g1 => ?_)
  ·conv => whnf
   exact yes
  have g1 : r.deps.length ≤ 60 := by simp at g1; omega
  conv => whnf
  rw [hst]
  refine br_intro (fun g2 => ?_) (fun g2 => ?_)
  ·conv => whnf
   exact yes
  have g2 : r.target.length ≤ 300 := by simp at g2; omega
  conv => whnf
  rw [hsg]
  refine h _ fun e => ⟨g1, g2, ?_, hdo⟩
  simp at e
  omega
theorem Great10_calls (l : List Rc) (hl : l.length ≤ maxLen) (hn : ∀ r ∈ l, r.deps.length ≤ maxLen) {R} (h : ∀ b : Bool, (b = false → l.length ≤ 30 ∧ ∀ r ∈ l, r.deps.length ≤ 60 ∧ r.target.length ≤ 300 ∧ r.tag.length ≤ 300 ∧ ∀ d ∈ r.deps, d.name.length ≤ 300) → R (.val (.bool b)) []) :
  ACalls Tryz.prog 8 [.sl none 7 (recs l)] [] R := by
 refine acalls_of_xwp (an := an8) tab_ok Tryz.func8 ?_
 have hsl := recs_length l
 have hmx : maxLen ≤ 9223372036854775807 := by decide
 have yes : R (.val (.bool true)) [] := h true (fun e => by cases e)
 conv => whnf
 refine LoopP.ind1 (fun (i : Nat) => [(7, vi i)]) (fun _ => []) (fun i => l.length - i) (fun i => i ≤ l.length ∧ ∀ r ∈ l.take i, r.deps.length ≤ 60 ∧ r.target.length ≤ 300 ∧ r.tag.length ≤ 300 ∧ ∀ d ∈ r.deps, d.name.length ≤ 300) 0 rfl ⟨by omega, by simp⟩ ?_
 rintro i ⟨h0, hdo⟩ IH
 conv => whnf
 refine br_intro (fun hc => ?_) (fun hc => ?_)
 ·have hc := lt_of_decE hsl hc
  (conv => whnf); (repeat ((with_reducible refine must_intro ?_ ?_); exact decide_eq_true (by omega); (conv => whnf)))
  refine idxK_map_intro (show (i : Int).toNat < l.length by simpa using hc) ?_
  rw [show l[(i : Int).toNat]'(by simpa using hc) = l[i] from by congr 1]
  conv => whnf
  refine Great8_calls l[i] (hn _ (List.getElem_mem hc)) fun b hb => ?_
  conv => whnf
  refine br_intro (fun g => ?_) (fun g => ?_)
  ·conv => whnf
   exact yes
  conv => whnf
  rw [wrap_i64 (by omega) (by omega), show ((i : Int) + 1) = ((i + 1 : Nat) : Int) by omega]
  refine IH (i + 1) ⟨by omega, fun d hd => ?_⟩ (by omega)
  rw [List.take_succ_eq_append_getElem hc, List.mem_append, List.mem_singleton] at hd
  rcases hd with hd | rfl
  ·exact hdo d hd
  ·exact hb g
 ·have hc := ge_of_decE hsl hc
  rw [List.take_of_length_le hc] at hdo
  conv => whnf
  rw [hsl]
  refine h _ fun e => ⟨?_, hdo⟩
  simp at e
  omega
theorem typed_dep {n : Nat} {x : List AV} (h : Typed tab (n + 3) 130 x) : ∃ d : Dp, x = d.enc := by
 obtain ⟨a1, r1, rfl, ⟨s, rfl, hs⟩, a2, r2, rfl, ⟨u, rfl, hu⟩, a3, r3, rfl, ⟨b, rfl⟩, rfl⟩ : ∃ a r, x = a ++ r ∧ (∃ s : ByteArray, a = [.val (.string s)] ∧ s.size ≤ maxLen) ∧
   ∃ a r', r = a ++ r' ∧ (∃ y, a = [.val (.int .u64 y)] ∧ (Lit.int .u64 y).wf = true) ∧ ∃ a r'', r' = a ++ r'' ∧ (∃ b, a = [.val (.bool b)]) ∧ r'' = [] := h
 refine ⟨⟨bs s, BitVec.ofInt 64 u, b⟩, ?_⟩
 simp only [Dp.enc, vs, ofB_bs, uv, List.cons_append, List.nil_append]
 rw [← wf_u64 hu]
theorem typed_deps {n : Nat} {l : List (List AV)} (h : ∀ x ∈ l, Typed tab (n + 3) 130 x) : ∃ m : List Dp, l = dpsA m := by
 induction l with
 | nil => exact ⟨[], rfl⟩
 | cons x l ih =>
  obtain ⟨m, rfl⟩ := ih fun y hy => h y (by simp [hy])
  obtain ⟨d, rfl⟩ := typed_dep (h x (by simp))
  exact ⟨d :: m, rfl⟩
theorem typed_rec {n : Nat} {x : List AV} (h : Typed tab (n + 6) 67 x) : ∃ r : Rc, x = r.enc ∧ r.deps.length ≤ maxLen ∧ (Lit.int .i64 r.kind).wf = true := by
 obtain ⟨a0, r0, rfl, ⟨k, rfl, hk⟩, a1, r1, rfl, ⟨s, rfl, hs⟩, a2, r2, rfl, ⟨u, rfl, hu⟩, a3, r3, rfl, ⟨l, rfl, hl, hx⟩, a4, r4, rfl, ⟨o, rfl, ho⟩, a5, r5, rfl, ⟨w, rfl, hw⟩, a6, r6, rfl, ⟨t, rfl, ht⟩, rfl⟩ :
   ∃ a r, x = a ++ r ∧ (∃ y, a = [.val (.int .i64 y)] ∧ (Lit.int .i64 y).wf = true) ∧ ∃ a r', r = a ++ r' ∧ (∃ s : ByteArray, a = [.val (.string s)] ∧ s.size ≤ maxLen) ∧
   ∃ a r'', r' = a ++ r'' ∧ (∃ y, a = [.val (.int .u64 y)] ∧ (Lit.int .u64 y).wf = true) ∧
   ∃ a r3, r'' = a ++ r3 ∧ (∃ l : List (List AV), a = [.sl none 3 l] ∧ l.length ≤ maxLen ∧ ∀ x ∈ l, Typed tab (n + 4) 130 x) ∧
   ∃ a r4, r3 = a ++ r4 ∧ (∃ y, a = [.val (.int .u64 y)] ∧ (Lit.int .u64 y).wf = true) ∧
   ∃ a r5, r4 = a ++ r5 ∧ (∃ y, a = [.val (.int .u64 y)] ∧ (Lit.int .u64 y).wf = true) ∧
   ∃ a r6, r5 = a ++ r6 ∧ (∃ s : ByteArray, a = [.val (.string s)] ∧ s.size ≤ maxLen) ∧ r6 = [] := h
 obtain ⟨m, rfl⟩ := typed_deps (n := n + 1) hx
 refine ⟨⟨k, bs s, BitVec.ofInt 64 u, m, BitVec.ofInt 64 o, BitVec.ofInt 64 w, bs t⟩, ?_, by simpa [dpsA] using hl, hk⟩
 simp only [Rc.enc, vs, vi, ofB_bs, uv, List.cons_append, List.nil_append]
 rw [← wf_u64 hu, ← wf_u64 ho, ← wf_u64 hw]
theorem typed_recs {n : Nat} {l : List (List AV)} (h : ∀ x ∈ l, Typed tab (n + 6) 67 x) : ∃ m : List Rc, l = recs m ∧ ∀ r ∈ m, r.deps.length ≤ maxLen := by
 induction l with
 | nil => exact ⟨[], rfl, by simp⟩
 | cons x l ih =>
  obtain ⟨m, rfl, hm⟩ := ih fun y hy => h y (by simp [hy])
  obtain ⟨r, rfl, hr, _⟩ := typed_rec (h x (by simp))
  exact ⟨r :: m, rfl, by
   intro y hy
   rw [List.mem_cons] at hy
   rcases hy with rfl | hy
   ·exact hr
   ·exact hm y hy⟩
theorem args_recs {ts : List TypeId} {l : List AV} (h : Args tab 12 (22 :: ts) l) : ∃ (x : List Rc) (l' : List AV), l = .sl none 7 (recs x) :: l' ∧ x.length ≤ maxLen ∧ (∀ r ∈ x, r.deps.length ≤ maxLen) ∧ Args tab 12 ts l' := by
 obtain ⟨a, l', rfl, h1, h2⟩ := h
 obtain ⟨x, e, hl, hx⟩ : ∃ x : List (List AV), [a] = [.sl none 7 x] ∧ x.length ≤ maxLen ∧ ∀ y ∈ x, Typed tab 11 67 y := h1
 obtain ⟨m, rfl, hm⟩ := typed_recs (n := 5) hx
 simp only [List.cons.injEq, and_true] at e
 subst e
 exact ⟨m, l', rfl, by simpa [recs] using hl, hm, h2⟩
def zeroR : Rc := ⟨0, [], 0, [], 0, 0, []⟩
theorem le_zeroR : leL [.val (.int .i64 0), .val (.string ⟨#[]⟩), .val (.int .u64 0), .val (.slice none 0 0), .val (.int .u64 0), .val (.int .u64 0), .val (.string ⟨#[]⟩)] zeroR.enc :=
 leL.cons (.refl _) (leL.cons (.refl _) (leL.cons (.refl _) (leL.cons (le_nil 3) (leL.refl _))))
end Go.Abs
end
section
namespace Go.Abs
open Go Go.Proofs Go.RowKit
attribute [local go_sem] Oper.semAt_some
theorem CloneD_calls (l : List Dp) (hl : l.length < 1000000) {R} (h : R (.sl none 3 (dpsA l)) []) : ACalls Tryz.prog 89 [.sl none 3 (dpsA l)] [] R := by
 refine ACalls.res ?_
 refine acalls_of_xwp (an := an89) tab_ok Tryz.func89 ?_
 have hsl := dpsA_length l
 conv => whnf
 intro b hb
 refine br_intro (fun g => ?_) (fun g => ?_)
 ·have e := hb g
  rw [e] at h
  conv => whnf
  exact res_le (le_nil 3) rfl h
 ·conv => whnf
  refine ⟨rfl, (by show (0 + (dpsA l).length) * (32 + 1) ≤ _; omega), ?_⟩
  conv => whnf
  refine res_same ?_
  exact h
theorem Clone_calls (r : Rc) (hl : r.deps.length < 1000000) {R} (h : R (.agg r.enc) []) : ACalls Tryz.prog 59 [.agg r.enc] [] R := by
 refine acalls_of_xwp (an := an59) tab_ok Tryz.func59 ?_
 conv => whnf
 refine CloneD_calls r.deps hl ?_
 conv => whnf
 exact h
def backsR (l : List Rc) : List (List AV) := l.zipIdx.reverse.map fun p => [.val (.int .i64 p.2), .agg p.1.enc]
theorem back_iterR (l : List Rc) (hl : l.length < 1000000) : AIter Tryz.prog 175 [.cptr [.sl none 7 (recs l)] 0] (backsR l) := by
 refine ⟨fun args w => run_callFunc (by kernel_rfl), fun G w lb hk hr => ?_⟩
 simp only [RepL, Rep, RepC] at hr
 obtain ⟨_, _, rfl, ⟨b, o, rfl, ⟨⟨v, hv, ⟨A, c, rfl, hc, hE⟩, _⟩, _⟩, _⟩, rfl⟩ := hr
 have hval : ∀ i : Nat, ∃ vs : List Value, ∀ s, l[i]? = some s → RepL ⟨G.K, fun _ => none⟩ s.enc vs ∧ ∃ b o, A = some ⟨b, o, none⟩ ∧ ∀ j v, vs[j]? = some v → G.K b (o + i * 7 + j) = some v := by
  intro i
  cases hs : l[i]? with
  | none => exact ⟨[], fun s h => by cases h⟩
  | some s =>
   obtain ⟨b', o', hA, _, _, hC⟩ := hE.get (i := i) (e := s.enc) (by rw [recs, List.getElem?_map, hs]; rfl)
   obtain ⟨vs, h1, h2⟩ := hC.vals
   refine ⟨vs, fun s' h => ?_⟩
   cases h
   refine ⟨RepL.nameless (G := G) (G' := ⟨G.K, fun _ => none⟩) (fun _ _ _ h => h) _ _ rfl h1, b', o', hA, fun j v hj => ?_⟩
   have := h2 j v hj
   simpa using this
 obtain ⟨f, hf⟩ := Classical.skolem.1 hval
 refine ⟨l.zipIdx.reverse.map fun p => #[.int .i64 p.2, .agg (f p.2).toArray], by simp [backsR], ?_, ?_⟩
 ·intro i x e hx he
  unfold backsR at hx
  rw [List.getElem?_map, Option.map_eq_some_iff] at hx he
  obtain ⟨p, hp, rfl⟩ := hx
  obtain ⟨p', hp', rfl⟩ := he
  rw [hp] at hp'
  cases hp'
  have hm : p ∈ l.zipIdx := by rw [← List.mem_reverse]; exact List.mem_of_getElem? hp
  have hg : l[p.2]? = some p.1 := List.mk_mem_zipIdx_iff_getElem?.1 hm
  have := (hf p.2 p.1 hg).1
  simp only [RepL, Rep]
  exact ⟨_, _, rfl, rfl, _, _, rfl, ⟨_, rfl, this⟩, rfl⟩
 ·intro lp n J Jx hY hJ h0
  rw [show FW none = Fence.wide from rfl] at hY ⊢
  refine callsIn_of_wp Tryz.func175 rfl trivial ?_ rfl
  simp only [Tryz.ntmps175, List.size_toArray, List.length_cons, List.length_nil, Nat.reduceAdd, Nat.reduceSub, Array.replicate_succ, Array.replicate_zero, List.push_toArray, List.append_toArray, List.nil_append, List.cons_append, Nat.add_zero]
  have hb := hJ 0 w h0 _ _ _ hv
  have hlen : (recs l).length = l.length := recs_length l
  rw [hlen] at hb hv hc
  have hNb : (l.length : Int) < 1000000 := by omega
  clear hl
  gi_wp2
  gi_loopw [3] (fun i wr => ∃ k : Nat, k ≤ l.length ∧ i = .int .i64 ((l.length : Int) - 1 - k) ∧ J k wr) (fun i _ => (Go.RowKit.intOf i + 1).toNat)
  case atStart => exact ⟨0, Nat.zero_le _, by simp, h0⟩
  case round =>
   obtain ⟨k, hk', rfl, hJs⟩ := hrel
   by_cases hlt : k < l.length
   ·obtain ⟨i, hi⟩ : ∃ i : Nat, i + k + 1 = l.length := ⟨l.length - 1 - k, by omega⟩
    have hil : i < l.length := by omega
    have ei : (l.length : Int) - 1 - k = (i : Int) := by omega
    rw [ei]
    clear ei
    obtain ⟨s, hs⟩ : ∃ s, l[i]? = some s := ⟨l[i], List.getElem?_eq_getElem hil⟩
    have hb' := hJ k wr hJs _ _ _ hv
    obtain ⟨hR1, b', o', hA, hK⟩ := hf i s hs
    subst hA
    have hes : (l.zipIdx.reverse.map fun p => (#[.int .i64 p.2, .agg (f p.2).toArray] : Array Value))[k]? = some #[.int .i64 i, .agg (f i).toArray] := by
     have hk : k < l.zipIdx.length := by simp; omega
     rw [List.getElem?_map, List.getElem?_reverse hk]
     have e : l.zipIdx.length - 1 - k = i := by simp; omega
     rw [e, List.getElem?_zipIdx, hs]
     simp
    generalize hfi : f i = vs at hR1 hK hes
    have hvl : vs.length = 7 := by rw [hR1.length]; rfl
    obtain ⟨v0, v1, v2, v3, v4, v5, v6, rfl⟩ : ∃ v0 v1 v2 v3 v4 v5 v6, vs = [v0, v1, v2, v3, v4, v5, v6] := by
     match vs, hvl with
     | [v0, v1, v2, v3, v4, v5, v6], _ => exact ⟨_, _, _, _, _, _, _, rfl⟩
    have d0 := hJ k wr hJs _ _ _ (hK 0 v0 rfl)
    have d1 := hJ k wr hJs _ _ _ (hK 1 v1 rfl)
    have d2 := hJ k wr hJs _ _ _ (hK 2 v2 rfl)
    have d3 := hJ k wr hJs _ _ _ (hK 3 v3 rfl)
    have d4 := hJ k wr hJs _ _ _ (hK 4 v4 rfl)
    have d5 := hJ k wr hJs _ _ _ (hK 5 v5 rfl)
    have d6 := hJ k wr hJs _ _ _ (hK 6 v6 rfl)
    simp only [Nat.add_zero] at d0
    obtain ⟨fn, tmps, assign, body, hy, hR⟩ := hY (n - 1) k #[.int .i64 i, .agg #[v0, v1, v2, v3, v4, v5, v6]] wr hes hJs
    have hi0 : (0 : Int) ≤ i := by omega
    clear hY hJ h0 hE hb hf hval hR1 hK
    gi_wp2
    refine ⟨fun h => by simp [Fence.wide] at h, hR.mono ?_⟩
    rintro e W3 (⟨rfl, hJ3⟩ | ⟨rfl, hJx3⟩)
    ·clear hR hy
     gi_wp2
     go_roundw
     case rel => exact ⟨k + 1, by omega, by congr 1 <;> (try push_cast) <;> omega, hJ3⟩
     case measure => first | (simp [Go.RowKit.intOf]; done) | (simp [Go.RowKit.intOf]; omega)
    ·clear hR hy
     gi_wp2
     refine bodyPost_ret (results_none rfl _ _ _) rfl ?_
     exact ⟨⟨_, rfl⟩, .inr ⟨_, hJx3⟩⟩
   ·have ek : k = l.length := by omega
    have e1 : (l.length : Int) - 1 - k = -1 := by omega
    rw [e1]
    have hJe : J l.length wr := ek ▸ hJs
    clear e1 ek hJs hlt hk' hY h0 hE hb hf hval
    gi_wp2
    go_end0
    refine ⟨⟨_, rfl⟩, .inl ?_⟩
    simpa using hJe
end Go.Abs
end
section
namespace Go.Abs
open Go Go.Proofs Dig
attribute [local irreducible] ibits byteAt strLt firstIdx
def isOf (t : B) (r : Rc) : Bool := decide (r.kind = 1) && decide (r.target = t)
def findP (l : List Rc) (t : B) : Option Rc := l.reverse.find? (isOf t)
def findR (l : List Rc) (t : B) : Rc := (findP l t).getD zeroR
theorem BackwardR (l : List (List AV)) {R} (h : R (.fn (.func 175) [] [.cptr [.sl none 7 l] 0]) []) :
  ACalls Tryz.prog 136 [.sl none 7 l] [] R := by
 refine acalls_of_xwp (an := an136) tab_ok Tryz.func136 ?_
 conv => whnf
 exact h
theorem backsR_get {l : List Rc} {i : Nat} {x : List AV} (h : (backsR l)[i]? = some x) : ∃ s k, l.reverse[i]? = some s ∧ x = [.val (.int .i64 k), .agg s.enc] := by
 unfold backsR at h
 rw [List.getElem?_map, Option.map_eq_some_iff] at h
 obtain ⟨p, hp, rfl⟩ := h
 have h1 : (l.zipIdx.reverse.map (·.1))[i]? = some p.1 := by rw [List.getElem?_map, hp]; rfl
 rw [List.map_reverse, List.zipIdx_map_fst] at h1
 exact ⟨p.1, p.2, h1, rfl⟩
theorem backsR_length (l : List Rc) : (backsR l).length = l.length := by simp [backsR]
theorem find?_at {α : Type} {l : List α} {f : α → Bool} {i : Nat} {s : α} (h0 : ∀ j x, j < i → l[j]? = some x → f x = false) (h1 : l[i]? = some s) (h2 : f s = true) : l.find? f = some s := by
 induction l generalizing i with
 | nil => simp at h1
 | cons a l ih =>
  cases i with
  | zero => simp at h1; subst h1; simp [h2]
  | succ i =>
   have : f a = false := h0 0 a (by omega) rfl
   simp only [List.find?_cons, this]
   exact ih (i := i) (fun j x hj hx => h0 (j + 1) x (by omega) (by simpa using hx)) (by simpa using h1)
theorem find?_no {α : Type} {l : List α} {f : α → Bool} (h0 : ∀ j x, j < l.length → l[j]? = some x → f x = false) : l.find? f = none := by
 rw [List.find?_eq_none]
 intro x hx
 obtain ⟨j, hj, rfl⟩ := List.getElem_of_mem hx
 simp [h0 j _ hj (List.getElem?_eq_getElem hj)]
theorem Find_calls (l : List Rc) (hl : l.length < 1000000) (hd : ∀ r ∈ l, r.deps.length < 1000000) (t : B) {R} (h : R (.tup [.agg (findR l t).enc, .val (.bool (findP l t).isSome)]) []) :
  ACalls Tryz.prog 90 [.sl none 7 (recs l), vs t] [] R := by
 refine ACalls.res ?_
 refine acalls_of_xwp (an := an90) tab_ok Tryz.func90 ?_
 conv => whnf
 refine BackwardR _ ?_
 conv => whnf
 refine .inl ?_
 conv => whnf
 refine ⟨backsR l, back_iterR l hl, ?_, ?_⟩
 ·intro x hx
  simp only [backsR, List.mem_map] at hx
  obtain ⟨p, _, rfl⟩ := hx
  rfl
 refine ⟨fun i s => s = _ ∧ ∀ j x, j < i → l.reverse[j]? = some x → isOf t x = false, ⟨rfl, fun j x hj => absurd hj (Nat.not_lt_zero _)⟩, ?_, ?_⟩
 ·rintro i x s hx ⟨rfl, hno⟩
  obtain ⟨s, k, hs, rfl⟩ := backsR_get hx
  have hsl : s.deps.length < 1000000 := hd s (by rw [← List.mem_reverse]; exact List.mem_of_getElem? hs)
  have next : isOf t s = false → ∀ j x, j < i + 1 → l.reverse[j]? = some x → isOf t x = false := by
   intro hb j x hj hxj
   rcases Nat.lt_or_ge j i with hji | hji
   ·exact hno j x hji hxj
   ·have : j = i := by omega
    subst this
    rw [hs] at hxj
    cases hxj
    exact hb
  conv => whnf
  refine br_intro (fun hb => ?_) (fun hb => ?_)
  ·have hb : s.kind = 1 := by simpa using hb
   conv => whnf
   refine br_intro (fun hc => ?_) (fun hc => ?_)
   ·have hc : s.target = t := ofB_inj (of_decide_eq_true hc)
    have hf : findP l t = some s := find?_at hno hs (by simp [isOf, hb, hc])
    have hr : findR l t = s := by rw [findR, hf]; rfl
    rw [hr, hf] at h
    conv => whnf
    refine Clone_calls s hsl ?_
    conv => whnf
    refine res_same ?_
    exact h
   ·have hc : ¬ s.target = t := fun e => of_decide_eq_false hc (by rw [e])
    conv => whnf
    exact ⟨rfl, next (by simp [isOf, hc])⟩
  ·have hb : ¬ s.kind = 1 := by simpa using hb
   conv => whnf
   exact ⟨rfl, next (by simp [isOf, hb])⟩
 ·rintro s ⟨rfl, hno⟩
  have hf : findP l t = none := find?_no (fun j x hj hx => hno j x (by rw [backsR_length]; simpa using hj) hx)
  have hr : findR l t = zeroR := by rw [findR, hf]; rfl
  rw [hr, hf] at h
  conv => whnf
  exact res_le (le_tup (leL.cons (le_agg le_zeroR) (leL.refl _))) rfl h
theorem nodup_bound {l : List Nat} {n : Nat} (h : l.Nodup) (hb : ∀ x ∈ l, x < n) : l.length ≤ n := by
 have hp : l.Perm ((List.range n).filter fun x => decide (x ∈ l)) := by
  refine (List.perm_ext_iff_of_nodup h (List.nodup_range.filter _)).2 fun a => ?_
  simp
  exact fun ha => hb a ha
 rw [hp.length_eq]
 exact Nat.le_trans (List.length_filter_le _ _) (by simp)
abbrev RMap := List (B × Rc)
def rmap (mp : RMap) : List (ByteArray × AV) := mp.map fun p => (ofB p.1, .agg p.2.enc)
def keysM (mp : RMap) : List B := mp.map (·.1)
def lookM (mp : RMap) (k : B) : Option Rc := (mp.find? fun p => decide (p.1 = k)).map (·.2)
def lookZ (mp : RMap) (k : B) : Rc := (lookM mp k).getD zeroR
theorem rmap_find (mp : RMap) (k : B) : mapFind (rmap mp) (ofB k) = (lookM mp k).map fun r => .agg r.enc := by
 induction mp with
 | nil => rfl
 | cons p mp ih =>
  unfold rmap at ih ⊢
  simp only [List.map_cons, mapFind, lookM, List.find?_cons]
  by_cases h : p.1 = k
  ·simp [h]
  ·have : ofB p.1 ≠ ofB k := fun e => h (ofB_inj e)
   simp only [this, if_false, h, decide_false, ih]
   rfl
theorem lookM_mem {mp : RMap} {k : B} (h : k ∈ keysM mp) : ∃ r, lookM mp k = some r := by
 obtain ⟨p, hp, rfl⟩ := List.mem_map.1 h
 cases hf : mp.find? fun q => decide (q.1 = p.1) with
 | none => exact absurd (List.find?_eq_none.1 hf p hp) (by simp)
 | some q => exact ⟨q.2, by simp [lookM, hf]⟩
theorem values_calls (mp : RMap) (hm : mp.length < 1000000) {R} (h : ∀ ks, ks.Perm (keysM mp) → ks = sortB ks → R (.sl none 7 (recs (ks.map (lookZ mp)))) [.map (rmap mp)]) :
  ACalls Tryz.prog 105 [.mapv 0] [.map (rmap mp)] R := by
 refine acalls_of_xwp (an := an105) tab_ok Tryz.func105 ?_
 have hml : (rmap mp).length = mp.length := by simp [rmap]
 conv => whnf
 intro ms clock
 refine LoopP.ind2 (fun (seen : List Nat) (keys : List B) => [(3, .slv (nameOf 3) 1 keys.length 0 keys.length)]) (fun seen keys => [(0, .mapc (rmap mp) ms clock), (nameOf 3, .vec 9 1 (strs keys) keys.length), (nameOf 9, .iter 0 ms clock seen)])
  (fun seen _ => mp.length - seen.length) (fun seen keys => seen.Nodup ∧ (∀ i ∈ seen, i < mp.length) ∧ keys = seen.reverse.map fun i => ((mp[i]?).map (·.1)).getD []) [] [] rfl ⟨by simp, by simp, rfl⟩ ?_
 rintro seen keys ⟨hnd, hbd, hkeys⟩ IH
 have hkl : keys.length = seen.length := by rw [hkeys]; simp
 have hsb := nodup_bound hnd hbd
 have hsk := strs_length keys
 conv => whnf
 refine ⟨⟨rfl, rfl⟩, fun hall => ?_, fun i e he hns => ?_⟩
 ·have hperm : keys.Perm (keysM mp) := by
   have h1 : seen.Perm (List.range mp.length) := (List.perm_ext_iff_of_nodup hnd List.nodup_range).2 fun a => by
    rw [List.mem_range]
    exact ⟨hbd a, fun ha => hall a (by rw [hml]; exact ha)⟩
   have h2 : (List.range mp.length).map (fun i => ((mp[i]?).map (·.1)).getD []) = keysM mp := by
    apply List.ext_getElem
    ·simp [keysM]
    ·intro i h1 h2
     have hi : i < mp.length := by simpa using h1
     simp [keysM, List.getElem?_eq_getElem hi]
   rw [hkeys, ← h2]
   exact ((List.reverse_perm seen).trans h1).map _
  clear IH
  conv => whnf
  refine Sort_calls keys keys.length (by omega) ?_
  generalize hks : sortB keys = ks
  have hkp : ks.Perm keys := by rw [← hks]; exact List.mergeSort_perm _ _
  have hkl2 : ks.length = keys.length := hkp.length_eq
  have hks2 : ks = sortB ks := by
   rw [← hks]
   exact (List.mergeSort_of_pairwise (List.pairwise_mergeSort (fun a b c h1 h2 => by simp at h1 h2 ⊢; exact List.le_trans h1 h2) (fun a b => by simp; exact List.le_total a b) keys)).symm
  have hskk := strs_length ks
  have hbt : (tab.ti 67).bytes = 88 := rfl
  conv => whnf
  refine LoopP.ind2 (fun (i : Nat) (out : List Rc) => [(5, .sl (some (nameOf 5)) 7 (recs out)), (22, vi i)]) (fun i out => [(0, .map (rmap mp)), (nameOf 3, .vec 9 1 (strs ks) keys.length), (nameOf 5, .row 67 7 out.length)])
   (fun i _ => ks.length - i) (fun i out => i ≤ ks.length ∧ out = (ks.take i).map (lookZ mp)) 0 [] rfl ⟨by omega, by simp⟩ ?_
  rintro i out ⟨h0, ho⟩ IH
  have hol := recs_length out
  have hoi : out.length = i := by rw [ho]; simp; omega
  conv => whnf
  refine br_intro (fun hc => ?_) (fun hc => ?_)
  ·have hc : i < ks.length := by simp at hc; omega
   (conv => whnf); (repeat ((with_reducible refine must_intro ?_ ?_); exact decide_eq_true (by omega); (conv => whnf)))
   refine ⟨rfl, idxK_map_intro (show 0 + (i : Int).toNat < ks.length by simpa using hc) ?_⟩
   rw [show ks[0 + (i : Int).toNat]'(by simpa using hc) = ks[i] from by congr 1; simp]
   obtain ⟨r, hr⟩ := lookM_mem (mp := mp) (k := ks[i]) ((hkp.trans hperm).mem_iff.1 (List.getElem_mem hc))
   have hz : lookZ mp ks[i] = r := by rw [lookZ, hr]; rfl
   have hf : mapFind (rmap mp) (ofB ks[i]) = some (.agg r.enc) := by rw [rmap_find, hr]; rfl
   conv => whnf
   rw [hf]
   conv => whnf
   refine ⟨hol.symm, (by rw [hol]; show (out.length + 1) * (88 + 1) ≤ _; omega), ?_⟩
   conv => whnf
   have e1 : recs (out ++ [r]) = recs out ++ [r.enc] := by simp [recs]
   have e2 : (out ++ [r]).length = (recs out).length + [r.enc].length := by simp [hol]
   have := IH (i + 1) (out ++ [r]) ⟨by omega, by rw [List.take_succ_eq_append_getElem hc, List.map_append, ho]; simp [hz]⟩ (by omega)
   rw [e1, e2] at this
   rw [i64_nat (by omega)]
   exact this
  ·have hc : ks.length ≤ i := by simp at hc; omega
   rw [List.take_of_length_le hc] at ho
   conv => whnf
   rw [ho]
   exact h ks (hkp.trans hperm) hks2
 ·obtain ⟨p, hp, rfl⟩ : ∃ p, mp[i]? = some p ∧ (ofB p.1, AV.agg p.2.enc) = e := by
   unfold rmap at he
   rw [List.getElem?_map, Option.map_eq_some_iff] at he
   exact he
  have hil : i < mp.length := (List.getElem?_eq_some_iff.1 hp).1
  conv => whnf
  refine ⟨⟨rfl, rfl⟩, idxK_iff.2 ⟨_, he, ?_⟩⟩
  conv => whnf
  refine ⟨⟨rfl, rfl, Nat.le_of_eq hsk.symm⟩, (by show (keys.length + 1) * (16 + 1) ≤ _; omega), ?_⟩
  conv => whnf
  rw [List.take_of_length_le (Nat.le_of_eq hsk)]
  have e1 : strs keys ++ [[AV.val (Value.string (ofB p.1))]] = strs (keys ++ [p.1]) := by simp [strs, vs]
  have e2 : keys.length + [[AV.val (Value.string (ofB p.1))]].length = (keys ++ [p.1]).length := by simp
  rw [e1, e2, show keys.length + 1 = (keys ++ [p.1]).length by simp]
  refine IH (i :: seen) (keys ++ [p.1]) ⟨List.nodup_cons.2 ⟨hns, hnd⟩, ?_, ?_⟩ (by
   have := nodup_bound (n := mp.length) (List.nodup_cons.2 ⟨hns, hnd⟩) (by
    intro x hx
    rw [List.mem_cons] at hx
    rcases hx with rfl | hx
    ·exact hil
    ·exact hbd x hx)
   simp at this ⊢
   omega)
  ·intro x hx
   rw [List.mem_cons] at hx
   rcases hx with rfl | hx
   ·exact hil
   ·exact hbd x hx
  ·rw [List.reverse_cons, List.map_append, ← hkeys]
   simp [hp]
end Go.Abs
end
section
namespace Go.Abs
open Go Go.Proofs
theorem ltB_eq (a b : B) : ltB a b = decide (a < b) := bytesLess_eq a b
theorem b_total {a b : B} (h : ¬ a < b) (hn : b ≠ a) : b < a := by
 refine Classical.byContradiction fun h2 => hn ?_
 exact List.le_antisymm (show b ≤ a from h) (show a ≤ b from h2)
def docLoop (r : Rc) : Bool → List Rc → List Rc
 | laid, [] => if laid = true then [] else [r]
 | laid, s :: S => (if (!laid && ltB r.target s.target) = true then [r] else []) ++ ((if s.target = r.target then [] else [s]) ++ docLoop r (laid || (!laid && ltB r.target s.target)) S)
def docPut (S : List Rc) (r : Rc) : List Rc := if r.kind ≠ 1 ∧ r.kind ≠ 2 then S else docLoop r (decide (r.kind = 2)) S
def docOf (l : List Rc) : List Rc := l.foldl docPut []
abbrev Srt (S : List Rc) : Prop := S.Pairwise fun a b => a.target < b.target
theorem mem_ite1 {p : Prop} [Decidable p] {x r : Rc} : x ∈ (if p then [r] else []) ↔ p ∧ x = r := by by_cases h : p <;> simp [h]
theorem mem_ite2 {p : Prop} [Decidable p] {x r : Rc} : x ∈ (if p then [] else [r]) ↔ ¬ p ∧ x = r := by by_cases h : p <;> simp [h]
theorem docLoop_mem (r : Rc) : ∀ (S : List Rc) (laid : Bool) (x : Rc), x ∈ docLoop r laid S ↔ (laid = false ∧ x = r) ∨ (x ∈ S ∧ x.target ≠ r.target) := by
 intro S
 induction S with
 | nil => intro laid x; cases laid <;> simp [docLoop]
 | cons s S ih =>
  intro laid x
  simp only [docLoop, List.mem_append, ih, List.mem_cons, mem_ite1, mem_ite2]
  generalize hL : (!laid && ltB r.target s.target) = L
  have h1 : L = true → laid = false := by
   intro e
   rw [e] at hL
   cases laid
   ·rfl
   ·simp at hL
  constructor
  ·rintro (⟨h, rfl⟩ | ⟨h, rfl⟩ | ⟨h, rfl⟩ | ⟨h, h'⟩)
   ·exact .inl ⟨h1 h, rfl⟩
   ·exact .inr ⟨.inl rfl, h⟩
   ·exact .inl ⟨by cases laid <;> simp_all, rfl⟩
   ·exact .inr ⟨.inr h, h'⟩
  ·rintro (⟨h, rfl⟩ | ⟨rfl | h, h'⟩)
   ·cases hq : L
    ·exact .inr (.inr (.inl ⟨by simp [h], rfl⟩))
    ·exact .inl ⟨rfl, rfl⟩
   ·exact .inr (.inl ⟨h', rfl⟩)
   ·exact .inr (.inr (.inr ⟨h, h'⟩))
theorem docLoop_srt (r : Rc) : ∀ (S : List Rc) (laid : Bool), Srt S → (laid = true → ∀ s ∈ S, r.target < s.target ∨ s.target = r.target ∨ s.target < r.target) → Srt (docLoop r laid S) := by
 intro S
 induction S with
 | nil => intro laid _ _; cases laid <;> simp [docLoop, Srt]
 | cons s S ih =>
  intro laid hS hl
  have hS' := List.pairwise_cons.1 hS
  have hrec : ∀ b, Srt (docLoop r b S) := fun b => ih b hS'.2 fun _ x _ => by
   by_cases h1 : r.target < x.target
   ·exact .inl h1
   ·by_cases h2 : x.target = r.target
    ·exact .inr (.inl h2)
    ·exact .inr (.inr (b_total h1 h2))
  simp only [docLoop]
  cases hL : (!laid && ltB r.target s.target)
  ·simp only [Bool.or_false, Bool.false_eq_true, if_false, List.nil_append]
   by_cases hs : s.target = r.target
   ·simp only [hs, if_true, List.nil_append]
    exact hrec laid
   ·simp only [hs, if_false, List.cons_append, List.nil_append]
    refine List.pairwise_cons.2 ⟨fun x hx => ?_, hrec laid⟩
    rcases (docLoop_mem r S laid x).1 hx with ⟨h, rfl⟩ | ⟨h, _⟩
    ·rw [h] at hL
     simp only [Bool.not_false, Bool.true_and, ltB_eq, decide_eq_false_iff_not] at hL
     exact b_total hL hs
    ·exact hS'.1 x h
  ·have hlt : r.target < s.target := by
    simp only [Bool.and_eq_true, ltB_eq, decide_eq_true_eq] at hL
    exact hL.2
   have hs : ¬ s.target = r.target := fun e => List.lt_irrefl _ (e ▸ hlt)
   simp only [Bool.or_true, if_true, hs, if_false, List.cons_append, List.nil_append]
   have hnr : ∀ x ∈ docLoop r true S, x ∈ S := fun x hx => by
    rcases (docLoop_mem r S true x).1 hx with ⟨h, _⟩ | ⟨h, _⟩
    ·cases h
    ·exact h
   refine List.pairwise_cons.2 ⟨fun x hx => ?_, List.pairwise_cons.2 ⟨fun x hx => hS'.1 x (hnr x hx), hrec true⟩⟩
   rw [List.mem_cons] at hx
   rcases hx with rfl | hx
   ·exact hlt
   ·exact List.lt_trans hlt (hS'.1 x (hnr x hx))
theorem docPut_srt {S : List Rc} (r : Rc) (h : Srt S) : Srt (docPut S r) := by
 unfold docPut
 split
 ·exact h
 ·refine docLoop_srt r S _ h fun _ x _ => ?_
  by_cases h1 : r.target < x.target
  ·exact .inl h1
  ·by_cases h2 : x.target = r.target
   ·exact .inr (.inl h2)
   ·exact .inr (.inr (b_total h1 h2))
def putR : RMap → B → Rc → RMap
 | [], k, r => [(k, r)]
 | p :: mp, k, r => if p.1 = k then (k, r) :: mp else p :: putR mp k r
def delR : RMap → B → RMap
 | [], _ => []
 | p :: mp, k => if p.1 = k then mp else p :: delR mp k
def putM (mp : RMap) (r : Rc) : RMap := if r.kind = 1 then putR mp r.target r else if r.kind = 2 then delR mp r.target else mp
def ofM (l : List Rc) : RMap := l.foldl putM []
theorem rmap_put (mp : RMap) (k : B) (r : Rc) : rmap (putR mp k r) = mapPut (rmap mp) (ofB k) (.agg r.enc) := by
 induction mp with
 | nil => rfl
 | cons p mp ih =>
  simp only [putR, rmap, List.map_cons, mapPut]
  by_cases h : p.1 = k
  ·simp [h]
  ·have : ofB p.1 ≠ ofB k := fun e => h (ofB_inj e)
   simp only [h, if_false, this, List.map_cons]
   unfold rmap at ih
   rw [ih]
theorem rmap_del (mp : RMap) (k : B) : rmap (delR mp k) = mapDel (rmap mp) (ofB k) := by
 induction mp with
 | nil => rfl
 | cons p mp ih =>
  simp only [delR, rmap, List.map_cons, mapDel]
  by_cases h : p.1 = k
  ·simp [h]
  ·have : ofB p.1 ≠ ofB k := fun e => h (ofB_inj e)
   simp only [h, if_false, this, List.map_cons]
   unfold rmap at ih
   rw [ih]
def MOk (mp : RMap) : Prop := (keysM mp).Nodup ∧ ∀ p ∈ mp, p.2.target = p.1
theorem putR_mem {mp : RMap} (hn : (keysM mp).Nodup) (k : B) (r : Rc) (q : B × Rc) : q ∈ putR mp k r ↔ q = (k, r) ∨ (q ∈ mp ∧ q.1 ≠ k) := by
 induction mp with
 | nil => simp [putR]
 | cons p mp ih =>
  have hn' := List.nodup_cons.1 (show (p.1 :: keysM mp).Nodup from hn)
  simp only [putR]
  by_cases h : p.1 = k
  ·simp only [h, if_true, List.mem_cons]
   constructor
   ·rintro (h1 | h1)
    ·exact .inl h1
    ·refine .inr ⟨.inr h1, fun e => hn'.1 ?_⟩
     rw [h, ← e]
     exact List.mem_map_of_mem h1
   ·rintro (h1 | ⟨rfl | h1, h2⟩)
    ·exact .inl h1
    ·exact absurd h h2
    ·exact .inr h1
  ·simp only [h, if_false, List.mem_cons, ih hn'.2]
   constructor
   ·rintro (rfl | h1 | ⟨h1, h2⟩)
    ·exact .inr ⟨.inl rfl, h⟩
    ·exact .inl h1
    ·exact .inr ⟨.inr h1, h2⟩
   ·rintro (h1 | ⟨rfl | h1, h2⟩)
    ·exact .inr (.inl h1)
    ·exact .inl rfl
    ·exact .inr (.inr ⟨h1, h2⟩)
theorem delR_mem {mp : RMap} (hn : (keysM mp).Nodup) (k : B) (q : B × Rc) : q ∈ delR mp k ↔ q ∈ mp ∧ q.1 ≠ k := by
 induction mp with
 | nil => simp [delR]
 | cons p mp ih =>
  have hn' := List.nodup_cons.1 (show (p.1 :: keysM mp).Nodup from hn)
  simp only [delR]
  by_cases h : p.1 = k
  ·simp only [h, if_true, List.mem_cons]
   constructor
   ·intro h1
    refine ⟨.inr h1, fun e => hn'.1 ?_⟩
    rw [h, ← e]
    exact List.mem_map_of_mem h1
   ·rintro ⟨rfl | h1, h2⟩
    ·exact absurd h h2
    ·exact h1
  ·simp only [h, if_false, List.mem_cons, ih hn'.2]
   constructor
   ·rintro (rfl | ⟨h1, h2⟩)
    ·exact ⟨.inl rfl, h⟩
    ·exact ⟨.inr h1, h2⟩
   ·rintro ⟨rfl | h1, h2⟩
    ·exact .inl rfl
    ·exact .inr ⟨h1, h2⟩
theorem putR_nodup {mp : RMap} (hn : (keysM mp).Nodup) (k : B) (r : Rc) : (keysM (putR mp k r)).Nodup := by
 induction mp with
 | nil => simp [putR, keysM]
 | cons p mp ih =>
  have hn' := List.nodup_cons.1 (show (p.1 :: keysM mp).Nodup from hn)
  simp only [putR]
  by_cases h : p.1 = k
  ·simp only [h, if_true]
   exact List.nodup_cons.2 ⟨by rw [← h]; exact hn'.1, hn'.2⟩
  ·simp only [h, if_false]
   refine List.nodup_cons.2 ⟨fun hm => ?_, ih hn'.2⟩
   obtain ⟨q, hq, e⟩ := List.mem_map.1 hm
   rcases (putR_mem hn'.2 k r q).1 hq with rfl | ⟨h1, _⟩
   ·exact h e.symm
   ·have e : q.1 = p.1 := e
    exact hn'.1 (by rw [← e]; exact List.mem_map_of_mem h1)
theorem delR_nodup {mp : RMap} (hn : (keysM mp).Nodup) (k : B) : (keysM (delR mp k)).Nodup := by
 induction mp with
 | nil => simp [delR, keysM]
 | cons p mp ih =>
  have hn' := List.nodup_cons.1 (show (p.1 :: keysM mp).Nodup from hn)
  simp only [delR]
  by_cases h : p.1 = k
  ·simp only [h, if_true]
   exact hn'.2
  ·simp only [h, if_false]
   refine List.nodup_cons.2 ⟨fun hm => ?_, ih hn'.2⟩
   obtain ⟨q, hq, e⟩ := List.mem_map.1 hm
   have h1 := (delR_mem hn'.2 k q).1 hq
   have e : q.1 = p.1 := e
   exact hn'.1 (by rw [← e]; exact List.mem_map_of_mem h1.1)
theorem putM_ok {mp : RMap} (h : MOk mp) (r : Rc) : MOk (putM mp r) := by
 unfold putM
 split
 ·refine ⟨putR_nodup h.1 _ _, fun p hp => ?_⟩
  rcases (putR_mem h.1 _ _ p).1 hp with rfl | ⟨h1, _⟩
  ·rfl
  ·exact h.2 p h1
 ·split
  ·exact ⟨delR_nodup h.1 _, fun p hp => h.2 p ((delR_mem h.1 _ p).1 hp).1⟩
  ·exact h
structure Fits (mp : RMap) (S : List Rc) : Prop where
 ok : MOk mp
 srt : Srt S
 mem : ∀ x, x ∈ S ↔ (x.target, x) ∈ mp
theorem Fits.put {mp : RMap} {S : List Rc} (h : Fits mp S) (r : Rc) : Fits (putM mp r) (docPut S r) := by
 refine ⟨putM_ok h.ok r, docPut_srt r h.srt, fun x => ?_⟩
 unfold docPut putM
 by_cases h1 : r.kind = 1
 ·have hk2 : decide (r.kind = 2) = false := by rw [h1]; rfl
  rw [if_neg (by simp [h1]), if_pos h1, docLoop_mem, hk2, putR_mem h.ok.1, h.mem]
  constructor
  ·rintro (⟨_, rfl⟩ | h)
   ·exact .inl rfl
   ·exact .inr h
  ·rintro (h | h)
   ·exact .inl ⟨rfl, by injection h⟩
   ·exact .inr h
 ·by_cases h2 : r.kind = 2
  ·rw [if_neg (by simp [h2]), if_neg h1, if_pos h2, docLoop_mem, delR_mem h.ok.1, h.mem]
   simp [h2]
  ·rw [if_pos ⟨h1, h2⟩, if_neg h1, if_neg h2]
   exact h.mem x
theorem fits_of (l : List Rc) : Fits (ofM l) (docOf l) := by
 have : ∀ (l : List Rc) (mp : RMap) (S : List Rc), Fits mp S → Fits (l.foldl putM mp) (l.foldl docPut S) := by
  intro l
  induction l with
  | nil => intro mp S h; exact h
  | cons r l ih => intro mp S h; exact ih _ _ (h.put r)
 exact this l [] [] ⟨⟨by simp [keysM], by simp⟩, List.Pairwise.nil, by simp⟩
theorem srt_ext : ∀ {l m : List Rc}, Srt l → Srt m → (∀ x, x ∈ l ↔ x ∈ m) → l = m := by
 intro l
 induction l with
 | nil =>
  intro m _ _ h
  cases m with
  | nil => rfl
  | cons b m => exact absurd ((h b).2 (by simp)) (by simp)
 | cons a l ih =>
  intro m hl hm h
  cases m with
  | nil => exact absurd ((h a).1 (by simp)) (by simp)
  | cons b m =>
   have hl' := List.pairwise_cons.1 hl
   have hm' := List.pairwise_cons.1 hm
   have hab : a = b := by
    rcases List.mem_cons.1 ((h a).1 (by simp)) with e | h1
    ·exact e
    ·rcases List.mem_cons.1 ((h b).2 (by simp)) with e | h2
     ·exact e.symm
     ·exact absurd (hl'.1 b h2) (List.lt_asymm (hm'.1 a h1))
   subst hab
   congr 1
   refine ih hl'.2 hm'.2 fun x => ?_
   constructor
   ·intro hx
    rcases List.mem_cons.1 ((h x).1 (by simp [hx])) with rfl | h1
    ·exact absurd (hl'.1 _ hx) (List.lt_irrefl _)
    ·exact h1
   ·intro hx
    rcases List.mem_cons.1 ((h x).2 (by simp [hx])) with rfl | h1
    ·exact absurd (hm'.1 _ hx) (List.lt_irrefl _)
    ·exact h1
theorem lookM_of_mem {mp : RMap} (hn : (keysM mp).Nodup) {k : B} {r : Rc} (h : (k, r) ∈ mp) : lookM mp k = some r := by
 induction mp with
 | nil => simp at h
 | cons p mp ih =>
  have hn' := List.nodup_cons.1 (show (p.1 :: keysM mp).Nodup from hn)
  unfold lookM at ih ⊢
  simp only [List.find?_cons]
  rcases List.mem_cons.1 h with rfl | h
  ·simp
  ·have : p.1 ≠ k := fun e => hn'.1 (by rw [e]; exact List.mem_map_of_mem (f := (·.1)) h)
   simp only [this, decide_false]
   exact ih hn'.2 h
theorem mem_of_lookM {mp : RMap} {k : B} {r : Rc} (h : lookM mp k = some r) : (k, r) ∈ mp := by
 unfold lookM at h
 rw [Option.map_eq_some_iff] at h
 obtain ⟨p, h1, rfl⟩ := h
 have h2 := List.find?_some h1
 have : p.1 = k := by simpa using h2
 rw [← this]
 exact List.mem_of_find?_eq_some h1
theorem values_doc {mp : RMap} {S : List Rc} (h : Fits mp S) {ks : List B} (hp : ks.Perm (keysM mp)) (hs : ks = sortB ks) : ks.map (lookZ mp) = S := by
 have hz : ∀ k ∈ ks, ∃ r, (k, r) ∈ mp ∧ lookZ mp k = r := fun k hk => by
  obtain ⟨r, hr⟩ := lookM_mem (mp := mp) (k := k) (hp.mem_iff.1 hk)
  exact ⟨r, mem_of_lookM hr, by rw [lookZ, hr]; rfl⟩
 have hle : ks.Pairwise (fun a b => a ≤ b) := by
  have := List.pairwise_mergeSort (le := fun x y : B => decide (x ≤ y)) (fun a b c h1 h2 => by simp at h1 h2 ⊢; exact List.le_trans h1 h2) (fun a b => by simp; exact List.le_total a b) ks
  rw [show ks.mergeSort (fun x y => decide (x ≤ y)) = ks from hs.symm] at this
  exact this.imp fun h => of_decide_eq_true h
 have hnd : ks.Nodup := hp.nodup_iff.2 h.ok.1
 refine srt_ext ?_ h.srt fun x => ?_
 ·rw [Srt, List.pairwise_map]
  refine List.Pairwise.imp_of_mem ?_ (hle.and hnd)
  rintro a b ha hb ⟨h1, h2⟩
  obtain ⟨ra, a1, a2⟩ := hz a ha
  obtain ⟨rb, b1, b2⟩ := hz b hb
  rw [a2, b2, h.ok.2 _ a1, h.ok.2 _ b1]
  refine Classical.byContradiction fun hn => h2 ?_
  exact List.le_antisymm h1 (show b ≤ a from hn)
 ·rw [h.mem, List.mem_map]
  constructor
  ·rintro ⟨k, hk, rfl⟩
   obtain ⟨r, h1, h2⟩ := hz k hk
   rw [h2, h.ok.2 _ h1]
   exact h1
  ·intro hx
   have hk : x.target ∈ ks := hp.mem_iff.2 (List.mem_map_of_mem (f := (·.1)) hx)
   refine ⟨x.target, hk, ?_⟩
   rw [lookZ, lookM_of_mem h.ok.1 hx]; rfl
end Go.Abs
end
section
namespace Go.Abs
open Go Go.Proofs Dig
attribute [local irreducible] ibits byteAt strLt firstIdx
theorem put_calls (mp : RMap) (r : Rc) (hr : r.deps.length < 1000000) {R} (h : R (.tup []) [.map (rmap (putM mp r))]) : ACalls Tryz.prog 104 [.mapv 0, .agg r.enc] [.map (rmap mp)] R := by
 refine acalls_of_xwp (an := an104) tab_ok Tryz.func104 ?_
 conv => whnf
 refine br_intro (fun h1 => ?_) (fun h1 => ?_)
 ·have h1 : r.kind = 1 := by simpa using h1
  rw [putM, if_pos h1, rmap_put] at h
  conv => whnf
  refine Clone_calls r hr ?_
  conv => whnf
  exact h
 have h1 : ¬ r.kind = 1 := by simpa using h1
 conv => whnf
 refine br_intro (fun h2 => ?_) (fun h2 => ?_)
 ·have h2 : r.kind = 2 := by simpa using h2
  rw [putM, if_neg h1, if_pos h2, rmap_del] at h
  conv => whnf
  exact h
 ·have h2 : ¬ r.kind = 2 := by simpa using h2
  rw [putM, if_neg h1, if_neg h2] at h
  conv => whnf
  exact h
theorem ofM_len (l : List Rc) : (ofM l).length ≤ l.length := by
 have hp : ∀ (mp : RMap) (k : B) (r : Rc), (putR mp k r).length ≤ mp.length + 1 := by
  intro mp k r
  induction mp with
  | nil => simp [putR]
  | cons p mp ih => simp only [putR]; split <;> simp; omega
 have hd : ∀ (mp : RMap) (k : B), (delR mp k).length ≤ mp.length := by
  intro mp k
  induction mp with
  | nil => simp [delR]
  | cons p mp ih => simp only [delR]; split <;> simp; omega
 have : ∀ (l : List Rc) (mp : RMap), (l.foldl putM mp).length ≤ mp.length + l.length := by
  intro l
  induction l with
  | nil => intro mp; simp
  | cons r l ih =>
   intro mp
   have h1 := ih (putM mp r)
   have h2 : (putM mp r).length ≤ mp.length + 1 := by
    unfold putM
    split
    ·exact hp _ _ _
    ·split
     ·have := hd mp r.target; omega
     ·omega
   simp only [List.foldl_cons, List.length_cons]
   omega
 simpa [ofM] using this l []
theorem Of_records (l : List Rc) (hl : l.length < 1000000) (hd : ∀ r ∈ l, r.deps.length < 1000000) {R} (h : R (.sl none 7 (recs (docOf l))) []) : ACalls Tryz.prog 67 [.sl none 7 (recs l)] [] R := by
 refine acalls_of_xwp (an := an67) tab_ok Tryz.func67 ?_
 have hsl := recs_length l
 conv => whnf
 refine LoopP.ind2 (fun (i : Nat) (mp : RMap) => [(9, vi i)]) (fun i mp => [(nameOf 6, .map (rmap mp))]) (fun i _ => l.length - i) (fun i mp => i ≤ l.length ∧ mp = ofM (l.take i)) 0 [] rfl ⟨by omega, rfl⟩ ?_
 rintro i mp ⟨h0, hm⟩ IH
 conv => whnf
 refine br_intro (fun hc => ?_) (fun hc => ?_)
 ·have hc := lt_of_decE hsl hc
  (conv => whnf); (repeat ((with_reducible refine must_intro ?_ ?_); exact decide_eq_true (by omega); (conv => whnf)))
  refine idxK_map_intro (show (i : Int).toNat < l.length by simpa using hc) ?_
  rw [show l[(i : Int).toNat]'(by simpa using hc) = l[i] from by congr 1]
  conv => whnf
  refine put_calls mp l[i] (hd _ (List.getElem_mem hc)) ?_
  conv => whnf
  rw [i64_nat (by omega)]
  refine IH (i + 1) (putM mp l[i]) ⟨by omega, ?_⟩ (by omega)
  rw [List.take_succ_eq_append_getElem hc, ofM, List.foldl_append, hm]; rfl
 ·have hc := ge_of_decE hsl hc
  rw [List.take_of_length_le hc] at hm
  have hml := ofM_len l
  rw [← hm] at hml
  conv => whnf
  refine values_calls mp (by omega) fun ks h1 h2 => ?_
  rw [values_doc (by rw [hm]; exact fits_of l) h1 h2]
  conv => whnf
  exact h
theorem docLoop_len (r : Rc) : ∀ (S : List Rc) (laid : Bool), (docLoop r laid S).length ≤ S.length + (if laid = true then 0 else 1) := by
 intro S
 induction S with
 | nil => intro laid; cases laid <;> simp [docLoop]
 | cons s S ih =>
  intro laid
  simp only [docLoop, List.length_append, List.length_cons]
  have := ih (laid || (!laid && ltB r.target s.target))
  have h2 : (if s.target = r.target then [] else [s]).length ≤ 1 := by split <;> simp
  cases laid <;> cases hl : ltB r.target s.target <;> simp [hl] at this ⊢ <;> omega
theorem docPut_len (S : List Rc) (r : Rc) : (docPut S r).length ≤ S.length + 1 := by
 unfold docPut
 split
 ·omega
 ·have := docLoop_len r S (decide (r.kind = 2))
  split at this <;> omega
theorem docPut_sub {S : List Rc} {r x : Rc} (h : x ∈ docPut S r) : (x = r ∧ r.kind = 1) ∨ x ∈ S := by
 unfold docPut at h
 split at h
 ·exact .inr h
 ·rename_i hk
  rcases (docLoop_mem r S _ x).1 h with ⟨h1, h2⟩ | ⟨h1, _⟩
  ·refine .inl ⟨h2, ?_⟩
   have h1 : ¬ r.kind = 2 := of_decide_eq_false h1
   exact Classical.byContradiction fun e => hk ⟨e, h1⟩
  ·exact .inr h1
theorem docFold_len : ∀ (l S : List Rc), (l.foldl docPut S).length ≤ S.length + l.length := by
 intro l
 induction l with
 | nil => intro S; simp
 | cons r l ih =>
  intro S
  have := ih (docPut S r)
  have := docPut_len S r
  simp only [List.foldl_cons, List.length_cons]
  omega
theorem docOf_len (l : List Rc) : (docOf l).length ≤ l.length := by simpa [docOf] using docFold_len l []
theorem docFold_sub : ∀ (l S : List Rc) (x : Rc), x ∈ l.foldl docPut S → (x ∈ l ∧ x.kind = 1) ∨ x ∈ S := by
 intro l
 induction l with
 | nil => intro S x h; exact .inr h
 | cons r l ih =>
  intro S x h
  rcases ih _ x h with ⟨h, hk⟩ | h
  ·exact .inl ⟨by simp [h], hk⟩
  ·rcases docPut_sub h with ⟨rfl, hk⟩ | h
   ·exact .inl ⟨by simp, hk⟩
   ·exact .inr h
theorem docOf_sub {l : List Rc} {x : Rc} (h : x ∈ docOf l) : x ∈ l ∧ x.kind = 1 := by
 rcases docFold_sub l [] x h with h | h
 ·exact h
 ·simp at h
theorem All_calls (a b : List Rc) (ha : a.length < 1000000) (had : ∀ r ∈ a, r.deps.length < 1000000) {R} (h : ∀ p, p = decide (a = b) → R (.val (.bool p)) []) : ACalls Tryz.prog 18 [.sl none 7 (recs a), .sl none 7 (recs b)] [] R := by
 refine acalls_of_xwp (an := an18) tab_ok Tryz.func18 ?_
 have hsa := recs_length a
 have hsb := recs_length b
 conv => whnf
 rw [hsa, hsb]
 refine br_intro (fun hc => ?_) (fun hc => ?_)
 ·conv => whnf
  refine h false (decide_eq_false ?_).symm
  rintro rfl
  simp at hc
 have hlen : a.length = b.length := by simp at hc; omega
 conv => whnf
 refine LoopP.ind1 (fun (i : Nat) => [(5, vi i)]) (fun _ => []) (fun i => a.length - i) (fun i => i ≤ a.length ∧ a.take i = b.take i) 0 rfl ⟨by omega, by simp⟩ ?_
 rintro i ⟨h0, h1⟩ IH
 conv => whnf
 refine br_intro (fun hc => ?_) (fun hc => ?_)
 ·have hc := lt_of_decE hsa hc
  have hcb : i < b.length := by omega
  (conv => whnf); (repeat ((with_reducible refine must_intro ?_ ?_); exact decide_eq_true (by omega); (conv => whnf)))
  refine idxK_map_intro (show (i : Int).toNat < a.length by simpa using hc) ?_
  rw [show a[(i : Int).toNat]'(by simpa using hc) = a[i] from by congr 1]
  (conv => whnf); (repeat ((with_reducible refine must_intro ?_ ?_); exact decide_eq_true (by omega); (conv => whnf)))
  refine idxK_map_intro (show (i : Int).toNat < b.length by simpa using hcb) ?_
  rw [show b[(i : Int).toNat]'(by simpa using hcb) = b[i] from by congr 1]
  conv => whnf
  refine Same8_calls a[i] b[i] (had _ (List.getElem_mem hc)) fun p hp => ?_
  conv => whnf
  refine br_intro (fun he => ?_) (fun he => ?_)
  ·have he : ¬ a[i] = b[i] := by simpa [hp] using he
   conv => whnf
   refine h false (decide_eq_false ?_).symm
   rintro rfl
   exact he rfl
  ·have he : a[i] = b[i] := by simpa [hp] using he
   conv => whnf
   rw [i64_nat (by omega)]
   refine IH (i + 1) ⟨by omega, ?_⟩ (by omega)
   rw [List.take_succ_eq_append_getElem hc, List.take_succ_eq_append_getElem hcb, h1, he]
 ·have hc := ge_of_decE hsa hc
  rw [List.take_of_length_le hc, List.take_of_length_le (by omega)] at h1
  conv => whnf
  exact h true (decide_eq_true h1).symm
def Rc.bare (r : Rc) : List AV := [vi r.kind, vs r.target, vs r.tag, uv r.rule, uv r.out, uv r.wen]
theorem of_calls (r : Rc) {R} (h : R (.agg r.bare) []) : ACalls Tryz.prog 149 [.agg r.enc] [] R := by
 refine acalls_of_xwp (an := an149) tab_ok Tryz.func149 ?_
 conv => whnf
 exact h
theorem dp_ne (a b : Dp) (h : (!(true && decide (ofB a.name = ofB b.name) && ((a.hash.toNat : Int) == (b.hash.toNat : Int)) && (a.order == b.order))) = true) : a ≠ b := by
 rintro rfl
 simp at h
theorem dp_eq (a b : Dp) (h : (!(true && decide (ofB a.name = ofB b.name) && ((a.hash.toNat : Int) == (b.hash.toNat : Int)) && (a.order == b.order))) = false) : a = b := by
 simp [ofB_eq] at h
 obtain ⟨⟨h1, h2⟩, h3⟩ := h
 have h2 : a.hash = b.hash := BitVec.eq_of_toNat_eq (by omega)
 cases a; cases b
 simp_all
theorem EqualD_calls (a b : List Dp) (ha : a.length < 1000000) {R} (h : ∀ p, p = decide (a = b) → R (.val (.bool p)) []) : ACalls Tryz.prog 150 [.sl none 3 (dpsA a), .sl none 3 (dpsA b)] [] R := by
 refine acalls_of_xwp (an := an150) tab_ok Tryz.func150 ?_
 have hsa := dpsA_length a
 have hsb := dpsA_length b
 conv => whnf
 rw [hsa, hsb]
 refine br_intro (fun hc => ?_) (fun hc => ?_)
 ·conv => whnf
  refine h false (decide_eq_false ?_).symm
  rintro rfl
  simp at hc
 have hlen : a.length = b.length := by simp at hc; omega
 conv => whnf
 refine LoopP.ind1 (fun (i : Nat) => [(13, vi i)]) (fun _ => []) (fun i => a.length - i) (fun i => i ≤ a.length ∧ a.take i = b.take i) 0 rfl ⟨by omega, by simp⟩ ?_
 rintro i ⟨h0, h1⟩ IH
 conv => whnf
 refine br_intro (fun hc => ?_) (fun hc => ?_)
 ·have hc := lt_of_decE hsa hc
  have hcb : i < b.length := by omega
  (conv => whnf); (repeat ((with_reducible refine must_intro ?_ ?_); exact decide_eq_true (by omega); (conv => whnf)))
  refine idxK_map_intro (show (i : Int).toNat < a.length by simpa using hc) ?_
  rw [show a[(i : Int).toNat]'(by simpa using hc) = a[i] from by congr 1]
  (conv => whnf); (repeat ((with_reducible refine must_intro ?_ ?_); exact decide_eq_true (by omega); (conv => whnf)))
  refine idxK_map_intro (show (i : Int).toNat < b.length by simpa using hcb) ?_
  rw [show b[(i : Int).toNat]'(by simpa using hcb) = b[i] from by congr 1]
  conv => whnf
  refine br_intro (fun he => ?_) (fun he => ?_)
  ·have he := dp_ne _ _ he
   conv => whnf
   refine h false (decide_eq_false ?_).symm
   rintro rfl
   exact he rfl
  ·have he := dp_eq _ _ he
   conv => whnf
   rw [i64_nat (by omega)]
   refine IH (i + 1) ⟨by omega, ?_⟩ (by omega)
   rw [List.take_succ_eq_append_getElem hc, List.take_succ_eq_append_getElem hcb, h1, he]
 ·have hc := ge_of_decE hsa hc
  rw [List.take_of_length_le hc, List.take_of_length_le (by omega)] at h1
  conv => whnf
  exact h true (decide_eq_true h1).symm
theorem SameR_calls (a b : Rc) (ha : a.deps.length < 1000000) {R} (h : ∀ p, p = decide (a = b) → R (.val (.bool p)) []) : ACalls Tryz.prog 118 [.agg a.enc, .agg b.enc] [] R := by
 refine acalls_of_xwp (an := an118) tab_ok Tryz.func118 ?_
 conv => whnf
 refine of_calls a ?_
 conv => whnf
 refine of_calls b ?_
 conv => whnf
 refine br_intro (fun g => ?_) (fun g => ?_)
 ·have g2 : a.kind = b.kind ∧ a.target = b.target ∧ a.tag = b.tag ∧ a.rule = b.rule ∧ a.out = b.out ∧ a.wen = b.wen := by
   simp [ofB_eq] at g
   obtain ⟨⟨⟨⟨⟨g1, g2⟩, g3⟩, g4⟩, g5⟩, g6⟩ := g
   exact ⟨g1, g2, g3, BitVec.eq_of_toNat_eq (by omega), BitVec.eq_of_toNat_eq (by omega), BitVec.eq_of_toNat_eq (by omega)⟩
  conv => whnf
  refine EqualD_calls a.deps b.deps ha fun p hp => ?_
  conv => whnf
  refine h _ ?_
  rw [hp]
  refine decide_eq_decide.2 ⟨fun e => ?_, fun e => by rw [e]⟩
  obtain ⟨g1, g2, g3, g4, g5, g6⟩ := g2
  cases a; cases b
  simp_all
 ·conv => whnf
  refine h false (decide_eq_false ?_).symm
  rintro rfl
  simp at g
theorem le_rec2 (k : Int) (t : B) (u o w : U) (g : B) : leL [.val (.int .i64 k), .val (.string (ofB t)), .val (.int .u64 (u.toNat : Int)), .val (.slice none 0 0), .val (.int .u64 (o.toNat : Int)), .val (.int .u64 (w.toNat : Int)), .val (.string (ofB g))] (Rc.enc ⟨k, t, u, [], o, w, g⟩) :=
 leL.cons (.refl _) (leL.cons (.refl _) (leL.cons (.refl _) (leL.cons (le_nil 3) (leL.refl _))))
def depsGo (v : Int) : List Dp → List B → Bool
 | [], _ => true
 | d :: ds, seen => nameOk d.name && (decide (d.name ∉ seen) && (!(d.order && decide (v < 3)) && depsGo v ds (seen ++ [d.name])))
def depsP (v : Int) (r : Rc) : Bool := depsGo v r.deps [r.target] && decide (r.deps.length ≤ 16)
theorem depsR_calls (v : Int) (r : Rc) (hd : r.deps.length < 100000) {R} (h : ∀ p, p = depsP v r → R (.val (.bool p)) []) : ACalls Tryz.prog 117 [vi v, .agg r.enc] [] R := by
 refine acalls_of_xwp (an := an117) tab_ok Tryz.func117 ?_
 have hsl := dpsA_length r.deps
 have no : depsGo v r.deps [r.target] = false → R (.val (.bool false)) [] := fun e => h false (by rw [depsP, e]; rfl)
 conv => whnf
 refine New_calls r.target [] (by simp) fun m hm => ?_
 have hm : m = [r.target] := by rw [hm]; simp [tblN, tblP]
 subst hm
 conv => whnf
 refine LoopP.ind2 (fun (i : Nat) (seen : List B) => [(17, vi i)]) (fun i seen => [(freshN 13 0, tblO (freshN 13 1) (freshN 13 2) seen), (freshN 13 1, tblR seen), (freshN 13 2, tblM seen)])
  (fun i _ => r.deps.length - i) (fun i seen => i ≤ r.deps.length ∧ seen.length ≤ i + 1 ∧ depsGo v (r.deps.drop i) seen = depsGo v r.deps [r.target]) 0 [r.target] rfl ⟨by omega, by simp, by simp⟩ ?_
 rintro i seen ⟨h0, hsn, hD⟩ IH
 conv => whnf
 refine br_intro (fun hc => ?_) (fun hc => ?_)
 ·have hc := lt_of_decE hsl hc
  rw [List.drop_eq_getElem_cons hc, depsGo] at hD
  (conv => whnf); (repeat ((with_reducible refine must_intro ?_ ?_); exact decide_eq_true (by omega); (conv => whnf)))
  refine idxK_map_intro (show (i : Int).toNat < r.deps.length by simpa using hc) ?_
  rw [show r.deps[(i : Int).toNat]'(by simpa using hc) = r.deps[i] from by congr 1]
  generalize r.deps[i] = d at hD ⊢
  conv => whnf
  by_cases hm : d.name ∈ seen
  ·have hbad : depsGo v r.deps [r.target] = false := by rw [← hD]; simp [hm]
   refine ID_old seen d.name hm fun j => ?_
   conv => whnf
   refine Name_calls d.name ?_
   conv => whnf
   refine br_intro (fun hq => ?_) (fun hq => ?_)
   ·conv => whnf
    exact no hbad
   ·conv => whnf
    exact no hbad
  ·refine ID_more seen d.name (by omega) hm fun j => ?_
   conv => whnf
   refine Name_calls d.name ?_
   conv => whnf
   refine br_intro (fun hq => ?_) (fun hq => ?_)
   ·have hq : nameOk d.name = false := by simpa using hq
    conv => whnf
    exact no (by rw [← hD, hq]; rfl)
   ·have hq : nameOk d.name = true := by simpa using hq
    rw [hq, decide_eq_true hm, Bool.true_and, Bool.true_and] at hD
    conv => whnf
    refine br_intro (fun ho => ?_) (fun ho => ?_)
    ·rw [ho, Bool.true_and] at hD
     conv => whnf
     refine br_intro (fun hv => ?_) (fun hv => ?_)
     ·rw [hv] at hD
      conv => whnf
      exact no (by rw [← hD]; rfl)
     ·rw [hv] at hD
      conv => whnf
      rw [i64_nat (by omega)]
      exact IH (i + 1) (seen ++ [d.name]) ⟨by omega, by simp; omega, by rw [← hD]; simp⟩ (by omega)
    ·rw [ho] at hD
     conv => whnf
     rw [i64_nat (by omega)]
     exact IH (i + 1) (seen ++ [d.name]) ⟨by omega, by simp; omega, by rw [← hD]; simp⟩ (by omega)
 ·have hc := ge_of_decE hsl hc
  rw [List.drop_eq_nil_of_le hc, depsGo] at hD
  conv => whnf
  rw [hsl]
  refine h _ ?_
  rw [depsP, ← hD, Bool.true_and]
  exact decide_eq_decide.2 (by omega)
def earlyP (v : Int) (r : Rc) : Bool := (decide (v < 2) && decide (r.wen ≠ 0)) || (decide (v < 3) && decide (r.tag ≠ []))
def goneR (r : Rc) : Rc := ⟨2, r.target, 0, [], 0, 0, []⟩
def mayP (v : Int) (r : Rc) : Bool :=
 if (decide (v < 1) || decide (3 < v) || !nameOk r.target) = true then false
 else if r.kind = 1 then !earlyP v r && (decide (r.tag.length ≤ 64) && depsP v r)
 else if r.kind = 2 then decide (r = goneR r) else false
theorem nilB : ofB [] = { data := #[] } := rfl
theorem May_calls (v : Int) (r : Rc) (hd : r.deps.length < 100000) {R} (h : ∀ p, p = mayP v r → R (.val (.bool p)) []) : ACalls Tryz.prog 80 [vi v, .agg r.enc] [] R := by
 refine acalls_of_xwp (an := an80) tab_ok Tryz.func80 ?_
 have hst := size_ofB r.tag
 conv => whnf
 refine br_intro (fun g1 => ?_) (fun g1 => ?_)
 ·conv => whnf
  exact h false (by rw [mayP, if_pos (by rw [g1]; rfl)])
 conv => whnf
 refine br_intro (fun g2 => ?_) (fun g2 => ?_)
 ·have g2 : 3 < v := by simpa using g2
  conv => whnf
  exact h false (by rw [mayP, if_pos (by rw [g1, decide_eq_true g2]; rfl)])
 have g2 : ¬ 3 < v := by simpa using g2
 conv => whnf
 refine Name_calls r.target ?_
 conv => whnf
 refine br_intro (fun g3 => ?_) (fun g3 => ?_)
 ·conv => whnf
  exact h false (by rw [mayP, if_pos (by rw [g3]; simp)])
 have hm : mayP v r = if r.kind = 1 then !earlyP v r && (decide (r.tag.length ≤ 64) && depsP v r) else if r.kind = 2 then decide (r = goneR r) else false := by
  rw [mayP, if_neg (by rw [g1, decide_eq_false g2, g3]; simp)]
 conv => whnf
 refine br_intro (fun k1 => ?_) (fun k1 => ?_)
 ·have k1 : r.kind = 1 := by simpa using k1
  rw [if_pos k1] at hm
  have wz : ((r.wen.toNat : Int) != 0) = decide (r.wen ≠ 0) := by
   by_cases e : r.wen = 0
   ·simp [e]
   ·have : r.wen.toNat ≠ 0 := fun x => e (BitVec.eq_of_toNat_eq (by simpa using x))
    rw [decide_eq_true e]; simp; omega
  conv => whnf
  refine br_intro (fun e1 => ?_) (fun e1 => ?_)
  ·conv => whnf
   refine br_intro (fun e2 => ?_) (fun e2 => ?_)
   ·rw [wz] at e2
    conv => whnf
    exact h false (by rw [hm, earlyP, e1, e2]; rfl)
   ·rw [wz] at e2
    have e3 : decide (v < 3) = true := by simp at e1 ⊢; omega
    conv => whnf
    refine br_true e3 ?_
    conv => whnf
    refine br_intro (fun e4 => ?_) (fun e4 => ?_)
    ·have e4 : r.tag = [] := by simpa [← nilB, ofB_eq] using e4
     have e4 : decide (r.tag ≠ []) = false := by rw [e4]; rfl
     have he : earlyP v r = false := by rw [earlyP, e2, e4]; simp
     conv => whnf
     refine br_intro (fun q => ?_) (fun q => ?_)
     ·have q : r.tag.length ≤ 64 := by have q := of_decide_eq_true q; omega
      conv => whnf
      refine depsR_calls v r hd fun p hp => ?_
      conv => whnf
      exact h p (by rw [hm, he, decide_eq_true q, hp]; rfl)
     ·have q : ¬ r.tag.length ≤ 64 := by have q := of_decide_eq_false q; omega
      conv => whnf
      exact h false (by rw [hm, decide_eq_false q]; simp)
    ·have e4 : r.tag ≠ [] := by simpa [← nilB, ofB_eq] using e4
     have e4 : decide (r.tag ≠ []) = true := decide_eq_true e4
     conv => whnf
     exact h false (by rw [hm, earlyP, e3, e4]; simp)
  ·conv => whnf
   refine br_intro (fun e3 => ?_) (fun e3 => ?_)
   ·conv => whnf
    refine br_intro (fun e4 => ?_) (fun e4 => ?_)
    ·have e4 : r.tag = [] := by simpa [← nilB, ofB_eq] using e4
     have e4 : decide (r.tag ≠ []) = false := by rw [e4]; rfl
     have he : earlyP v r = false := by rw [earlyP, e1, e4]; simp
     conv => whnf
     refine br_intro (fun q => ?_) (fun q => ?_)
     ·have q : r.tag.length ≤ 64 := by have q := of_decide_eq_true q; omega
      conv => whnf
      refine depsR_calls v r hd fun p hp => ?_
      conv => whnf
      exact h p (by rw [hm, he, decide_eq_true q, hp]; rfl)
     ·have q : ¬ r.tag.length ≤ 64 := by have q := of_decide_eq_false q; omega
      conv => whnf
      exact h false (by rw [hm, decide_eq_false q]; simp)
    ·have e4 : r.tag ≠ [] := by simpa [← nilB, ofB_eq] using e4
     have e4 : decide (r.tag ≠ []) = true := decide_eq_true e4
     conv => whnf
     exact h false (by rw [hm, earlyP, e3, e4]; simp)
   ·have he : earlyP v r = false := by rw [earlyP, e1, e3]; simp
    conv => whnf
    refine br_intro (fun q => ?_) (fun q => ?_)
    ·have q : r.tag.length ≤ 64 := by have q := of_decide_eq_true q; omega
     conv => whnf
     refine depsR_calls v r hd fun p hp => ?_
     conv => whnf
     exact h p (by rw [hm, he, decide_eq_true q, hp]; rfl)
    ·have q : ¬ r.tag.length ≤ 64 := by have q := of_decide_eq_false q; omega
     conv => whnf
     exact h false (by rw [hm, decide_eq_false q]; simp)
 ·have k1 : ¬ r.kind = 1 := by simpa using k1
  rw [if_neg k1] at hm
  conv => whnf
  refine br_intro (fun k2 => ?_) (fun k2 => ?_)
  ·have k2 : r.kind = 2 := by simpa using k2
   rw [if_pos k2] at hm
   conv => whnf
   refine ACalls.args ?_ (SameR_calls r (goneR r) (by omega) fun p hp => ?_)
   ·exact leL.cons (.refl _) (leL.cons (le_agg (le_rec2 2 r.target 0 0 0 [])) leL.nil)
   conv => whnf
   exact h p (by rw [hp, hm])
  ·have k2 : ¬ r.kind = 2 := by simpa using k2
   rw [if_neg k2] at hm
   conv => whnf
   exact h false hm.symm
end Go.Abs
end
section
namespace Go.Abs
open Go Go.Proofs Dig
theorem tblP_mem {l : List B} {s x : B} : x ∈ tblP l s ↔ x ∈ l ∨ x = s := by
 unfold tblP
 split
 ·rename_i h
  exact ⟨.inl, fun h1 => h1.elim id fun e => e ▸ h⟩
 ·simp
theorem tblP_nodup {l : List B} (h : l.Nodup) (s : B) : (tblP l s).Nodup := by
 unfold tblP
 split
 ·exact h
 ·rename_i h1
  rw [List.nodup_append]
  exact ⟨h, by simp, fun a ha b hb => by simp at hb; subst hb; exact fun e => h1 (e ▸ ha)⟩
theorem addAll_mem : ∀ (m t : List B) {x : B}, x ∈ m.foldl tblP t ↔ x ∈ t ∨ x ∈ m := by
 intro m
 induction m with
 | nil => intro t x; simp
 | cons a m ih => intro t x; rw [List.foldl_cons, ih, tblP_mem]; simp [or_assoc]
theorem addAll_nodup : ∀ (m t : List B), t.Nodup → (m.foldl tblP t).Nodup := by
 intro m
 induction m with
 | nil => intro t h; exact h
 | cons a m ih => intro t h; exact ih _ (tblP_nodup h a)
def newsP : List B → List B → List B
 | _, [] => []
 | t, s :: l => if s ∈ t then newsP t l else s :: newsP (t ++ [s]) l
theorem addAll_news : ∀ (m t : List B), m.foldl tblP t = t ++ newsP t m := by
 intro m
 induction m with
 | nil => intro t; simp [newsP]
 | cons a m ih =>
  intro t
  rw [List.foldl_cons, ih, newsP]
  unfold tblP
  by_cases h : a ∈ t
  ·rw [if_pos h, if_pos h]
  ·rw [if_neg h, if_neg h]; simp
theorem news_addAll : ∀ (m t : List B), (newsP t m).foldl tblP t = m.foldl tblP t := by
 intro m
 induction m with
 | nil => intro t; rfl
 | cons a m ih =>
  intro t
  rw [newsP, List.foldl_cons]
  by_cases h : a ∈ t
  ·rw [if_pos h, ih, tblP_some h]
  ·rw [if_neg h, List.foldl_cons, tblP_none h, ih]
theorem news_self : ∀ (m t : List B), (t ++ m).Nodup → newsP t m = m := by
 intro m
 induction m with
 | nil => intro t h; rfl
 | cons a m ih =>
  intro t h
  have h1 : a ∉ t := fun e => by
   rw [List.nodup_append] at h
   exact h.2.2 a e a (by simp) rfl
  rw [newsP, if_neg h1, ih (t ++ [a]) (by rw [List.append_assoc]; exact h)]
theorem tblN_self {l : List B} (h : l.Nodup) : tblN l = l := by
 unfold tblN
 rw [addAll_news, news_self l [] (by simpa using h)]
 rfl
theorem tblN_mem {l : List B} {x : B} : x ∈ tblN l ↔ x ∈ l := by unfold tblN; rw [addAll_mem]; simp
theorem news_sub : ∀ (m t : List B), ∀ x ∈ newsP t m, x ∈ m := by
 intro m
 induction m with
 | nil => intro t x h; exact h
 | cons a m ih =>
  intro t x h
  rw [newsP] at h
  split at h
  ·exact List.mem_cons_of_mem _ (ih _ _ h)
  ·rcases List.mem_cons.1 h with h | h
   ·rw [h]; exact List.mem_cons_self
   ·exact List.mem_cons_of_mem _ (ih _ _ h)
theorem news_len : ∀ (m t : List B), (newsP t m).length ≤ m.length := by
 intro m
 induction m with
 | nil => intro t; exact Nat.le_refl _
 | cons a m ih =>
  intro t
  rw [newsP]
  split
  ·have := ih t; simp; omega
  ·have := ih (t ++ [a]); simp; omega
def textW (v : Int) (t : List B) (s : B) : B := if v = 1 then blobP s else vrn (t.idxOf s)
def depN (t : List B) (d : Dp) : Nat := 2 * t.idxOf d.name + (if d.order then 1 else 0)
def depW (v : Int) (t : List B) (d : Dp) : B := (if v < 3 then textW v t d.name else vrn (depN t d)) ++ vrn d.hash.toNat
def depsW (v : Int) (t : List B) (l : List Dp) : B := (l.map (depW v t)).flatten
def tagW (t : List B) (s : B) : B := vrn (if s = [] then 0 else t.idxOf s + 1)
def endW (v : Int) (t : List B) (r : Rc) : B := vrn r.out.toNat ++ ((if 2 ≤ v then vrn r.wen.toNat else []) ++ (if 3 ≤ v then tagW t r.tag else []))
def lastW (v : Int) (t : List B) (r : Rc) : B :=
 if r.kind = 2 then 2 :: textW v t r.target
 else 1 :: (textW v t r.target ++ vrn r.rule.toNat ++ vrn r.deps.length ++ depsW v t r.deps ++ endW v t r)
def textsR (r : Rc) : List B := r.target :: (r.deps.map (·.name) ++ (if r.tag = [] then [] else [r.tag]))
def namesR (r : Rc) : List B := tblN (textsR r)
def addT (v : Int) (t : List B) (r : Rc) : List B := if v = 1 then t else (namesR r).foldl tblP t
def defP (s : B) : B := 0 :: s
def defsP (v : Int) (t : List B) (r : Rc) : List B := if v = 1 then [] else (newsP t (namesR r)).map defP
def payP (v : Int) (t : List B) (r : Rc) : List B := defsP v t r ++ [lastW v (addT v t r) r]
def paysP (v : Int) : List B → List Rc → List B
 | _, [] => []
 | t, r :: l => payP v t r ++ paysP v (addT v t r) l
def tblL (v : Int) (t : List B) (l : List Rc) : List B := l.foldl (addT v) t
def lettersB (v : Int) : B := [84, 80, 72, UInt8.ofNat v.toNat]
def headP (v : Int) : B := sealF (lettersB v)
def fileP (v : Int) (l : List Rc) : B := headP v ++ framesP (paysP v [] l)
theorem paysP_append (v : Int) : ∀ (l m : List Rc) (t : List B), paysP v t (l ++ m) = paysP v t l ++ paysP v (tblL v t l) m := by
 intro l
 induction l with
 | nil => intro m t; rfl
 | cons a l ih => intro m t; simp only [List.cons_append, paysP, ih, List.append_assoc]; rfl
theorem framesP_append (l m : List B) : framesP (l ++ m) = framesP l ++ framesP m := by
 unfold framesP
 rw [List.map_append, List.flatten_append]
theorem addT_one (t : List B) (r : Rc) : addT 1 t r = t := by simp [addT]
theorem addT_more {v : Int} (h : v ≠ 1) (t : List B) (r : Rc) : addT v t r = (namesR r).foldl tblP t := by simp [addT, h]
theorem addT_nodup (v : Int) {t : List B} (h : t.Nodup) (r : Rc) : (addT v t r).Nodup := by
 unfold addT
 split
 ·exact h
 ·exact addAll_nodup _ _ h
theorem tblL_nodup (v : Int) : ∀ (l : List Rc) {t : List B}, t.Nodup → (tblL v t l).Nodup := by
 intro l
 induction l with
 | nil => intro t h; exact h
 | cons a l ih => intro t h; exact ih (addT_nodup v h a)
theorem tblL_one : ∀ (l : List Rc) (t : List B), tblL 1 t l = t := by
 intro l
 induction l with
 | nil => intro t; rfl
 | cons a l ih => intro t; show tblL 1 (addT 1 t a) l = t; rw [addT_one, ih]
theorem namesR_ne (r : Rc) : namesR r ≠ [] := by
 intro e
 have : r.target ∈ namesR r := tblN_mem.2 (by simp [textsR])
 rw [e] at this
 cases this
theorem addT_mem {v : Int} (h : v ≠ 1) (t : List B) (r : Rc) {x : B} (hx : x ∈ textsR r) : x ∈ addT v t r := by
 rw [addT_more h, addAll_mem]
 exact .inr (tblN_mem.2 hx)
theorem addT_ne {v : Int} (h : v ≠ 1) (t : List B) (r : Rc) : addT v t r ≠ [] := by
 intro e
 have := addT_mem h t r (x := r.target) (by simp [textsR])
 rw [e] at this
 cases this
theorem tblP_len (l : List B) (s : B) : (tblP l s).length ≤ l.length + 1 := by
 unfold tblP
 split <;> simp
theorem addAll_len : ∀ (m t : List B), (m.foldl tblP t).length ≤ t.length + m.length := by
 intro m
 induction m with
 | nil => intro t; simp
 | cons a m ih => intro t; have := ih (tblP t a); have := tblP_len t a; simp only [List.foldl_cons, List.length_cons]; omega
theorem textsR_len (r : Rc) : (textsR r).length ≤ r.deps.length + 2 := by
 unfold textsR
 split <;> simp
theorem namesR_len (r : Rc) : (namesR r).length ≤ r.deps.length + 2 := by
 have h1 := addAll_len (textsR r) []
 have h2 := textsR_len r
 unfold namesR tblN
 simp only [List.length_nil] at h1
 omega
theorem addT_len (v : Int) (t : List B) (r : Rc) : (addT v t r).length ≤ t.length + r.deps.length + 2 := by
 unfold addT
 split
 ·omega
 ·have h1 := addAll_len (namesR r) t
  have h2 := namesR_len r
  omega
structure MayR (v : Int) (r : Rc) : Prop where
 lo : 1 ≤ v
 hi : v ≤ 3
 t1 : 1 ≤ r.target.length
 t2 : r.target.length ≤ 64
 deps : r.deps.length ≤ 16
 tag : r.tag.length ≤ 64
 names : ∀ d ∈ r.deps, 1 ≤ d.name.length ∧ d.name.length ≤ 64
 kind : r.kind = 1 ∨ r = goneR r
 wen : v = 1 → r.wen = 0
 tag3 : v < 3 → r.tag = []
 order : v < 3 → ∀ d ∈ r.deps, d.order = false
theorem depsGo_ok (v : Int) : ∀ (l : List Dp) (seen : List B), depsGo v l seen = true → ∀ d ∈ l, (1 ≤ d.name.length ∧ d.name.length ≤ 64) ∧ (v < 3 → d.order = false) := by
 intro l
 induction l with
 | nil => intro seen h d hd; cases hd
 | cons a l ih =>
  intro seen h d hd
  simp only [depsGo, nameOk, Bool.and_eq_true, decide_eq_true_eq, Bool.not_eq_true', Bool.and_eq_false_iff, decide_eq_false_iff_not] at h
  rcases List.mem_cons.1 hd with rfl | hd
  ·exact ⟨h.1, fun hv => h.2.2.1.elim id fun e => absurd hv e⟩
  ·exact ih _ h.2.2.2 d hd
theorem may_all {v : Int} {r : Rc} (h : mayP v r = true) : MayR v r := by
 unfold mayP at h
 split at h
 ·cases h
 ·rename_i h0
  simp only [Bool.or_eq_true, decide_eq_true_eq, Bool.not_eq_true', not_or, nameOk, Bool.and_eq_false_iff, decide_eq_false_iff_not] at h0
  obtain ⟨⟨h1, h2⟩, h3⟩ := h0
  have hv1 : 1 ≤ v := by omega
  have hv2 : v ≤ 3 := by omega
  have ht1 : 1 ≤ r.target.length := by
   exact Classical.not_not.1 h3.1
  have ht2 : r.target.length ≤ 64 := by
   exact Classical.not_not.1 h3.2
  split at h
  ·rename_i hk
   simp only [Bool.and_eq_true, Bool.not_eq_true', decide_eq_true_eq, depsP, earlyP, Bool.or_eq_false_iff, Bool.and_eq_false_iff, decide_eq_false_iff_not] at h
   obtain ⟨⟨e1, e2⟩, e3, e4, e5⟩ := h
   have hd := depsGo_ok v _ _ e4
   refine ⟨hv1, hv2, ht1, ht2, e5, e3, fun d hd' => (hd d hd').1, .inl hk, fun hv => ?_, fun hv => ?_, fun hv d hd' => (hd d hd').2 hv⟩
   ·refine Classical.byContradiction fun e => e1.elim (fun e' => e' (by omega)) fun e' => e' e
   ·refine Classical.byContradiction fun e => e2.elim (fun e' => e' hv) fun e' => e' e
  ·split at h
   ·have hg := of_decide_eq_true h
    have q1 : r.deps = [] := by rw [hg]; rfl
    have q2 : r.tag = [] := by rw [hg]; rfl
    have q3 : r.wen = 0 := by rw [hg]; rfl
    exact ⟨hv1, hv2, ht1, ht2, (by rw [q1]; simp), (by rw [q2]; simp), (by rw [q1]; simp), .inr hg, fun _ => q3, fun _ => q2, (by rw [q1]; simp)⟩
   ·cases h
theorem textsR_lens {v : Int} {r : Rc} (h : MayR v r) : ∀ s ∈ textsR r, 1 ≤ s.length ∧ s.length ≤ 64 := by
 intro s hs
 unfold textsR at hs
 rcases List.mem_cons.1 hs with rfl | hs
 ·exact ⟨h.t1, h.t2⟩
 rcases List.mem_append.1 hs with hs | hs
 ·obtain ⟨d, hd, rfl⟩ := List.mem_map.1 hs
  exact h.names d hd
 ·split at hs
  ·cases hs
  ·rename_i e
   rw [List.mem_singleton.1 hs]
   refine ⟨?_, h.tag⟩
   cases ht : r.tag with
   | nil => exact absurd ht e
   | cons a l => simp
theorem vrn_one {n : Nat} (h : n < 128) : (vrn n).length = 1 := by rw [vrn_small h]; rfl
theorem blobP_len {s : B} (h : s.length ≤ 64) : (blobP s).length ≤ 65 := by
 unfold blobP
 rw [List.length_append, vrn_one (by omega)]
 omega
theorem textW_len {v : Int} {t : List B} {s : B} (h : s.length ≤ 64) (ht : t.length < 1000000) : (textW v t s).length ≤ 65 := by
 unfold textW
 split
 ·exact blobP_len h
 ·have h1 := List.idxOf_le_length (a := s) (l := t)
  have := vrn_u64 (n := t.idxOf s) (by omega)
  omega
theorem u64_vrn (x : U) : (vrn x.toNat).length ≤ 10 := vrn_u64 (by have := x.isLt; omega)
theorem depW_len {v : Int} {t : List B} {d : Dp} (h : d.name.length ≤ 64) (ht : t.length < 1000000) : (depW v t d).length ≤ 75 := by
 unfold depW
 have h1 := u64_vrn d.hash
 have h3 := List.idxOf_le_length (a := d.name) (l := t)
 have h4 : (vrn (depN t d)).length ≤ 10 := vrn_u64 (by unfold depN; split <;> omega)
 rw [List.length_append]
 split
 ·have h2 := textW_len (v := v) h ht
  omega
 ·omega
theorem depsW_len {v : Int} {t : List B} (ht : t.length < 1000000) : ∀ {l : List Dp}, (∀ d ∈ l, d.name.length ≤ 64) → (depsW v t l).length ≤ 75 * l.length := by
 intro l
 induction l with
 | nil => intro h; simp [depsW]
 | cons a l ih =>
  intro h
  have h1 := depW_len (v := v) (t := t) (h a List.mem_cons_self) ht
  have h2 := ih fun d hd => h d (List.mem_cons_of_mem _ hd)
  unfold depsW at h2 ⊢
  rw [List.map_cons, List.flatten_cons, List.length_append, List.length_cons]
  omega
theorem endW_len {v : Int} {t : List B} {r : Rc} (ht : t.length < 1000000) : (endW v t r).length ≤ 30 := by
 unfold endW
 have h1 := u64_vrn r.out
 have h2 := u64_vrn r.wen
 have h3 : (tagW t r.tag).length ≤ 10 := by
  unfold tagW
  have h3 := List.idxOf_le_length (a := r.tag) (l := t)
  exact vrn_u64 (by split <;> omega)
 rw [List.length_append, List.length_append]
 split <;> split <;> simp <;> omega
theorem lastW_len {v : Int} {t : List B} {r : Rc} (h : MayR v r) (ht : t.length < 1000000) : 1 ≤ (lastW v t r).length ∧ (lastW v t r).length ≤ 1400 := by
 unfold lastW
 have h1 := textW_len (v := v) (t := t) h.t2 ht
 have h2 := u64_vrn r.rule
 have h3 : (vrn r.deps.length).length ≤ 10 := vrn_u64 (by have := h.deps; omega)
 have h4 := depsW_len (v := v) (t := t) (l := r.deps) ht fun d hd => (h.names d hd).2
 have h5 := endW_len (v := v) (t := t) (r := r) ht
 have h6 := h.deps
 split
 ·simp; omega
 ·simp only [List.length_cons, List.length_append]; omega
theorem payP_lens {v : Int} {t : List B} {r : Rc} (h : MayR v r) (ht : t.length < 900000) : ∀ p ∈ payP v t r, 1 ≤ p.length ∧ p.length ≤ 2048 := by
 intro p hp
 unfold payP at hp
 rcases List.mem_append.1 hp with hp | hp
 ·unfold defsP at hp
  split at hp
  ·cases hp
  ·obtain ⟨s, hs, rfl⟩ := List.mem_map.1 hp
   have := textsR_lens h s (tblN_mem.1 (news_sub _ _ s hs))
   simp [defP]; omega
 ·rw [List.mem_singleton.1 hp]
  have h1 := addT_len v t r
  have h2 := h.deps
  have := lastW_len (t := addT v t r) h (by omega)
  omega
theorem frameP_len {p : B} (h : p.length ≤ 2048) : (frameP p).length ≤ p.length + 14 := by
 unfold frameP sealF blobP
 have := vrn_u64 (n := p.length) (by omega)
 simp only [List.length_append, w4_length]
 omega
theorem framesP_len : ∀ {l : List B} {k : Nat}, (∀ p ∈ l, p.length ≤ k) → k ≤ 2048 → (framesP l).length ≤ l.length * (k + 14) := by
 intro l
 induction l with
 | nil => intro k h hk; simp [framesP]
 | cons a l ih =>
  intro k h hk
  have h1 := h a List.mem_cons_self
  have h2 := frameP_len (p := a) (by omega)
  have h3 := ih (k := k) (fun p hp => h p (List.mem_cons_of_mem _ hp)) hk
  unfold framesP at h3 ⊢
  rw [List.map_cons, List.flatten_cons, List.length_append, List.length_cons, Nat.succ_mul]
  omega
theorem payP_frames {v : Int} {t : List B} {r : Rc} (h : MayR v r) (ht : t.length < 900000) : (framesP (payP v t r)).length ≤ 3000 := by
 have h1 := addT_len v t r
 have h2 := h.deps
 have h3 := lastW_len (t := addT v t r) h (by omega)
 have h4 := frameP_len (p := lastW v (addT v t r) r) (by omega)
 have h5 : (framesP (defsP v t r)).length ≤ 18 * (65 + 14) := by
  have e1 : (defsP v t r).length ≤ 18 := by
   unfold defsP
   split
   ·simp
   ·have := news_len (namesR r) t
    have := namesR_len r
    rw [List.length_map]; omega
  have e2 : ∀ p ∈ defsP v t r, p.length ≤ 65 := by
   intro p hp
   unfold defsP at hp
   split at hp
   ·cases hp
   ·obtain ⟨s, hs, rfl⟩ := List.mem_map.1 hp
    have := textsR_lens h s (tblN_mem.1 (news_sub _ _ s hs))
    simp [defP]; omega
  exact Nat.le_trans (framesP_len e2 (by omega)) (Nat.mul_le_mul_right _ e1)
 unfold payP
 rw [framesP_snoc, List.length_append]
 omega
theorem tblL_len {v : Int} : ∀ {l : List Rc} {t : List B}, (∀ r ∈ l, MayR v r) → (tblL v t l).length ≤ t.length + 18 * l.length := by
 intro l
 induction l with
 | nil => intro t h; simp [tblL]
 | cons a l ih =>
  intro t h
  have h1 := ih (t := addT v t a) fun r hr => h r (List.mem_cons_of_mem _ hr)
  have h2 := addT_len v t a
  have h3 := (h a List.mem_cons_self).deps
  unfold tblL at h1 ⊢
  rw [List.foldl_cons, List.length_cons]
  omega
theorem paysP_frames {v : Int} : ∀ {l : List Rc} {t : List B}, (∀ r ∈ l, MayR v r) → t.length + 18 * l.length < 900000 → (framesP (paysP v t l)).length ≤ 3000 * l.length := by
 intro l
 induction l with
 | nil => intro t h ht; simp [paysP, framesP]
 | cons a l ih =>
  intro t h ht
  have h1 := addT_len v t a
  have h2 := (h a List.mem_cons_self).deps
  rw [List.length_cons] at ht
  have h3 := ih (t := addT v t a) (fun r hr => h r (List.mem_cons_of_mem _ hr)) (by omega)
  have h4 := payP_frames (t := t) (h a List.mem_cons_self) (by omega)
  rw [paysP, framesP_append, List.length_append, List.length_cons]
  omega
theorem paysP_lens {v : Int} : ∀ {l : List Rc} {t : List B}, (∀ r ∈ l, MayR v r) → t.length + 18 * l.length < 900000 → ∀ p ∈ paysP v t l, 1 ≤ p.length ∧ p.length ≤ 2048 := by
 intro l
 induction l with
 | nil => intro t h ht p hp; cases hp
 | cons a l ih =>
  intro t h ht p hp
  have h1 := addT_len v t a
  have h2 := (h a List.mem_cons_self).deps
  rw [List.length_cons] at ht
  rw [paysP] at hp
  rcases List.mem_append.1 hp with hp | hp
  ·exact payP_lens (h a List.mem_cons_self) (by omega) p hp
  ·exact ih (t := addT v t a) (fun r hr => h r (List.mem_cons_of_mem _ hr)) (by omega) p hp
end Go.Abs
end
section
namespace Go.Abs
open Go Go.Proofs Dig
attribute [local irreducible] ibits byteAt strLt firstIdx
theorem tmod_n (n k : Nat) : ((n : Nat) : Int).tmod (k : Int) = ((n % k : Nat) : Int) := by
 rw [Int.tmod_eq_emod_of_nonneg (Int.natCast_nonneg _)]
 exact (Int.natCast_emod n k).symm
theorem tdiv_n (n k : Nat) : ((n : Nat) : Int).tdiv (k : Int) = ((n / k : Nat) : Int) := by
 rw [Int.tdiv_eq_ediv_of_nonneg (Int.natCast_nonneg _)]
 exact (Int.natCast_ediv n k).symm
theorem u64_n {n : Nat} (h : n < 18446744073709551616) : IntKind.u64.wrap ((n : Nat) : Int) = (n : Int) := by
 show (n : Int) % 18446744073709551616 = _
 omega
theorem u32_n {n : Nat} (h : n < 4294967296) : IntKind.u32.wrap ((n : Nat) : Int) = (n : Int) := by
 show (n : Int) % 4294967296 = _
 omega
theorem ref1Put_calls : ∀ (n : Nat), n < 18446744073709551616 → ∀ {R : AV → List AObj → Prop}, R (vs (vrn n)) [] → ACalls Tryz.prog 167 [.val (.int .u64 (n : Int))] [] R := by
 intro n
 induction n using Nat.strongRecOn with
 | ind n ih =>
 intro hn R h
 refine acalls_of_xwp (an := an167) tab_ok Tryz.func167 ?_
 conv => whnf
 refine br_intro (fun g => ?_) (fun g => ?_)
 ·have g : n < 128 := by have := of_decide_eq_true g; omega
  rw [vrn_small g] at h
  conv => whnf
  rw [u8_part, show n % 256 = n by omega]
  refine ⟨[(((UInt8.ofNat n).toNat : Nat) : Int)], rfl, ?_⟩
  have e := strOfNums_ofB [UInt8.ofNat n]
  rw [show strOfNums [(((UInt8.ofNat n).toNat : Nat) : Int)] = ofB [UInt8.ofNat n] from e]
  conv => whnf
  exact h
 ·have g : ¬ n < 128 := by have := of_decide_eq_false g; omega
  rw [vrn_big g] at h
  have e1 : IntKind.u8.wrap (IntKind.u8.wrap ((n : Int).tmod 128) + 128) = (((UInt8.ofNat (n % 128 + 128)).toNat : Nat) : Int) := by
   rw [show (n : Int).tmod 128 = ((n % 128 : Nat) : Int) from tmod_n n 128, u8_nat (by omega)]
   show (((n % 128 : Nat) : Int) % 256 + 128) % 256 = _
   omega
  have e2 : (n : Int).tdiv 128 = ((n / 128 : Nat) : Int) := tdiv_n n 128
  have hl := vrn_u64 (n := n / 128) (by omega)
  conv => whnf
  rw [e1]
  refine ⟨[(((UInt8.ofNat (n % 128 + 128)).toNat : Nat) : Int)], rfl, ?_⟩
  have e := strOfNums_ofB [UInt8.ofNat (n % 128 + 128)]
  rw [show strOfNums [(((UInt8.ofNat (n % 128 + 128)).toNat : Nat) : Int)] = ofB [UInt8.ofNat (n % 128 + 128)] from e]
  conv => whnf
  rw [e2, u64_n (by omega)]
  refine ih (n / 128) (by omega) (by omega) ?_
  conv => whnf
  refine must_intro (decide_eq_true (by rw [size_ofB, size_ofB]; simp; omega)) ?_
  rw [ofB_append]
  conv => whnf
  exact h
theorem ref2Put_calls (s : B) (hs : s.length < 10000000) {R} (h : R (vs (blobP s)) []) : ACalls Tryz.prog 169 [vs s] [] R := by
 refine acalls_of_xwp (an := an169) tab_ok Tryz.func169 ?_
 have hv := vrn_u64 (n := s.length) (by omega)
 unfold blobP at h
 conv => whnf
 rw [size_ofB, u64_n (by omega)]
 refine ref1Put_calls s.length (by omega) ?_
 conv => whnf
 refine must_intro (decide_eq_true (by rw [size_ofB, size_ofB]; omega)) ?_
 rw [ofB_append]
 conv => whnf
 exact h
theorem ref3Bytes_calls (x : Crc.W) {R} (h : R (vs (w4 x.toNat)) []) : ACalls Tryz.prog 162 [wv x] [] R := by
 refine acalls_of_xwp (an := an162) tab_ok Tryz.func162 ?_
 have hx : x.toNat < 4294967296 := x.isLt
 unfold wv
 generalize x.toNat = n at h hx ⊢
 conv => whnf
 rw [show (n : Int).tmod 256 = ((n % 256 : Nat) : Int) from tmod_n n 256, show (n : Int).tdiv 256 = ((n / 256 : Nat) : Int) from tdiv_n n 256, show (n : Int).tdiv 65536 = ((n / 65536 : Nat) : Int) from tdiv_n n 65536, show (n : Int).tdiv 16777216 = ((n / 16777216 : Nat) : Int) from tdiv_n n 16777216,
  u32_n (n := n / 256) (by omega), u32_n (n := n / 65536) (by omega), u32_n (n := n / 16777216) (by omega), show ((n / 256 : Nat) : Int).tmod 256 = ((n / 256 % 256 : Nat) : Int) from tmod_n _ 256, show ((n / 65536 : Nat) : Int).tmod 256 = ((n / 65536 % 256 : Nat) : Int) from tmod_n _ 256]
 rw [u8_part (n := n % 256), u8_part (n := n / 256 % 256), u8_part (n := n / 65536 % 256), u8_part (n := n / 16777216), Nat.mod_mod, Nat.mod_mod, Nat.mod_mod]
 obtain ⟨ns, n1, n2⟩ := str_of (w4 n)
 refine ⟨ns, n1, ?_⟩
 rw [n2]
 conv => whnf
 exact h
theorem ref6Put_calls (p : B) (h1 : 1 ≤ p.length) (h2 : p.length ≤ 2048) {R} (h : R (.tup [vs (frameP p), vi 0]) []) : ACalls Tryz.prog 128 [vs p] [] R := by
 refine acalls_of_xwp (an := an128) tab_ok Tryz.func128 ?_
 have hne : ofB p ≠ ofB [] := fun e => by have := ofB_inj e; rw [this] at h1; simp at h1
 have hv := vrn_u64 (n := p.length) (by omega)
 have hbl : (blobP p).length ≤ 2058 := by unfold blobP; rw [List.length_append]; omega
 unfold frameP sealF at h
 conv => whnf
 refine br_false (decide_eq_false hne) ?_
 conv => whnf
 refine br_false (decide_eq_false (by rw [size_ofB]; omega)) ?_
 conv => whnf
 refine ref2Put_calls p (by omega) ?_
 generalize blobP p = b at h hbl ⊢
 conv => whnf
 refine refSum_calls b (by omega) ?_
 conv => whnf
 refine ref3Bytes_calls _ ?_
 have hw := w4_length (Crc.sum b).toNat
 conv => whnf
 refine must_intro (decide_eq_true (by rw [size_ofB, size_ofB]; omega)) ?_
 rw [ofB_append]
 conv => whnf
 exact h
theorem ref6Head_calls {v : Int} (h1 : 1 ≤ v) (h3 : v ≤ 3) {R} (h : R (.tup [vs (headP v), vi 0]) []) : ACalls Tryz.prog 126 [vi v] [] R := by
 refine acalls_of_xwp (an := an126) tab_ok Tryz.func126 ?_
 have e1 : IntKind.u8.wrap v = (((UInt8.ofNat v.toNat).toNat : Nat) : Int) := by
  rw [u8_nat (by omega)]
  show v % 256 = _
  omega
 unfold headP sealF at h
 conv => whnf
 refine br_false (decide_eq_false (by omega)) ?_
 conv => whnf
 refine br_false (decide_eq_false (by omega)) ?_
 conv => whnf
 rw [e1]
 refine ⟨[(((UInt8.ofNat v.toNat).toNat : Nat) : Int)], rfl, ?_⟩
 have e := strOfNums_ofB [UInt8.ofNat v.toNat]
 rw [show strOfNums [(((UInt8.ofNat v.toNat).toNat : Nat) : Int)] = ofB [UInt8.ofNat v.toNat] from e]
 conv => whnf
 have e3 : (⟨#[84, 80, 72]⟩ : ByteArray) = ofB [84, 80, 72] := rfl
 rw [e3, ofB_append]
 obtain ⟨b, hb⟩ : ∃ b, b = lettersB v := ⟨_, rfl⟩
 have hb2 : [84, 80, 72] ++ [UInt8.ofNat v.toNat] = b := hb.symm
 have hl : b.length = 4 := by rw [hb]; rfl
 rw [← hb] at h
 rw [hb2]
 clear hb hb2 e e1 e3
 conv => whnf
 refine refSum_calls b (by omega) ?_
 conv => whnf
 refine ref3Bytes_calls _ ?_
 have hw := w4_length (Crc.sum b).toNat
 conv => whnf
 refine must_intro (decide_eq_true (by rw [size_ofB, size_ofB]; omega)) ?_
 rw [ofB_append]
 conv => whnf
 exact h
theorem mapFind_idx {s : B} : ∀ {l : List B} (i : Nat), s ∈ l → mapFind (tblFrom l i) (ofB s) = some (vi ((i + l.idxOf s : Nat) : Int)) := by
 intro l
 induction l with
 | nil => intro i h; cases h
 | cons a l ih =>
  intro i h
  simp only [tblFrom, mapFind]
  by_cases e : a = s
  ·subst e; rw [if_pos rfl, List.idxOf_cons_self]; rfl
  ·have hx : (a :: l).idxOf s = l.idxOf s + 1 := by
    rw [List.idxOf_cons, show (a == s) = false from beq_eq_false_iff_ne.2 e]
    rfl
   rw [if_neg (fun e' => e (ofB_inj e')), ih (i + 1) ((List.mem_cons.1 h).elim (fun x => absurd x.symm e) id), hx]
   congr 3
   omega
theorem tFind_calls (l : List B) (s : B) (hs : s ∈ l) (hl : l.length < 1000000) {R} (h : R (.tup [.val (.int .u64 ((l.idxOf s : Nat) : Int)), .val (.bool true)]) [tblO 1 2 l, tblR l, tblM l]) :
  ACalls Tryz.prog 215 [.ptr 0 0, vs s] [tblO 1 2 l, tblR l, tblM l] R := by
 refine acalls_of_xwp (an := an215) tab_ok Tryz.func215 ?_
 have hj := mapFind_idx 0 hs
 rw [Nat.zero_add] at hj
 have hi := List.idxOf_le_length (a := s) (l := l)
 have ew : IntKind.u64.wrap ((l.idxOf s : Nat) : Int) = ((l.idxOf s : Nat) : Int) := by
  show ((l.idxOf s : Nat) : Int) % 18446744073709551616 = _
  omega
 conv => whnf
 rw [hj]
 conv => whnf
 rw [ew]
 exact h
theorem tText_calls (l : List B) (i : Nat) (hi : i < l.length) (hl : l.length < 1000000) {R} (h : R (.tup [vs l[i], .val (.bool true)]) [tblO 1 2 l, tblR l, tblM l]) :
  ACalls Tryz.prog 182 [.ptr 0 0, .val (.int .u64 (i : Int))] [tblO 1 2 l, tblR l, tblM l] R := by
 refine acalls_of_xwp (an := an182) tab_ok Tryz.func182 ?_
 have hsl := strs_length l
 have ew : IntKind.u64.wrap (((strs l).length : Nat) : Int) = ((l.length : Nat) : Int) := by
  rw [hsl]
  show ((l.length : Nat) : Int) % 18446744073709551616 = _
  omega
 conv => whnf
 refine br_false (by rw [ew]; exact decide_eq_false (by omega)) ?_
 (conv => whnf); (repeat ((with_reducible refine must_intro ?_ ?_); exact decide_eq_true (by omega); (conv => whnf)))
 refine idxK_map_intro (show (i : Int).toNat < l.length by simpa using hi) ?_
 rw [show l[(i : Int).toNat]'(by simpa using hi) = l[i] from by congr 1]
 conv => whnf
 exact h
theorem tCopy_nil {R} (h : R (.ptr 1 0) [tblF, tblF]) : ACalls Tryz.prog 192 [.ptr 0 0] [tblF] R := by
 refine acalls_of_xwp (an := an192) tab_ok Tryz.func192 ?_
 conv => whnf
 refine New_nil ?_
 conv => whnf
 exact h
theorem tCopy_calls (l : List B) (h0 : l ≠ []) (hn : l.Nodup) (hl : l.length < 100000) {R} (h : R (.ptr 3 0) [tblO 1 2 l, tblR l, tblM l, tblO 4 5 l, tblR l, tblM l]) :
  ACalls Tryz.prog 192 [.ptr 0 0] [tblO 1 2 l, tblR l, tblM l] R := by
 refine acalls_of_xwp (an := an192) tab_ok Tryz.func192 ?_
 have hs := tblN_self hn
 obtain ⟨a, m, rfl⟩ := List.exists_cons_of_ne_nil h0
 conv => whnf
 refine New_calls a m (by simp at hl; omega) fun q hq => ?_
 rw [hs] at hq
 subst hq
 conv => whnf
 exact h
theorem textsR_take (r : Rc) (i : Nat) (hi : i < r.deps.length) : (r.target :: (r.deps.take i).map (·.name)) ++ [r.deps[i].name] = r.target :: (r.deps.take (i + 1)).map (·.name) := by
 rw [List.take_succ_eq_append_getElem hi, List.map_append]
 rfl
theorem strs_take {l : List B} {i : Nat} (hi : i < l.length) : strs (l.take i) ++ [[vs l[i]]] = strs (l.take (i + 1)) := by
 rw [List.take_succ_eq_append_getElem hi, strs_append]
 rfl
theorem rNames_calls (r : Rc) (hd : r.deps.length < 50000) {R} (h : R (.sl none 1 (strs (namesR r))) []) : ACalls Tryz.prog 155 [.agg r.enc] [] R := by
 refine acalls_of_xwp (an := an155) tab_ok Tryz.func155 ?_
 have hsl := dpsA_length r.deps
 have hml := namesR_len r
 have hN : namesR r = tblN (textsR r) := rfl
 generalize namesR r = m at h hml hN
 conv => whnf
 refine LoopP.ind1 (fun (i : Nat) => [(3, .sl (some (nameOf 13)) 1 (strs (r.target :: (r.deps.take i).map (·.name)))), (17, vi i)]) (fun i => [(nameOf 13, .row 9 1 (i + 1))]) (fun i => r.deps.length - i) (fun i => i ≤ r.deps.length) 0 rfl (by omega) ?_
 rintro i h0 IH
 have hnl : (strs (r.target :: (r.deps.take i).map (·.name))).length = i + 1 := by rw [strs_length]; simp; omega
 conv => whnf
 refine br_intro (fun hc => ?_) (fun hc => ?_)
 ·have hc := lt_of_decE hsl hc
  have IH := IH (i + 1) hc (by omega)
  have e1 : strs (r.target :: (r.deps.take i).map (·.name)) ++ [[vs r.deps[i].name]] = strs (r.target :: (r.deps.take (i + 1)).map (·.name)) := by rw [← textsR_take r i hc, strs_append]; rfl
  rw [← e1] at IH
  (conv => whnf); (repeat ((with_reducible refine must_intro ?_ ?_); exact decide_eq_true (by omega); (conv => whnf)))
  refine idxK_map_intro (show (i : Int).toNat < r.deps.length by simpa using hc) ?_
  rw [show r.deps[(i : Int).toNat]'(by simpa using hc) = r.deps[i] from by congr 1]
  generalize r.deps[i] = d at IH e1 ⊢
  conv => whnf
  refine ⟨hnl.symm, by rw [hnl, bytes_str]; simp; omega, ?_⟩
  conv => whnf
  rw [i64_nat (by omega), hnl]
  exact IH
 ·have hc := ge_of_decE hsl hc
  have e : i = r.deps.length := by omega
  subst e
  rw [List.take_length] at hnl ⊢
  have hdl : (r.deps.map (·.name)).length = r.deps.length := by simp
  conv => whnf
  refine br_intro (fun g => ?_) (fun g => ?_)
  ·have g : r.tag ≠ [] := by
    have g : (!decide (ofB r.tag = ofB [])) = true := g
    intro e
    rw [e] at g
    simp at g
   have hT : textsR r = r.target :: (r.deps.map (·.name) ++ [r.tag]) := by simp [textsR, g]
   have e1 : strs (r.target :: r.deps.map (·.name)) ++ [[vs r.tag]] = strs (r.target :: (r.deps.map (·.name) ++ [r.tag])) := by
    rw [← List.cons_append, strs_append]; rfl
   conv => whnf
   refine ⟨hnl.symm, by rw [hnl, bytes_str]; simp; omega, ?_⟩
   conv => whnf
   refine (show ACalls Tryz.prog 120 [.sl none 1 (strs (r.target :: r.deps.map (·.name)) ++ [[vs r.tag]])] [] _ from ?_)
   rw [e1]
   refine New_calls r.target _ (by simp; omega) fun q hq => ?_
   rw [← hT, ← hN] at hq
   rw [hq]
   clear hq
   conv => whnf
   refine Len_old m ?_
   conv => whnf
   have hml2 := strs_length m
   refine LoopP.ind1 (fun (i : Nat) => [(7, .sl (some (nameOf 7)) 1 (strs (m.take i))), (39, vi i)]) (fun i => [(nameOf 7, .row 9 1 i), (freshN 36 0, tblO (freshN 36 1) (freshN 36 2) m), (freshN 36 1, tblR m), (freshN 36 2, tblM m)]) (fun i => m.length - i) (fun i => i ≤ m.length) 0 rfl (by omega) ?_
   rintro i h0 IH
   have htl : (strs (m.take i)).length = i := by rw [strs_length, List.length_take]; omega
   conv => whnf
   refine br_intro (fun hc => ?_) (fun hc => ?_)
   ·have hc := lt_of_dec hc
    have ew : IntKind.u64.wrap (i : Int) = (i : Int) := by
     show (i : Int) % 18446744073709551616 = _
     omega
    have IH := IH (i + 1) hc (by omega)
    rw [← strs_take hc] at IH
    conv => whnf
    rw [ew]
    refine tText_calls m i hc (by omega) ?_
    conv => whnf
    refine ⟨htl.symm, by rw [htl, bytes_str]; simp; omega, ?_⟩
    conv => whnf
    rw [i64_nat (by omega), htl]
    exact IH
   ·have hc := ge_of_dec hc
    have e : i = m.length := by omega
    subst e
    rw [List.take_length]
    conv => whnf
    exact h
  ·have g : r.tag = [] := by
    have g : (!decide (ofB r.tag = ofB [])) = false := g
    have g : ofB r.tag = ofB [] := by simpa using g
    exact ofB_inj g
   have hT : textsR r = r.target :: r.deps.map (·.name) := by simp [textsR, g]
   conv => whnf
   refine New_calls r.target _ (by omega) fun q hq => ?_
   rw [← hT, ← hN] at hq
   rw [hq]
   clear hq
   conv => whnf
   refine Len_old m ?_
   conv => whnf
   have hml2 := strs_length m
   refine LoopP.ind1 (fun (i : Nat) => [(7, .sl (some (nameOf 7)) 1 (strs (m.take i))), (39, vi i)]) (fun i => [(nameOf 7, .row 9 1 i), (freshN 36 0, tblO (freshN 36 1) (freshN 36 2) m), (freshN 36 1, tblR m), (freshN 36 2, tblM m)]) (fun i => m.length - i) (fun i => i ≤ m.length) 0 rfl (by omega) ?_
   rintro i h0 IH
   have htl : (strs (m.take i)).length = i := by rw [strs_length, List.length_take]; omega
   conv => whnf
   refine br_intro (fun hc => ?_) (fun hc => ?_)
   ·have hc := lt_of_dec hc
    have ew : IntKind.u64.wrap (i : Int) = (i : Int) := by
     show (i : Int) % 18446744073709551616 = _
     omega
    have IH := IH (i + 1) hc (by omega)
    rw [← strs_take hc] at IH
    conv => whnf
    rw [ew]
    refine tText_calls m i hc (by omega) ?_
    conv => whnf
    refine ⟨htl.symm, by rw [htl, bytes_str]; simp; omega, ?_⟩
    conv => whnf
    rw [i64_nat (by omega), htl]
    exact IH
   ·have hc := ge_of_dec hc
    have e : i = m.length := by omega
    subst e
    rw [List.take_length]
    conv => whnf
    exact h
def wO (b : B) (t : AV) : AObj := .cells 231 [.sl none 1 (byteEls b), t]
abbrev un (n : Nat) : AV := .val (.int .u64 (n : Int))
theorem number_F (b : B) (n : Nat) (hn : n < 18446744073709551616) (hb : b.length < 10000000) {R} (h : R (.tup []) [wO (b ++ vrn n) (.ptr 1 0), tblF]) :
  ACalls Tryz.prog 185 [.ptr 0 0, un n] [wO b (.ptr 1 0), tblF] R := by
 refine acalls_of_xwp (an := an185) tab_ok Tryz.func185 ?_
 conv => whnf
 refine vPutN_calls b n hn hb ?_
 conv => whnf
 exact h
theorem number_O (b : B) (l : List B) (n : Nat) (hn : n < 18446744073709551616) (hb : b.length < 10000000) {R} (h : R (.tup []) [wO (b ++ vrn n) (.ptr 1 0), tblO 2 3 l, tblR l, tblM l]) :
  ACalls Tryz.prog 185 [.ptr 0 0, un n] [wO b (.ptr 1 0), tblO 2 3 l, tblR l, tblM l] R := by
 refine acalls_of_xwp (an := an185) tab_ok Tryz.func185 ?_
 conv => whnf
 refine vPutN_calls b n hn hb ?_
 conv => whnf
 exact h
theorem blob_F (b s : B) (hb : b.length < 1000000) (hs : s.length < 10000000) {R} (h : R (.tup []) [wO (b ++ blobP s) (.ptr 1 0), tblF]) :
  ACalls Tryz.prog 184 [.ptr 0 0, vs s] [wO b (.ptr 1 0), tblF] R := by
 refine acalls_of_xwp (an := an184) tab_ok Tryz.func184 ?_
 conv => whnf
 refine bPut_calls b s hb hs ?_
 conv => whnf
 exact h
theorem known_O (b : B) (l : List B) (s : B) (hs : s ∈ l) (hl : l.length < 1000000) (hb : b.length < 10000000) {R} (h : R (.tup []) [wO (b ++ vrn (l.idxOf s)) (.ptr 1 0), tblO 2 3 l, tblR l, tblM l]) :
  ACalls Tryz.prog 183 [.ptr 0 0, vs s] [wO b (.ptr 1 0), tblO 2 3 l, tblR l, tblM l] R := by
 refine acalls_of_xwp (an := an183) tab_ok Tryz.func183 ?_
 have hi := List.idxOf_le_length (a := s) (l := l)
 conv => whnf
 refine tFind_calls l s hs hl ?_
 conv => whnf
 refine number_O b l (l.idxOf s) (by omega) hb ?_
 conv => whnf
 exact h
theorem tag_O (b : B) (l : List B) (s : B) (hs : s ≠ [] → s ∈ l) (hl : l.length < 1000000) (hb : b.length < 10000000) {R} (h : R (.tup []) [wO (b ++ tagW l s) (.ptr 1 0), tblO 2 3 l, tblR l, tblM l]) :
  ACalls Tryz.prog 187 [.ptr 0 0, vs s] [wO b (.ptr 1 0), tblO 2 3 l, tblR l, tblM l] R := by
 refine acalls_of_xwp (an := an187) tab_ok Tryz.func187 ?_
 have hi := List.idxOf_le_length (a := s) (l := l)
 conv => whnf
 refine br_intro (fun g => ?_) (fun g => ?_)
 ·have g : s = [] := by
   have g : ofB s = ofB [] := of_decide_eq_true g
   exact ofB_inj g
  rw [show tagW l s = vrn 0 by simp [tagW, g]] at h
  conv => whnf
  refine number_O b l 0 (by omega) hb ?_
  conv => whnf
  exact h
 ·have g : s ≠ [] := by
   have g : ¬ ofB s = ofB [] := of_decide_eq_false g
   exact fun e => g (by rw [e])
  rw [show tagW l s = vrn (l.idxOf s + 1) by simp [tagW, g]] at h
  have ew : IntKind.u64.wrap (((l.idxOf s : Nat) : Int) + 1) = ((l.idxOf s + 1 : Nat) : Int) := by
   show (((l.idxOf s : Nat) : Int) + 1) % 18446744073709551616 = _
   omega
  conv => whnf
  refine tFind_calls l s (hs g) hl ?_
  conv => whnf
  rw [ew]
  refine number_O b l (l.idxOf s + 1) (by omega) hb ?_
  conv => whnf
  exact h
theorem dep_1 (b : B) (d : Dp) (hb : b.length < 1000000) (hs : d.name.length < 10000000) {R} (h : R (.tup []) [wO (b ++ blobP d.name) (.ptr 1 0), tblF]) :
  ACalls Tryz.prog 186 [.ptr 0 0, vi 1, .agg d.enc, .fn (.func 184) [.ptr 0 0] []] [wO b (.ptr 1 0), tblF] R := by
 refine acalls_of_xwp (an := an186) tab_ok Tryz.func186 ?_
 conv => whnf
 refine blob_F b d.name hb hs ?_
 conv => whnf
 exact h
theorem dep_2 (b : B) (l : List B) (d : Dp) (hs : d.name ∈ l) (hl : l.length < 1000000) (hb : b.length < 1000000) {R} (h : R (.tup []) [wO (b ++ vrn (l.idxOf d.name)) (.ptr 1 0), tblO 2 3 l, tblR l, tblM l]) :
  ACalls Tryz.prog 186 [.ptr 0 0, vi 2, .agg d.enc, .fn (.func 183) [.ptr 0 0] []] [wO b (.ptr 1 0), tblO 2 3 l, tblR l, tblM l] R := by
 refine acalls_of_xwp (an := an186) tab_ok Tryz.func186 ?_
 conv => whnf
 refine known_O b l d.name hs hl (by omega) ?_
 conv => whnf
 exact h
theorem dep_3 (b : B) (l : List B) (d : Dp) (hs : d.name ∈ l) (hl : l.length < 1000000) (hb : b.length < 1000000) {R} (h : R (.tup []) [wO (b ++ vrn (depN l d)) (.ptr 1 0), tblO 2 3 l, tblR l, tblM l]) :
  ACalls Tryz.prog 186 [.ptr 0 0, vi 3, .agg d.enc, .fn (.func 183) [.ptr 0 0] []] [wO b (.ptr 1 0), tblO 2 3 l, tblR l, tblM l] R := by
 refine acalls_of_xwp (an := an186) tab_ok Tryz.func186 ?_
 have hi := List.idxOf_le_length (a := d.name) (l := l)
 have ew : IntKind.u64.wrap (((l.idxOf d.name : Nat) : Int) * 2) = ((2 * l.idxOf d.name : Nat) : Int) := by
  show (((l.idxOf d.name : Nat) : Int) * 2) % 18446744073709551616 = _
  omega
 have ew2 : IntKind.u64.wrap (((2 * l.idxOf d.name : Nat) : Int) + 1) = ((2 * l.idxOf d.name + 1 : Nat) : Int) := by
  show (((2 * l.idxOf d.name : Nat) : Int) + 1) % 18446744073709551616 = _
  omega
 conv => whnf
 refine tFind_calls l d.name hs hl ?_
 conv => whnf
 rw [ew]
 refine br_intro (fun g => ?_) (fun g => ?_)
 ·rw [show depN l d = 2 * l.idxOf d.name + 1 by simp [depN, g]] at h
  conv => whnf
  rw [ew2]
  refine number_O b l (2 * l.idxOf d.name + 1) (by omega) (by omega) ?_
  conv => whnf
  exact h
 ·rw [show depN l d = 2 * l.idxOf d.name by simp [depN, g]] at h
  conv => whnf
  refine number_O b l (2 * l.idxOf d.name) (by omega) (by omega) ?_
  conv => whnf
  exact h
def wN (t : AV) : AObj := .cells 231 [.val (.slice none 0 0), t]
theorem depsW_snoc {v : Int} {t : List B} {l : List Dp} {i : Nat} (hi : i < l.length) : depsW v t (l.take (i + 1)) = depsW v t (l.take i) ++ depW v t l[i] := by
 unfold depsW
 rw [List.take_succ_eq_append_getElem hi, List.map_append, List.flatten_append]
 simp
theorem depsW_take {v : Int} {t : List B} {r : Rc} (hm : MayR v r) (ht : t.length < 1000000) (i : Nat) : (depsW v t (r.deps.take i)).length ≤ 1200 := by
 have h1 := depsW_len (v := v) (t := t) (l := r.deps.take i) ht fun d hd => (hm.names d (List.mem_of_mem_take hd)).2
 have h2 := hm.deps
 rw [List.length_take] at h1
 omega
def frontW (v : Int) (t : List B) (r : Rc) : B := 1 :: (textW v t r.target ++ vrn r.rule.toNat ++ vrn r.deps.length)
theorem frontW_len {v : Int} {t : List B} {r : Rc} (hm : MayR v r) (ht : t.length < 1000000) : (frontW v t r).length ≤ 90 := by
 unfold frontW
 have h1 := textW_len (v := v) (t := t) hm.t2 ht
 have h2 := u64_vrn r.rule
 have h3 : (vrn r.deps.length).length ≤ 10 := vrn_u64 (by have := hm.deps; omega)
 simp only [List.length_cons, List.length_append]
 omega
theorem lastW_trace {v : Int} {t : List B} {r : Rc} (hk : r.kind = 1) : lastW v t r = frontW v t r ++ depsW v t r.deps ++ endW v t r := by
 unfold lastW frontW
 rw [if_neg (by rw [hk]; decide)]
 simp
theorem lastW_gone {v : Int} {t : List B} {r : Rc} (hk : r.kind = 2) : lastW v t r = 2 :: textW v t r.target := by
 unfold lastW
 rw [if_pos hk]
theorem len_u64 {r : Rc} (h : r.deps.length ≤ 16) : IntKind.u64.wrap (((dpsA r.deps).length : Nat) : Int) = ((r.deps.length : Nat) : Int) := by
 rw [dpsA_length]
 show ((r.deps.length : Nat) : Int) % 18446744073709551616 = _
 omega
theorem goneR_kind {r : Rc} (h : r = goneR r) : r.kind = 2 := by rw [h]; rfl
theorem last_1 (r : Rc) (hm : MayR 1 r) {R} (h : R (.sl none 1 (byteEls (lastW 1 [] r))) [wO (lastW 1 [] r) (.ptr 1 0), tblF]) :
  ACalls Tryz.prog 156 [.ptr 0 0, vi 1, .agg r.enc] [wN (.ptr 1 0), tblF] R := by
 have hk := hm.kind.imp id goneR_kind
 have ht : ([] : List B).length < 1000000 := by simp
 have hF := frontW_len (v := 1) (t := []) hm ht
 have hD := depsW_take (v := 1) (t := []) hm ht
 have hsl := dpsA_length r.deps
 have hlu := len_u64 hm.deps
 have hd16 := hm.deps
 have hbl := blobP_len hm.t2
 have h2 := u64_vrn r.rule
 have ho := u64_vrn r.out
 have htx : textW 1 [] r.target = blobP r.target := by simp [textW]
 have hnm := hm.names
 have ht2 := hm.t2
 refine acalls_of_xwp (an := an156) tab_ok Tryz.func156 ?_
 rcases hk with hk | hk
 ·have e1 := lastW_trace (v := 1) (t := []) hk
  have eF : frontW 1 [] r = [1] ++ blobP r.target ++ vrn r.rule.toNat ++ vrn r.deps.length := by unfold frontW; rw [htx]; simp
  have eE : endW 1 [] r = vrn r.out.toNat := by simp [endW]
  rw [e1, eE] at h
  obtain ⟨k, tg, ru, ds, ou, we, ta⟩ := r
  dsimp only at hk hF hD hsl hlu hd16 hbl h2 ho hnm ht2 h htx eF
  subst hk
  conv => whnf
  refine blob_F [1] tg (by simp) (by omega) ?_
  conv => whnf
  refine number_F ([1] ++ blobP tg) ru.toNat ru.isLt (by simp; omega) ?_
  conv => whnf
  rw [hlu]
  refine number_F ([1] ++ blobP tg ++ vrn ru.toNat) ds.length (by omega) (by simp at h2 ⊢; omega) ?_
  rw [← eF]
  generalize frontW 1 [] (Rc.mk 1 tg ru ds ou we ta) = F at h hF eF ⊢
  conv => whnf
  refine LoopP.ind2 (fun (i : Nat) (b : B) => [(47, vi i)]) (fun i b => [(0, wO b (.ptr 1 0)), (1, tblF)]) (fun i _ => ds.length - i) (fun i b => i ≤ ds.length ∧ b = F ++ depsW 1 [] (ds.take i)) 0 F rfl ⟨by omega, by simp [depsW]⟩ ?_
  rintro i X ⟨h0, hX⟩ IH
  have hDi : X.length ≤ 1300 := by have := hD i; rw [hX, List.length_append]; omega
  conv => whnf
  refine br_intro (fun hc => ?_) (fun hc => ?_)
  ·have hc := lt_of_decE hsl hc
   have hn := hnm ds[i] (List.getElem_mem hc)
   have eS : X ++ blobP ds[i].name ++ vrn ds[i].hash.toNat = F ++ depsW 1 [] (ds.take (i + 1)) := by
    rw [depsW_snoc hc, hX]
    simp [depW, textW]
   have IH := IH (i + 1) _ ⟨hc, eS⟩ (by omega)
   have hbl2 := blobP_len hn.2
   (conv => whnf); (repeat ((with_reducible refine must_intro ?_ ?_); exact decide_eq_true (by omega); (conv => whnf)))
   refine idxK_map_intro (show (i : Int).toNat < ds.length by simpa using hc) ?_
   rw [show ds[(i : Int).toNat]'(by simpa using hc) = ds[i] from by congr 1]
   generalize ds[i] = d at IH hn hbl2 eS ⊢
   clear hX eS
   conv => whnf
   refine dep_1 X d (by omega) (by omega) ?_
   conv => whnf
   refine number_F (X ++ blobP d.name) d.hash.toNat d.hash.isLt (by rw [List.length_append]; omega) ?_
   conv => whnf
   rw [i64_nat (by omega)]
   exact IH
  ·have hc := ge_of_decE hsl hc
   have e : i = ds.length := by omega
   subst e
   rw [List.take_length] at hX
   rw [← hX] at h
   clear hX
   conv => whnf
   refine number_F X ou.toNat ou.isLt (by omega) ?_
   conv => whnf
   exact h
 ·have e1 := lastW_gone (v := 1) (t := []) hk
  rw [e1, htx] at h
  obtain ⟨k, tg, ru, ds, ou, we, ta⟩ := r
  dsimp only at hk hbl ht2 h
  subst hk
  conv => whnf
  refine blob_F [2] tg (by simp) (by omega) ?_
  conv => whnf
  exact h
theorem last_2 (r : Rc) (l : List B) (hm : MayR 2 r) (hl : l.length < 100000) (ht : r.target ∈ l) (hds : ∀ d ∈ r.deps, d.name ∈ l) (htg : r.tag ≠ [] → r.tag ∈ l) {R} (h : R (.sl none 1 (byteEls (lastW 2 l r))) [wO (lastW 2 l r) (.ptr 1 0), tblO 2 3 l, tblR l, tblM l]) :
  ACalls Tryz.prog 156 [.ptr 0 0, vi 2, .agg r.enc] [wN (.ptr 1 0), tblO 2 3 l, tblR l, tblM l] R := by
 have hk := hm.kind.imp id goneR_kind
 have hF := frontW_len (v := 2) (t := l) hm (by omega)
 have hD := depsW_take (v := 2) (t := l) hm (by omega)
 have hsl := dpsA_length r.deps
 have hlu := len_u64 hm.deps
 have hd16 := hm.deps
 have hbl : (vrn (l.idxOf r.target)).length ≤ 10 := vrn_u64 (by have := List.idxOf_le_length (a := r.target) (l := l); omega)
 have h2 := u64_vrn r.rule
 have ho := u64_vrn r.out
 have hw := u64_vrn r.wen
 have htx : textW 2 l r.target = vrn (l.idxOf r.target) := by simp [textW]
 have hnm := hm.names
 have ht2 := hm.t2
 refine acalls_of_xwp (an := an156) tab_ok Tryz.func156 ?_
 rcases hk with hk | hk
 ·have e1 := lastW_trace (v := 2) (t := l) hk
  have eF : frontW 2 l r = [1] ++ vrn (l.idxOf r.target) ++ vrn r.rule.toNat ++ vrn r.deps.length := by unfold frontW; rw [htx]; simp
  have eE : endW 2 l r = vrn r.out.toNat ++ vrn r.wen.toNat := by simp [endW]
  rw [e1, eE] at h
  obtain ⟨k, tg, ru, ds, ou, we, ta⟩ := r
  dsimp only at hk hF hD hsl hlu hd16 hbl h2 ho hw hnm ht2 h htx eF ht hds htg
  subst hk
  conv => whnf
  refine known_O [1] l tg ht (by omega) (by simp) ?_
  conv => whnf
  refine number_O ([1] ++ vrn (l.idxOf tg)) l ru.toNat ru.isLt (by simp; omega) ?_
  conv => whnf
  rw [hlu]
  refine number_O ([1] ++ vrn (l.idxOf tg) ++ vrn ru.toNat) l ds.length (by omega) (by simp at h2 ⊢; omega) ?_
  rw [← eF]
  generalize frontW 2 l (Rc.mk 1 tg ru ds ou we ta) = F at h hF eF ⊢
  conv => whnf
  refine LoopP.ind2 (fun (i : Nat) (b : B) => [(47, vi i)]) (fun i b => [(0, wO b (.ptr 1 0)), (1, tblO 2 3 l), (2, tblR l), (3, tblM l)]) (fun i _ => ds.length - i) (fun i b => i ≤ ds.length ∧ b = F ++ depsW 2 l (ds.take i)) 0 F rfl ⟨by omega, by simp [depsW]⟩ ?_
  rintro i X ⟨h0, hX⟩ IH
  have hDi : X.length ≤ 1300 := by have := hD i; rw [hX, List.length_append]; omega
  conv => whnf
  refine br_intro (fun hc => ?_) (fun hc => ?_)
  ·have hc := lt_of_decE hsl hc
   have hn := hnm ds[i] (List.getElem_mem hc)
   have hin := hds ds[i] (List.getElem_mem hc)
   have hdl : (vrn (l.idxOf ds[i].name)).length ≤ 10 := vrn_u64 (by have := List.idxOf_le_length (a := ds[i].name) (l := l); omega)
   have eS : X ++ vrn (l.idxOf ds[i].name) ++ vrn ds[i].hash.toNat = F ++ depsW 2 l (ds.take (i + 1)) := by
    rw [depsW_snoc hc, hX]
    simp [depW, textW]
   have IH := IH (i + 1) _ ⟨hc, eS⟩ (by omega)
   (conv => whnf); (repeat ((with_reducible refine must_intro ?_ ?_); exact decide_eq_true (by omega); (conv => whnf)))
   refine idxK_map_intro (show (i : Int).toNat < ds.length by simpa using hc) ?_
   rw [show ds[(i : Int).toNat]'(by simpa using hc) = ds[i] from by congr 1]
   generalize ds[i] = d at IH hn hin hdl eS ⊢
   clear hX eS
   conv => whnf
   refine dep_2 X l d hin (by omega) (by omega) ?_
   conv => whnf
   refine number_O (X ++ vrn (l.idxOf d.name)) l d.hash.toNat d.hash.isLt (by rw [List.length_append]; omega) ?_
   conv => whnf
   rw [i64_nat (by omega)]
   exact IH
  ·have hc := ge_of_decE hsl hc
   have e : i = ds.length := by omega
   subst e
   rw [List.take_length] at hX
   rw [← hX] at h
   clear hX
   simp only [← List.append_assoc] at h
   conv => whnf
   refine number_O X l ou.toNat ou.isLt (by omega) ?_
   conv => whnf
   refine number_O (X ++ vrn ou.toNat) l we.toNat we.isLt (by rw [List.length_append]; omega) ?_
   conv => whnf
   exact h
 ·have e1 := lastW_gone (v := 2) (t := l) hk
  rw [e1, htx] at h
  obtain ⟨k, tg, ru, ds, ou, we, ta⟩ := r
  dsimp only at hk hbl ht2 h ht
  subst hk
  conv => whnf
  refine known_O [2] l tg ht (by omega) (by simp) ?_
  conv => whnf
  exact h
theorem last_3 (r : Rc) (l : List B) (hm : MayR 3 r) (hl : l.length < 100000) (ht : r.target ∈ l) (hds : ∀ d ∈ r.deps, d.name ∈ l) (htg : r.tag ≠ [] → r.tag ∈ l) {R} (h : R (.sl none 1 (byteEls (lastW 3 l r))) [wO (lastW 3 l r) (.ptr 1 0), tblO 2 3 l, tblR l, tblM l]) :
  ACalls Tryz.prog 156 [.ptr 0 0, vi 3, .agg r.enc] [wN (.ptr 1 0), tblO 2 3 l, tblR l, tblM l] R := by
 have hk := hm.kind.imp id goneR_kind
 have hF := frontW_len (v := 3) (t := l) hm (by omega)
 have hD := depsW_take (v := 3) (t := l) hm (by omega)
 have hsl := dpsA_length r.deps
 have hlu := len_u64 hm.deps
 have hd16 := hm.deps
 have hbl : (vrn (l.idxOf r.target)).length ≤ 10 := vrn_u64 (by have := List.idxOf_le_length (a := r.target) (l := l); omega)
 have h2 := u64_vrn r.rule
 have ho := u64_vrn r.out
 have hw := u64_vrn r.wen
 have htx : textW 3 l r.target = vrn (l.idxOf r.target) := by simp [textW]
 have hnm := hm.names
 have ht2 := hm.t2
 refine acalls_of_xwp (an := an156) tab_ok Tryz.func156 ?_
 rcases hk with hk | hk
 ·have e1 := lastW_trace (v := 3) (t := l) hk
  have eF : frontW 3 l r = [1] ++ vrn (l.idxOf r.target) ++ vrn r.rule.toNat ++ vrn r.deps.length := by unfold frontW; rw [htx]; simp
  have eE : endW 3 l r = vrn r.out.toNat ++ vrn r.wen.toNat ++ tagW l r.tag := by simp [endW]
  rw [e1, eE] at h
  obtain ⟨k, tg, ru, ds, ou, we, ta⟩ := r
  dsimp only at hk hF hD hsl hlu hd16 hbl h2 ho hw hnm ht2 h htx eF ht hds htg
  subst hk
  conv => whnf
  refine known_O [1] l tg ht (by omega) (by simp) ?_
  conv => whnf
  refine number_O ([1] ++ vrn (l.idxOf tg)) l ru.toNat ru.isLt (by simp; omega) ?_
  conv => whnf
  rw [hlu]
  refine number_O ([1] ++ vrn (l.idxOf tg) ++ vrn ru.toNat) l ds.length (by omega) (by simp at h2 ⊢; omega) ?_
  rw [← eF]
  generalize frontW 3 l (Rc.mk 1 tg ru ds ou we ta) = F at h hF eF ⊢
  conv => whnf
  refine LoopP.ind2 (fun (i : Nat) (b : B) => [(47, vi i)]) (fun i b => [(0, wO b (.ptr 1 0)), (1, tblO 2 3 l), (2, tblR l), (3, tblM l)]) (fun i _ => ds.length - i) (fun i b => i ≤ ds.length ∧ b = F ++ depsW 3 l (ds.take i)) 0 F rfl ⟨by omega, by simp [depsW]⟩ ?_
  rintro i X ⟨h0, hX⟩ IH
  have hDi : X.length ≤ 1300 := by have := hD i; rw [hX, List.length_append]; omega
  conv => whnf
  refine br_intro (fun hc => ?_) (fun hc => ?_)
  ·have hc := lt_of_decE hsl hc
   have hn := hnm ds[i] (List.getElem_mem hc)
   have hin := hds ds[i] (List.getElem_mem hc)
   have hdl : (vrn (depN l ds[i])).length ≤ 10 := vrn_u64 (by have := List.idxOf_le_length (a := ds[i].name) (l := l); unfold depN; split <;> omega)
   have eS : X ++ vrn (depN l ds[i]) ++ vrn ds[i].hash.toNat = F ++ depsW 3 l (ds.take (i + 1)) := by
    rw [depsW_snoc hc, hX]
    simp [depW, textW]
   have IH := IH (i + 1) _ ⟨hc, eS⟩ (by omega)
   (conv => whnf); (repeat ((with_reducible refine must_intro ?_ ?_); exact decide_eq_true (by omega); (conv => whnf)))
   refine idxK_map_intro (show (i : Int).toNat < ds.length by simpa using hc) ?_
   rw [show ds[(i : Int).toNat]'(by simpa using hc) = ds[i] from by congr 1]
   generalize ds[i] = d at IH hn hin hdl eS ⊢
   clear hX eS
   conv => whnf
   refine dep_3 X l d hin (by omega) (by omega) ?_
   conv => whnf
   refine number_O (X ++ vrn (depN l d)) l d.hash.toNat d.hash.isLt (by rw [List.length_append]; omega) ?_
   conv => whnf
   rw [i64_nat (by omega)]
   exact IH
  ·have hc := ge_of_decE hsl hc
   have e : i = ds.length := by omega
   subst e
   rw [List.take_length] at hX
   rw [← hX] at h
   clear hX
   simp only [← List.append_assoc] at h
   conv => whnf
   refine number_O X l ou.toNat ou.isLt (by omega) ?_
   conv => whnf
   refine number_O (X ++ vrn ou.toNat) l we.toNat we.isLt (by rw [List.length_append]; omega) ?_
   conv => whnf
   refine tag_O (X ++ vrn ou.toNat ++ vrn we.toNat) l ta htg (by omega) (by rw [List.length_append, List.length_append]; omega) ?_
   conv => whnf
   exact h
 ·have e1 := lastW_gone (v := 3) (t := l) hk
  rw [e1, htx] at h
  obtain ⟨k, tg, ru, ds, ou, we, ta⟩ := r
  dsimp only at hk hbl ht2 h ht
  subst hk
  conv => whnf
  refine known_O [2] l tg ht (by omega) (by simp) ?_
  conv => whnf
  exact h
def rowsB (l : List B) : List (List AV) := l.map fun p => [.sl none 1 (byteEls p)]
theorem rowsB_length (l : List B) : (rowsB l).length = l.length := by simp [rowsB]
theorem rowsB_append (l m : List B) : rowsB (l ++ m) = rowsB l ++ rowsB m := by simp [rowsB]
theorem bytes_bytes : (tab.ti 82).bytes = 24 := rfl
theorem def_els (s : B) : [[AV.val (.int .u8 0)]] ++ byteEls s = byteEls (defP s) := rfl
theorem byteA_ofB (s : B) : byteA (ofB s) = byteEls s := by
 unfold byteA byteEls
 rw [show (ofB s).data.toList = s from bs_ofB s]
theorem skn_1 {R} (h : R (.val (.bool true)) []) : ACalls Tryz.prog 154 [vi 1] [] R := by
 refine acalls_of_xwp (an := an154) tab_ok Tryz.func154 ?_
 conv => whnf
 exact h
theorem skn_2 {R} (h : R (.val (.bool true)) []) : ACalls Tryz.prog 154 [vi 2] [] R := by
 refine acalls_of_xwp (an := an154) tab_ok Tryz.func154 ?_
 conv => whnf
 exact h
theorem skn_3 {R} (h : R (.val (.bool true)) []) : ACalls Tryz.prog 154 [vi 3] [] R := by
 refine acalls_of_xwp (an := an154) tab_ok Tryz.func154 ?_
 conv => whnf
 exact h
theorem sPut_1 (r : Rc) (hm : mayP 1 r = true) {R} (h : R (.tup [.sl none 1 (rowsB (payP 1 [] r)), vi 0]) [tblF]) : ACalls Tryz.prog 121 [vi 1, .ptr 0 0, .agg r.enc] [tblF] R := by
 have hM := may_all hm
 have e : payP 1 [] r = [lastW 1 [] r] := by simp [payP, defsP, addT]
 rw [e] at h
 have hd := hM.deps
 refine acalls_of_xwp (an := an121) tab_ok Tryz.func121 ?_
 conv => whnf
 refine skn_1 ?_
 conv => whnf
 refine May_calls 1 r (by omega) fun p hp => ?_
 rw [hm] at hp
 subst hp
 conv => whnf
 refine last_1 r hM ?_
 conv => whnf
 refine ⟨(by rw [bytes_bytes]; decide : 1 * ((tab.ti 82).bytes + 1) ≤ 140737488355328), ?_⟩
 conv => whnf
 exact h
theorem sNo_1F (r : Rc) (hd : r.deps.length < 100000) (hm : mayP 1 r = false) {R} (h : R (.tup [.val (.slice none 0 0), vi 1]) [tblF]) : ACalls Tryz.prog 121 [vi 1, .ptr 0 0, .agg r.enc] [tblF] R := by
 refine acalls_of_xwp (an := an121) tab_ok Tryz.func121 ?_
 conv => whnf
 refine skn_1 ?_
 conv => whnf
 refine May_calls 1 r hd fun p hp => ?_
 rw [hm] at hp
 subst hp
 conv => whnf
 exact h
theorem sNo_2F (r : Rc) (hd : r.deps.length < 100000) (hm : mayP 2 r = false) {R} (h : R (.tup [.val (.slice none 0 0), vi 1]) [tblF]) : ACalls Tryz.prog 121 [vi 2, .ptr 0 0, .agg r.enc] [tblF] R := by
 refine acalls_of_xwp (an := an121) tab_ok Tryz.func121 ?_
 conv => whnf
 refine skn_2 ?_
 conv => whnf
 refine May_calls 2 r hd fun p hp => ?_
 rw [hm] at hp
 subst hp
 conv => whnf
 exact h
theorem sNo_3F (r : Rc) (hd : r.deps.length < 100000) (hm : mayP 3 r = false) {R} (h : R (.tup [.val (.slice none 0 0), vi 1]) [tblF]) : ACalls Tryz.prog 121 [vi 3, .ptr 0 0, .agg r.enc] [tblF] R := by
 refine acalls_of_xwp (an := an121) tab_ok Tryz.func121 ?_
 conv => whnf
 refine skn_3 ?_
 conv => whnf
 refine May_calls 3 r hd fun p hp => ?_
 rw [hm] at hp
 subst hp
 conv => whnf
 exact h
theorem sNo_2O (r : Rc) (l : List B) (hd : r.deps.length < 100000) (hm : mayP 2 r = false) {R} (h : R (.tup [.val (.slice none 0 0), vi 1]) [tblO 1 2 l, tblR l, tblM l]) : ACalls Tryz.prog 121 [vi 2, .ptr 0 0, .agg r.enc] [tblO 1 2 l, tblR l, tblM l] R := by
 refine acalls_of_xwp (an := an121) tab_ok Tryz.func121 ?_
 conv => whnf
 refine skn_2 ?_
 conv => whnf
 refine May_calls 2 r hd fun p hp => ?_
 rw [hm] at hp
 subst hp
 conv => whnf
 exact h
theorem sNo_3O (r : Rc) (l : List B) (hd : r.deps.length < 100000) (hm : mayP 3 r = false) {R} (h : R (.tup [.val (.slice none 0 0), vi 1]) [tblO 1 2 l, tblR l, tblM l]) : ACalls Tryz.prog 121 [vi 3, .ptr 0 0, .agg r.enc] [tblO 1 2 l, tblR l, tblM l] R := by
 refine acalls_of_xwp (an := an121) tab_ok Tryz.func121 ?_
 conv => whnf
 refine skn_3 ?_
 conv => whnf
 refine May_calls 3 r hd fun p hp => ?_
 rw [hm] at hp
 subst hp
 conv => whnf
 exact h
theorem sPut_2O (r : Rc) (l : List B) (hl : l.length < 90000) (hm : mayP 2 r = true) {R} (h : R (.tup [.sl none 1 (rowsB (payP 2 l r)), vi 0]) [tblO 1 2 (addT 2 l r), tblR (addT 2 l r), tblM (addT 2 l r)]) : ACalls Tryz.prog 121 [vi 2, .ptr 0 0, .agg r.enc] [tblO 1 2 l, tblR l, tblM l] R := by
 have hM := may_all hm
 have hd := hM.deps
 have hml := namesR_len r
 have hT1 := addT_mem (v := 2) (by decide) l r (x := r.target) (by simp [textsR])
 have hT2 : ∀ d ∈ r.deps, d.name ∈ addT 2 l r := fun d hd => addT_mem (by decide) l r (List.mem_cons_of_mem _ (List.mem_append_left _ (List.mem_map_of_mem hd)))
 have hT3 : r.tag ≠ [] → r.tag ∈ addT 2 l r := fun e => addT_mem (by decide) l r (by simp [textsR, e])
 have hTl := addT_len 2 l r
 have eA : addT 2 l r = (namesR r).foldl tblP l := addT_more (by decide) l r
 have eP : payP 2 l r = (newsP l (namesR r)).map defP ++ [lastW 2 (addT 2 l r) r] := by simp [payP, defsP]
 rw [eP] at h
 have hne := namesR_ne r
 have h64 : ∀ s ∈ namesR r, s.length ≤ 64 := fun s hs => (textsR_lens hM s (tblN_mem.1 hs)).2
 generalize hmr : namesR r = m at h hml eA eP hne h64
 generalize addT 2 l r = T at h hT1 hT2 hT3 hTl eA eP
 refine acalls_of_xwp (an := an121) tab_ok Tryz.func121 ?_
 have hsl := strs_length m
 conv => whnf
 refine skn_2 ?_
 conv => whnf
 refine May_calls 2 r (by omega) fun p hp => ?_
 rw [hm] at hp
 subst hp
 conv => whnf
 refine rNames_calls r (by omega) ?_
 rw [hmr]
 conv => whnf
 refine LoopP.ind3 (fun (i : Nat) (t o : List B) => [(8, .sl (some (nameOf 8)) 1 (rowsB o)), (30, vi i)]) (fun i t o => [(0, tblO 1 2 t), (1, tblR t), (2, tblM t), (nameOf 8, .row 82 1 o.length)]) (fun i _ _ => m.length - i) (fun i t o => i ≤ m.length ∧ 0 ≤ i ∧ o ++ (newsP t (m.drop i)).map defP = (newsP l m).map defP ∧ (m.drop i).foldl tblP t = m.foldl tblP l ∧ o.length ≤ i ∧ t.length ≤ l.length + i) 0 l [] rfl ⟨by omega, by omega, by simp, by simp, by simp, by omega⟩ ?_
 rintro i t o ⟨h0, hi1, ho1, ho2, hl1, hl2⟩ IH
 have hol : o.length ≤ 60 := by omega
 have hrl := rowsB_length o
 conv => whnf
 refine br_intro (fun hc => ?_) (fun hc => ?_)
 ·have hc := lt_of_decE hsl hc
  have IH0 := IH (i + 1)
  clear IH
  rw [List.drop_eq_getElem_cons hc] at ho1 ho2
  rw [newsP] at ho1
  rw [List.foldl_cons] at ho2
  (conv => whnf); (repeat ((with_reducible refine must_intro ?_ ?_); exact decide_eq_true (by omega); (conv => whnf)))
  refine idxK_map_intro (show (i : Int).toNat < m.length by simpa using hc) ?_
  rw [show m[(i : Int).toNat]'(by simpa using hc) = m[i] from by congr 1]
  have h64s := h64 m[i] (List.getElem_mem hc)
  generalize m[i] = s at ho1 ho2 h64s ⊢
  have eB := byteA_ofB s
  have hsl2 := bel_length s
  by_cases hs : s ∈ t
  ·have IH := IH0 t o ⟨by omega, by omega, by rw [if_pos hs] at ho1; exact ho1, by rw [tblP_some hs] at ho2; exact ho2, by omega, by omega⟩ (by omega)
   conv => whnf
   refine ID_old t s hs fun j => ?_
   conv => whnf
   rw [i64_nat (by omega)]
   exact IH
  ·have IH := IH0 (t ++ [s]) (o ++ [defP s]) ⟨by omega, by omega, by rw [if_neg hs] at ho1; rw [← ho1]; simp, by rw [tblP_none hs] at ho2; exact ho2, by simp; omega, by simp; omega⟩ (by omega)
   rw [rowsB_append] at IH
   conv => whnf
   refine ID_more t s (by omega) hs fun j => ?_
   conv => whnf
   refine ⟨rfl, by rw [bel_bytes]; rw [eB]; simp only [List.length_append, hsl2, List.length_cons, List.length_nil]; omega, ?_⟩
   rw [eB, def_els]
   conv => whnf
   refine ⟨hrl.symm, by rw [hrl, bytes_bytes]; simp; omega, ?_⟩
   conv => whnf
   rw [i64_nat (by omega), hrl]
   rw [show (o ++ [defP s]).length = o.length + 1 by simp] at IH
   exact IH
 ·have hc := ge_of_decE hsl hc
  have e : i = m.length := by omega
  subst e
  rw [List.drop_length] at ho1 ho2
  rw [show newsP t [] = [] from rfl, List.map_nil, List.append_nil] at ho1
  rw [List.foldl_nil] at ho2
  rw [← eA] at ho2
  subst ho2
  rw [← ho1, rowsB_append] at h
  conv => whnf
  refine last_2 r t hM (by omega) hT1 hT2 hT3 ?_
  conv => whnf
  refine ⟨hrl.symm, by rw [hrl, bytes_bytes]; simp; omega, ?_⟩
  conv => whnf
  exact h
theorem sPut_2F (r : Rc) (hm : mayP 2 r = true) {R} (h : R (.tup [.sl none 1 (rowsB (payP 2 [] r)), vi 0]) [tblO 1 2 (addT 2 [] r), tblR (addT 2 [] r), tblM (addT 2 [] r)]) : ACalls Tryz.prog 121 [vi 2, .ptr 0 0, .agg r.enc] [tblF] R := by
 have hM := may_all hm
 have hd := hM.deps
 have hml := namesR_len r
 have hT1 := addT_mem (v := 2) (by decide) [] r (x := r.target) (by simp [textsR])
 have hT2 : ∀ d ∈ r.deps, d.name ∈ addT 2 [] r := fun d hd => addT_mem (by decide) [] r (List.mem_cons_of_mem _ (List.mem_append_left _ (List.mem_map_of_mem hd)))
 have hT3 : r.tag ≠ [] → r.tag ∈ addT 2 [] r := fun e => addT_mem (by decide) [] r (by simp [textsR, e])
 have hTl := addT_len 2 [] r
 have eA : addT 2 [] r = (namesR r).foldl tblP [] := addT_more (by decide) [] r
 have eP : payP 2 [] r = (newsP [] (namesR r)).map defP ++ [lastW 2 (addT 2 [] r) r] := by simp [payP, defsP]
 rw [eP] at h
 have hne := namesR_ne r
 have h64 : ∀ s ∈ namesR r, s.length ≤ 64 := fun s hs => (textsR_lens hM s (tblN_mem.1 hs)).2
 generalize hmr : namesR r = m at h hml eA eP hne h64
 generalize addT 2 [] r = T at h hT1 hT2 hT3 hTl eA eP
 refine acalls_of_xwp (an := an121) tab_ok Tryz.func121 ?_
 have hsl := strs_length m
 conv => whnf
 refine skn_2 ?_
 conv => whnf
 refine May_calls 2 r (by omega) fun p hp => ?_
 rw [hm] at hp
 subst hp
 conv => whnf
 refine rNames_calls r (by omega) ?_
 rw [hmr]
 conv => whnf
 obtain ⟨a, n, rfl⟩ := List.exists_cons_of_ne_nil hne
 refine LoopP.step ?_
 conv => whnf
 refine br_true (by rw [hsl]; simp <;> omega) ?_
 conv => whnf
 refine ID_new a ?_
 have eB := byteA_ofB a
 have hsl2 := bel_length a
 have ha64 := h64 a List.mem_cons_self
 conv => whnf
 refine ⟨rfl, by rw [bel_bytes]; rw [eB]; simp only [List.length_append, hsl2, List.length_cons, List.length_nil]; omega, ?_⟩
 rw [eB, def_els]
 conv => whnf
 refine ⟨rfl, by rw [bytes_bytes]; simp, ?_⟩
 conv => whnf
 refine LoopP.ind3 (fun (i : Nat) (t o : List B) => [(8, .sl (some (nameOf 8)) 1 (rowsB o)), (30, vi i)]) (fun i t o => [(0, tblO (freshN 37 0) (freshN 37 1) t), (nameOf 8, .row 82 1 o.length), (freshN 37 0, tblR t), (freshN 37 1, tblM t)]) (fun i _ _ => (a :: n).length - i) (fun i t o => i ≤ (a :: n).length ∧ 1 ≤ i ∧ o ++ (newsP t ((a :: n).drop i)).map defP = (newsP [] (a :: n)).map defP ∧ ((a :: n).drop i).foldl tblP t = (a :: n).foldl tblP [] ∧ o.length ≤ i ∧ t.length ≤ i) 1 [a] [defP a] rfl ⟨by simp, by omega, by simp [newsP], by simp [tblP], by simp, by simp⟩ ?_
 rintro i t o ⟨h0, hi1, ho1, ho2, hl1, hl2⟩ IH
 have hol : o.length ≤ 60 := by omega
 have hrl := rowsB_length o
 conv => whnf
 refine br_intro (fun hc => ?_) (fun hc => ?_)
 ·have hc := lt_of_decE hsl hc
  have IH0 := IH (i + 1)
  clear IH
  rw [List.drop_eq_getElem_cons hc] at ho1 ho2
  rw [newsP] at ho1
  rw [List.foldl_cons] at ho2
  (conv => whnf); (repeat ((with_reducible refine must_intro ?_ ?_); exact decide_eq_true (by omega); (conv => whnf)))
  refine idxK_map_intro (show (i : Int).toNat < (a :: n).length by simpa using hc) ?_
  rw [show (a :: n)[(i : Int).toNat]'(by simpa using hc) = (a :: n)[i] from by congr 1]
  have h64s := h64 (a :: n)[i] (List.getElem_mem hc)
  generalize (a :: n)[i] = s at ho1 ho2 h64s ⊢
  have eB := byteA_ofB s
  have hsl2 := bel_length s
  by_cases hs : s ∈ t
  ·have IH := IH0 t o ⟨by omega, by omega, by rw [if_pos hs] at ho1; exact ho1, by rw [tblP_some hs] at ho2; exact ho2, by omega, by omega⟩ (by omega)
   conv => whnf
   refine ID_old t s hs fun j => ?_
   conv => whnf
   rw [i64_nat (by omega)]
   exact IH
  ·have IH := IH0 (t ++ [s]) (o ++ [defP s]) ⟨by omega, by omega, by rw [if_neg hs] at ho1; rw [← ho1]; simp, by rw [tblP_none hs] at ho2; exact ho2, by simp; omega, by simp; omega⟩ (by omega)
   rw [rowsB_append] at IH
   conv => whnf
   refine ID_more t s (by omega) hs fun j => ?_
   conv => whnf
   refine ⟨rfl, by rw [bel_bytes]; rw [eB]; simp only [List.length_append, hsl2, List.length_cons, List.length_nil]; omega, ?_⟩
   rw [eB, def_els]
   conv => whnf
   refine ⟨hrl.symm, by rw [hrl, bytes_bytes]; simp; omega, ?_⟩
   conv => whnf
   rw [i64_nat (by omega), hrl]
   rw [show (o ++ [defP s]).length = o.length + 1 by simp] at IH
   exact IH
 ·have hc := ge_of_decE hsl hc
  have e : i = (a :: n).length := by omega
  subst e
  rw [List.drop_length] at ho1 ho2
  rw [show newsP t [] = [] from rfl, List.map_nil, List.append_nil] at ho1
  rw [List.foldl_nil] at ho2
  rw [← eA] at ho2
  subst ho2
  rw [← ho1, rowsB_append] at h
  conv => whnf
  refine last_2 r t hM (by omega) hT1 hT2 hT3 ?_
  conv => whnf
  refine ⟨hrl.symm, by rw [hrl, bytes_bytes]; simp; omega, ?_⟩
  conv => whnf
  exact h
theorem sPut_3O (r : Rc) (l : List B) (hl : l.length < 90000) (hm : mayP 3 r = true) {R} (h : R (.tup [.sl none 1 (rowsB (payP 3 l r)), vi 0]) [tblO 1 2 (addT 3 l r), tblR (addT 3 l r), tblM (addT 3 l r)]) : ACalls Tryz.prog 121 [vi 3, .ptr 0 0, .agg r.enc] [tblO 1 2 l, tblR l, tblM l] R := by
 have hM := may_all hm
 have hd := hM.deps
 have hml := namesR_len r
 have hT1 := addT_mem (v := 3) (by decide) l r (x := r.target) (by simp [textsR])
 have hT2 : ∀ d ∈ r.deps, d.name ∈ addT 3 l r := fun d hd => addT_mem (by decide) l r (List.mem_cons_of_mem _ (List.mem_append_left _ (List.mem_map_of_mem hd)))
 have hT3 : r.tag ≠ [] → r.tag ∈ addT 3 l r := fun e => addT_mem (by decide) l r (by simp [textsR, e])
 have hTl := addT_len 3 l r
 have eA : addT 3 l r = (namesR r).foldl tblP l := addT_more (by decide) l r
 have eP : payP 3 l r = (newsP l (namesR r)).map defP ++ [lastW 3 (addT 3 l r) r] := by simp [payP, defsP]
 rw [eP] at h
 have hne := namesR_ne r
 have h64 : ∀ s ∈ namesR r, s.length ≤ 64 := fun s hs => (textsR_lens hM s (tblN_mem.1 hs)).2
 generalize hmr : namesR r = m at h hml eA eP hne h64
 generalize addT 3 l r = T at h hT1 hT2 hT3 hTl eA eP
 refine acalls_of_xwp (an := an121) tab_ok Tryz.func121 ?_
 have hsl := strs_length m
 conv => whnf
 refine skn_3 ?_
 conv => whnf
 refine May_calls 3 r (by omega) fun p hp => ?_
 rw [hm] at hp
 subst hp
 conv => whnf
 refine rNames_calls r (by omega) ?_
 rw [hmr]
 conv => whnf
 refine LoopP.ind3 (fun (i : Nat) (t o : List B) => [(8, .sl (some (nameOf 8)) 1 (rowsB o)), (30, vi i)]) (fun i t o => [(0, tblO 1 2 t), (1, tblR t), (2, tblM t), (nameOf 8, .row 82 1 o.length)]) (fun i _ _ => m.length - i) (fun i t o => i ≤ m.length ∧ 0 ≤ i ∧ o ++ (newsP t (m.drop i)).map defP = (newsP l m).map defP ∧ (m.drop i).foldl tblP t = m.foldl tblP l ∧ o.length ≤ i ∧ t.length ≤ l.length + i) 0 l [] rfl ⟨by omega, by omega, by simp, by simp, by simp, by omega⟩ ?_
 rintro i t o ⟨h0, hi1, ho1, ho2, hl1, hl2⟩ IH
 have hol : o.length ≤ 60 := by omega
 have hrl := rowsB_length o
 conv => whnf
 refine br_intro (fun hc => ?_) (fun hc => ?_)
 ·have hc := lt_of_decE hsl hc
  have IH0 := IH (i + 1)
  clear IH
  rw [List.drop_eq_getElem_cons hc] at ho1 ho2
  rw [newsP] at ho1
  rw [List.foldl_cons] at ho2
  (conv => whnf); (repeat ((with_reducible refine must_intro ?_ ?_); exact decide_eq_true (by omega); (conv => whnf)))
  refine idxK_map_intro (show (i : Int).toNat < m.length by simpa using hc) ?_
  rw [show m[(i : Int).toNat]'(by simpa using hc) = m[i] from by congr 1]
  have h64s := h64 m[i] (List.getElem_mem hc)
  generalize m[i] = s at ho1 ho2 h64s ⊢
  have eB := byteA_ofB s
  have hsl2 := bel_length s
  by_cases hs : s ∈ t
  ·have IH := IH0 t o ⟨by omega, by omega, by rw [if_pos hs] at ho1; exact ho1, by rw [tblP_some hs] at ho2; exact ho2, by omega, by omega⟩ (by omega)
   conv => whnf
   refine ID_old t s hs fun j => ?_
   conv => whnf
   rw [i64_nat (by omega)]
   exact IH
  ·have IH := IH0 (t ++ [s]) (o ++ [defP s]) ⟨by omega, by omega, by rw [if_neg hs] at ho1; rw [← ho1]; simp, by rw [tblP_none hs] at ho2; exact ho2, by simp; omega, by simp; omega⟩ (by omega)
   rw [rowsB_append] at IH
   conv => whnf
   refine ID_more t s (by omega) hs fun j => ?_
   conv => whnf
   refine ⟨rfl, by rw [bel_bytes]; rw [eB]; simp only [List.length_append, hsl2, List.length_cons, List.length_nil]; omega, ?_⟩
   rw [eB, def_els]
   conv => whnf
   refine ⟨hrl.symm, by rw [hrl, bytes_bytes]; simp; omega, ?_⟩
   conv => whnf
   rw [i64_nat (by omega), hrl]
   rw [show (o ++ [defP s]).length = o.length + 1 by simp] at IH
   exact IH
 ·have hc := ge_of_decE hsl hc
  have e : i = m.length := by omega
  subst e
  rw [List.drop_length] at ho1 ho2
  rw [show newsP t [] = [] from rfl, List.map_nil, List.append_nil] at ho1
  rw [List.foldl_nil] at ho2
  rw [← eA] at ho2
  subst ho2
  rw [← ho1, rowsB_append] at h
  conv => whnf
  refine last_3 r t hM (by omega) hT1 hT2 hT3 ?_
  conv => whnf
  refine ⟨hrl.symm, by rw [hrl, bytes_bytes]; simp; omega, ?_⟩
  conv => whnf
  exact h
theorem sPut_3F (r : Rc) (hm : mayP 3 r = true) {R} (h : R (.tup [.sl none 1 (rowsB (payP 3 [] r)), vi 0]) [tblO 1 2 (addT 3 [] r), tblR (addT 3 [] r), tblM (addT 3 [] r)]) : ACalls Tryz.prog 121 [vi 3, .ptr 0 0, .agg r.enc] [tblF] R := by
 have hM := may_all hm
 have hd := hM.deps
 have hml := namesR_len r
 have hT1 := addT_mem (v := 3) (by decide) [] r (x := r.target) (by simp [textsR])
 have hT2 : ∀ d ∈ r.deps, d.name ∈ addT 3 [] r := fun d hd => addT_mem (by decide) [] r (List.mem_cons_of_mem _ (List.mem_append_left _ (List.mem_map_of_mem hd)))
 have hT3 : r.tag ≠ [] → r.tag ∈ addT 3 [] r := fun e => addT_mem (by decide) [] r (by simp [textsR, e])
 have hTl := addT_len 3 [] r
 have eA : addT 3 [] r = (namesR r).foldl tblP [] := addT_more (by decide) [] r
 have eP : payP 3 [] r = (newsP [] (namesR r)).map defP ++ [lastW 3 (addT 3 [] r) r] := by simp [payP, defsP]
 rw [eP] at h
 have hne := namesR_ne r
 have h64 : ∀ s ∈ namesR r, s.length ≤ 64 := fun s hs => (textsR_lens hM s (tblN_mem.1 hs)).2
 generalize hmr : namesR r = m at h hml eA eP hne h64
 generalize addT 3 [] r = T at h hT1 hT2 hT3 hTl eA eP
 refine acalls_of_xwp (an := an121) tab_ok Tryz.func121 ?_
 have hsl := strs_length m
 conv => whnf
 refine skn_3 ?_
 conv => whnf
 refine May_calls 3 r (by omega) fun p hp => ?_
 rw [hm] at hp
 subst hp
 conv => whnf
 refine rNames_calls r (by omega) ?_
 rw [hmr]
 conv => whnf
 obtain ⟨a, n, rfl⟩ := List.exists_cons_of_ne_nil hne
 refine LoopP.step ?_
 conv => whnf
 refine br_true (by rw [hsl]; simp <;> omega) ?_
 conv => whnf
 refine ID_new a ?_
 have eB := byteA_ofB a
 have hsl2 := bel_length a
 have ha64 := h64 a List.mem_cons_self
 conv => whnf
 refine ⟨rfl, by rw [bel_bytes]; rw [eB]; simp only [List.length_append, hsl2, List.length_cons, List.length_nil]; omega, ?_⟩
 rw [eB, def_els]
 conv => whnf
 refine ⟨rfl, by rw [bytes_bytes]; simp, ?_⟩
 conv => whnf
 refine LoopP.ind3 (fun (i : Nat) (t o : List B) => [(8, .sl (some (nameOf 8)) 1 (rowsB o)), (30, vi i)]) (fun i t o => [(0, tblO (freshN 37 0) (freshN 37 1) t), (nameOf 8, .row 82 1 o.length), (freshN 37 0, tblR t), (freshN 37 1, tblM t)]) (fun i _ _ => (a :: n).length - i) (fun i t o => i ≤ (a :: n).length ∧ 1 ≤ i ∧ o ++ (newsP t ((a :: n).drop i)).map defP = (newsP [] (a :: n)).map defP ∧ ((a :: n).drop i).foldl tblP t = (a :: n).foldl tblP [] ∧ o.length ≤ i ∧ t.length ≤ i) 1 [a] [defP a] rfl ⟨by simp, by omega, by simp [newsP], by simp [tblP], by simp, by simp⟩ ?_
 rintro i t o ⟨h0, hi1, ho1, ho2, hl1, hl2⟩ IH
 have hol : o.length ≤ 60 := by omega
 have hrl := rowsB_length o
 conv => whnf
 refine br_intro (fun hc => ?_) (fun hc => ?_)
 ·have hc := lt_of_decE hsl hc
  have IH0 := IH (i + 1)
  clear IH
  rw [List.drop_eq_getElem_cons hc] at ho1 ho2
  rw [newsP] at ho1
  rw [List.foldl_cons] at ho2
  (conv => whnf); (repeat ((with_reducible refine must_intro ?_ ?_); exact decide_eq_true (by omega); (conv => whnf)))
  refine idxK_map_intro (show (i : Int).toNat < (a :: n).length by simpa using hc) ?_
  rw [show (a :: n)[(i : Int).toNat]'(by simpa using hc) = (a :: n)[i] from by congr 1]
  have h64s := h64 (a :: n)[i] (List.getElem_mem hc)
  generalize (a :: n)[i] = s at ho1 ho2 h64s ⊢
  have eB := byteA_ofB s
  have hsl2 := bel_length s
  by_cases hs : s ∈ t
  ·have IH := IH0 t o ⟨by omega, by omega, by rw [if_pos hs] at ho1; exact ho1, by rw [tblP_some hs] at ho2; exact ho2, by omega, by omega⟩ (by omega)
   conv => whnf
   refine ID_old t s hs fun j => ?_
   conv => whnf
   rw [i64_nat (by omega)]
   exact IH
  ·have IH := IH0 (t ++ [s]) (o ++ [defP s]) ⟨by omega, by omega, by rw [if_neg hs] at ho1; rw [← ho1]; simp, by rw [tblP_none hs] at ho2; exact ho2, by simp; omega, by simp; omega⟩ (by omega)
   rw [rowsB_append] at IH
   conv => whnf
   refine ID_more t s (by omega) hs fun j => ?_
   conv => whnf
   refine ⟨rfl, by rw [bel_bytes]; rw [eB]; simp only [List.length_append, hsl2, List.length_cons, List.length_nil]; omega, ?_⟩
   rw [eB, def_els]
   conv => whnf
   refine ⟨hrl.symm, by rw [hrl, bytes_bytes]; simp; omega, ?_⟩
   conv => whnf
   rw [i64_nat (by omega), hrl]
   rw [show (o ++ [defP s]).length = o.length + 1 by simp] at IH
   exact IH
 ·have hc := ge_of_decE hsl hc
  have e : i = (a :: n).length := by omega
  subst e
  rw [List.drop_length] at ho1 ho2
  rw [show newsP t [] = [] from rfl, List.map_nil, List.append_nil] at ho1
  rw [List.foldl_nil] at ho2
  rw [← eA] at ho2
  subst ho2
  rw [← ho1, rowsB_append] at h
  conv => whnf
  refine last_3 r t hM (by omega) hT1 hT2 hT3 ?_
  conv => whnf
  refine ⟨hrl.symm, by rw [hrl, bytes_bytes]; simp; omega, ?_⟩
  conv => whnf
  exact h
theorem ne1 {v : Int} (hv : v = 2 ∨ v = 3) : v ≠ 1 := by omega
theorem sNo_vF {v : Int} (hv : v = 2 ∨ v = 3) (r : Rc) (hd : r.deps.length < 100000) (hm : mayP v r = false) {R} (h : R (.tup [.val (.slice none 0 0), vi 1]) [tblF]) : ACalls Tryz.prog 121 [vi v, .ptr 0 0, .agg r.enc] [tblF] R := by
 rcases hv with rfl | rfl
 ·exact sNo_2F r hd hm h
 ·exact sNo_3F r hd hm h
theorem sNo_vO {v : Int} (hv : v = 2 ∨ v = 3) (r : Rc) (l : List B) (hd : r.deps.length < 100000) (hm : mayP v r = false) {R} (h : R (.tup [.val (.slice none 0 0), vi 1]) [tblO 1 2 l, tblR l, tblM l]) : ACalls Tryz.prog 121 [vi v, .ptr 0 0, .agg r.enc] [tblO 1 2 l, tblR l, tblM l] R := by
 rcases hv with rfl | rfl
 ·exact sNo_2O r l hd hm h
 ·exact sNo_3O r l hd hm h
theorem sPut_vO {v : Int} (hv : v = 2 ∨ v = 3) (r : Rc) (l : List B) (hl : l.length < 90000) (hm : mayP v r = true) {R} (h : R (.tup [.sl none 1 (rowsB (payP v l r)), vi 0]) [tblO 1 2 (addT v l r), tblR (addT v l r), tblM (addT v l r)]) : ACalls Tryz.prog 121 [vi v, .ptr 0 0, .agg r.enc] [tblO 1 2 l, tblR l, tblM l] R := by
 rcases hv with rfl | rfl
 ·exact sPut_2O r l hl hm h
 ·exact sPut_3O r l hl hm h
theorem sPut_vF {v : Int} (hv : v = 2 ∨ v = 3) (r : Rc) (hm : mayP v r = true) {R} (h : R (.tup [.sl none 1 (rowsB (payP v [] r)), vi 0]) [tblO 1 2 (addT v [] r), tblR (addT v [] r), tblM (addT v [] r)]) : ACalls Tryz.prog 121 [vi v, .ptr 0 0, .agg r.enc] [tblF] R := by
 rcases hv with rfl | rfl
 ·exact sPut_2F r hm h
 ·exact sPut_3F r hm h
theorem placeI_mem {T : List B} {s : B} (h : s ∈ T) : placeI T s = ((T.idxOf s : Nat) : Int) := by
 have h1 : T[T.idxOf s]? = some s := by rw [List.getElem?_eq_getElem (List.idxOf_lt_length_of_mem h), List.getElem_idxOf]
 have h2 : ∀ j, j < T.idxOf s → T[j]? ≠ some s := fun j hj e => by
  obtain ⟨hl, e⟩ := List.getElem?_eq_some_iff.1 e
  have := List.not_of_lt_findIdx hj
  simp [e] at this
 unfold placeI
 rw [placeOf_of h1 h2]
theorem rPutT_calls (l : List B) (s : B) (hl : l.length < 1000000) {R} (h : R (.sl none 1 (strs (tblP l s))) []) : ACalls Tryz.prog 166 [.sl none 1 (strs l), vs s] [] R := by
 refine acalls_of_xwp (an := an166) tab_ok Tryz.func166 ?_
 have hsl := strs_length l
 conv => whnf
 refine Place_calls l s hl rfl fun p hp => ?_
 conv => whnf
 refine br_intro (fun g => ?_) (fun g => ?_)
 ·have hm : s ∈ l := by
   have : 0 ≤ p := by simpa using g
   rw [hp] at this
   exact Classical.byContradiction fun e => by have := placeI_neg.2 e; omega
  rw [tblP_some hm] at h
  conv => whnf
  exact h
 ·have hm : s ∉ l := by
   have : p < 0 := by simpa using g
   rw [hp] at this
   exact placeI_neg.1 this
  rw [tblP_none hm] at h
  conv => whnf
  refine ⟨rfl, (by rw [bytes_str, hsl]; simp only [List.length_nil]; omega), ?_⟩
  conv => whnf
  refine ⟨by simp, (by rw [bytes_str]; simp only [List.length_append, List.length_cons, List.length_nil, hsl]; omega), ?_⟩
  conv => whnf
  rw [show [] ++ strs l ++ [[AV.val (Value.string (ofB s))]] = strs (l ++ [s]) from by simp [strs, vs]]
  exact h
theorem tblN_calls (l : List B) (hl : l.length < 1000000) {R} (h : R (.sl none 1 (strs (tblN l))) []) : ACalls Tryz.prog 197 [.sl none 1 (strs l)] [] R := by
 refine acalls_of_xwp (an := an197) tab_ok Tryz.func197 ?_
 have hsl := strs_length l
 conv => whnf
 refine LoopP.ind2 (fun (i : Nat) (t : List B) => [(3, .sl none 1 (strs t)), (4, vi i)]) (fun i t => []) (fun i _ => l.length - i) (fun i t => i ≤ l.length ∧ t.length ≤ i ∧ t = tblN (l.take i)) 0 [] rfl ⟨by omega, by simp, rfl⟩ ?_
 rintro i t ⟨h0, h1, h2⟩ IH
 conv => whnf
 refine br_intro (fun hc => ?_) (fun hc => ?_)
 ·have hi := lt_of_decE hsl hc
  (conv => whnf); (repeat ((with_reducible refine must_intro ?_ ?_); exact decide_eq_true (by omega); (conv => whnf)))
  refine idxK_map_intro (show (i : Int).toNat < l.length by simpa using hi) ?_
  rw [show l[(i : Int).toNat]'(by simpa using hi) = l[i] from by congr 1]
  conv => whnf
  refine rPutT_calls t l[i] (by omega) ?_
  have hn : tblP t l[i] = tblN (l.take (i + 1)) := by
   rw [h2, List.take_succ_eq_append_getElem hi]
   unfold tblN
   rw [List.foldl_append]
   rfl
  have IH := IH (i + 1) (tblP t l[i]) ⟨hi, by have := tblP_len t l[i]; omega, hn⟩ (by omega)
  conv => whnf
  rw [i64_nat (by omega)]
  exact IH
 ·have hi := ge_of_decE hsl hc
  rw [List.take_of_length_le hi] at h2
  subst h2
  conv => whnf
  exact h
theorem refNames_calls (r : Rc) (hd : r.deps.length < 50000) {R} (h : R (.sl none 1 (strs (namesR r))) []) : ACalls Tryz.prog 164 [.agg r.enc] [] R := by
 refine acalls_of_xwp (an := an164) tab_ok Tryz.func164 ?_
 have hsl := dpsA_length r.deps
 have hN : namesR r = tblN (textsR r) := rfl
 conv => whnf
 refine LoopP.ind1 (fun (i : Nat) => [(3, .sl (some (nameOf 7)) 1 (strs (r.target :: (r.deps.take i).map (·.name)))), (4, vi i)]) (fun i => [(nameOf 7, .row 9 1 (i + 1))]) (fun i => r.deps.length - i) (fun i => i ≤ r.deps.length) 0 rfl (by omega) ?_
 rintro i h0 IH
 have hnl : (strs (r.target :: (r.deps.take i).map (·.name))).length = i + 1 := by rw [strs_length]; simp; omega
 conv => whnf
 refine br_intro (fun hc => ?_) (fun hc => ?_)
 ·have hc := lt_of_decE hsl hc
  have IH := IH (i + 1) hc (by omega)
  have e1 : strs (r.target :: (r.deps.take i).map (·.name)) ++ [[vs r.deps[i].name]] = strs (r.target :: (r.deps.take (i + 1)).map (·.name)) := by rw [← textsR_take r i hc, strs_append]; rfl
  rw [← e1] at IH
  (conv => whnf); (repeat ((with_reducible refine must_intro ?_ ?_); exact decide_eq_true (by omega); (conv => whnf)))
  refine idxK_map_intro (show (i : Int).toNat < r.deps.length by simpa using hc) ?_
  rw [show r.deps[(i : Int).toNat]'(by simpa using hc) = r.deps[i] from by congr 1]
  generalize r.deps[i] = d at IH e1 ⊢
  conv => whnf
  refine ⟨hnl.symm, by rw [hnl, bytes_str]; simp; omega, ?_⟩
  conv => whnf
  rw [i64_nat (by omega), hnl]
  exact IH
 ·have hc := ge_of_decE hsl hc
  have e : i = r.deps.length := by omega
  subst e
  rw [List.take_length] at hnl ⊢
  have hdl : (r.deps.map (·.name)).length = r.deps.length := by simp
  conv => whnf
  refine br_intro (fun g => ?_) (fun g => ?_)
  ·have g : r.tag ≠ [] := by
    have g : (!decide (ofB r.tag = ofB [])) = true := g
    intro e
    rw [e] at g
    simp at g
   have hT : textsR r = r.target :: (r.deps.map (·.name) ++ [r.tag]) := by simp [textsR, g]
   have e1 : strs (r.target :: r.deps.map (·.name)) ++ [[vs r.tag]] = strs (textsR r) := by
    rw [hT, ← List.cons_append, strs_append]; rfl
   have htl := textsR_len r
   conv => whnf
   refine ⟨hnl.symm, by rw [hnl, bytes_str]; simp; omega, ?_⟩
   conv => whnf
   refine (show ACalls Tryz.prog 197 [.sl none 1 (strs (r.target :: r.deps.map (·.name)) ++ [[vs r.tag]])] [] _ from ?_)
   rw [e1]
   refine tblN_calls (textsR r) (by omega) ?_
   conv => whnf
   exact h
  ·have g : r.tag = [] := by
    have g : (!decide (ofB r.tag = ofB [])) = false := g
    have g : ofB r.tag = ofB [] := by simpa using g
    exact ofB_inj g
   have hT : textsR r = r.target :: r.deps.map (·.name) := by simp [textsR, g]
   rw [← hT]
   have htl := textsR_len r
   conv => whnf
   refine tblN_calls (textsR r) (by omega) ?_
   conv => whnf
   exact h
theorem refText_calls {v : Int} (T : List B) (hT : T.length < 1000000) (s : B) (hs : v ≠ 1 → s ∈ T) (hl : s.length < 1000000) {R} (h : R (vs (textW v T s)) []) : ACalls Tryz.prog 168 [vi v, .sl none 1 (strs T), vs s] [] R := by
 refine acalls_of_xwp (an := an168) tab_ok Tryz.func168 ?_
 unfold textW at h
 by_cases hv : v = 1
 ·subst hv
  rw [if_pos rfl] at h
  conv => whnf
  refine ref2Put_calls s (by omega) ?_
  conv => whnf
  exact h
 ·rw [if_neg hv] at h
  have hi := List.idxOf_lt_length_of_mem (hs hv)
  conv => whnf
  refine br_false (by simpa using hv) ?_
  conv => whnf
  refine Place_calls T s hT rfl fun p hp => ?_
  rw [placeI_mem (hs hv)] at hp
  subst hp
  conv => whnf
  rw [u64_n (by omega)]
  refine ref1Put_calls _ (by omega) ?_
  conv => whnf
  exact h
theorem wz0 (n : U) : ((n.toNat : Int) == 0) = decide (n = 0) := by
 by_cases e : n = 0
 ·simp [e]
 ·have : n.toNat ≠ 0 := fun x => e (BitVec.eq_of_toNat_eq (by simpa using x))
  rw [decide_eq_false e]; simp; omega
theorem wz1 (n : U) : ((n.toNat : Int) != 0) = decide (n ≠ 0) := by
 show (!((n.toNat : Int) == 0)) = _
 rw [wz0]; by_cases e : n = 0 <;> simp [e]
theorem dz0 (l : List Dp) : ((((dpsA l).length : Nat) : Int) == 0) = decide (l = []) := by
 rw [dpsA_length]
 cases l with
 | nil => rfl
 | cons a l => simp; omega
def preN (r : Rc) (i : Nat) : List B := r.target :: (r.deps.take i).map (·.name)
theorem preN_mem (r : Rc) {i : Nat} (hi : i ≤ r.deps.length) (s : B) : s ∉ preN r i ↔ s ≠ r.target ∧ ∀ (j : Nat) (hj : j < r.deps.length), j < i → r.deps[j].name ≠ s := by
 unfold preN
 simp only [List.mem_cons, List.mem_map, not_or, not_exists, not_and]
 refine and_congr Iff.rfl ⟨fun h j hj hji e => h r.deps[j] ?_ e, fun h d hd e => ?_⟩
 ·have : (r.deps.take i)[j]'(by simp; omega) = r.deps[j] := by simp
  rw [← this]; exact List.getElem_mem _
 ·obtain ⟨j, hj, rfl⟩ := List.getElem_of_mem hd
  simp only [List.length_take] at hj
  rw [List.getElem_take] at e
  exact h j (by omega) (by omega) e
theorem preN_succ (r : Rc) {i : Nat} (hi : i < r.deps.length) : preN r (i + 1) = preN r i ++ [r.deps[i].name] := by
 unfold preN
 rw [List.take_succ_eq_append_getElem hi, List.map_append, List.cons_append]
 rfl
theorem refMay_calls (v : Int) (r : Rc) (hd : r.deps.length < 100000) {R} (h : ∀ p, p = mayP v r → R (.val (.bool p)) []) : ACalls Tryz.prog 81 [vi v, .agg r.enc] [] R := by
 refine acalls_of_xwp (an := an81) tab_ok Tryz.func81 ?_
 have hst := size_ofB r.tag
 have hsl := dpsA_length r.deps
 conv => whnf
 refine br_intro (fun g1 => ?_) (fun g1 => ?_)
 ·conv => whnf
  exact h false (by rw [mayP, if_pos (by rw [g1]; rfl)])
 conv => whnf
 refine br_intro (fun g2 => ?_) (fun g2 => ?_)
 ·have g2 : 3 < v := by simpa using g2
  conv => whnf
  exact h false (by rw [mayP, if_pos (by rw [g1, decide_eq_true g2]; rfl)])
 have g2 : ¬ 3 < v := by simpa using g2
 have g1' : ¬ v < 1 := by simpa using g1
 conv => whnf
 refine refName_calls r.target ?_
 conv => whnf
 refine br_intro (fun g3 => ?_) (fun g3 => ?_)
 ·conv => whnf
  exact h false (by rw [mayP, if_pos (by rw [g3]; simp)])
 have hm : mayP v r = if r.kind = 1 then !earlyP v r && (decide (r.tag.length ≤ 64) && depsP v r) else if r.kind = 2 then decide (r = goneR r) else false := by
  rw [mayP, if_neg (by rw [g1, decide_eq_false g2, g3]; simp)]
 conv => whnf
 refine br_intro (fun k2 => ?_) (fun k2 => ?_)
 ·have k2 : r.kind = 2 := by simpa using k2
  have hm2 : mayP v r = (decide (r.rule = 0) && (decide (r.deps = []) && (decide (r.out = 0) && (decide (r.wen = 0) && decide (r.tag = []))))) := by
   rw [hm, if_neg (by rw [k2]; decide), if_pos k2]
   have : (r = goneR r) ↔ (r.rule = 0 ∧ r.deps = [] ∧ r.out = 0 ∧ r.wen = 0 ∧ r.tag = []) := by
    constructor
    ·intro e
     have := congrArg Rc.rule e
     have := congrArg Rc.deps e
     have := congrArg Rc.out e
     have := congrArg Rc.wen e
     have := congrArg Rc.tag e
     simp only [goneR] at *
     refine ⟨?_, ?_, ?_, ?_, ?_⟩ <;> assumption
    ·rintro ⟨h1, h2, h3, h4, h5⟩
     cases r
     simp only [goneR] at *
     subst k2 h1 h2 h3 h4 h5
     rfl
   by_cases e : r = goneR r
   ·obtain ⟨a1, a2, a3, a4, a5⟩ := this.1 e
    rw [decide_eq_true e, decide_eq_true a1, decide_eq_true a2, decide_eq_true a3, decide_eq_true a4, decide_eq_true a5]; rfl
   ·rw [decide_eq_false e]
    refine (Bool.eq_false_iff.2 fun hx => e (this.2 ?_)).symm
    simpa using hx
  clear hm
  conv => whnf
  rw [wz0]
  refine br_intro (fun e1 => ?_) (fun e1 => ?_)
  ·rw [e1, Bool.true_and] at hm2
   conv => whnf
   rw [dz0]
   refine br_intro (fun e2 => ?_) (fun e2 => ?_)
   ·rw [e2, Bool.true_and] at hm2
    conv => whnf
    rw [wz0]
    refine br_intro (fun e3 => ?_) (fun e3 => ?_)
    ·rw [e3, Bool.true_and] at hm2
     conv => whnf
     rw [wz0]
     refine br_intro (fun e4 => ?_) (fun e4 => ?_)
     ·rw [e4, Bool.true_and] at hm2
      conv => whnf
      refine h _ ?_
      rw [hm2]
      exact decide_eq_decide.2 ⟨fun e => ofB_inj e, fun e => by rw [e]; rfl⟩
     ·conv => whnf
      exact h false (by rw [hm2, e4]; rfl)
    ·conv => whnf
     exact h false (by rw [hm2, e3]; rfl)
   ·conv => whnf
    exact h false (by rw [hm2, e2]; rfl)
  ·conv => whnf
   exact h false (by rw [hm2, e1]; rfl)
 have k2 : ¬ r.kind = 2 := by simpa using k2
 rw [if_neg k2] at hm
 conv => whnf
 refine br_intro (fun k1 => ?_) (fun k1 => ?_)
 ·have k1 : ¬ r.kind = 1 := by simpa using k1
  conv => whnf
  exact h false (by rw [hm, if_neg k1])
 have k1 : r.kind = 1 := by simpa using k1
 rw [if_pos k1] at hm
 conv => whnf
 rw [hsl]
 refine br_intro (fun q1 => ?_) (fun q1 => ?_)
 ·have hbad : decide (r.deps.length ≤ 16) = false := by simp at q1 ⊢; omega
  conv => whnf
  exact h false (by rw [hm, depsP, hbad]; simp)
 have hdl : decide (r.deps.length ≤ 16) = true := by simp at q1 ⊢; omega
 conv => whnf
 rw [hst]
 refine br_intro (fun q2 => ?_) (fun q2 => ?_)
 ·have hbad : decide (r.tag.length ≤ 64) = false := by simp at q2 ⊢; omega
  conv => whnf
  exact h false (by rw [hm, hbad]; simp)
 have htl : decide (r.tag.length ≤ 64) = true := by simp at q2 ⊢; omega
 rw [htl, Bool.true_and, depsP, hdl, Bool.and_true] at hm
 have hv12 : v = 1 ↔ v < 2 := by omega
 conv => whnf
 refine br_intro (fun v1 => ?_) (fun v1 => ?_)
 ·have v1 : v = 1 := by simpa using v1
  have e1 : decide (v < 2) = true := decide_eq_true (by omega)
  have e3 : decide (v < 3) = true := decide_eq_true (by omega)
  conv => whnf
  rw [wz1]
  refine br_intro (fun w1 => ?_) (fun w1 => ?_)
  ·conv => whnf
   exact h false (by rw [hm, earlyP, e1, w1]; rfl)
  ·conv => whnf
   refine br_true e3 ?_
   conv => whnf
   refine br_intro (fun t1 => ?_) (fun t1 => ?_)
   ·have t1 : r.tag ≠ [] := by intro e; rw [e] at t1; simp [ofB] at t1
    have t1 : decide (r.tag ≠ []) = true := decide_eq_true t1
    conv => whnf
    exact h false (by rw [hm, earlyP, e3, t1]; simp)
   ·have t1 : r.tag = [] := by
     have : ofB r.tag = { data := #[] } := by simpa using t1
     exact ofB_inj (this.trans nilB.symm)
    have he : earlyP v r = false := by rw [earlyP, w1, t1]; simp
    rw [he, Bool.not_false, Bool.true_and] at hm
    rw [hm] at h
    conv => whnf
    refine LoopP.ind1 (fun (i : Nat) => [(5, vi i)]) (fun _ => []) (fun i => r.deps.length - i) (fun i => i ≤ r.deps.length ∧ depsGo v (r.deps.drop i) (preN r i) = depsGo v r.deps [r.target]) 0 rfl ⟨by omega, rfl⟩ ?_
    rintro i ⟨h0, hD⟩ IH
    conv => whnf
    refine br_intro (fun hc => ?_) (fun hc => ?_)
    ·have hc := lt_of_decE hsl hc
     have hIH := IH (i + 1)
     clear IH
     rw [List.drop_eq_getElem_cons hc, depsGo] at hD
     rw [preN_succ r hc] at hIH
     have hmem := preN_mem r h0 r.deps[i].name
     (conv => whnf); (repeat ((with_reducible refine must_intro ?_ ?_); exact decide_eq_true (by omega); (conv => whnf)))
     refine idxK_map_intro (show (i : Int).toNat < r.deps.length by simpa using hc) ?_
     rw [show r.deps[(i : Int).toNat]'(by simpa using hc) = r.deps[i] from by congr 1]
     generalize r.deps[i] = d at hD hIH hmem ⊢
     conv => whnf
     refine refName_calls d.name ?_
     conv => whnf
     refine br_intro (fun n1 => ?_) (fun n1 => ?_)
     ·have n1 : nameOk d.name = false := by simpa using n1
      conv => whnf
      exact h false (by rw [← hD, n1]; rfl)
     have n1 : nameOk d.name = true := by simpa using n1
     rw [n1, Bool.true_and] at hD
     conv => whnf
     refine br_intro (fun n2 => ?_) (fun n2 => ?_)
     ·have n2 : d.name = r.target := by simpa [ofB_eq] using n2
      have hb : decide (d.name ∉ preN r i) = false := decide_eq_false fun hx => (hmem.1 hx).1 n2
      conv => whnf
      exact h false (by rw [← hD, hb]; rfl)
     have n2 : d.name ≠ r.target := by simpa [ofB_eq] using n2
     conv => whnf
     refine br_intro (fun o1 => ?_) (fun o1 => ?_)
     ·rw [o1, Bool.true_and] at hD
      conv => whnf
      refine br_intro (fun o2 => ?_) (fun o2 => ?_)
      ·rw [o2] at hD
       conv => whnf
       exact h false (by rw [← hD]; simp)
      ·rw [o2, Bool.not_false, Bool.true_and] at hD
       conv => whnf
       refine LoopP.ind1 (fun (k : Nat) => [(7, vi k)]) (fun _ => []) (fun k => i - k) (fun k => k ≤ i ∧ ∀ (j : Nat) (hj : j < r.deps.length), j < k → r.deps[j].name ≠ d.name) 0 rfl ⟨by omega, fun j hj h => by omega⟩ ?_
       rintro k ⟨hk0, hk1⟩ IH2
       conv => whnf
       refine br_intro (fun hk => ?_) (fun hk => ?_)
       ·have hk : k < i := by simp at hk; omega
        have hkl : k < r.deps.length := by omega
        (conv => whnf); (repeat ((with_reducible refine must_intro ?_ ?_); exact decide_eq_true (by omega); (conv => whnf)))
        refine idxK_map_intro (show (k : Int).toNat < r.deps.length by simpa using hkl) ?_
        rw [show r.deps[(k : Int).toNat]'(by simpa using hkl) = r.deps[k] from by congr 1]
        conv => whnf
        refine br_intro (fun q => ?_) (fun q => ?_)
        ·have q : r.deps[k].name = d.name := by simpa [ofB_eq] using q
         have hb : decide (d.name ∉ preN r i) = false := decide_eq_false fun hx => (hmem.1 hx).2 k hkl hk q
         conv => whnf
         exact h false (by rw [← hD, hb]; rfl)
        ·have q : r.deps[k].name ≠ d.name := by simpa [ofB_eq] using q
         have IH3 := IH2 (k + 1) ⟨by omega, fun j hj hjk => (Nat.lt_succ_iff_lt_or_eq.1 hjk).elim (fun e => hk1 j hj e) (fun e => by subst e; exact q)⟩ (by omega)
         conv => whnf
         rw [i64_nat (by omega)]
         exact IH3
       ·have hk : k = i := by simp at hk; omega
        have hb : decide (d.name ∉ preN r i) = true := decide_eq_true (hmem.2 ⟨n2, fun j hj hji => hk1 j hj (by omega)⟩)
        rw [hb, Bool.true_and] at hD
        conv => whnf
        rw [i64_nat (by omega)]
        exact hIH ⟨by omega, hD⟩ (by omega)
     ·rw [o1, Bool.false_and, Bool.not_false, Bool.true_and] at hD
      conv => whnf
      refine LoopP.ind1 (fun (k : Nat) => [(7, vi k)]) (fun _ => []) (fun k => i - k) (fun k => k ≤ i ∧ ∀ (j : Nat) (hj : j < r.deps.length), j < k → r.deps[j].name ≠ d.name) 0 rfl ⟨by omega, fun j hj h => by omega⟩ ?_
      rintro k ⟨hk0, hk1⟩ IH2
      conv => whnf
      refine br_intro (fun hk => ?_) (fun hk => ?_)
      ·have hk : k < i := by simp at hk; omega
       have hkl : k < r.deps.length := by omega
       (conv => whnf); (repeat ((with_reducible refine must_intro ?_ ?_); exact decide_eq_true (by omega); (conv => whnf)))
       refine idxK_map_intro (show (k : Int).toNat < r.deps.length by simpa using hkl) ?_
       rw [show r.deps[(k : Int).toNat]'(by simpa using hkl) = r.deps[k] from by congr 1]
       conv => whnf
       refine br_intro (fun q => ?_) (fun q => ?_)
       ·have q : r.deps[k].name = d.name := by simpa [ofB_eq] using q
        have hb : decide (d.name ∉ preN r i) = false := decide_eq_false fun hx => (hmem.1 hx).2 k hkl hk q
        conv => whnf
        exact h false (by rw [← hD, hb]; rfl)
       ·have q : r.deps[k].name ≠ d.name := by simpa [ofB_eq] using q
        have IH3 := IH2 (k + 1) ⟨by omega, fun j hj hjk => (Nat.lt_succ_iff_lt_or_eq.1 hjk).elim (fun e => hk1 j hj e) (fun e => by subst e; exact q)⟩ (by omega)
        conv => whnf
        rw [i64_nat (by omega)]
        exact IH3
      ·have hk : k = i := by simp at hk; omega
       have hb : decide (d.name ∉ preN r i) = true := decide_eq_true (hmem.2 ⟨n2, fun j hj hji => hk1 j hj (by omega)⟩)
       rw [hb, Bool.true_and] at hD
       conv => whnf
       rw [i64_nat (by omega)]
       exact hIH ⟨by omega, hD⟩ (by omega)
    ·have hc := ge_of_decE hsl hc
     rw [List.drop_eq_nil_of_le hc, depsGo] at hD
     conv => whnf
     exact h true hD
 ·have v1 : ¬ v = 1 := by simpa using v1
  have e1 : decide (v < 2) = false := decide_eq_false (by omega)
  conv => whnf
  refine br_intro (fun e3 => ?_) (fun e3 => ?_)
  ·conv => whnf
   refine br_intro (fun t1 => ?_) (fun t1 => ?_)
   ·have t1 : r.tag ≠ [] := by intro e; rw [e] at t1; simp [ofB] at t1
    have t1 : decide (r.tag ≠ []) = true := decide_eq_true t1
    conv => whnf
    exact h false (by rw [hm, earlyP, e3, t1]; simp)
   ·have t1 : r.tag = [] := by
     have : ofB r.tag = { data := #[] } := by simpa using t1
     exact ofB_inj (this.trans nilB.symm)
    have he : earlyP v r = false := by rw [earlyP, e1, t1]; simp
    rw [he, Bool.not_false, Bool.true_and] at hm
    rw [hm] at h
    conv => whnf
    refine LoopP.ind1 (fun (i : Nat) => [(5, vi i)]) (fun _ => []) (fun i => r.deps.length - i) (fun i => i ≤ r.deps.length ∧ depsGo v (r.deps.drop i) (preN r i) = depsGo v r.deps [r.target]) 0 rfl ⟨by omega, rfl⟩ ?_
    rintro i ⟨h0, hD⟩ IH
    conv => whnf
    refine br_intro (fun hc => ?_) (fun hc => ?_)
    ·have hc := lt_of_decE hsl hc
     have hIH := IH (i + 1)
     clear IH
     rw [List.drop_eq_getElem_cons hc, depsGo] at hD
     rw [preN_succ r hc] at hIH
     have hmem := preN_mem r h0 r.deps[i].name
     (conv => whnf); (repeat ((with_reducible refine must_intro ?_ ?_); exact decide_eq_true (by omega); (conv => whnf)))
     refine idxK_map_intro (show (i : Int).toNat < r.deps.length by simpa using hc) ?_
     rw [show r.deps[(i : Int).toNat]'(by simpa using hc) = r.deps[i] from by congr 1]
     generalize r.deps[i] = d at hD hIH hmem ⊢
     conv => whnf
     refine refName_calls d.name ?_
     conv => whnf
     refine br_intro (fun n1 => ?_) (fun n1 => ?_)
     ·have n1 : nameOk d.name = false := by simpa using n1
      conv => whnf
      exact h false (by rw [← hD, n1]; rfl)
     have n1 : nameOk d.name = true := by simpa using n1
     rw [n1, Bool.true_and] at hD
     conv => whnf
     refine br_intro (fun n2 => ?_) (fun n2 => ?_)
     ·have n2 : d.name = r.target := by simpa [ofB_eq] using n2
      have hb : decide (d.name ∉ preN r i) = false := decide_eq_false fun hx => (hmem.1 hx).1 n2
      conv => whnf
      exact h false (by rw [← hD, hb]; rfl)
     have n2 : d.name ≠ r.target := by simpa [ofB_eq] using n2
     conv => whnf
     refine br_intro (fun o1 => ?_) (fun o1 => ?_)
     ·rw [o1, Bool.true_and] at hD
      conv => whnf
      refine br_intro (fun o2 => ?_) (fun o2 => ?_)
      ·rw [o2] at hD
       conv => whnf
       exact h false (by rw [← hD]; simp)
      ·rw [o2, Bool.not_false, Bool.true_and] at hD
       conv => whnf
       refine LoopP.ind1 (fun (k : Nat) => [(7, vi k)]) (fun _ => []) (fun k => i - k) (fun k => k ≤ i ∧ ∀ (j : Nat) (hj : j < r.deps.length), j < k → r.deps[j].name ≠ d.name) 0 rfl ⟨by omega, fun j hj h => by omega⟩ ?_
       rintro k ⟨hk0, hk1⟩ IH2
       conv => whnf
       refine br_intro (fun hk => ?_) (fun hk => ?_)
       ·have hk : k < i := by simp at hk; omega
        have hkl : k < r.deps.length := by omega
        (conv => whnf); (repeat ((with_reducible refine must_intro ?_ ?_); exact decide_eq_true (by omega); (conv => whnf)))
        refine idxK_map_intro (show (k : Int).toNat < r.deps.length by simpa using hkl) ?_
        rw [show r.deps[(k : Int).toNat]'(by simpa using hkl) = r.deps[k] from by congr 1]
        conv => whnf
        refine br_intro (fun q => ?_) (fun q => ?_)
        ·have q : r.deps[k].name = d.name := by simpa [ofB_eq] using q
         have hb : decide (d.name ∉ preN r i) = false := decide_eq_false fun hx => (hmem.1 hx).2 k hkl hk q
         conv => whnf
         exact h false (by rw [← hD, hb]; rfl)
        ·have q : r.deps[k].name ≠ d.name := by simpa [ofB_eq] using q
         have IH3 := IH2 (k + 1) ⟨by omega, fun j hj hjk => (Nat.lt_succ_iff_lt_or_eq.1 hjk).elim (fun e => hk1 j hj e) (fun e => by subst e; exact q)⟩ (by omega)
         conv => whnf
         rw [i64_nat (by omega)]
         exact IH3
       ·have hk : k = i := by simp at hk; omega
        have hb : decide (d.name ∉ preN r i) = true := decide_eq_true (hmem.2 ⟨n2, fun j hj hji => hk1 j hj (by omega)⟩)
        rw [hb, Bool.true_and] at hD
        conv => whnf
        rw [i64_nat (by omega)]
        exact hIH ⟨by omega, hD⟩ (by omega)
     ·rw [o1, Bool.false_and, Bool.not_false, Bool.true_and] at hD
      conv => whnf
      refine LoopP.ind1 (fun (k : Nat) => [(7, vi k)]) (fun _ => []) (fun k => i - k) (fun k => k ≤ i ∧ ∀ (j : Nat) (hj : j < r.deps.length), j < k → r.deps[j].name ≠ d.name) 0 rfl ⟨by omega, fun j hj h => by omega⟩ ?_
      rintro k ⟨hk0, hk1⟩ IH2
      conv => whnf
      refine br_intro (fun hk => ?_) (fun hk => ?_)
      ·have hk : k < i := by simp at hk; omega
       have hkl : k < r.deps.length := by omega
       (conv => whnf); (repeat ((with_reducible refine must_intro ?_ ?_); exact decide_eq_true (by omega); (conv => whnf)))
       refine idxK_map_intro (show (k : Int).toNat < r.deps.length by simpa using hkl) ?_
       rw [show r.deps[(k : Int).toNat]'(by simpa using hkl) = r.deps[k] from by congr 1]
       conv => whnf
       refine br_intro (fun q => ?_) (fun q => ?_)
       ·have q : r.deps[k].name = d.name := by simpa [ofB_eq] using q
        have hb : decide (d.name ∉ preN r i) = false := decide_eq_false fun hx => (hmem.1 hx).2 k hkl hk q
        conv => whnf
        exact h false (by rw [← hD, hb]; rfl)
       ·have q : r.deps[k].name ≠ d.name := by simpa [ofB_eq] using q
        have IH3 := IH2 (k + 1) ⟨by omega, fun j hj hjk => (Nat.lt_succ_iff_lt_or_eq.1 hjk).elim (fun e => hk1 j hj e) (fun e => by subst e; exact q)⟩ (by omega)
        conv => whnf
        rw [i64_nat (by omega)]
        exact IH3
      ·have hk : k = i := by simp at hk; omega
       have hb : decide (d.name ∉ preN r i) = true := decide_eq_true (hmem.2 ⟨n2, fun j hj hji => hk1 j hj (by omega)⟩)
       rw [hb, Bool.true_and] at hD
       conv => whnf
       rw [i64_nat (by omega)]
       exact hIH ⟨by omega, hD⟩ (by omega)
    ·have hc := ge_of_decE hsl hc
     rw [List.drop_eq_nil_of_le hc, depsGo] at hD
     conv => whnf
     exact h true hD
  ·have he : earlyP v r = false := by rw [earlyP, e1, e3]; simp
   rw [he, Bool.not_false, Bool.true_and] at hm
   rw [hm] at h
   conv => whnf
   refine LoopP.ind1 (fun (i : Nat) => [(5, vi i)]) (fun _ => []) (fun i => r.deps.length - i) (fun i => i ≤ r.deps.length ∧ depsGo v (r.deps.drop i) (preN r i) = depsGo v r.deps [r.target]) 0 rfl ⟨by omega, rfl⟩ ?_
   rintro i ⟨h0, hD⟩ IH
   conv => whnf
   refine br_intro (fun hc => ?_) (fun hc => ?_)
   ·have hc := lt_of_decE hsl hc
    have hIH := IH (i + 1)
    clear IH
    rw [List.drop_eq_getElem_cons hc, depsGo] at hD
    rw [preN_succ r hc] at hIH
    have hmem := preN_mem r h0 r.deps[i].name
    (conv => whnf); (repeat ((with_reducible refine must_intro ?_ ?_); exact decide_eq_true (by omega); (conv => whnf)))
    refine idxK_map_intro (show (i : Int).toNat < r.deps.length by simpa using hc) ?_
    rw [show r.deps[(i : Int).toNat]'(by simpa using hc) = r.deps[i] from by congr 1]
    generalize r.deps[i] = d at hD hIH hmem ⊢
    conv => whnf
    refine refName_calls d.name ?_
    conv => whnf
    refine br_intro (fun n1 => ?_) (fun n1 => ?_)
    ·have n1 : nameOk d.name = false := by simpa using n1
     conv => whnf
     exact h false (by rw [← hD, n1]; rfl)
    have n1 : nameOk d.name = true := by simpa using n1
    rw [n1, Bool.true_and] at hD
    conv => whnf
    refine br_intro (fun n2 => ?_) (fun n2 => ?_)
    ·have n2 : d.name = r.target := by simpa [ofB_eq] using n2
     have hb : decide (d.name ∉ preN r i) = false := decide_eq_false fun hx => (hmem.1 hx).1 n2
     conv => whnf
     exact h false (by rw [← hD, hb]; rfl)
    have n2 : d.name ≠ r.target := by simpa [ofB_eq] using n2
    conv => whnf
    refine br_intro (fun o1 => ?_) (fun o1 => ?_)
    ·rw [o1, Bool.true_and] at hD
     conv => whnf
     refine br_intro (fun o2 => ?_) (fun o2 => ?_)
     ·rw [o2] at hD
      conv => whnf
      exact h false (by rw [← hD]; simp)
     ·rw [o2, Bool.not_false, Bool.true_and] at hD
      conv => whnf
      refine LoopP.ind1 (fun (k : Nat) => [(7, vi k)]) (fun _ => []) (fun k => i - k) (fun k => k ≤ i ∧ ∀ (j : Nat) (hj : j < r.deps.length), j < k → r.deps[j].name ≠ d.name) 0 rfl ⟨by omega, fun j hj h => by omega⟩ ?_
      rintro k ⟨hk0, hk1⟩ IH2
      conv => whnf
      refine br_intro (fun hk => ?_) (fun hk => ?_)
      ·have hk : k < i := by simp at hk; omega
       have hkl : k < r.deps.length := by omega
       (conv => whnf); (repeat ((with_reducible refine must_intro ?_ ?_); exact decide_eq_true (by omega); (conv => whnf)))
       refine idxK_map_intro (show (k : Int).toNat < r.deps.length by simpa using hkl) ?_
       rw [show r.deps[(k : Int).toNat]'(by simpa using hkl) = r.deps[k] from by congr 1]
       conv => whnf
       refine br_intro (fun q => ?_) (fun q => ?_)
       ·have q : r.deps[k].name = d.name := by simpa [ofB_eq] using q
        have hb : decide (d.name ∉ preN r i) = false := decide_eq_false fun hx => (hmem.1 hx).2 k hkl hk q
        conv => whnf
        exact h false (by rw [← hD, hb]; rfl)
       ·have q : r.deps[k].name ≠ d.name := by simpa [ofB_eq] using q
        have IH3 := IH2 (k + 1) ⟨by omega, fun j hj hjk => (Nat.lt_succ_iff_lt_or_eq.1 hjk).elim (fun e => hk1 j hj e) (fun e => by subst e; exact q)⟩ (by omega)
        conv => whnf
        rw [i64_nat (by omega)]
        exact IH3
      ·have hk : k = i := by simp at hk; omega
       have hb : decide (d.name ∉ preN r i) = true := decide_eq_true (hmem.2 ⟨n2, fun j hj hji => hk1 j hj (by omega)⟩)
       rw [hb, Bool.true_and] at hD
       conv => whnf
       rw [i64_nat (by omega)]
       exact hIH ⟨by omega, hD⟩ (by omega)
    ·rw [o1, Bool.false_and, Bool.not_false, Bool.true_and] at hD
     conv => whnf
     refine LoopP.ind1 (fun (k : Nat) => [(7, vi k)]) (fun _ => []) (fun k => i - k) (fun k => k ≤ i ∧ ∀ (j : Nat) (hj : j < r.deps.length), j < k → r.deps[j].name ≠ d.name) 0 rfl ⟨by omega, fun j hj h => by omega⟩ ?_
     rintro k ⟨hk0, hk1⟩ IH2
     conv => whnf
     refine br_intro (fun hk => ?_) (fun hk => ?_)
     ·have hk : k < i := by simp at hk; omega
      have hkl : k < r.deps.length := by omega
      (conv => whnf); (repeat ((with_reducible refine must_intro ?_ ?_); exact decide_eq_true (by omega); (conv => whnf)))
      refine idxK_map_intro (show (k : Int).toNat < r.deps.length by simpa using hkl) ?_
      rw [show r.deps[(k : Int).toNat]'(by simpa using hkl) = r.deps[k] from by congr 1]
      conv => whnf
      refine br_intro (fun q => ?_) (fun q => ?_)
      ·have q : r.deps[k].name = d.name := by simpa [ofB_eq] using q
       have hb : decide (d.name ∉ preN r i) = false := decide_eq_false fun hx => (hmem.1 hx).2 k hkl hk q
       conv => whnf
       exact h false (by rw [← hD, hb]; rfl)
      ·have q : r.deps[k].name ≠ d.name := by simpa [ofB_eq] using q
       have IH3 := IH2 (k + 1) ⟨by omega, fun j hj hjk => (Nat.lt_succ_iff_lt_or_eq.1 hjk).elim (fun e => hk1 j hj e) (fun e => by subst e; exact q)⟩ (by omega)
       conv => whnf
       rw [i64_nat (by omega)]
       exact IH3
     ·have hk : k = i := by simp at hk; omega
      have hb : decide (d.name ∉ preN r i) = true := decide_eq_true (hmem.2 ⟨n2, fun j hj hji => hk1 j hj (by omega)⟩)
      rw [hb, Bool.true_and] at hD
      conv => whnf
      rw [i64_nat (by omega)]
      exact hIH ⟨by omega, hD⟩ (by omega)
   ·have hc := ge_of_decE hsl hc
    rw [List.drop_eq_nil_of_le hc, depsGo] at hD
    conv => whnf
    exact h true hD
theorem r9Put_1 (t : List B) (ht : t.length < 80000) (r : Rc) (hm : mayP 1 r = true) {R} (h : R (.tup [.sl none 1 (strs (payP 1 t r)), .sl none 1 (strs (addT 1 t r)), vi 0]) []) : ACalls Tryz.prog 127 [vi 1, .sl none 1 (strs t), .agg r.enc] [] R := by
 refine acalls_of_xwp (an := an127) tab_ok Tryz.func127 ?_
 have hMr := may_all hm
 have hsl := dpsA_length r.deps
 have hdl := hMr.deps
 have ht2 := hMr.t2
 conv => whnf
 refine refMay_calls 1 r (by omega) fun p hp => ?_
 rw [hm] at hp
 subst hp
 obtain ⟨T, hT⟩ : ∃ T, T = addT 1 t r := ⟨_, rfl⟩
 have hTt : t = T := by rw [hT, addT_one]
 have hTl : T.length < 90000 := by rw [← hTt]; omega
 obtain ⟨o, ho⟩ : ∃ o : List B, o = defsP 1 t r := ⟨_, rfl⟩
 have ho0 : o = [] := by rw [ho]; rfl
 have hol0 : o.length ≤ 30 := by rw [ho0]; simp
 have hol : (strs o).length = o.length := strs_length o
 subst ho0
 clear hol0
 have hol0 : ([] : List B).length ≤ 30 := by simp
 conv => whnf
 rw [hTt]
 have hP : strs (payP 1 t r) = strs [] ++ [[vs (lastW 1 T r)]] := by unfold payP; rw [← ho, strs_append, ← hT]; rfl
 have hTm : 1 ≠ (1 : Int) → ∀ x ∈ textsR r, x ∈ T := fun hv x hx => by rw [hT]; exact addT_mem hv t r hx
 rw [← hT] at h
 rcases hMr.kind with hk | hg
 ·conv => whnf
  rw [show IntKind.u64.wrap r.kind = ((1 : Nat) : Int) from by rw [hk]; rfl]
  refine ref1Put_calls 1 (by decide) ?_
  have hv0 : (vrn 1).length = 1 := vrn_one (by decide)
  conv => whnf
  refine refText_calls T (by omega) r.target (fun hv => hTm hv _ (by simp [textsR])) (by omega) ?_
  have hv1 := textW_len (v := 1) (t := T) hMr.t2 (by omega)
  conv => whnf
  refine must_intro (decide_eq_true (by rw [size_ofB, size_ofB]; (try simp only [List.length_append]); omega)) ?_
  rw [ofB_append]
  conv => whnf
  refine br_true (by rw [hk]; rfl) ?_
  conv => whnf
  refine ref1Put_calls r.rule.toNat (by have := r.rule.isLt; omega) ?_
  have hv2 := u64_vrn r.rule
  conv => whnf
  refine must_intro (decide_eq_true (by rw [size_ofB, size_ofB]; (try simp only [List.length_append]); omega)) ?_
  rw [ofB_append]
  conv => whnf
  rw [len_u64 hMr.deps]
  refine ref1Put_calls r.deps.length (by omega) ?_
  have hv3 : (vrn r.deps.length).length ≤ 10 := vrn_u64 (by omega)
  conv => whnf
  refine must_intro (decide_eq_true (by rw [size_ofB, size_ofB]; (try simp only [List.length_append]); omega)) ?_
  rw [ofB_append]
  conv => whnf
  obtain ⟨x0, hx0⟩ : ∃ x0, x0 = vrn 1 ++ textW 1 T r.target ++ vrn r.rule.toNat ++ vrn r.deps.length := ⟨_, rfl⟩
  have hx1 : x0 = frontW 1 T r := by rw [hx0, frontW, vrn_small (by decide)]; simp
  rw [← hx0]
  clear hx0 hv0 hv1 hv2 hv3
  have hfl := frontW_len (v := 1) (t := T) hMr (by omega)
  refine LoopP.ind2 (fun (i : Nat) (x : B) => [(12, vs x), (13, vi i)]) (fun i x => [(nameOf 16, .row 9 1 0)]) (fun i _ => r.deps.length - i) (fun i x => i ≤ r.deps.length ∧ x = frontW 1 T r ++ depsW 1 T (r.deps.take i)) 0 x0 rfl ⟨by omega, by rw [hx1]; simp [depsW]⟩ ?_
  rintro i x ⟨h0, hx⟩ IH
  have hdt := depsW_take (v := 1) (t := T) hMr (by omega) i
  have hxl : x.length ≤ 1300 := by rw [hx, List.length_append]; omega
  conv => whnf
  refine br_intro (fun hc => ?_) (fun hc => ?_)
  ·have hi := lt_of_decE hsl hc
   (conv => whnf); (repeat ((with_reducible refine must_intro ?_ ?_); exact decide_eq_true (by omega); (conv => whnf)))
   refine idxK_map_intro (show (i : Int).toNat < r.deps.length by simpa using hi) ?_
   rw [show r.deps[(i : Int).toNat]'(by simpa using hi) = r.deps[i] from by congr 1]
   have hdm : r.deps[i] ∈ r.deps := List.getElem_mem hi
   have hdn := hMr.names _ hdm
   generalize hd : r.deps[i] = d at hdm hdn
   have hd : r.deps[i] = d := hd
   conv => whnf
   refine refText_calls T (by omega) d.name (fun hv => hTm hv _ (by unfold textsR; exact List.mem_cons_of_mem _ (List.mem_append_left _ (List.mem_map_of_mem hdm)))) (by omega) ?_
   have hv2 := textW_len (v := 1) (t := T) (hMr.names d hdm).2 (by omega)
   conv => whnf
   refine must_intro (decide_eq_true (by rw [size_ofB, size_ofB]; (try simp only [List.length_append]); omega)) ?_
   rw [ofB_append]
   conv => whnf
   refine ref1Put_calls d.hash.toNat (by have := d.hash.isLt; omega) ?_
   have hv3 := u64_vrn d.hash
   conv => whnf
   refine must_intro (decide_eq_true (by rw [size_ofB, size_ofB]; (try simp only [List.length_append]); omega)) ?_
   rw [ofB_append]
   conv => whnf
   have IH := IH (i + 1) (x ++ textW 1 T d.name ++ vrn d.hash.toNat) ⟨hi, by rw [depsW_snoc hi, hx, hd]; simp [depW, List.append_assoc]⟩ (by omega)
   rw [i64_nat (by omega)]
   exact IH
  ·have hi := ge_of_decE hsl hc
   rw [List.take_of_length_le hi] at hx
   clear IH
   conv => whnf
   refine ref1Put_calls r.out.toNat (by have := r.out.isLt; omega) ?_
   have hv4 := u64_vrn r.out
   conv => whnf
   refine must_intro (decide_eq_true (by rw [size_ofB, size_ofB]; (try simp only [List.length_append]); omega)) ?_
   rw [ofB_append]
   conv => whnf
   have hW : lastW 1 T r = x ++ vrn r.out.toNat := by
    rw [lastW_trace hk, hx]
    simp [endW, List.append_assoc]
   refine ⟨rfl, by rw [bytes_str]; simp only [List.length_cons, List.length_nil]; omega, ?_⟩
   conv => whnf
   rw [hP, hW] at h
   exact h
 ·have hk := goneR_kind hg
  conv => whnf
  rw [show IntKind.u64.wrap r.kind = ((2 : Nat) : Int) from by rw [hk]; rfl]
  refine ref1Put_calls 2 (by decide) ?_
  have hv0 : (vrn 2).length = 1 := vrn_one (by decide)
  conv => whnf
  refine refText_calls T (by omega) r.target (fun hv => hTm hv _ (by simp [textsR])) (by omega) ?_
  have hv1 := textW_len (v := 1) (t := T) hMr.t2 (by omega)
  conv => whnf
  refine must_intro (decide_eq_true (by rw [size_ofB, size_ofB]; (try simp only [List.length_append]); omega)) ?_
  rw [ofB_append]
  conv => whnf
  refine br_false (by rw [hk]; rfl) ?_
  conv => whnf
  have hW : lastW 1 T r = vrn 2 ++ textW 1 T r.target := by rw [lastW_gone hk, vrn_small (by decide)]; rfl
  refine ⟨rfl, by rw [bytes_str]; simp only [List.length_cons, List.length_nil]; omega, ?_⟩
  conv => whnf
  rw [hP, hW] at h
  exact h
theorem r9Put_2 (t : List B) (ht : t.length < 80000) (r : Rc) (hm : mayP 2 r = true) {R} (h : R (.tup [.sl none 1 (strs (payP 2 t r)), .sl none 1 (strs (addT 2 t r)), vi 0]) []) : ACalls Tryz.prog 127 [vi 2, .sl none 1 (strs t), .agg r.enc] [] R := by
 refine acalls_of_xwp (an := an127) tab_ok Tryz.func127 ?_
 have hMr := may_all hm
 have hsl := dpsA_length r.deps
 have hdl := hMr.deps
 have ht2 := hMr.t2
 conv => whnf
 refine refMay_calls 2 r (by omega) fun p hp => ?_
 rw [hm] at hp
 subst hp
 conv => whnf
 have hnl := strs_length (namesR r)
 have hnr := namesR_len r
 refine refNames_calls r (by omega) ?_
 conv => whnf
 refine LoopP.ind3 (fun (i : Nat) (T o : List B) => [(1, .sl none 1 (strs T)), (9, .sl (some (nameOf 16)) 1 (strs o)), (11, vi i)]) (fun i T o => [(nameOf 16, .row 9 1 o.length)]) (fun i _ _ => (namesR r).length - i) (fun i T o => i ≤ (namesR r).length ∧ T.length ≤ t.length + i ∧ o.length ≤ i ∧ ((namesR r).drop i).foldl tblP T = addT 2 t r ∧ o ++ (newsP T ((namesR r).drop i)).map defP = defsP 2 t r) 0 t [] rfl ⟨by omega, by omega, by simp, (addT_more (by decide) t r).symm, by simp [defsP]⟩ ?_
 rintro i T o ⟨h0, hTl, hol0, hT, ho⟩ IH
 have hol : (strs o).length = o.length := strs_length o
 have hTs := strs_length T
 conv => whnf
 refine br_intro (fun hc => ?_) (fun hc => ?_)
 ·have hi := lt_of_decE hnl hc
  rw [List.drop_eq_getElem_cons hi, List.foldl_cons] at hT
  rw [List.drop_eq_getElem_cons hi, newsP] at ho
  have hnm : (namesR r)[i].length ≤ 64 := (textsR_lens hMr _ (tblN_mem.1 (List.getElem_mem hi))).2
  (conv => whnf); (repeat ((with_reducible refine must_intro ?_ ?_); exact decide_eq_true (by omega); (conv => whnf)))
  refine idxK_map_intro (show (i : Int).toNat < (namesR r).length by simpa using hi) ?_
  rw [show (namesR r)[(i : Int).toNat]'(by simpa using hi) = (namesR r)[i] from by congr 1]
  generalize hs : (namesR r)[i] = s at hT ho hnm
  conv => whnf
  refine Place_calls T s (by omega) rfl fun p hp => ?_
  conv => whnf
  refine br_intro (fun g => ?_) (fun g => ?_)
  ·have hns : s ∉ T := by
    have : p < 0 := of_decide_eq_true g
    rw [hp] at this
    exact placeI_neg.1 this
   rw [if_neg hns] at ho
   rw [tblP_none hns] at hT
   (conv => whnf); (repeat ((with_reducible refine must_intro ?_ ?_); exact decide_eq_true (by omega); (conv => whnf)))
   refine idxK_map_intro (show (i : Int).toNat < (namesR r).length by simpa using hi) ?_
   rw [show (namesR r)[(i : Int).toNat]'(by simpa using hi) = (namesR r)[i] from by congr 1, hs]
   conv => whnf
   have e3 : (⟨#[0]⟩ : ByteArray) = ofB [0] := rfl
   refine must_intro (decide_eq_true (by rw [size_ofB]; show 1 + s.length ≤ _; omega)) ?_
   rw [e3, ofB_append]
   conv => whnf
   refine ⟨hol.symm, by rw [hol, bytes_str]; simp only [List.length_cons, List.length_nil]; omega, ?_⟩
   (conv => whnf); (repeat ((with_reducible refine must_intro ?_ ?_); exact decide_eq_true (by omega); (conv => whnf)))
   refine idxK_map_intro (show (i : Int).toNat < (namesR r).length by simpa using hi) ?_
   rw [show (namesR r)[(i : Int).toNat]'(by simpa using hi) = (namesR r)[i] from by congr 1, hs]
   conv => whnf
   refine rPutT_calls T s (by omega) ?_
   rw [tblP_none hns]
   have IH := IH (i + 1) (T ++ [s]) (o ++ [defP s]) ⟨hi, by simp; omega, by simp; omega, hT, by rw [← ho]; simp⟩ (by omega)
   rw [strs_append o, List.length_append] at IH
   conv => whnf
   rw [i64_nat (by omega), hol]
   exact IH
  ·have hns : s ∈ T := by
    have : ¬ p < 0 := of_decide_eq_false g
    rw [hp] at this
    exact Classical.byContradiction fun e => this (placeI_neg.2 e)
   rw [if_pos hns] at ho
   rw [tblP_some hns] at hT
   have IH := IH (i + 1) T o ⟨hi, by omega, by omega, hT, ho⟩ (by omega)
   conv => whnf
   rw [i64_nat (by omega)]
   exact IH
 ·have hi := ge_of_decE hnl hc
  rw [List.drop_eq_nil_of_le hi, List.foldl_nil] at hT
  rw [List.drop_eq_nil_of_le hi, show newsP T [] = [] from rfl, List.map_nil, List.append_nil] at ho
  have hTl : T.length < 90000 := by omega
  have hol0 : o.length ≤ 30 := by omega
  clear IH hTs
  have hP : strs (payP 2 t r) = strs o ++ [[vs (lastW 2 T r)]] := by unfold payP; rw [← ho, strs_append, ← hT]; rfl
  have hTm : 2 ≠ (1 : Int) → ∀ x ∈ textsR r, x ∈ T := fun hv x hx => by rw [hT]; exact addT_mem hv t r hx
  rw [← hT] at h
  rcases hMr.kind with hk | hg
  ·conv => whnf
   rw [show IntKind.u64.wrap r.kind = ((1 : Nat) : Int) from by rw [hk]; rfl]
   refine ref1Put_calls 1 (by decide) ?_
   have hv0 : (vrn 1).length = 1 := vrn_one (by decide)
   conv => whnf
   refine refText_calls T (by omega) r.target (fun hv => hTm hv _ (by simp [textsR])) (by omega) ?_
   have hv1 := textW_len (v := 2) (t := T) hMr.t2 (by omega)
   conv => whnf
   refine must_intro (decide_eq_true (by rw [size_ofB, size_ofB]; (try simp only [List.length_append]); omega)) ?_
   rw [ofB_append]
   conv => whnf
   refine br_true (by rw [hk]; rfl) ?_
   conv => whnf
   refine ref1Put_calls r.rule.toNat (by have := r.rule.isLt; omega) ?_
   have hv2 := u64_vrn r.rule
   conv => whnf
   refine must_intro (decide_eq_true (by rw [size_ofB, size_ofB]; (try simp only [List.length_append]); omega)) ?_
   rw [ofB_append]
   conv => whnf
   rw [len_u64 hMr.deps]
   refine ref1Put_calls r.deps.length (by omega) ?_
   have hv3 : (vrn r.deps.length).length ≤ 10 := vrn_u64 (by omega)
   conv => whnf
   refine must_intro (decide_eq_true (by rw [size_ofB, size_ofB]; (try simp only [List.length_append]); omega)) ?_
   rw [ofB_append]
   conv => whnf
   obtain ⟨x0, hx0⟩ : ∃ x0, x0 = vrn 1 ++ textW 2 T r.target ++ vrn r.rule.toNat ++ vrn r.deps.length := ⟨_, rfl⟩
   have hx1 : x0 = frontW 2 T r := by rw [hx0, frontW, vrn_small (by decide)]; simp
   rw [← hx0]
   clear hx0 hv0 hv1 hv2 hv3
   have hfl := frontW_len (v := 2) (t := T) hMr (by omega)
   refine LoopP.ind2 (fun (i : Nat) (x : B) => [(12, vs x), (13, vi i)]) (fun i x => [(nameOf 16, .row 9 1 o.length)]) (fun i _ => r.deps.length - i) (fun i x => i ≤ r.deps.length ∧ x = frontW 2 T r ++ depsW 2 T (r.deps.take i)) 0 x0 rfl ⟨by omega, by rw [hx1]; simp [depsW]⟩ ?_
   rintro i x ⟨h0, hx⟩ IH
   have hdt := depsW_take (v := 2) (t := T) hMr (by omega) i
   have hxl : x.length ≤ 1300 := by rw [hx, List.length_append]; omega
   conv => whnf
   refine br_intro (fun hc => ?_) (fun hc => ?_)
   ·have hi := lt_of_decE hsl hc
    (conv => whnf); (repeat ((with_reducible refine must_intro ?_ ?_); exact decide_eq_true (by omega); (conv => whnf)))
    refine idxK_map_intro (show (i : Int).toNat < r.deps.length by simpa using hi) ?_
    rw [show r.deps[(i : Int).toNat]'(by simpa using hi) = r.deps[i] from by congr 1]
    have hdm : r.deps[i] ∈ r.deps := List.getElem_mem hi
    have hdn := hMr.names _ hdm
    generalize hd : r.deps[i] = d at hdm hdn
    have hd : r.deps[i] = d := hd
    conv => whnf
    refine refText_calls T (by omega) d.name (fun hv => hTm hv _ (by unfold textsR; exact List.mem_cons_of_mem _ (List.mem_append_left _ (List.mem_map_of_mem hdm)))) (by omega) ?_
    have hv2 := textW_len (v := 2) (t := T) (hMr.names d hdm).2 (by omega)
    conv => whnf
    refine must_intro (decide_eq_true (by rw [size_ofB, size_ofB]; (try simp only [List.length_append]); omega)) ?_
    rw [ofB_append]
    conv => whnf
    refine ref1Put_calls d.hash.toNat (by have := d.hash.isLt; omega) ?_
    have hv3 := u64_vrn d.hash
    conv => whnf
    refine must_intro (decide_eq_true (by rw [size_ofB, size_ofB]; (try simp only [List.length_append]); omega)) ?_
    rw [ofB_append]
    conv => whnf
    have IH := IH (i + 1) (x ++ textW 2 T d.name ++ vrn d.hash.toNat) ⟨hi, by rw [depsW_snoc hi, hx, hd]; simp [depW, List.append_assoc]⟩ (by omega)
    rw [i64_nat (by omega)]
    exact IH
   ·have hi := ge_of_decE hsl hc
    rw [List.take_of_length_le hi] at hx
    clear IH
    conv => whnf
    refine ref1Put_calls r.out.toNat (by have := r.out.isLt; omega) ?_
    have hv4 := u64_vrn r.out
    conv => whnf
    refine must_intro (decide_eq_true (by rw [size_ofB, size_ofB]; (try simp only [List.length_append]); omega)) ?_
    rw [ofB_append]
    conv => whnf
    refine ref1Put_calls r.wen.toNat (by have := r.wen.isLt; omega) ?_
    have hv5 := u64_vrn r.wen
    conv => whnf
    refine must_intro (decide_eq_true (by rw [size_ofB, size_ofB]; (try simp only [List.length_append]); omega)) ?_
    rw [ofB_append]
    conv => whnf
    have hW : lastW 2 T r = x ++ vrn r.out.toNat ++ vrn r.wen.toNat := by
     rw [lastW_trace hk, hx]
     simp [endW, List.append_assoc]
    refine ⟨hol.symm, by rw [hol, bytes_str]; simp only [List.length_cons, List.length_nil]; omega, ?_⟩
    conv => whnf
    rw [hP, hW] at h
    exact h
  ·have hk := goneR_kind hg
   conv => whnf
   rw [show IntKind.u64.wrap r.kind = ((2 : Nat) : Int) from by rw [hk]; rfl]
   refine ref1Put_calls 2 (by decide) ?_
   have hv0 : (vrn 2).length = 1 := vrn_one (by decide)
   conv => whnf
   refine refText_calls T (by omega) r.target (fun hv => hTm hv _ (by simp [textsR])) (by omega) ?_
   have hv1 := textW_len (v := 2) (t := T) hMr.t2 (by omega)
   conv => whnf
   refine must_intro (decide_eq_true (by rw [size_ofB, size_ofB]; (try simp only [List.length_append]); omega)) ?_
   rw [ofB_append]
   conv => whnf
   refine br_false (by rw [hk]; rfl) ?_
   conv => whnf
   have hW : lastW 2 T r = vrn 2 ++ textW 2 T r.target := by rw [lastW_gone hk, vrn_small (by decide)]; rfl
   refine ⟨hol.symm, by rw [hol, bytes_str]; simp only [List.length_cons, List.length_nil]; omega, ?_⟩
   conv => whnf
   rw [hP, hW] at h
   exact h
theorem r9Put_3 (t : List B) (ht : t.length < 80000) (r : Rc) (hm : mayP 3 r = true) {R} (h : R (.tup [.sl none 1 (strs (payP 3 t r)), .sl none 1 (strs (addT 3 t r)), vi 0]) []) : ACalls Tryz.prog 127 [vi 3, .sl none 1 (strs t), .agg r.enc] [] R := by
 refine acalls_of_xwp (an := an127) tab_ok Tryz.func127 ?_
 have hMr := may_all hm
 have hsl := dpsA_length r.deps
 have hdl := hMr.deps
 have ht2 := hMr.t2
 conv => whnf
 refine refMay_calls 3 r (by omega) fun p hp => ?_
 rw [hm] at hp
 subst hp
 conv => whnf
 have hnl := strs_length (namesR r)
 have hnr := namesR_len r
 refine refNames_calls r (by omega) ?_
 conv => whnf
 refine LoopP.ind3 (fun (i : Nat) (T o : List B) => [(1, .sl none 1 (strs T)), (9, .sl (some (nameOf 16)) 1 (strs o)), (11, vi i)]) (fun i T o => [(nameOf 16, .row 9 1 o.length)]) (fun i _ _ => (namesR r).length - i) (fun i T o => i ≤ (namesR r).length ∧ T.length ≤ t.length + i ∧ o.length ≤ i ∧ ((namesR r).drop i).foldl tblP T = addT 3 t r ∧ o ++ (newsP T ((namesR r).drop i)).map defP = defsP 3 t r) 0 t [] rfl ⟨by omega, by omega, by simp, (addT_more (by decide) t r).symm, by simp [defsP]⟩ ?_
 rintro i T o ⟨h0, hTl, hol0, hT, ho⟩ IH
 have hol : (strs o).length = o.length := strs_length o
 have hTs := strs_length T
 conv => whnf
 refine br_intro (fun hc => ?_) (fun hc => ?_)
 ·have hi := lt_of_decE hnl hc
  rw [List.drop_eq_getElem_cons hi, List.foldl_cons] at hT
  rw [List.drop_eq_getElem_cons hi, newsP] at ho
  have hnm : (namesR r)[i].length ≤ 64 := (textsR_lens hMr _ (tblN_mem.1 (List.getElem_mem hi))).2
  (conv => whnf); (repeat ((with_reducible refine must_intro ?_ ?_); exact decide_eq_true (by omega); (conv => whnf)))
  refine idxK_map_intro (show (i : Int).toNat < (namesR r).length by simpa using hi) ?_
  rw [show (namesR r)[(i : Int).toNat]'(by simpa using hi) = (namesR r)[i] from by congr 1]
  generalize hs : (namesR r)[i] = s at hT ho hnm
  conv => whnf
  refine Place_calls T s (by omega) rfl fun p hp => ?_
  conv => whnf
  refine br_intro (fun g => ?_) (fun g => ?_)
  ·have hns : s ∉ T := by
    have : p < 0 := of_decide_eq_true g
    rw [hp] at this
    exact placeI_neg.1 this
   rw [if_neg hns] at ho
   rw [tblP_none hns] at hT
   (conv => whnf); (repeat ((with_reducible refine must_intro ?_ ?_); exact decide_eq_true (by omega); (conv => whnf)))
   refine idxK_map_intro (show (i : Int).toNat < (namesR r).length by simpa using hi) ?_
   rw [show (namesR r)[(i : Int).toNat]'(by simpa using hi) = (namesR r)[i] from by congr 1, hs]
   conv => whnf
   have e3 : (⟨#[0]⟩ : ByteArray) = ofB [0] := rfl
   refine must_intro (decide_eq_true (by rw [size_ofB]; show 1 + s.length ≤ _; omega)) ?_
   rw [e3, ofB_append]
   conv => whnf
   refine ⟨hol.symm, by rw [hol, bytes_str]; simp only [List.length_cons, List.length_nil]; omega, ?_⟩
   (conv => whnf); (repeat ((with_reducible refine must_intro ?_ ?_); exact decide_eq_true (by omega); (conv => whnf)))
   refine idxK_map_intro (show (i : Int).toNat < (namesR r).length by simpa using hi) ?_
   rw [show (namesR r)[(i : Int).toNat]'(by simpa using hi) = (namesR r)[i] from by congr 1, hs]
   conv => whnf
   refine rPutT_calls T s (by omega) ?_
   rw [tblP_none hns]
   have IH := IH (i + 1) (T ++ [s]) (o ++ [defP s]) ⟨hi, by simp; omega, by simp; omega, hT, by rw [← ho]; simp⟩ (by omega)
   rw [strs_append o, List.length_append] at IH
   conv => whnf
   rw [i64_nat (by omega), hol]
   exact IH
  ·have hns : s ∈ T := by
    have : ¬ p < 0 := of_decide_eq_false g
    rw [hp] at this
    exact Classical.byContradiction fun e => this (placeI_neg.2 e)
   rw [if_pos hns] at ho
   rw [tblP_some hns] at hT
   have IH := IH (i + 1) T o ⟨hi, by omega, by omega, hT, ho⟩ (by omega)
   conv => whnf
   rw [i64_nat (by omega)]
   exact IH
 ·have hi := ge_of_decE hnl hc
  rw [List.drop_eq_nil_of_le hi, List.foldl_nil] at hT
  rw [List.drop_eq_nil_of_le hi, show newsP T [] = [] from rfl, List.map_nil, List.append_nil] at ho
  have hTl : T.length < 90000 := by omega
  have hol0 : o.length ≤ 30 := by omega
  clear IH hTs
  have hP : strs (payP 3 t r) = strs o ++ [[vs (lastW 3 T r)]] := by unfold payP; rw [← ho, strs_append, ← hT]; rfl
  have hTm : 3 ≠ (1 : Int) → ∀ x ∈ textsR r, x ∈ T := fun hv x hx => by rw [hT]; exact addT_mem hv t r hx
  rw [← hT] at h
  rcases hMr.kind with hk | hg
  ·conv => whnf
   rw [show IntKind.u64.wrap r.kind = ((1 : Nat) : Int) from by rw [hk]; rfl]
   refine ref1Put_calls 1 (by decide) ?_
   have hv0 : (vrn 1).length = 1 := vrn_one (by decide)
   conv => whnf
   refine refText_calls T (by omega) r.target (fun hv => hTm hv _ (by simp [textsR])) (by omega) ?_
   have hv1 := textW_len (v := 3) (t := T) hMr.t2 (by omega)
   conv => whnf
   refine must_intro (decide_eq_true (by rw [size_ofB, size_ofB]; (try simp only [List.length_append]); omega)) ?_
   rw [ofB_append]
   conv => whnf
   refine br_true (by rw [hk]; rfl) ?_
   conv => whnf
   refine ref1Put_calls r.rule.toNat (by have := r.rule.isLt; omega) ?_
   have hv2 := u64_vrn r.rule
   conv => whnf
   refine must_intro (decide_eq_true (by rw [size_ofB, size_ofB]; (try simp only [List.length_append]); omega)) ?_
   rw [ofB_append]
   conv => whnf
   rw [len_u64 hMr.deps]
   refine ref1Put_calls r.deps.length (by omega) ?_
   have hv3 : (vrn r.deps.length).length ≤ 10 := vrn_u64 (by omega)
   conv => whnf
   refine must_intro (decide_eq_true (by rw [size_ofB, size_ofB]; (try simp only [List.length_append]); omega)) ?_
   rw [ofB_append]
   conv => whnf
   obtain ⟨x0, hx0⟩ : ∃ x0, x0 = vrn 1 ++ textW 3 T r.target ++ vrn r.rule.toNat ++ vrn r.deps.length := ⟨_, rfl⟩
   have hx1 : x0 = frontW 3 T r := by rw [hx0, frontW, vrn_small (by decide)]; simp
   rw [← hx0]
   clear hx0 hv0 hv1 hv2 hv3
   have hfl := frontW_len (v := 3) (t := T) hMr (by omega)
   refine LoopP.ind2 (fun (i : Nat) (x : B) => [(12, vs x), (13, vi i)]) (fun i x => [(nameOf 16, .row 9 1 o.length)]) (fun i _ => r.deps.length - i) (fun i x => i ≤ r.deps.length ∧ x = frontW 3 T r ++ depsW 3 T (r.deps.take i)) 0 x0 rfl ⟨by omega, by rw [hx1]; simp [depsW]⟩ ?_
   rintro i x ⟨h0, hx⟩ IH
   have hdt := depsW_take (v := 3) (t := T) hMr (by omega) i
   have hxl : x.length ≤ 1300 := by rw [hx, List.length_append]; omega
   conv => whnf
   refine br_intro (fun hc => ?_) (fun hc => ?_)
   ·have hi := lt_of_decE hsl hc
    (conv => whnf); (repeat ((with_reducible refine must_intro ?_ ?_); exact decide_eq_true (by omega); (conv => whnf)))
    refine idxK_map_intro (show (i : Int).toNat < r.deps.length by simpa using hi) ?_
    rw [show r.deps[(i : Int).toNat]'(by simpa using hi) = r.deps[i] from by congr 1]
    have hdm : r.deps[i] ∈ r.deps := List.getElem_mem hi
    have hdn := hMr.names _ hdm
    generalize hd : r.deps[i] = d at hdm hdn
    have hd : r.deps[i] = d := hd
    conv => whnf
    have hdT : d.name ∈ T := hTm (by decide) _ (by unfold textsR; exact List.mem_cons_of_mem _ (List.mem_append_left _ (List.mem_map_of_mem hdm)))
    have hix := List.idxOf_lt_length_of_mem hdT
    refine Place_calls T d.name (by omega) rfl fun p hp => ?_
    rw [placeI_mem hdT] at hp
    subst hp
    have e2 : IntKind.u64.wrap (2 * IntKind.u64.wrap ((T.idxOf d.name : Nat) : Int)) = ((2 * T.idxOf d.name : Nat) : Int) := by
     rw [u64_n (by omega), show (2 : Int) * ((T.idxOf d.name : Nat) : Int) = ((2 * T.idxOf d.name : Nat) : Int) by omega, u64_n (by omega)]
    conv => whnf
    rw [e2]
    cases ho2 : d.order with
    | true =>
     have e3 : IntKind.u64.wrap (((2 * T.idxOf d.name : Nat) : Int) + 1) = ((depN T d : Nat) : Int) := by
      rw [show ((2 * T.idxOf d.name : Nat) : Int) + 1 = ((2 * T.idxOf d.name + 1 : Nat) : Int) by omega, u64_n (by omega)]
      unfold depN
      rw [ho2]
      rfl
     conv => whnf
     rw [e3]
     refine ref1Put_calls (depN T d) (by unfold depN; split <;> omega) ?_
     have hv2 : (vrn (depN T d)).length ≤ 10 := vrn_u64 (by unfold depN; split <;> omega)
     conv => whnf
     refine must_intro (decide_eq_true (by rw [size_ofB, size_ofB]; (try simp only [List.length_append]); omega)) ?_
     rw [ofB_append]
     conv => whnf
     refine ref1Put_calls d.hash.toNat (by have := d.hash.isLt; omega) ?_
     have hv3 := u64_vrn d.hash
     conv => whnf
     refine must_intro (decide_eq_true (by rw [size_ofB, size_ofB]; (try simp only [List.length_append]); omega)) ?_
     rw [ofB_append]
     conv => whnf
     have IH := IH (i + 1) (x ++ vrn (depN T d) ++ vrn d.hash.toNat) ⟨hi, by rw [depsW_snoc hi, hx, hd]; simp [depW, List.append_assoc]⟩ (by omega)
     rw [i64_nat (by omega)]
     exact IH
    | false =>
     have e3 : ((2 * T.idxOf d.name : Nat) : Int) = ((depN T d : Nat) : Int) := by
      unfold depN
      rw [ho2]
      rfl
     rw [e3]
     conv => whnf
     refine ref1Put_calls (depN T d) (by unfold depN; split <;> omega) ?_
     have hv2 : (vrn (depN T d)).length ≤ 10 := vrn_u64 (by unfold depN; split <;> omega)
     conv => whnf
     refine must_intro (decide_eq_true (by rw [size_ofB, size_ofB]; (try simp only [List.length_append]); omega)) ?_
     rw [ofB_append]
     conv => whnf
     refine ref1Put_calls d.hash.toNat (by have := d.hash.isLt; omega) ?_
     have hv3 := u64_vrn d.hash
     conv => whnf
     refine must_intro (decide_eq_true (by rw [size_ofB, size_ofB]; (try simp only [List.length_append]); omega)) ?_
     rw [ofB_append]
     conv => whnf
     have IH := IH (i + 1) (x ++ vrn (depN T d) ++ vrn d.hash.toNat) ⟨hi, by rw [depsW_snoc hi, hx, hd]; simp [depW, List.append_assoc]⟩ (by omega)
     rw [i64_nat (by omega)]
     exact IH
   ·have hi := ge_of_decE hsl hc
    rw [List.take_of_length_le hi] at hx
    clear IH
    conv => whnf
    refine ref1Put_calls r.out.toNat (by have := r.out.isLt; omega) ?_
    have hv4 := u64_vrn r.out
    conv => whnf
    refine must_intro (decide_eq_true (by rw [size_ofB, size_ofB]; (try simp only [List.length_append]); omega)) ?_
    rw [ofB_append]
    conv => whnf
    refine ref1Put_calls r.wen.toNat (by have := r.wen.isLt; omega) ?_
    have hv5 := u64_vrn r.wen
    conv => whnf
    refine must_intro (decide_eq_true (by rw [size_ofB, size_ofB]; (try simp only [List.length_append]); omega)) ?_
    rw [ofB_append]
    conv => whnf
    refine br_intro (fun g => ?_) (fun g => ?_)
    ·have g : r.tag = [] := ofB_inj (of_decide_eq_true g)
     conv => whnf
     refine ref1Put_calls 0 (by decide) ?_
     have hv6 : (vrn 0).length = 1 := vrn_one (by decide)
     conv => whnf
     refine must_intro (decide_eq_true (by rw [size_ofB, size_ofB]; (try simp only [List.length_append]); omega)) ?_
     rw [ofB_append]
     conv => whnf
     refine br_false (by rw [g]; rfl) ?_
     conv => whnf
     have hW : lastW 3 T r = x ++ vrn r.out.toNat ++ vrn r.wen.toNat ++ vrn 0 := by
      rw [lastW_trace hk, hx]
      simp [endW, tagW, g, List.append_assoc]
     refine ⟨hol.symm, by rw [hol, bytes_str]; simp only [List.length_cons, List.length_nil]; omega, ?_⟩
     conv => whnf
     rw [hP, hW] at h
     exact h
    ·have g : r.tag ≠ [] := fun e => by rw [e] at g; exact of_decide_eq_false g rfl
     have htT : r.tag ∈ T := hTm (by decide) _ (by simp [textsR, g])
     have hix := List.idxOf_lt_length_of_mem htT
     conv => whnf
     refine br_true (by show (!decide (ofB r.tag = ofB [])) = true; rw [decide_eq_false (fun e => g (ofB_inj e))]; rfl) ?_
     conv => whnf
     refine Place_calls T r.tag (by omega) rfl fun p hp => ?_
     rw [placeI_mem htT] at hp
     subst hp
     have e2 : IntKind.u64.wrap (IntKind.u64.wrap ((T.idxOf r.tag : Nat) : Int) + 1) = ((T.idxOf r.tag + 1 : Nat) : Int) := by
      rw [u64_n (by omega), show ((T.idxOf r.tag : Nat) : Int) + 1 = ((T.idxOf r.tag + 1 : Nat) : Int) by omega, u64_n (by omega)]
     conv => whnf
     rw [e2]
     refine ref1Put_calls (T.idxOf r.tag + 1) (by omega) ?_
     have hv6 := vrn_u64 (n := T.idxOf r.tag + 1) (by omega)
     conv => whnf
     refine must_intro (decide_eq_true (by rw [size_ofB, size_ofB]; (try simp only [List.length_append]); omega)) ?_
     rw [ofB_append]
     conv => whnf
     have hW : lastW 3 T r = x ++ vrn r.out.toNat ++ vrn r.wen.toNat ++ vrn (T.idxOf r.tag + 1) := by
      rw [lastW_trace hk, hx]
      simp [endW, tagW, g, List.append_assoc]
     refine ⟨hol.symm, by rw [hol, bytes_str]; simp only [List.length_cons, List.length_nil]; omega, ?_⟩
     conv => whnf
     rw [hP, hW] at h
     exact h
  ·have hk := goneR_kind hg
   conv => whnf
   rw [show IntKind.u64.wrap r.kind = ((2 : Nat) : Int) from by rw [hk]; rfl]
   refine ref1Put_calls 2 (by decide) ?_
   have hv0 : (vrn 2).length = 1 := vrn_one (by decide)
   conv => whnf
   refine refText_calls T (by omega) r.target (fun hv => hTm hv _ (by simp [textsR])) (by omega) ?_
   have hv1 := textW_len (v := 3) (t := T) hMr.t2 (by omega)
   conv => whnf
   refine must_intro (decide_eq_true (by rw [size_ofB, size_ofB]; (try simp only [List.length_append]); omega)) ?_
   rw [ofB_append]
   conv => whnf
   refine br_false (by rw [hk]; rfl) ?_
   conv => whnf
   have hW : lastW 3 T r = vrn 2 ++ textW 3 T r.target := by rw [lastW_gone hk, vrn_small (by decide)]; rfl
   refine ⟨hol.symm, by rw [hol, bytes_str]; simp only [List.length_cons, List.length_nil]; omega, ?_⟩
   conv => whnf
   rw [hP, hW] at h
   exact h
def cO (b : B) (at_ : Nat) : AObj := .cells 303 [.sl none 1 (byteEls b), vi (at_ : Int), vi 0]
theorem cNew_calls (b : B) (hb : b.length < 1000000) {R} (h : R (.ptr 0 0) [cO b 0]) : ACalls Tryz.prog 193 [.sl none 1 (byteEls b), vi 0] [] R := by
 refine acalls_of_xwp (an := an193) tab_ok Tryz.func193 ?_
 have hbl := bel_length b
 conv => whnf
 refine bClone_calls b (by omega) ?_
 conv => whnf
 exact h
theorem one_u64 (p q : B) (n : Nat) (hn : n < 18446744073709551616) (hl : p.length + q.length < 10000000) {R} (h : R (un n) [cO (p ++ vrn n ++ q) (p.length + (vrn n).length)]) :
  ACalls Tryz.prog 238 [.ptr 0 0, .fn (.func 234) [] []] [cO (p ++ vrn n ++ q) p.length] R := by
 refine acalls_of_xwp (an := an238) tab_ok Tryz.func238 ?_
 conv => whnf
 refine vGet_calls p q n hn (by omega) ?_
 conv => whnf
 exact h
theorem Number_calls (p q : B) (n : Nat) (hn : n < 18446744073709551616) (hl : p.length + q.length < 10000000) {R} (h : R (un n) [cO (p ++ vrn n ++ q) (p.length + (vrn n).length)]) :
  ACalls Tryz.prog 221 [.ptr 0 0] [cO (p ++ vrn n ++ q) p.length] R := by
 refine acalls_of_xwp (an := an221) tab_ok Tryz.func221 ?_
 conv => whnf
 refine one_u64 p q n hn hl ?_
 conv => whnf
 exact h
theorem byte1 (c : UInt8) (q : B) {R} (h : R (.tup [.val (.int .u8 (c.toNat : Int)), vi 1, vi 0]) []) (hq : q.length < 1000000) :
  ACalls Tryz.prog 237 [.sl none 1 (byteEls (c :: q)), vi 0] [] R := by
 refine acalls_of_xwp (an := an237) tab_ok Tryz.func237 ?_
 have hbl := bel_length (c :: q)
 conv => whnf
 exact h
theorem Byte_calls (c : UInt8) (q : B) (hq : q.length < 1000000) {R} (h : R (.val (.int .u8 (c.toNat : Int))) [cO (c :: q) 1]) :
  ACalls Tryz.prog 220 [.ptr 0 0] [cO (c :: q) 0] R := by
 refine acalls_of_xwp (an := an220) tab_ok Tryz.func220 ?_
 conv => whnf
 refine acalls_of_xwp (an := an236) tab_ok Tryz.func236 ?_
 conv => whnf
 refine byte1 c q ?_ hq
 conv => whnf
 exact h
theorem text1 (p q s : B) (hs : s.length ≤ 64) (hl : p.length + q.length < 10000000) {R} (h : R (.tup [vs s, vi ((p.length + (blobP s).length : Nat) : Int), vi 0]) []) :
  ACalls Tryz.prog 243 [.sl none 1 (byteEls (p ++ blobP s ++ q)), vi (p.length : Int), .cptr [vi 64] 0] [] R := by
 refine acalls_of_xwp (an := an243) tab_ok Tryz.func243 ?_
 conv => whnf
 refine (show ACalls Tryz.prog 217 [.sl none 1 (byteEls (p ++ blobP s ++ q)), vi (p.length : Int), vi ((64 : Nat) : Int)] [] _ from ?_)
 refine bGet_calls p q s 64 hs (by omega) (by omega) ?_
 conv => whnf
 exact h
theorem cText_calls (p q s : B) (hs : s.length ≤ 64) (hl : p.length + q.length < 10000000) {R} (h : R (vs s) [cO (p ++ blobP s ++ q) (p.length + (blobP s).length)]) :
  ACalls Tryz.prog 235 [.ptr 0 0, vi 64] [cO (p ++ blobP s ++ q) p.length] R := by
 refine acalls_of_xwp (an := an235) tab_ok Tryz.func235 ?_
 conv => whnf
 refine acalls_of_xwp (an := an242) tab_ok Tryz.func242 ?_
 conv => whnf
 refine text1 p q s hs hl ?_
 conv => whnf
 exact h
theorem Err_calls (b : B) (n : Nat) {R} (h : R (vi 0) [cO b n]) : ACalls Tryz.prog 222 [.ptr 0 0] [cO b n] R := by
 refine acalls_of_xwp (an := an222) tab_ok Tryz.func222 ?_
 conv => whnf
 exact h
theorem num_at {P A Q : B} {n : Nat} (hP : P = A ++ vrn n ++ Q) (hn : n < 18446744073709551616) (hl : P.length < 1000000) {R} (h : R (un n) [cO P (A ++ vrn n).length]) :
  ACalls Tryz.prog 221 [.ptr 0 0] [cO P A.length] R := by
 subst hP
 rw [show (A ++ vrn n).length = A.length + (vrn n).length from List.length_append] at h
 exact Number_calls A Q n hn (by simp at hl; omega) h
def rdr : AV := .agg [.ptr 0 0, .ptr 1 0]
theorem rtext_O (b : B) (l : List B) (a i : Nat) (hi : i < l.length) (hl : l.length < 1000000) {R} (h : R (vs l[i]) [cO b a, tblO 2 3 l, tblR l, tblM l]) :
  ACalls Tryz.prog 224 [rdr, un i] [cO b a, tblO 2 3 l, tblR l, tblM l] R := by
 refine acalls_of_xwp (an := an224) tab_ok Tryz.func224 ?_
 conv => whnf
 refine tText_calls l i hi hl ?_
 conv => whnf
 exact h
theorem at_idx {l : List B} {s : B} (hs : s ∈ l) : ∃ h : l.idxOf s < l.length, l[l.idxOf s] = s := ⟨List.idxOf_lt_length_of_mem hs, List.getElem_idxOf (List.idxOf_lt_length_of_mem hs)⟩
theorem rknown_O {P A Q : B} {l : List B} {s : B} (hs : s ∈ l) (hP : P = A ++ vrn (l.idxOf s) ++ Q) (hl : P.length < 1000000) (hll : l.length < 1000000) {R} (h : R (vs s) [cO P (A ++ vrn (l.idxOf s)).length, tblO 2 3 l, tblR l, tblM l]) :
  ACalls Tryz.prog 218 [rdr] [cO P A.length, tblO 2 3 l, tblR l, tblM l] R := by
 refine acalls_of_xwp (an := an218) tab_ok Tryz.func218 ?_
 obtain ⟨hi, he⟩ := at_idx hs
 conv => whnf
 refine ⟨?_, ?_, trivial⟩
 ·conv => whnf
  refine ⟨?_, trivial⟩
  conv => whnf
  refine ⟨?_, trivial⟩
  conv => whnf
  refine num_at hP (by omega) hl ?_
  conv => whnf
  refine ⟨?_, trivial⟩
  conv => whnf
  refine rtext_O P l _ (l.idxOf s) hi hll ?_
  rw [he]
  conv => whnf
  exact h
 ·conv => whnf
  refine ⟨?_, ?_, trivial⟩
  ·conv => whnf
   refine ⟨?_, trivial⟩
   conv => whnf
   refine num_at hP (by omega) hl ?_
   conv => whnf
   refine ⟨?_, trivial⟩
   conv => whnf
   refine rtext_O P l _ (l.idxOf s) hi hll ?_
   rw [he]
   conv => whnf
   exact h
  ·conv => whnf
   refine num_at hP (by omega) hl ?_
   conv => whnf
   refine ⟨?_, trivial⟩
   conv => whnf
   refine ⟨?_, trivial⟩
   conv => whnf
   refine rtext_O P l _ (l.idxOf s) hi hll ?_
   rw [he]
   conv => whnf
   exact h
theorem rblob_F {P A Q s : B} (hs : s.length ≤ 64) (hP : P = A ++ blobP s ++ Q) (hl : P.length < 1000000) {R} (h : R (vs s) [cO P (A ++ blobP s).length, tblF]) :
  ACalls Tryz.prog 219 [rdr] [cO P A.length, tblF] R := by
 refine acalls_of_xwp (an := an219) tab_ok Tryz.func219 ?_
 subst hP
 rw [show (A ++ blobP s).length = A.length + (blobP s).length from List.length_append] at h
 conv => whnf
 refine cText_calls A Q s hs (by simp at hl; omega) ?_
 conv => whnf
 exact h
theorem rdep_1 {P A Q : B} {d : Dp} (hs : d.name.length ≤ 64) (ho : d.order = false) (hP : P = A ++ blobP d.name ++ Q) (hl : P.length < 1000000) {R} (h : R (.agg [vs d.name, un 0, .val (.bool d.order)]) [cO P (A ++ blobP d.name).length, tblF]) :
  ACalls Tryz.prog 223 [rdr, vi 1, .fn (.func 219) [rdr] []] [cO P A.length, tblF] R := by
 refine acalls_of_xwp (an := an223) tab_ok Tryz.func223 ?_
 rw [ho] at h
 conv => whnf
 refine rblob_F hs hP hl ?_
 conv => whnf
 exact h
theorem rdep_2 {P A Q : B} {l : List B} {d : Dp} (hs : d.name ∈ l) (ho : d.order = false) (hP : P = A ++ vrn (l.idxOf d.name) ++ Q) (hl : P.length < 1000000) (hll : l.length < 1000000) {R} (h : R (.agg [vs d.name, un 0, .val (.bool d.order)]) [cO P (A ++ vrn (l.idxOf d.name)).length, tblO 2 3 l, tblR l, tblM l]) :
  ACalls Tryz.prog 223 [rdr, vi 2, .fn (.func 218) [rdr] []] [cO P A.length, tblO 2 3 l, tblR l, tblM l] R := by
 refine acalls_of_xwp (an := an223) tab_ok Tryz.func223 ?_
 rw [ho] at h
 conv => whnf
 refine rknown_O hs hP hl hll ?_
 conv => whnf
 exact h
theorem rdep_3 {P A Q : B} {l : List B} {d : Dp} (hs : d.name ∈ l) (hP : P = A ++ vrn (depN l d) ++ Q) (hl : P.length < 1000000) (hll : l.length < 1000000) {R} (h : R (.agg [vs d.name, un 0, .val (.bool d.order)]) [cO P (A ++ vrn (depN l d)).length, tblO 2 3 l, tblR l, tblM l]) :
  ACalls Tryz.prog 223 [rdr, vi 3, .fn (.func 218) [rdr] []] [cO P A.length, tblO 2 3 l, tblR l, tblM l] R := by
 refine acalls_of_xwp (an := an223) tab_ok Tryz.func223 ?_
 obtain ⟨hi, he⟩ := at_idx hs
 have hN : depN l d < 18446744073709551616 := by unfold depN; split <;> omega
 have e1 : IntKind.u64.wrap (((depN l d : Nat) : Int).tdiv 2) = ((l.idxOf d.name : Nat) : Int) := by
  rw [Int.tdiv_eq_ediv_of_nonneg (Int.natCast_nonneg _)]
  show (((depN l d : Nat) : Int) / 2) % 18446744073709551616 = _
  unfold depN
  split <;> omega
 have e2 : (((depN l d : Nat) : Int).tmod 2 == 1) = d.order := by
  rw [Int.tmod_eq_emod_of_nonneg (Int.natCast_nonneg _)]
  unfold depN
  cases d.order <;> simp <;> omega
 conv => whnf
 refine num_at hP hN hl ?_
 conv => whnf
 rw [e1]
 refine rtext_O P l _ (l.idxOf d.name) hi hll ?_
 rw [he]
 conv => whnf
 rw [e2]
 exact h
end Go.Abs
end
