/- The statements RuleCleans and RuleRuns. -/
import Derived.Test.YtlagdcbgkfaheaaF6
import Derived.Test.YtlagdcbgkfaheaaD4
set_option maxRecDepth 100000
set_option linter.unusedVariables false
set_option linter.unusedSimpArgs false
namespace Go.Abs
open Go Go.Proofs Dig
attribute [local irreducible] ibits byteAt strLt firstIdx

theorem sp_ne (a b : Sp) (h : (!(true && decide (ofB a.name = ofB b.name) && (a.ran == b.ran) && ((a.con.toNat : Int) == (b.con.toNat : Int)))) = true) : a ≠ b := by
  rintro rfl
  simp at h
theorem sp_eq (a b : Sp) (h : (!(true && decide (ofB a.name = ofB b.name) && (a.ran == b.ran) && ((a.con.toNat : Int) == (b.con.toNat : Int)))) = false) : a = b := by
  simp [ofB_eq] at h
  obtain ⟨⟨h1, h2⟩, h3⟩ := h
  have h3 : a.con = b.con := BitVec.eq_of_toNat_eq (by omega)
  cases a; cases b
  simp_all

theorem SameS_calls (a b : List Sp) (ha : a.length < 1000000) {R} (h : ∀ p : Bool, (p = true ↔ a = b) → R (.val (.bool p)) []) : ACalls Try.prog 53 [.sl none 3 (sps a), .sl none 3 (sps b)] [] R := by
  refine acalls_of_xwp (an := an53) tab_ok Try.func53 ?_
  have hsa := sps_length a
  have hsb := sps_length b
  (conv => whnf)
  rw [hsa, hsb]
  refine br_intro (fun hc => ?_) (fun hc => ?_)
  · (conv => whnf)
    refine h false ⟨fun e => (by cases e), ?_⟩
    rintro rfl
    simp at hc
  have hlen : a.length = b.length := by simp at hc; omega
  (conv => whnf)
  refine LoopP.ind1 (fun (i : Nat) => [(5, vi i)]) (fun _ => []) (fun i => a.length - i) (fun i => i ≤ a.length ∧ a.take i = b.take i) 0 rfl ⟨by omega, by simp⟩ ?_
  rintro i ⟨h0, h1⟩ IH
  (conv => whnf)
  refine br_intro (fun hc => ?_) (fun hc => ?_)
  · have hc := lt_of_decE hsa hc
    have hcb : i < b.length := by omega
    (conv => whnf); (repeat ((with_reducible refine must_intro ?_ ?_); exact decide_eq_true (by omega); (conv => whnf)))
    refine idxK_map_intro (show (i : Int).toNat < (a.map Sp.v).length by simpa using hc) ?_
    rw [show (a.map Sp.v)[(i : Int).toNat]'(by simpa using hc) = a[i].v from by simp]
    (conv => whnf); (repeat ((with_reducible refine must_intro ?_ ?_); exact decide_eq_true (by omega); (conv => whnf)))
    refine idxK_map_intro (show (i : Int).toNat < (b.map Sp.v).length by simpa using hcb) ?_
    rw [show (b.map Sp.v)[(i : Int).toNat]'(by simpa using hcb) = b[i].v from by simp]
    (conv => whnf)
    refine br_intro (fun he => ?_) (fun he => ?_)
    · (conv => whnf)
      refine h false ⟨fun e => (by cases e), ?_⟩
      rintro rfl
      exact absurd rfl (sp_ne _ _ he)
    · (conv => whnf)
      rw [i64_nat (by omega)]
      refine IH (i + 1) ⟨by omega, ?_⟩ (by omega)
      rw [List.take_succ_eq_append_getElem hc, List.take_succ_eq_append_getElem hcb, h1, sp_eq _ _ he]
  · have hc := ge_of_decE hsa hc
    rw [List.take_of_length_le hc, List.take_of_length_le (by omega)] at h1
    (conv => whnf)
    exact h true ⟨fun _ => h1, fun _ => rfl⟩

def fixNd2 : List Nd := [⟨[98], false, 1, [[97]]⟩, ⟨[97], true, 0, []⟩]
def fixGiv : List Sp := [⟨[97], false, 5⟩]
theorem fix2_order : orderP fixNd2 = [1, 0] := by decide +kernel
theorem fix2_check : checkP fixNd2 = 0 := by decide +kernel
theorem fix2_small : small fixNd2 := by
  refine ⟨by decide, ?_⟩
  simp [fixNd2]
theorem fix2_clean : cleanP fixNd2 fixGiv = [⟨[97], false, 5⟩, ⟨[98], true, fold 1 [5]⟩] := by
  unfold cleanP
  rw [fix2_order]
  rfl
theorem rfixed_calls {R} (h : R (.val (.bool true)) []) : ACalls Try.prog 50 [] [] R := by
  refine acalls_of_xwp (an := an50) tab_ok Try.func50 ?_
  (conv => whnf)
  refine ACalls.args ?_ (Clean_calls fixNd2 fix2_small fixGiv (by decide) fun c e hc he => ?_)
  · refine leL.cons (le_sl _ _ (leE.cons (leL.refl _) rfl (leE.cons ?_ rfl leE.nil))) (leL.cons (.refl _) leL.nil)
    exact leL.cons (.refl _) (leL.cons (.refl _) (leL.cons (.refl _) (leL.cons (le_nil 1) leL.nil)))
  rw [fix2_clean] at hc
  rw [fix2_check] at he
  subst he
  (conv => whnf)
  refine refFold_calls 1 [5] (by simp) rfl fun d hd => ?_
  (conv => whnf)
  refine SameS_calls c [⟨[97], false, 5⟩, ⟨[98], true, d⟩] (by rw [hc]; simp) fun p hp => ?_
  have hp : p = true := hp.2 (by rw [hc, hd])
  subst hp
  (conv => whnf)
  exact h

theorem typed_step {n : Nat} {x : List AV} (h : Typed tab (n + 3) 116 x) : ∃ s : Sp, x = stepC s.v := by
  obtain ⟨a1, r1, rfl, ⟨s, rfl, hs⟩, a2, r2, rfl, ⟨b, rfl⟩, a3, r3, rfl, ⟨u, rfl, hu⟩, rfl⟩ : ∃ a r, x = a ++ r ∧ (∃ s : ByteArray, a = [.val (.string s)] ∧ s.size ≤ maxLen) ∧
      ∃ a r', r = a ++ r' ∧ (∃ b, a = [.val (.bool b)]) ∧ ∃ a r'', r' = a ++ r'' ∧ (∃ y, a = [.val (.int .u64 y)] ∧ (Lit.int .u64 y).wf = true) ∧ r'' = [] := h
  refine ⟨⟨bs s, b, BitVec.ofInt 64 u⟩, ?_⟩
  simp only [stepC, Sp.v, ofB_bs, List.cons_append, List.nil_append]
  rw [← wf_u64 hu]
theorem typed_steps {n : Nat} {l : List (List AV)} (h : ∀ x ∈ l, Typed tab (n + 3) 116 x) : ∃ m : List Sp, l = sps m := by
  induction l with
  | nil => exact ⟨[], rfl⟩
  | cons x l ih =>
    obtain ⟨m, rfl⟩ := ih fun y hy => h y (by simp [hy])
    obtain ⟨s, rfl⟩ := typed_step (h x (by simp))
    exact ⟨s :: m, rfl⟩
theorem args_steps {ts : List TypeId} {l : List AV} (h : Args tab 12 (73 :: ts) l) : ∃ (x : List Sp) (l' : List AV), l = .sl none 3 (sps x) :: l' ∧ x.length ≤ maxLen ∧ Args tab 12 ts l' := by
  obtain ⟨a, l', rfl, h1, h2⟩ := h
  obtain ⟨x, e, hl, hx⟩ : ∃ x : List (List AV), [a] = [.sl none 3 x] ∧ x.length ≤ maxLen ∧ ∀ y ∈ x, Typed tab 11 116 y := h1
  obtain ⟨m, rfl⟩ := typed_steps (n := 8) hx
  simp only [List.cons.injEq, and_true] at e
  subst e
  exact ⟨m, l', rfl, by simpa [sps] using hl, h2⟩
theorem args_node {ts : List TypeId} {l : List AV} (h : Args tab 12 (42 :: ts) l) : ∃ (x : Nd) (l' : List AV), l = .agg x.enc :: l' ∧ x.deps.length ≤ maxLen ∧ Args tab 12 ts l' := by
  obtain ⟨a, l', rfl, h1, h2⟩ := h
  obtain ⟨x, rfl, hx⟩ : ∃ x, a = .agg x ∧ Typed tab 12 42 x := h1
  obtain ⟨n, rfl, hn⟩ := typed_node (n := 9) hx
  exact ⟨n, l', rfl, hn, h2⟩

theorem FewS_calls (l : List Sp) (hl : l.length ≤ maxLen) {R} (h : ∀ b : Bool, (b = true → l.length ≤ 100 ∧ ∀ s ∈ l, s.name.length ≤ 100) → R (.val (.bool b)) []) :
    ACalls Try.prog 49 [.sl none 3 (sps l)] [] R := by
  refine acalls_of_xwp (an := an49) tab_ok Try.func49 ?_
  have hsl := sps_length l
  have hmx : maxLen ≤ 9223372036854775807 := by decide
  (conv => whnf)
  refine LoopP.ind1 (fun (i : Nat) => [(7, vi i)]) (fun _ => []) (fun i => l.length - i) (fun i => i ≤ l.length ∧ ∀ s ∈ l.take i, s.name.length ≤ 100) 0 rfl ⟨Nat.zero_le _, by simp⟩ ?_
  rintro i ⟨hi, hn⟩ IH
  (conv => whnf)
  refine br_intro (fun hc => ?_) (fun hc => ?_)
  · have hc := lt_of_decE hsl hc
    have hsn : l[i].v.name.size = l[i].name.length := size_ofB _
    (conv => whnf); (repeat ((with_reducible refine must_intro ?_ ?_); exact decide_eq_true (by omega); (conv => whnf)))
    refine idxK_map_intro (show (i : Int).toNat < (l.map Sp.v).length by simpa using hc) ?_
    rw [show (l.map Sp.v)[(i : Int).toNat]'(by simpa using hc) = l[i].v from by simp]
    (conv => whnf)
    rw [hsn]
    refine br_intro (fun hb => ?_) (fun hb => ?_)
    · (conv => whnf)
      exact h false (by simp)
    · (conv => whnf)
      rw [wrap_i64 (by omega) (by omega), show ((i : Int) + 1) = ((i + 1 : Nat) : Int) by omega]
      refine IH (i + 1) ⟨by omega, fun s hs => ?_⟩ (by omega)
      rw [List.take_succ_eq_append_getElem hc, List.mem_append, List.mem_singleton] at hs
      rcases hs with hs | rfl
      · exact hn s hs
      · simp at hb
        omega
  · have hc := ge_of_decE hsl hc
    rw [List.take_of_length_le hc] at hn
    (conv => whnf)
    rw [hsl]
    refine h _ fun hb => ⟨?_, hn⟩
    simp at hb
    omega

theorem RuleCleans_calls (l : List Nd) (hl : l.length ≤ maxLen) (hn : ∀ n ∈ l, n.deps.length ≤ maxLen) (given : List Sp) (hg : given.length ≤ maxLen) {R} (h : R (.val (.bool true)) []) :
    ACalls Try.prog 13 [.sl none 4 (nds l), .sl none 3 (sps given)] [] R := by
  refine acalls_of_xwp (an := an13) tab_ok Try.func13 ?_
  (conv => whnf)
  refine Great_calls l hl hn fun b hb => ?_
  (conv => whnf)
  refine br_intro (fun g => ?_) (fun g => ?_)
  · (conv => whnf)
    refine rfixed_calls ?_
    (conv => whnf)
    exact h
  obtain ⟨b1, b2⟩ := hb g
  have hs : small l := ⟨by omega, fun n hn => by
    obtain ⟨g1, g2, g3⟩ := b2 n hn
    exact ⟨by omega, by omega, fun d hd => by have := g3 d hd; omega⟩⟩
  (conv => whnf)
  refine FewS_calls given hg fun b2 hb2 => ?_
  (conv => whnf)
  refine br_intro (fun g2 => ?_) (fun g2 => ?_)
  · (conv => whnf)
    refine rfixed_calls ?_
    (conv => whnf)
    exact h
  obtain ⟨f1, f2⟩ := hb2 (by simpa using g2)
  (conv => whnf)
  refine Clean_calls l hs given (by omega) fun c e hc he => ?_
  (conv => whnf)
  refine refClean_calls l hs given (by omega) fun c' e' hc' he' => ?_
  (conv => whnf)
  refine rfixed_calls ?_
  (conv => whnf)
  refine SameS_calls c c' (by rw [hc]; have := clean_length l given (orderP l); have := orderP_len l; unfold cleanP; omega) fun p hp => ?_
  have hp : p = true := hp.2 (by rw [hc, hc'])
  subst hp
  (conv => whnf)
  rw [he, he']
  simpa using h

theorem RuleRuns_calls (n : Nd) (deps : List U) (hd : deps.length ≤ maxLen) (given : List Sp) (hg : given.length ≤ maxLen) {R} (h : R (.val (.bool true)) []) :
    ACalls Try.prog 14 [.agg n.enc, .sl none 1 (nums deps), .sl none 3 (sps given)] [] R := by
  refine acalls_of_xwp (an := an14) tab_ok Try.func14 ?_
  have hnl := nums_length deps
  have hsn := size_ofB n.name
  (conv => whnf)
  rw [hnl]
  refine br_intro (fun g => ?_) (fun g => ?_)
  · (conv => whnf)
    refine rfixed_calls ?_
    (conv => whnf)
    exact h
  have g : deps.length ≤ 100 := by simp at g; omega
  (conv => whnf)
  refine FewS_calls given hg fun b2 hb2 => ?_
  (conv => whnf)
  refine br_intro (fun g2 => ?_) (fun g2 => ?_)
  · (conv => whnf)
    refine rfixed_calls ?_
    (conv => whnf)
    exact h
  obtain ⟨f1, f2⟩ := hb2 (by simpa using g2)
  (conv => whnf)
  rw [hsn]
  refine br_intro (fun g3 => ?_) (fun g3 => ?_)
  · (conv => whnf)
    refine rfixed_calls ?_
    (conv => whnf)
    exact h
  (conv => whnf)
  refine rfixed_calls ?_
  (conv => whnf)
  refine Run_x n deps (by omega) fun d1 hd1 => ?_
  (conv => whnf)
  refine refFold_calls n.rule deps (by omega) rfl fun d2 hd2 => ?_
  (conv => whnf)
  refine br_true (by rw [hd1, hd2]; simp) ?_
  (conv => whnf)
  refine codeGiven given (by omega) n.name fun d3 hd3 => ?_
  (conv => whnf)
  refine docGiven given (by omega) n.name fun d4 hd4 => ?_
  (conv => whnf)
  rw [hd3, hd4]
  simpa using h

theorem RuleCleans_row (l : List AV) (h : Args tab 12 [61, 73] l) : ACalls Try.prog 13 l [] fun r _ => r = .val (.bool true) := by
  obtain ⟨a, l1, rfl, h1, h2, h3⟩ := args_nodes h
  obtain ⟨b, l2, rfl, h4, h5⟩ := args_steps h3
  obtain rfl := args_nil h5
  exact RuleCleans_calls a h1 h2 b h4 rfl
theorem RuleRuns_row (l : List AV) (h : Args tab 12 [42, 28, 73] l) : ACalls Try.prog 14 l [] fun r _ => r = .val (.bool true) := by
  obtain ⟨n, l1, rfl, h1, h2⟩ := args_node h
  obtain ⟨a, l2, rfl, h3, h4⟩ := args_nums h2
  obtain ⟨b, l3, rfl, h5, h6⟩ := args_steps h4
  obtain rfl := args_nil h6
  exact RuleRuns_calls n a h3 b h5 rfl
end Go.Abs
