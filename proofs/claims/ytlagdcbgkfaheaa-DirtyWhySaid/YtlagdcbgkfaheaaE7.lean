/- The statement GraphChecks: the document's check, the order, the statement. -/
import Derived.Test.YtlagdcbgkfaheaaE6
import Derived.Test.YtlagdcbgkfaheaaC1
set_option maxRecDepth 100000
set_option linter.unusedVariables false
set_option linter.unusedSimpArgs false
namespace Go.Abs
open Go Go.Proofs
attribute [local irreducible] ibits byteAt strLt firstIdx

theorem refCheck_calls (l : List Nd) (hl : small l) {R} (h : ∀ e, e = checkP l → R (vi e) []) : ACalls Try.prog 45 [.sl none 4 (nds l)] [] R := by
  refine acalls_of_xwp (an := an45) tab_ok Try.func45 ?_
  have hl' := hl
  obtain ⟨hlen, hsm⟩ := hl
  have hsl := nds_length l
  (conv => whnf)
  refine br_intro (fun hc => ?_) (fun hc => ?_)
  · (conv => whnf)
    refine h 5 ?_
    have : 64 < l.length := by rw [hsl] at hc; simp at hc; omega
    simp [checkP, this]
  have h64 : ¬ 64 < l.length := by rw [hsl] at hc; simp at hc; omega
  have bad1 : ∀ e, e ≠ 0 → chk1 l [] = e → R (vi e) [] := fun e hb he => h _ (by unfold checkP; rw [if_neg h64, if_pos (by rw [he]; exact hb), he])
  (conv => whnf)
  refine LoopP.ind1 (fun (i : Nat) => [(3, vi i)]) (fun i => []) (fun i => l.length - i) (fun i => i ≤ l.length ∧ chk1 (l.drop i) (names (l.take i)) = chk1 l []) 0 rfl ⟨by omega, by simp [names]⟩ ?_
  rintro i ⟨h0, hch⟩ IH
  (conv => whnf)
  refine br_intro (fun hc => ?_) (fun hc => ?_)
  · have hc := lt_of_decE hsl hc
    obtain ⟨hs1, hs2, hs3⟩ := hsm _ (List.getElem_mem hc)
    rw [chk1_drop hc] at hch
    (conv => whnf); (repeat ((with_reducible refine must_intro ?_ ?_); exact decide_eq_true (by omega); (conv => whnf)))
    refine idxK_map_intro (show (i : Int).toNat < l.length by simpa using hc) ?_
    rw [show l[(i : Int).toNat]'(by simpa using hc) = l[i] from by congr 1]
    (conv => whnf)
    refine nPlace_calls (l.take i) l[i].name (by simp; omega) (by simp [nds, List.map_take]) fun p hp => ?_
    have hp : p = placeI (names (l.take i)) l[i].name := hp
    (conv => whnf)
    refine br_intro (fun hg => ?_) (fun hg => ?_)
    · have hm : l[i].name ∈ names (l.take i) := by
        have : 0 ≤ p := by simpa using hg
        rw [hp] at this
        exact Classical.byContradiction fun e => by have := placeI_neg.2 e; omega
      rw [if_pos hm] at hch
      (conv => whnf)
      exact bad1 1 (by omega) hch.symm
    · have hm : l[i].name ∉ names (l.take i) := by
        have : p < 0 := by simpa using hg
        rw [hp] at this
        exact placeI_neg.1 this
      rw [if_neg hm] at hch
      (conv => whnf); (repeat ((with_reducible refine must_intro ?_ ?_); exact decide_eq_true (by omega); (conv => whnf)))
      refine idxK_map_intro (show (i : Int).toNat < l.length by simpa using hc) ?_
      rw [show l[(i : Int).toNat]'(by simpa using hc) = l[i] from by congr 1]
      (conv => whnf)
      refine refOne_calls l[i] (by omega) fun e he => ?_
      rw [← he] at hch
      (conv => whnf)
      refine br_intro (fun g => ?_) (fun g => ?_)
      · have g : e ≠ 0 := by simpa using g
        rw [if_pos g] at hch
        (conv => whnf)
        exact bad1 e g hch.symm
      · have g : e = 0 := by simpa using g
        rw [if_neg (by rw [g]; simp), ← names_take hc] at hch
        (conv => whnf)
        rw [i64_nat (by omega)]
        exact IH (i + 1) ⟨by omega, hch⟩ (by omega)
  · have hc := ge_of_decE hsl hc
    rw [List.drop_eq_nil_of_le hc, chk1] at hch
    have hchk := hch.symm
    clear IH
    (conv => whnf)
    refine LoopP.ind1 (fun (i : Nat) => [(5, vi i)]) (fun _ => []) (fun i => l.length - i) (fun i => i ≤ l.length ∧ ∀ n ∈ l.take i, ∀ d ∈ n.deps, d ∈ names l) 0 rfl ⟨by omega, by simp⟩ ?_
    rintro i ⟨h0, hdo⟩ IH
    (conv => whnf)
    refine br_intro (fun hc => ?_) (fun hc => ?_)
    · have hc := lt_of_decE hsl hc
      have hsl3 := strs_length l[i].deps
      obtain ⟨hs1, hs2, hs3⟩ := hsm _ (List.getElem_mem hc)
      (conv => whnf)
      refine LoopP.ind1 (fun (j : Nat) => [(6, vi j)]) (fun _ => []) (fun j => l[i].deps.length - j) (fun j => j ≤ l[i].deps.length ∧ ∀ d ∈ l[i].deps.take j, d ∈ names l) 0 rfl ⟨by omega, by simp⟩ ?_
      rintro j ⟨hj0, hjo⟩ IH2
      (conv => whnf); (repeat ((with_reducible refine must_intro ?_ ?_); exact decide_eq_true (by omega); (conv => whnf)))
      refine idxK_map_intro (show (i : Int).toNat < l.length by simpa using hc) ?_
      rw [show l[(i : Int).toNat]'(by simpa using hc) = l[i] from by congr 1]
      (conv => whnf)
      refine br_intro (fun hc2 => ?_) (fun hc2 => ?_)
      · have hc2 := lt_of_decE hsl3 hc2
        (conv => whnf); (repeat ((with_reducible refine must_intro ?_ ?_); exact decide_eq_true (by omega); (conv => whnf)))
        refine idxK_map_intro (show (i : Int).toNat < l.length by simpa using hc) ?_
        rw [show l[(i : Int).toNat]'(by simpa using hc) = l[i] from by congr 1]
        (conv => whnf); (repeat ((with_reducible refine must_intro ?_ ?_); exact decide_eq_true (by omega); (conv => whnf)))
        refine idxK_map_intro (show (j : Int).toNat < l[i].deps.length by simpa using hc2) ?_
        rw [show l[i].deps[(j : Int).toNat]'(by simpa using hc2) = l[i].deps[j] from by congr 1]
        (conv => whnf)
        refine nPlace_calls l l[i].deps[j] (by omega) rfl fun p hp => ?_
        have hp : p = placeI (names l) l[i].deps[j] := hp
        (conv => whnf)
        refine br_intro (fun hg => ?_) (fun hg => ?_)
        · have hm : l[i].deps[j] ∉ names l := by
            have : p < 0 := by simpa using hg
            rw [hp] at this
            exact placeI_neg.1 this
          (conv => whnf)
          refine h 6 ?_
          unfold checkP
          rw [if_neg h64, if_neg (by rw [hchk]; simp), if_pos (depsOk_false hc hc2 hm)]
        · have hm : l[i].deps[j] ∈ names l := by
            have : 0 ≤ p := by simpa using hg
            rw [hp] at this
            exact Classical.byContradiction fun e => by have := placeI_neg.2 e; omega
          (conv => whnf)
          rw [i64_nat (by omega)]
          refine IH2 (j + 1) ⟨by omega, fun d hd => ?_⟩ (by omega)
          rw [List.take_succ_eq_append_getElem hc2, List.mem_append, List.mem_singleton] at hd
          rcases hd with hd | rfl
          · exact hjo d hd
          · exact hm
      · have hc2 := ge_of_decE hsl3 hc2
        rw [List.take_of_length_le hc2] at hjo
        (conv => whnf)
        rw [i64_nat (by omega)]
        refine IH (i + 1) ⟨by omega, fun n hn => ?_⟩ (by omega)
        rw [List.take_succ_eq_append_getElem hc, List.mem_append, List.mem_singleton] at hn
        rcases hn with hn | rfl
        · exact hdo n hn
        · exact hjo
    · have hc := ge_of_decE hsl hc
      rw [List.take_of_length_le hc] at hdo
      (conv => whnf)
      refine refRow_calls l hl' (chk1_nodup l [] hchk).1 fun r hr => ?_
      have hrl := ints_length r
      have fin : checkP l = if r.length < l.length then 9 else 0 := by
        unfold checkP
        rw [if_neg h64, if_neg (by rw [hchk]; simp), if_neg (by rw [depsOk_true hdo]; simp), hr]
      (conv => whnf)
      rw [hrl, hsl]
      refine br_intro (fun g2 => ?_) (fun g2 => ?_)
      · (conv => whnf)
        exact h 9 (by rw [fin, if_pos (lt_of_dec g2)])
      · (conv => whnf)
        exact h 0 (by rw [fin, if_neg (by have := ge_of_dec g2; omega)])

/-- The order, or none. -/
def orderP (l : List Nd) : List Nat := if checkP l = 0 then rowP l else []
theorem Order_calls (l : List Nd) (hl : small l) {R} (h : ∀ o e, o = orderP l → e = checkP l → R (.tup [.sl none 1 (ints o), vi e]) []) : ACalls Try.prog 44 [.sl none 4 (nds l)] [] R := by
  refine ACalls.res ?_
  refine acalls_of_xwp (an := an44) tab_ok Try.func44 ?_
  (conv => whnf)
  refine Check_calls l hl fun e he => ?_
  (conv => whnf)
  refine br_intro (fun g => ?_) (fun g => ?_)
  · have g : e ≠ 0 := by simpa using g
    (conv => whnf)
    refine res_le (le_tup (leL.cons (le_nil 1) (leL.cons (.refl _) leL.nil))) rfl (h [] e ?_ he)
    unfold orderP
    rw [← he, if_neg g]
  · have g : e = 0 := by simpa using g
    (conv => whnf)
    refine row_calls l hl fun r hr => ?_
    (conv => whnf)
    refine res_same ?_
    have := h r 0 (by unfold orderP; rw [← he, if_pos g, hr]) (by rw [← he, g])
    exact this

theorem Same_calls (a b : List Nat) (ha : a.length < 1000000) {R} (h : ∀ p, p = decide (a = b) → R (.val (.bool p)) []) : ACalls Try.prog 47 [.sl none 1 (ints a), .sl none 1 (ints b)] [] R := by
  refine acalls_of_xwp (an := an47) tab_ok Try.func47 ?_
  have hsa := ints_length a
  have hsb := ints_length b
  (conv => whnf)
  rw [hsa, hsb]
  refine br_intro (fun hc => ?_) (fun hc => ?_)
  · (conv => whnf)
    refine h false (decide_eq_false ?_).symm
    rintro rfl
    simp at hc
  have hlen : a.length = b.length := by simp at hc; omega
  (conv => whnf)
  refine LoopP.ind1 (fun (i : Nat) => [(5, vi i)]) (fun _ => []) (fun i => a.length - i) (fun i => i ≤ a.length ∧ a.take i = b.take i) 0 rfl ⟨by omega, by simp⟩ ?_
  rintro i ⟨h0, h1⟩ IH
  (conv => whnf)
  refine br_intro (fun hc => ?_) (fun hc => ?_)
  · have hc := lt_of_decE hsa hc
    have hcb : i < b.length := by omega
    (conv => whnf); (repeat ((with_reducible refine must_intro ?_ ?_); exact decide_eq_true (by omega); (conv => whnf)))
    refine idxK_map_intro (show (i : Int).toNat < a.length by simpa using hc) ?_
    rw [show a[(i : Int).toNat]'(by simpa using hc) = a[i] from by congr 1]
    (conv => whnf); (repeat ((with_reducible refine must_intro ?_ ?_); exact decide_eq_true (by omega); (conv => whnf)))
    refine idxK_map_intro (show (i : Int).toNat < b.length by simpa using hcb) ?_
    rw [show b[(i : Int).toNat]'(by simpa using hcb) = b[i] from by congr 1]
    (conv => whnf)
    refine br_intro (fun he => ?_) (fun he => ?_)
    · have he : ¬ ((a[i] : Nat) : Int) = ((b[i] : Nat) : Int) := by simpa using he
      have he : a[i] ≠ b[i] := fun e => he (by rw [e])
      (conv => whnf)
      refine h false (decide_eq_false ?_).symm
      rintro rfl
      exact he rfl
    · have he : ((a[i] : Nat) : Int) = ((b[i] : Nat) : Int) := by simpa using he
      have he : a[i] = b[i] := by omega
      (conv => whnf)
      rw [i64_nat (by omega)]
      refine IH (i + 1) ⟨by omega, ?_⟩ (by omega)
      rw [List.take_succ_eq_append_getElem hc, List.take_succ_eq_append_getElem hcb, h1, he]
  · have hc := ge_of_decE hsa hc
    rw [List.take_of_length_le hc, List.take_of_length_le (by omega)] at h1
    (conv => whnf)
    exact h true (decide_eq_true h1).symm

def fixNd : List Nd := [⟨[98], false, 0, [[97]]⟩, ⟨[97], true, 0, []⟩]
theorem fix_order : orderP fixNd = [1, 0] := by decide +kernel
theorem fix_check : checkP fixNd = 0 := by decide +kernel
theorem fix_small : small fixNd := by
  refine ⟨by decide, ?_⟩
  simp [fixNd]
theorem gfixed_calls {R} (h : R (.val (.bool true)) []) : ACalls Try.prog 43 [] [] R := by
  refine acalls_of_xwp (an := an43) tab_ok Try.func43 ?_
  (conv => whnf)
  refine ACalls.args ?_ (Order_calls fixNd fix_small fun o e ho he => ?_)
  · refine leL.cons (le_sl _ _ (leE.cons (leL.refl _) rfl (leE.cons ?_ rfl leE.nil))) leL.nil
    exact leL.cons (.refl _) (leL.cons (.refl _) (leL.cons (.refl _) (leL.cons (le_nil 1) leL.nil)))
  rw [fix_order] at ho
  rw [fix_check] at he
  subst ho he
  (conv => whnf)
  refine Same_calls [1, 0] [1, 0] (by simp) fun p hp => ?_
  have hp : p = true := by rw [hp]; decide
  subst hp
  (conv => whnf)
  exact h

/-- What is not too great is small. -/
theorem Great_calls (l : List Nd) (hl : l.length ≤ maxLen) (hn : ∀ n ∈ l, n.deps.length ≤ maxLen) {R} (h : ∀ b : Bool, (b = false → l.length ≤ 80 ∧ ∀ n ∈ l, n.deps.length ≤ 30 ∧ n.name.length ≤ 100 ∧ ∀ d ∈ n.deps, d.length ≤ 100) → R (.val (.bool b)) []) :
    ACalls Try.prog 42 [.sl none 4 (nds l)] [] R := by
  refine acalls_of_xwp (an := an42) tab_ok Try.func42 ?_
  have hsl := nds_length l
  have yes : R (.val (.bool true)) [] := h true (fun e => by cases e)
  (conv => whnf)
  refine LoopP.ind1 (fun (i : Nat) => [(9, vi i)]) (fun _ => []) (fun i => l.length - i) (fun i => i ≤ l.length ∧ ∀ n ∈ l.take i, n.deps.length ≤ 30 ∧ n.name.length ≤ 100 ∧ ∀ d ∈ n.deps, d.length ≤ 100) 0 rfl ⟨by omega, by simp⟩ ?_
  rintro i ⟨h0, hdo⟩ IH
  (conv => whnf)
  refine br_intro (fun hc => ?_) (fun hc => ?_)
  · have hc := lt_of_decE hsl hc
    have hsl3 := strs_length l[i].deps
    have hm := hn _ (List.getElem_mem hc)
    have hmx : maxLen ≤ 9223372036854775807 := by decide
    (conv => whnf); (repeat ((with_reducible refine must_intro ?_ ?_); exact decide_eq_true (by omega); (conv => whnf)))
    refine idxK_map_intro (show (i : Int).toNat < l.length by simpa using hc) ?_
    rw [show l[(i : Int).toNat]'(by simpa using hc) = l[i] from by congr 1]
    (conv => whnf)
    rw [hsl3]
    refine br_intro (fun g1 => ?_) (fun g1 => ?_)
    · (conv => whnf)
      exact yes
    have g1 : l[i].deps.length ≤ 30 := by simp at g1; omega
    have hsn := size_ofB l[i].name
    (conv => whnf)
    rw [hsn]
    refine br_intro (fun g2 => ?_) (fun g2 => ?_)
    · (conv => whnf)
      exact yes
    have g2 : l[i].name.length ≤ 100 := by simp at g2; omega
    (conv => whnf)
    refine LoopP.ind1 (fun (j : Nat) => [(26, vi j)]) (fun _ => []) (fun j => l[i].deps.length - j) (fun j => j ≤ l[i].deps.length ∧ ∀ d ∈ l[i].deps.take j, d.length ≤ 100) 0 rfl ⟨by omega, by simp⟩ ?_
    rintro j ⟨hj0, hjo⟩ IH2
    (conv => whnf)
    refine br_intro (fun hc2 => ?_) (fun hc2 => ?_)
    · have hc2 := lt_of_decE hsl3 hc2
      (conv => whnf); (repeat ((with_reducible refine must_intro ?_ ?_); exact decide_eq_true (by omega); (conv => whnf)))
      refine idxK_map_intro (show (j : Int).toNat < l[i].deps.length by simpa using hc2) ?_
      rw [show l[i].deps[(j : Int).toNat]'(by simpa using hc2) = l[i].deps[j] from by congr 1]
      have hsd := size_ofB l[i].deps[j]
      (conv => whnf)
      rw [hsd]
      refine br_intro (fun g3 => ?_) (fun g3 => ?_)
      · (conv => whnf)
        exact yes
      have g3 : l[i].deps[j].length ≤ 100 := by simp at g3; omega
      (conv => whnf)
      rw [i64_nat (by omega)]
      refine IH2 (j + 1) ⟨by omega, fun d hd => ?_⟩ (by omega)
      rw [List.take_succ_eq_append_getElem hc2, List.mem_append, List.mem_singleton] at hd
      rcases hd with hd | rfl
      · exact hjo d hd
      · exact g3
    · have hc2 := ge_of_decE hsl3 hc2
      rw [List.take_of_length_le hc2] at hjo
      (conv => whnf)
      rw [wrap_i64 (by omega) (by omega), show ((i : Int) + 1) = ((i + 1 : Nat) : Int) by omega]
      refine IH (i + 1) ⟨by omega, fun n hn => ?_⟩ (by omega)
      rw [List.take_succ_eq_append_getElem hc, List.mem_append, List.mem_singleton] at hn
      rcases hn with hn | rfl
      · exact hdo n hn
      · exact ⟨g1, g2, hjo⟩
  · have hc := ge_of_decE hsl hc
    rw [List.take_of_length_le hc] at hdo
    (conv => whnf)
    rw [hsl]
    refine h _ fun e => ⟨?_, hdo⟩
    simp at e
    omega

theorem typed_strs {n : Nat} {l : List (List AV)} (h : ∀ x ∈ l, Typed tab (n + 1) 9 x) : ∃ m : List B, l = strs m := by
  induction l with
  | nil => exact ⟨[], rfl⟩
  | cons x l ih =>
    obtain ⟨m, rfl⟩ := ih fun y hy => h y (by simp [hy])
    obtain ⟨s, rfl, hs⟩ : ∃ s : ByteArray, x = [.val (.string s)] ∧ s.size ≤ maxLen := h x (by simp)
    exact ⟨bs s :: m, by simp only [strs, List.map_cons, vs, ofB_bs]⟩
theorem typed_node {n : Nat} {x : List AV} (h : Typed tab (n + 3) 42 x) : ∃ nd : Nd, x = nd.enc ∧ nd.deps.length ≤ maxLen := by
  obtain ⟨a1, r1, rfl, ⟨s, rfl, hs⟩, a2, r2, rfl, ⟨b, rfl⟩, a3, r3, rfl, ⟨u, rfl, hu⟩, a4, r4, rfl, ⟨l, rfl, hl, hx⟩, rfl⟩ : ∃ a r, x = a ++ r ∧ (∃ s : ByteArray, a = [.val (.string s)] ∧ s.size ≤ maxLen) ∧
      ∃ a r', r = a ++ r' ∧ (∃ b, a = [.val (.bool b)]) ∧ ∃ a r'', r' = a ++ r'' ∧ (∃ y, a = [.val (.int .u64 y)] ∧ (Lit.int .u64 y).wf = true) ∧
      ∃ a r''', r'' = a ++ r''' ∧ (∃ l : List (List AV), a = [.sl none 1 l] ∧ l.length ≤ maxLen ∧ ∀ x ∈ l, Typed tab (n + 1) 9 x) ∧ r''' = [] := h
  obtain ⟨m, rfl⟩ := typed_strs hx
  refine ⟨⟨bs s, b, BitVec.ofInt 64 u, m⟩, ?_, by simpa [strs] using hl⟩
  simp only [Nd.enc, vs, ofB_bs, uv, List.cons_append, List.nil_append]
  rw [← wf_u64 hu]
theorem typed_nodes {n : Nat} {l : List (List AV)} (h : ∀ x ∈ l, Typed tab (n + 3) 42 x) : ∃ m : List Nd, l = nds m ∧ ∀ nd ∈ m, nd.deps.length ≤ maxLen := by
  induction l with
  | nil => exact ⟨[], rfl, by simp⟩
  | cons x l ih =>
    obtain ⟨m, rfl, hm⟩ := ih fun y hy => h y (by simp [hy])
    obtain ⟨nd, rfl, hn⟩ := typed_node (h x (by simp))
    exact ⟨nd :: m, rfl, by
      intro y hy
      rw [List.mem_cons] at hy
      rcases hy with rfl | hy
      · exact hn
      · exact hm y hy⟩
theorem args_nodes {ts : List TypeId} {l : List AV} (h : Args tab 12 (61 :: ts) l) : ∃ (x : List Nd) (l' : List AV), l = .sl none 4 (nds x) :: l' ∧ x.length ≤ maxLen ∧ (∀ n ∈ x, n.deps.length ≤ maxLen) ∧ Args tab 12 ts l' := by
  obtain ⟨a, l', rfl, h1, h2⟩ := h
  obtain ⟨x, e, hl, hx⟩ : ∃ x : List (List AV), [a] = [.sl none 4 x] ∧ x.length ≤ maxLen ∧ ∀ y ∈ x, Typed tab 11 42 y := h1
  obtain ⟨m, rfl, hm⟩ := typed_nodes (n := 8) hx
  simp only [List.cons.injEq, and_true] at e
  subst e
  exact ⟨m, l', rfl, by simpa [nds] using hl, hm, h2⟩
theorem args_node {ts : List TypeId} {l : List AV} (h : Args tab 12 (42 :: ts) l) : ∃ (x : Nd) (l' : List AV), l = .agg x.enc :: l' ∧ x.deps.length ≤ maxLen ∧ Args tab 12 ts l' := by
  obtain ⟨a, l', rfl, h1, h2⟩ := h
  obtain ⟨x, rfl, hx⟩ : ∃ x, a = .agg x ∧ Typed tab 12 42 x := h1
  obtain ⟨n, rfl, hn⟩ := typed_node (n := 9) hx
  exact ⟨n, l', rfl, hn, h2⟩
end Go.Abs
