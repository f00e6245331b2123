/- Several texts of this claim, one behind the other: H7. -/
import Derived.Test.YtnifkinpogopkaaYFoldFinds1

section
/- record.Same, fold.Same; the chapter's example; FoldFinds. -/
set_option maxRecDepth 100000
set_option maxHeartbeats 1000000
set_option linter.unusedVariables false
set_option linter.unusedSimpArgs false
namespace Go.Abs
open Go Go.Proofs Dig
attribute [local irreducible] ibits byteAt strLt firstIdx

def Rc.bare (r : Rc) : List AV := [vi r.kind, vs r.target, vs r.tag, uv r.rule, uv r.out, uv r.wen]
theorem of_calls (r : Rc) {R} (h : R (.agg r.bare) []) : ACalls Try.prog 81 [.agg r.enc] [] R := by
  refine acalls_of_xwp (an := an81) tab_ok Try.func81 ?_
  (conv => whnf)
  exact h
theorem dp_ne (a b : Dp) (h : (!(true && decide (ofB a.name = ofB b.name) && ((a.hash.toNat : Int) == (b.hash.toNat : Int)) && (a.order == b.order))) = true) : a ≠ b := by
  rintro rfl
  simp at h
theorem dp_eq (a b : Dp) (h : (!(true && decide (ofB a.name = ofB b.name) && ((a.hash.toNat : Int) == (b.hash.toNat : Int)) && (a.order == b.order))) = false) : a = b := by
  simp [ofB_eq] at h
  obtain ⟨⟨h1, h2⟩, h3⟩ := h
  have h2 : a.hash = b.hash := BitVec.eq_of_toNat_eq (by omega)
  cases a; cases b
  simp_all
theorem EqualD_calls (a b : List Dp) (ha : a.length < 1000000) {R} (h : ∀ p, p = decide (a = b) → R (.val (.bool p)) []) : ACalls Try.prog 82 [.sl none 3 (dpsA a), .sl none 3 (dpsA b)] [] R := by
  refine acalls_of_xwp (an := an82) tab_ok Try.func82 ?_
  have hsa := dpsA_length a
  have hsb := dpsA_length b
  (conv => whnf)
  rw [hsa, hsb]
  refine br_intro (fun hc => ?_) (fun hc => ?_)
  · (conv => whnf)
    refine h false (decide_eq_false ?_).symm
    rintro rfl
    simp at hc
  have hlen : a.length = b.length := by simp at hc; omega
  (conv => whnf)
  refine LoopP.ind1 (fun (i : Nat) => [(13, vi i)]) (fun _ => []) (fun i => a.length - i) (fun i => i ≤ a.length ∧ a.take i = b.take i) 0 rfl ⟨by omega, by simp⟩ ?_
  rintro i ⟨h0, h1⟩ IH
  (conv => whnf)
  refine br_intro (fun hc => ?_) (fun hc => ?_)
  · have hc := lt_of_decE hsa hc
    have hcb : i < b.length := by omega
    (conv => whnf); (repeat ((with_reducible refine must_intro ?_ ?_); exact decide_eq_true (by omega); (conv => whnf)))
    refine idxK_map_intro (show (i : Int).toNat < a.length by simpa using hc) ?_
    rw [show a[(i : Int).toNat]'(by simpa using hc) = a[i] from by congr 1]
    (conv => whnf); (repeat ((with_reducible refine must_intro ?_ ?_); exact decide_eq_true (by omega); (conv => whnf)))
    refine idxK_map_intro (show (i : Int).toNat < b.length by simpa using hcb) ?_
    rw [show b[(i : Int).toNat]'(by simpa using hcb) = b[i] from by congr 1]
    (conv => whnf)
    refine br_intro (fun he => ?_) (fun he => ?_)
    · have he := dp_ne _ _ he
      (conv => whnf)
      refine h false (decide_eq_false ?_).symm
      rintro rfl
      exact he rfl
    · have he := dp_eq _ _ he
      (conv => whnf)
      rw [i64_nat (by omega)]
      refine IH (i + 1) ⟨by omega, ?_⟩ (by omega)
      rw [List.take_succ_eq_append_getElem hc, List.take_succ_eq_append_getElem hcb, h1, he]
  · have hc := ge_of_decE hsa hc
    rw [List.take_of_length_le hc, List.take_of_length_le (by omega)] at h1
    (conv => whnf)
    exact h true (decide_eq_true h1).symm
theorem SameR_calls (a b : Rc) (ha : a.deps.length < 1000000) {R} (h : ∀ p, p = decide (a = b) → R (.val (.bool p)) []) : ACalls Try.prog 56 [.agg a.enc, .agg b.enc] [] R := by
  refine acalls_of_xwp (an := an56) tab_ok Try.func56 ?_
  (conv => whnf)
  refine of_calls a ?_
  (conv => whnf)
  refine of_calls b ?_
  (conv => whnf)
  refine br_intro (fun g => ?_) (fun g => ?_)
  · have g2 : a.kind = b.kind ∧ a.target = b.target ∧ a.tag = b.tag ∧ a.rule = b.rule ∧ a.out = b.out ∧ a.wen = b.wen := by
      simp [ofB_eq] at g
      obtain ⟨⟨⟨⟨⟨g1, g2⟩, g3⟩, g4⟩, g5⟩, g6⟩ := g
      exact ⟨g1, g2, g3, BitVec.eq_of_toNat_eq (by omega), BitVec.eq_of_toNat_eq (by omega), BitVec.eq_of_toNat_eq (by omega)⟩
    (conv => whnf)
    refine EqualD_calls a.deps b.deps ha fun p hp => ?_
    (conv => whnf)
    refine h _ ?_
    rw [hp]
    refine decide_eq_decide.2 ⟨fun e => ?_, fun e => by rw [e]⟩
    obtain ⟨g1, g2, g3, g4, g5, g6⟩ := g2
    cases a; cases b
    simp_all
  · (conv => whnf)
    refine h false (decide_eq_false ?_).symm
    rintro rfl
    simp at g
theorem SameL_calls (a b : List Rc) (ha : a.length < 1000000) (had : ∀ r ∈ a, r.deps.length < 1000000) {R} (h : ∀ p, p = decide (a = b) → R (.val (.bool p)) []) : ACalls Try.prog 29 [.sl none 7 (recs a), .sl none 7 (recs b)] [] R := by
  have key : ∀ {R}, (∀ p, p = decide (a = b) → R (.val (.bool p)) []) → ACalls Try.prog 55 [.sl none 7 (recs a), .sl none 7 (recs b), .fn (.func 56) [] []] [] R := by
    intro R h
    refine acalls_of_xwp (an := an55) tab_ok Try.func55 ?_
    have hsa := recs_length a
    have hsb := recs_length b
    (conv => whnf)
    rw [hsa, hsb]
    refine br_intro (fun hc => ?_) (fun hc => ?_)
    · (conv => whnf)
      refine h false (decide_eq_false ?_).symm
      rintro rfl
      simp at hc
    have hlen : a.length = b.length := by simp at hc; omega
    (conv => whnf)
    refine LoopP.ind1 (fun (i : Nat) => [(17, vi i)]) (fun _ => []) (fun i => a.length - i) (fun i => i ≤ a.length ∧ a.take i = b.take i) 0 rfl ⟨by omega, by simp⟩ ?_
    rintro i ⟨h0, h1⟩ IH
    (conv => whnf)
    refine br_intro (fun hc => ?_) (fun hc => ?_)
    · have hc := lt_of_decE hsa hc
      have hcb : i < b.length := by omega
      (conv => whnf); (repeat ((with_reducible refine must_intro ?_ ?_); exact decide_eq_true (by omega); (conv => whnf)))
      refine idxK_map_intro (show (i : Int).toNat < a.length by simpa using hc) ?_
      rw [show a[(i : Int).toNat]'(by simpa using hc) = a[i] from by congr 1]
      (conv => whnf); (repeat ((with_reducible refine must_intro ?_ ?_); exact decide_eq_true (by omega); (conv => whnf)))
      refine idxK_map_intro (show (i : Int).toNat < b.length by simpa using hcb) ?_
      rw [show b[(i : Int).toNat]'(by simpa using hcb) = b[i] from by congr 1]
      (conv => whnf)
      refine SameR_calls a[i] b[i] (had _ (List.getElem_mem hc)) fun p hp => ?_
      (conv => whnf)
      refine br_intro (fun he => ?_) (fun he => ?_)
      · have he : ¬ a[i] = b[i] := by simpa [hp] using he
        (conv => whnf)
        refine h false (decide_eq_false ?_).symm
        rintro rfl
        exact he rfl
      · have he : a[i] = b[i] := by simpa [hp] using he
        (conv => whnf)
        rw [i64_nat (by omega)]
        refine IH (i + 1) ⟨by omega, ?_⟩ (by omega)
        rw [List.take_succ_eq_append_getElem hc, List.take_succ_eq_append_getElem hcb, h1, he]
    · have hc := ge_of_decE hsa hc
      rw [List.take_of_length_le hc, List.take_of_length_le (by omega)] at h1
      (conv => whnf)
      exact h true (decide_eq_true h1).symm
  refine acalls_of_xwp (an := an29) tab_ok Try.func29 ?_
  (conv => whnf)
  refine key fun p hp => ?_
  (conv => whnf)
  exact h p hp

def ffA : Rc := ⟨1, [97], 0, [], 0, 0, []⟩
def ffB : Rc := ⟨1, [98], 0, [], 3, 0, []⟩
def ffC : Rc := ⟨2, [97], 0, [], 0, 0, []⟩
theorem ffix_of : docOf [ffA, ffB, ffC] = [ffB] := by decide +kernel
theorem le_rec2 (k : Int) (t : B) (u o w : U) (g : B) : leL [.val (.int .i64 k), .val (.string (ofB t)), .val (.int .u64 (u.toNat : Int)), .val (.slice none 0 0), .val (.int .u64 (o.toNat : Int)), .val (.int .u64 (w.toNat : Int)), .val (.string (ofB g))] (Rc.enc ⟨k, t, u, [], o, w, g⟩) :=
  leL.cons (.refl _) (leL.cons (.refl _) (leL.cons (.refl _) (leL.cons (le_nil 3) (leL.refl _))))
theorem ffix_calls {R} (h : R (.val (.bool true)) []) : ACalls Try.prog 21 [] [] R := by
  refine acalls_of_xwp (an := an21) tab_ok Try.func21 ?_
  have hle := leE.cons (le_rec2 1 [97] 0 0 0 []) rfl (leE.cons (le_rec2 1 [98] 0 3 0 []) rfl (leE.cons (le_rec2 2 [97] 0 0 0 []) rfl leE.nil))
  (conv => whnf)
  refine ACalls.args ?_ (Of_records [ffA, ffB, ffC] (by decide) (by decide) ?_)
  · exact leL.cons (le_sl _ _ hle) leL.nil
  rw [ffix_of]
  (conv => whnf)
  exact h

theorem FoldFinds_calls (l m : List Rc) (hl : l.length ≤ maxLen) (hd : ∀ r ∈ l, r.deps.length ≤ maxLen) (hl2 : m.length ≤ maxLen) (hd2 : ∀ r ∈ m, r.deps.length ≤ maxLen) (t : B) {R} (h : R (.val (.bool true)) []) :
    ACalls Try.prog 6 [.sl none 7 (recs l), .sl none 7 (recs m), vs t] [] R := by
  refine acalls_of_xwp (an := an6) tab_ok Try.func6 ?_
  (conv => whnf)
  refine Great10_calls l hl hd fun b hb => ?_
  (conv => whnf)
  refine br_intro (fun g => ?_) (fun g => ?_)
  · (conv => whnf)
    refine ffix_calls ?_
    (conv => whnf)
    exact h
  obtain ⟨c1, c2⟩ := hb g
  have hl : l.length < 1000000 := by omega
  have hd : ∀ r ∈ l, r.deps.length < 1000000 := fun r hr => by have := (c2 r hr).1; omega
  (conv => whnf)
  refine Great10_calls m hl2 hd2 fun b hb => ?_
  (conv => whnf)
  refine br_intro (fun g => ?_) (fun g => ?_)
  · (conv => whnf)
    refine ffix_calls ?_
    (conv => whnf)
    exact h
  have hrd := findR_deps hd t
  (conv => whnf)
  refine Find_calls l hl hd t ?_
  (conv => whnf)
  refine docFind_calls l hl t ?_
  (conv => whnf)
  refine ffix_calls ?_
  (conv => whnf)
  refine Same8_calls (findR l t) (findR l t) hrd fun p hp => ?_
  have hp : p = true := by rw [hp]; exact decide_eq_true rfl
  subst hp
  (conv => whnf)
  refine br_true (by simp) ?_
  (conv => whnf)
  refine SameL_calls l m hl hd fun p hp => ?_
  (conv => whnf)
  refine All_calls l m hl hd fun q hq => ?_
  (conv => whnf)
  refine br_true (by rw [hp, hq]; simp) ?_
  (conv => whnf)
  refine SameL_calls l l hl hd fun p hp => ?_
  have hp : p = true := by rw [hp]; exact decide_eq_true rfl
  subst hp
  (conv => whnf)
  exact h
theorem args_str {ts : List TypeId} {l : List AV} (h : Args tab 12 (9 :: ts) l) : ∃ (x : B) (l' : List AV), l = vs x :: l' ∧ x.length ≤ maxLen ∧ Args tab 12 ts l' := by
  obtain ⟨a, l', rfl, h1, h2⟩ := h
  obtain ⟨s, e, hs⟩ : ∃ s : ByteArray, [a] = [.val (.string s)] ∧ s.size ≤ maxLen := h1
  simp only [List.cons.injEq, and_true] at e
  refine ⟨bs s, l', by rw [e, vs, ofB_bs], ?_, h2⟩
  have := size_ofB (bs s)
  rw [ofB_bs] at this
  omega
theorem FoldFinds_row (l : List AV) (h : Args tab 12 [22, 22, 9] l) : ACalls Try.prog 6 l [] fun r _ => r = .val (.bool true) := by
  obtain ⟨a, l1, rfl, h1, h2, h3⟩ := args_recs h
  obtain ⟨b, l2, rfl, h4, h5, h6⟩ := args_recs h3
  obtain ⟨t, l3, rfl, h7, h8⟩ := args_str h6
  obtain rfl := args_nil h8
  exact FoldFinds_calls a b h1 h2 h4 h5 t rfl
end Go.Abs
end
