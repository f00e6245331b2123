/- Several texts of this claim, one behind the other: H7, H8, H9. -/
import Derived.Test.YtnifkinpogopkaaYFoldParts1

section
/- record.Same, fold.Same; the chapter's example; FoldFinds. -/
set_option maxRecDepth 100000
set_option maxHeartbeats 1000000
set_option linter.unusedVariables false
set_option linter.unusedSimpArgs false
namespace Go.Abs
open Go Go.Proofs Dig
attribute [local irreducible] ibits byteAt strLt firstIdx

def Rc.bare (r : Rc) : List AV := [vi r.kind, vs r.target, vs r.tag, uv r.rule, uv r.out, uv r.wen]
theorem of_calls (r : Rc) {R} (h : R (.agg r.bare) []) : ACalls Try.prog 81 [.agg r.enc] [] R := by
  refine acalls_of_xwp (an := an81) tab_ok Try.func81 ?_
  (conv => whnf)
  exact h
theorem dp_ne (a b : Dp) (h : (!(true && decide (ofB a.name = ofB b.name) && ((a.hash.toNat : Int) == (b.hash.toNat : Int)) && (a.order == b.order))) = true) : a ≠ b := by
  rintro rfl
  simp at h
theorem dp_eq (a b : Dp) (h : (!(true && decide (ofB a.name = ofB b.name) && ((a.hash.toNat : Int) == (b.hash.toNat : Int)) && (a.order == b.order))) = false) : a = b := by
  simp [ofB_eq] at h
  obtain ⟨⟨h1, h2⟩, h3⟩ := h
  have h2 : a.hash = b.hash := BitVec.eq_of_toNat_eq (by omega)
  cases a; cases b
  simp_all
theorem EqualD_calls (a b : List Dp) (ha : a.length < 1000000) {R} (h : ∀ p, p = decide (a = b) → R (.val (.bool p)) []) : ACalls Try.prog 82 [.sl none 3 (dpsA a), .sl none 3 (dpsA b)] [] R := by
  refine acalls_of_xwp (an := an82) tab_ok Try.func82 ?_
  have hsa := dpsA_length a
  have hsb := dpsA_length b
  (conv => whnf)
  rw [hsa, hsb]
  refine br_intro (fun hc => ?_) (fun hc => ?_)
  · (conv => whnf)
    refine h false (decide_eq_false ?_).symm
    rintro rfl
    simp at hc
  have hlen : a.length = b.length := by simp at hc; omega
  (conv => whnf)
  refine LoopP.ind1 (fun (i : Nat) => [(13, vi i)]) (fun _ => []) (fun i => a.length - i) (fun i => i ≤ a.length ∧ a.take i = b.take i) 0 rfl ⟨by omega, by simp⟩ ?_
  rintro i ⟨h0, h1⟩ IH
  (conv => whnf)
  refine br_intro (fun hc => ?_) (fun hc => ?_)
  · have hc := lt_of_decE hsa hc
    have hcb : i < b.length := by omega
    (conv => whnf); (repeat ((with_reducible refine must_intro ?_ ?_); exact decide_eq_true (by omega); (conv => whnf)))
    refine idxK_map_intro (show (i : Int).toNat < a.length by simpa using hc) ?_
    rw [show a[(i : Int).toNat]'(by simpa using hc) = a[i] from by congr 1]
    (conv => whnf); (repeat ((with_reducible refine must_intro ?_ ?_); exact decide_eq_true (by omega); (conv => whnf)))
    refine idxK_map_intro (show (i : Int).toNat < b.length by simpa using hcb) ?_
    rw [show b[(i : Int).toNat]'(by simpa using hcb) = b[i] from by congr 1]
    (conv => whnf)
    refine br_intro (fun he => ?_) (fun he => ?_)
    · have he := dp_ne _ _ he
      (conv => whnf)
      refine h false (decide_eq_false ?_).symm
      rintro rfl
      exact he rfl
    · have he := dp_eq _ _ he
      (conv => whnf)
      rw [i64_nat (by omega)]
      refine IH (i + 1) ⟨by omega, ?_⟩ (by omega)
      rw [List.take_succ_eq_append_getElem hc, List.take_succ_eq_append_getElem hcb, h1, he]
  · have hc := ge_of_decE hsa hc
    rw [List.take_of_length_le hc, List.take_of_length_le (by omega)] at h1
    (conv => whnf)
    exact h true (decide_eq_true h1).symm
theorem SameR_calls (a b : Rc) (ha : a.deps.length < 1000000) {R} (h : ∀ p, p = decide (a = b) → R (.val (.bool p)) []) : ACalls Try.prog 56 [.agg a.enc, .agg b.enc] [] R := by
  refine acalls_of_xwp (an := an56) tab_ok Try.func56 ?_
  (conv => whnf)
  refine of_calls a ?_
  (conv => whnf)
  refine of_calls b ?_
  (conv => whnf)
  refine br_intro (fun g => ?_) (fun g => ?_)
  · have g2 : a.kind = b.kind ∧ a.target = b.target ∧ a.tag = b.tag ∧ a.rule = b.rule ∧ a.out = b.out ∧ a.wen = b.wen := by
      simp [ofB_eq] at g
      obtain ⟨⟨⟨⟨⟨g1, g2⟩, g3⟩, g4⟩, g5⟩, g6⟩ := g
      exact ⟨g1, g2, g3, BitVec.eq_of_toNat_eq (by omega), BitVec.eq_of_toNat_eq (by omega), BitVec.eq_of_toNat_eq (by omega)⟩
    (conv => whnf)
    refine EqualD_calls a.deps b.deps ha fun p hp => ?_
    (conv => whnf)
    refine h _ ?_
    rw [hp]
    refine decide_eq_decide.2 ⟨fun e => ?_, fun e => by rw [e]⟩
    obtain ⟨g1, g2, g3, g4, g5, g6⟩ := g2
    cases a; cases b
    simp_all
  · (conv => whnf)
    refine h false (decide_eq_false ?_).symm
    rintro rfl
    simp at g
theorem SameL_calls (a b : List Rc) (ha : a.length < 1000000) (had : ∀ r ∈ a, r.deps.length < 1000000) {R} (h : ∀ p, p = decide (a = b) → R (.val (.bool p)) []) : ACalls Try.prog 29 [.sl none 7 (recs a), .sl none 7 (recs b)] [] R := by
  have key : ∀ {R}, (∀ p, p = decide (a = b) → R (.val (.bool p)) []) → ACalls Try.prog 55 [.sl none 7 (recs a), .sl none 7 (recs b), .fn (.func 56) [] []] [] R := by
    intro R h
    refine acalls_of_xwp (an := an55) tab_ok Try.func55 ?_
    have hsa := recs_length a
    have hsb := recs_length b
    (conv => whnf)
    rw [hsa, hsb]
    refine br_intro (fun hc => ?_) (fun hc => ?_)
    · (conv => whnf)
      refine h false (decide_eq_false ?_).symm
      rintro rfl
      simp at hc
    have hlen : a.length = b.length := by simp at hc; omega
    (conv => whnf)
    refine LoopP.ind1 (fun (i : Nat) => [(17, vi i)]) (fun _ => []) (fun i => a.length - i) (fun i => i ≤ a.length ∧ a.take i = b.take i) 0 rfl ⟨by omega, by simp⟩ ?_
    rintro i ⟨h0, h1⟩ IH
    (conv => whnf)
    refine br_intro (fun hc => ?_) (fun hc => ?_)
    · have hc := lt_of_decE hsa hc
      have hcb : i < b.length := by omega
      (conv => whnf); (repeat ((with_reducible refine must_intro ?_ ?_); exact decide_eq_true (by omega); (conv => whnf)))
      refine idxK_map_intro (show (i : Int).toNat < a.length by simpa using hc) ?_
      rw [show a[(i : Int).toNat]'(by simpa using hc) = a[i] from by congr 1]
      (conv => whnf); (repeat ((with_reducible refine must_intro ?_ ?_); exact decide_eq_true (by omega); (conv => whnf)))
      refine idxK_map_intro (show (i : Int).toNat < b.length by simpa using hcb) ?_
      rw [show b[(i : Int).toNat]'(by simpa using hcb) = b[i] from by congr 1]
      (conv => whnf)
      refine SameR_calls a[i] b[i] (had _ (List.getElem_mem hc)) fun p hp => ?_
      (conv => whnf)
      refine br_intro (fun he => ?_) (fun he => ?_)
      · have he : ¬ a[i] = b[i] := by simpa [hp] using he
        (conv => whnf)
        refine h false (decide_eq_false ?_).symm
        rintro rfl
        exact he rfl
      · have he : a[i] = b[i] := by simpa [hp] using he
        (conv => whnf)
        rw [i64_nat (by omega)]
        refine IH (i + 1) ⟨by omega, ?_⟩ (by omega)
        rw [List.take_succ_eq_append_getElem hc, List.take_succ_eq_append_getElem hcb, h1, he]
    · have hc := ge_of_decE hsa hc
      rw [List.take_of_length_le hc, List.take_of_length_le (by omega)] at h1
      (conv => whnf)
      exact h true (decide_eq_true h1).symm
  refine acalls_of_xwp (an := an29) tab_ok Try.func29 ?_
  (conv => whnf)
  refine key fun p hp => ?_
  (conv => whnf)
  exact h p hp

def ffA : Rc := ⟨1, [97], 0, [], 0, 0, []⟩
def ffB : Rc := ⟨1, [98], 0, [], 3, 0, []⟩
def ffC : Rc := ⟨2, [97], 0, [], 0, 0, []⟩
theorem ffix_of : docOf [ffA, ffB, ffC] = [ffB] := by decide +kernel
theorem le_rec2 (k : Int) (t : B) (u o w : U) (g : B) : leL [.val (.int .i64 k), .val (.string (ofB t)), .val (.int .u64 (u.toNat : Int)), .val (.slice none 0 0), .val (.int .u64 (o.toNat : Int)), .val (.int .u64 (w.toNat : Int)), .val (.string (ofB g))] (Rc.enc ⟨k, t, u, [], o, w, g⟩) :=
  leL.cons (.refl _) (leL.cons (.refl _) (leL.cons (.refl _) (leL.cons (le_nil 3) (leL.refl _))))
theorem ffix_calls {R} (h : R (.val (.bool true)) []) : ACalls Try.prog 21 [] [] R := by
  refine acalls_of_xwp (an := an21) tab_ok Try.func21 ?_
  have hle := leE.cons (le_rec2 1 [97] 0 0 0 []) rfl (leE.cons (le_rec2 1 [98] 0 3 0 []) rfl (leE.cons (le_rec2 2 [97] 0 0 0 []) rfl leE.nil))
  (conv => whnf)
  refine ACalls.args ?_ (Of_records [ffA, ffB, ffC] (by decide) (by decide) ?_)
  · exact leL.cons (le_sl _ _ hle) leL.nil
  rw [ffix_of]
  (conv => whnf)
  exact h

theorem FoldFinds_calls (l m : List Rc) (hl : l.length ≤ maxLen) (hd : ∀ r ∈ l, r.deps.length ≤ maxLen) (hl2 : m.length ≤ maxLen) (hd2 : ∀ r ∈ m, r.deps.length ≤ maxLen) (t : B) {R} (h : R (.val (.bool true)) []) :
    ACalls Try.prog 6 [.sl none 7 (recs l), .sl none 7 (recs m), vs t] [] R := by
  refine acalls_of_xwp (an := an6) tab_ok Try.func6 ?_
  (conv => whnf)
  refine Great10_calls l hl hd fun b hb => ?_
  (conv => whnf)
  refine br_intro (fun g => ?_) (fun g => ?_)
  · (conv => whnf)
    refine ffix_calls ?_
    (conv => whnf)
    exact h
  obtain ⟨c1, c2⟩ := hb g
  have hl : l.length < 1000000 := by omega
  have hd : ∀ r ∈ l, r.deps.length < 1000000 := fun r hr => by have := (c2 r hr).1; omega
  (conv => whnf)
  refine Great10_calls m hl2 hd2 fun b hb => ?_
  (conv => whnf)
  refine br_intro (fun g => ?_) (fun g => ?_)
  · (conv => whnf)
    refine ffix_calls ?_
    (conv => whnf)
    exact h
  have hrd := findR_deps hd t
  (conv => whnf)
  refine Find_calls l hl hd t ?_
  (conv => whnf)
  refine docFind_calls l hl t ?_
  (conv => whnf)
  refine ffix_calls ?_
  (conv => whnf)
  refine Same8_calls (findR l t) (findR l t) hrd fun p hp => ?_
  have hp : p = true := by rw [hp]; exact decide_eq_true rfl
  subst hp
  (conv => whnf)
  refine br_true (by simp) ?_
  (conv => whnf)
  refine SameL_calls l m hl hd fun p hp => ?_
  (conv => whnf)
  refine All_calls l m hl hd fun q hq => ?_
  (conv => whnf)
  refine br_true (by rw [hp, hq]; simp) ?_
  (conv => whnf)
  refine SameL_calls l l hl hd fun p hp => ?_
  have hp : p = true := by rw [hp]; exact decide_eq_true rfl
  subst hp
  (conv => whnf)
  exact h
theorem args_str {ts : List TypeId} {l : List AV} (h : Args tab 12 (9 :: ts) l) : ∃ (x : B) (l' : List AV), l = vs x :: l' ∧ x.length ≤ maxLen ∧ Args tab 12 ts l' := by
  obtain ⟨a, l', rfl, h1, h2⟩ := h
  obtain ⟨s, e, hs⟩ : ∃ s : ByteArray, [a] = [.val (.string s)] ∧ s.size ≤ maxLen := h1
  simp only [List.cons.injEq, and_true] at e
  refine ⟨bs s, l', by rw [e, vs, ofB_bs], ?_, h2⟩
  have := size_ofB (bs s)
  rw [ofB_bs] at this
  omega
theorem FoldFinds_row (l : List AV) (h : Args tab 12 [22, 22, 9] l) : ACalls Try.prog 6 l [] fun r _ => r = .val (.bool true) := by
  obtain ⟨a, l1, rfl, h1, h2, h3⟩ := args_recs h
  obtain ⟨b, l2, rfl, h4, h5, h6⟩ := args_recs h3
  obtain ⟨t, l3, rfl, h7, h8⟩ := args_str h6
  obtain rfl := args_nil h8
  exact FoldFinds_calls a b h1 h2 h4 h5 t rfl
end Go.Abs
end

section
/- fold.Right; FoldParts. -/
set_option maxRecDepth 100000
set_option maxHeartbeats 1000000
set_option linter.unusedVariables false
set_option linter.unusedSimpArgs false
namespace Go.Abs
open Go Go.Proofs Dig
attribute [local irreducible] ibits byteAt strLt firstIdx

def okAt (l : List Rc) : Nat → Bool
  | 0 => match l[0]? with
    | some r => decide (r.kind = 1)
    | none => true
  | j + 1 => match l[j + 1]?, l[j]? with
    | some r, some s => decide (r.kind = 1) && ltB s.target r.target
    | _, _ => true
def rightB (l : List Rc) : Bool := (List.range l.length).all (okAt l)
theorem rightB_no {l : List Rc} {i : Nat} (hi : i < l.length) (h : okAt l i = false) : rightB l = false := by
  refine Bool.eq_false_iff.2 fun e => ?_
  have := List.all_eq_true.1 e i (List.mem_range.2 hi)
  rw [h] at this; cases this
theorem rightB_yes {l : List Rc} (hs : Srt l) (hk : ∀ r ∈ l, r.kind = 1) : rightB l = true := by
  refine List.all_eq_true.2 fun i hi => ?_
  have hi := List.mem_range.1 hi
  cases i with
  | zero => simp only [okAt, List.getElem?_eq_getElem hi]; exact decide_eq_true (hk _ (List.getElem_mem hi))
  | succ j =>
    have hj : j < l.length := by omega
    simp only [okAt, List.getElem?_eq_getElem hi, List.getElem?_eq_getElem hj, ltB_eq]
    have := List.pairwise_iff_getElem.1 hs j (j + 1) hj hi (by omega)
    simp [hk _ (List.getElem_mem hi), this]
theorem Right_calls (l : List Rc) (hl : l.length < 1000000) {R} (h : ∀ p, p = rightB l → R (.val (.bool p)) []) : ACalls Try.prog 24 [.sl none 7 (recs l)] [] R := by
  refine acalls_of_xwp (an := an24) tab_ok Try.func24 ?_
  have hsl := recs_length l
  (conv => whnf)
  refine LoopP.ind1 (fun (i : Nat) => [(7, vi i)]) (fun _ => []) (fun i => l.length - i) (fun i => i ≤ l.length ∧ (List.range i).all (okAt l) = true) 0 rfl ⟨by omega, by simp⟩ ?_
  rintro i ⟨h0, h1⟩ IH
  (conv => whnf)
  refine br_intro (fun hc => ?_) (fun hc => ?_)
  · have hc := lt_of_decE hsl hc
    have next : okAt l i = true → (List.range (i + 1)).all (okAt l) = true := fun e => by
      rw [List.range_succ, List.all_append, h1]; simp [e]
    (conv => whnf); (repeat ((with_reducible refine must_intro ?_ ?_); exact decide_eq_true (by omega); (conv => whnf)))
    refine idxK_map_intro (show (i : Int).toNat < l.length by simpa using hc) ?_
    rw [show l[(i : Int).toNat]'(by simpa using hc) = l[i] from by congr 1]
    (conv => whnf)
    refine br_intro (fun hk => ?_) (fun hk => ?_)
    · have hk : ¬ l[i].kind = 1 := by simpa using hk
      (conv => whnf)
      refine h false (rightB_no hc ?_).symm
      cases i with
      | zero => simp only [okAt, List.getElem?_eq_getElem hc]; exact decide_eq_false hk
      | succ j =>
        have hj : j < l.length := by omega
        simp only [okAt, List.getElem?_eq_getElem hc, List.getElem?_eq_getElem hj]
        simp [hk]
    · have hk : l[i].kind = 1 := by simpa using hk
      cases i with
      | zero =>
        (conv => whnf)
        refine IH 1 ⟨by omega, next ?_⟩ (by omega)
        simp only [okAt, List.getElem?_eq_getElem hc]
        exact decide_eq_true hk
      | succ j =>
        have hj : j < l.length := by omega
        (conv => whnf)
        refine br_true (by simp) ?_
        (conv => whnf)
        rw [show IntKind.i64.wrap (((j + 1 : Nat) : Int) - 1) = (j : Int) by rw [wrap_i64 (by omega) (by omega)]; omega]
        (conv => whnf); (repeat ((with_reducible refine must_intro ?_ ?_); exact decide_eq_true (by omega); (conv => whnf)))
        refine idxK_map_intro (show (j : Int).toNat < l.length by simpa using hj) ?_
        rw [show l[(j : Int).toNat]'(by simpa using hj) = l[j] from by congr 1]
        (conv => whnf)
        rw [strLt_ofB]
        have hok : okAt l (j + 1) = ltB l[j].target l[j + 1].target := by
          simp only [okAt, List.getElem?_eq_getElem hc, List.getElem?_eq_getElem hj]
          simp [hk]
        refine br_intro (fun hb => ?_) (fun hb => ?_)
        · have hb : ltB l[j].target l[j + 1].target = false := by simpa using hb
          (conv => whnf)
          exact h false (rightB_no hc (by rw [hok, hb])).symm
        · have hb : ltB l[j].target l[j + 1].target = true := by simpa using hb
          (conv => whnf)
          rw [i64_nat (by omega)]
          exact IH (j + 1 + 1) ⟨by omega, next (by rw [hok, hb])⟩ (by omega)
  · have hc := ge_of_decE hsl hc
    have e : i = l.length := by omega
    (conv => whnf)
    exact h true (by rw [rightB, ← e, h1])
end Go.Abs
end

section
/- The statement FoldParts. -/
set_option maxRecDepth 100000
set_option maxHeartbeats 1000000
set_option linter.unusedVariables false
set_option linter.unusedSimpArgs false
namespace Go.Abs
open Go Go.Proofs Dig
attribute [local irreducible] ibits byteAt strLt firstIdx

theorem docOf_append (a b : List Rc) : docOf (a ++ b) = b.foldl docPut (docOf a) := by simp [docOf]
theorem docOf_parts (a b : List Rc) : docOf (docOf a ++ b) = docOf (a ++ b) := by rw [docOf_append, docOf_docOf, docOf_append]
def past (t : B) (s : Rc) : Bool := decide (s.target ≠ t) || (decide (s.kind ≠ 1) && decide (s.kind ≠ 2))
theorem docPut_past {S : List Rc} {s x : Rc} {t : B} (hp : past t s = true) (hx : x.target = t) : x ∈ docPut S s ↔ x ∈ S := by
  unfold docPut
  split
  · exact Iff.rfl
  · rename_i hk
    have hs : s.target ≠ t := by
      simp only [past, Bool.or_eq_true, Bool.and_eq_true, decide_eq_true_eq] at hp
      rcases hp with h | h
      · exact h
      · exact absurd h hk
    rw [docLoop_mem]
    constructor
    · rintro (⟨_, rfl⟩ | ⟨h, _⟩)
      · exact absurd hx hs
      · exact h
    · intro h
      exact .inr ⟨h, fun e => hs (by rw [← e, hx])⟩
theorem docFold_past {t : B} : ∀ (l S : List Rc), (∀ s ∈ l, past t s = true) → ∀ x, x.target = t → (x ∈ l.foldl docPut S ↔ x ∈ S) := by
  intro l
  induction l with
  | nil => intro S _ x _; exact Iff.rfl
  | cons s l ih =>
    intro S h x hx
    rw [List.foldl_cons, ih _ (fun y hy => h y (by simp [hy])) x hx, docPut_past (h s (by simp)) hx]
theorem srt_uniq {S : List Rc} (hs : Srt S) {a b : Rc} (ha : a ∈ S) (hb : b ∈ S) (e : a.target = b.target) : a = b := by
  obtain ⟨i, hi, rfl⟩ := List.getElem_of_mem ha
  obtain ⟨j, hj, rfl⟩ := List.getElem_of_mem hb
  have hp := List.pairwise_iff_getElem.1 hs
  rcases Nat.lt_trichotomy i j with h | h | h
  · exact absurd (hp i j hi hj h) (by rw [e]; exact List.lt_irrefl _)
  · subst h; rfl
  · exact absurd (hp j i hj hi h) (by rw [e]; exact List.lt_irrefl _)
theorem findP_some {S : List Rc} (hs : Srt S) {r : Rc} (hr : r ∈ S) (hk : r.kind = 1) : findP S r.target = some r := by
  unfold findP
  cases h : S.reverse.find? (isOf r.target) with
  | none => exact absurd (List.find?_eq_none.1 h r (List.mem_reverse.2 hr)) (by simp [isOf, hk])
  | some x =>
    have h1 := List.find?_some h
    have h2 := List.mem_reverse.1 (List.mem_of_find?_eq_some h)
    simp only [isOf, Bool.and_eq_true, decide_eq_true_eq] at h1
    rw [srt_uniq hs h2 hr h1.2]
theorem findP_none {S : List Rc} {t : B} (h : ∀ x ∈ S, x.target ≠ t) : findP S t = none := by
  unfold findP
  rw [List.find?_eq_none]
  intro x hx
  simp [isOf, h x (List.mem_reverse.1 hx)]
/-- What the last record of a target tells. -/
theorem find_last {l : List Rc} {i : Nat} (hi : i < l.length) (hk : l[i].kind = 1 ∨ l[i].kind = 2) (hp : ∀ s ∈ l.drop (i + 1), past l[i].target s = true) :
    findP (docOf l) l[i].target = if l[i].kind = 1 then some l[i] else none := by
  have e : docOf l = (l.drop (i + 1)).foldl docPut (docPut (docOf (l.take i)) l[i]) := by
    have : l = l.take i ++ ([l[i]] ++ l.drop (i + 1)) := by
      rw [List.singleton_append, ← List.drop_eq_getElem_cons hi, List.take_append_drop]
    conv => lhs; rw [this]
    rw [docOf_append, List.foldl_append]
    rfl
  have hm : ∀ x, x.target = l[i].target → (x ∈ docOf l ↔ x ∈ docPut (docOf (l.take i)) l[i]) := fun x hx => by rw [e]; exact docFold_past _ _ hp x hx
  rcases hk with hk | hk
  · rw [if_pos hk]
    exact findP_some (docOf_srt l) ((hm _ rfl).2 ((docPut_mem1 hk _).2 (.inl rfl))) hk
  · rw [if_neg (by omega)]
    refine findP_none fun x hx hxt => ?_
    have h1 := (hm x hxt).1 hx
    rw [docPut, if_neg (by omega), docLoop_mem] at h1
    rcases h1 with ⟨h1, _⟩ | ⟨_, h1⟩
    · simp [hk] at h1
    · exact h1 hxt

theorem FoldParts_calls (l : List Rc) (hl : l.length ≤ maxLen) (hd : ∀ r ∈ l, r.deps.length ≤ maxLen) (a : Int) (ha : 0 ≤ a ∧ a ≤ 255) {R} (h : R (.val (.bool true)) []) :
    ACalls Try.prog 5 [.sl none 7 (recs l), .val (.int .u8 a)] [] R := by
  refine acalls_of_xwp (an := an5) tab_ok Try.func5 ?_
  (conv => whnf)
  refine Great10_calls l hl hd fun b hb => ?_
  (conv => whnf)
  refine br_intro (fun g => ?_) (fun g => ?_)
  · (conv => whnf)
    refine ffix_calls ?_
    (conv => whnf)
    exact h
  obtain ⟨c1, c2⟩ := hb g
  have hl : l.length < 1000000 := by omega
  have hd : ∀ r ∈ l, r.deps.length < 1000000 := fun r hr => by have := (c2 r hr).1; omega
  have hsl := recs_length l
  generalize hm : docOf l = m
  have hms : Srt m := by rw [← hm]; exact docOf_srt l
  have hml : m.length ≤ l.length := by rw [← hm]; exact docOf_len l
  have hmk : ∀ r ∈ m, r.kind = 1 := fun r hr => (docOf_sub (by rw [hm]; exact hr)).2
  have hmd : ∀ r ∈ m, r.deps.length < 1000000 := fun r hr => hd r (docOf_sub (by rw [hm]; exact hr)).1
  have hmm : docOf m = m := by rw [← hm]; exact docOf_docOf l
  obtain ⟨k, hk, hkl⟩ : ∃ k : Nat, (if ((recs l).length : Int) < IntKind.i64.wrap a then ((recs l).length : Int) else IntKind.i64.wrap a) = (k : Int) ∧ k ≤ l.length := by
    rw [wrap_i64 (by omega) (by omega), hsl]
    split
    · exact ⟨l.length, rfl, Nat.le_refl _⟩
    · exact ⟨a.toNat, by omega, by omega⟩
  (conv => whnf)
  refine Of_records l hl hd ?_
  rw [hm]
  (conv => whnf)
  refine Right_calls m (by omega) fun p hp => ?_
  have hp : p = true := by rw [hp]; exact rightB_yes hms hmk
  subst hp
  (conv => whnf)
  refine Of_records m (by omega) hmd ?_
  rw [hmm]
  (conv => whnf)
  refine All_calls m m (by omega) hmd fun p hp => ?_
  have hp : p = true := by rw [hp]; exact decide_eq_true rfl
  subst hp
  (conv => whnf)
  rw [hk]
  (conv => whnf); (repeat ((with_reducible refine must_intro ?_ ?_); exact decide_eq_true (by omega); (conv => whnf)))
  rw [show List.drop (Int.toNat ((0 : Nat) : Int)) (List.take (Int.toNat (k : Int)) (recs l)) = recs (l.take k) from by simp [recs, List.map_take]]
  have htk : (l.take k).length = k := by simp; omega
  refine Of_records (l.take k) (by omega) (fun r hr => hd r (List.mem_of_mem_take hr)) ?_
  have hdl := docOf_len (l.take k)
  have hdr := recs_length (docOf (l.take k))
  have hlk := recs_length (l.drop k)
  have hlk2 : (l.drop k).length = l.length - k := by simp
  (conv => whnf)
  refine ⟨rfl, (by show (0 + (recs (docOf (l.take k))).length) * (88 + 1) ≤ _; omega), ?_⟩
  (conv => whnf); (repeat ((with_reducible refine must_intro ?_ ?_); exact decide_eq_true (by omega); (conv => whnf)))
  have hdrop : List.drop (Int.toNat (k : Int)) (List.take (Int.toNat (((recs l).length : Nat) : Int)) (recs l)) = recs (l.drop k) := by
    rw [Int.toNat_natCast, Int.toNat_natCast, List.take_length]; simp [recs, List.map_drop]
  rw [hdrop]
  refine ⟨by simp, (by rw [show (tab.ti 29).bytes = 88 from rfl, List.nil_append]; omega), ?_⟩
  (conv => whnf)
  rw [show [] ++ recs (docOf (l.take k)) ++ recs (l.drop k) = recs (docOf (l.take k) ++ l.drop k) from by simp [recs]]
  refine Of_records (docOf (l.take k) ++ l.drop k) (by rw [List.length_append]; omega) (fun r hr => ?_) ?_
  · rw [List.mem_append] at hr
    rcases hr with hr | hr
    · exact hd r (List.mem_of_mem_take (docOf_sub hr).1)
    · exact hd r (List.mem_of_mem_drop hr)
  rw [docOf_parts, List.take_append_drop, hm]
  (conv => whnf)
  refine All_calls m m (by omega) hmd fun p hp => ?_
  have hp : p = true := by rw [hp]; exact decide_eq_true rfl
  subst hp
  (conv => whnf)
  refine LoopP.ind1 (fun (i : Nat) => [(52, vi i)]) (fun _ => []) (fun i => l.length - i) (fun i => i ≤ l.length) 0 rfl (by omega) ?_
  rintro i h0 IH
  (conv => whnf)
  refine br_intro (fun hc => ?_) (fun hc => ?_)
  · have hc := lt_of_decE hsl hc
    (conv => whnf); (repeat ((with_reducible refine must_intro ?_ ?_); exact decide_eq_true (by omega); (conv => whnf)))
    refine idxK_map_intro (show (i : Int).toNat < l.length by simpa using hc) ?_
    rw [show l[(i : Int).toNat]'(by simpa using hc) = l[i] from by congr 1]
    obtain ⟨r, hr⟩ : ∃ r, r = l[i] := ⟨_, rfl⟩
    rw [← hr]
    (conv => whnf)
    refine br_intro (fun hk1 => ?_) (fun hk1 => ?_)
    · (conv => whnf)
      refine br_intro (fun hk2 => ?_) (fun hk2 => ?_)
      · (conv => whnf)
        rw [i64_nat (by omega)]
        exact IH (i + 1) (by omega) (by omega)
      · have hk : r.kind = 1 ∨ r.kind = 2 := .inr (by simpa using hk2)
        (conv => whnf)
        rw [i64_nat (by omega)]
        (conv => whnf); (repeat ((with_reducible refine must_intro ?_ ?_); exact decide_eq_true (by omega); (conv => whnf)))
        have hdrop2 : List.drop (Int.toNat ((i + 1 : Nat) : Int)) (List.take (Int.toNat (((recs l).length : Nat) : Int)) (recs l)) = recs (l.drop (i + 1)) := by
          rw [Int.toNat_natCast, Int.toNat_natCast, List.take_length]; simp [recs, List.map_drop]
        rw [hdrop2]
        have hsd := recs_length (l.drop (i + 1))
        have hrk : l[i].kind = 1 ∨ l[i].kind = 2 := by rw [← hr]; exact hk
        refine LoopP.ind2 (fun (j : Nat) (last : Bool) => [(9, .val (.bool last)), (70, vi j)]) (fun _ _ => []) (fun j _ => (l.drop (i + 1)).length - j) (fun j last => j ≤ (l.drop (i + 1)).length ∧ last = ((l.drop (i + 1)).take j).all (past r.target)) 0 true rfl ⟨by omega, by simp⟩ ?_
        rintro j last ⟨hj0, hlast⟩ IH2
        (conv => whnf)
        refine br_intro (fun hc2 => ?_) (fun hc2 => ?_)
        · have hc2 := lt_of_decE hsd hc2
          have hcl2 : (l.drop (i + 1)).length = l.length - (i + 1) := by simp
          have hnext : ((l.drop (i + 1)).take (j + 1)).all (past r.target) = (last && past r.target (l.drop (i + 1))[j]) := by
            rw [List.take_succ_eq_append_getElem hc2, List.all_append, ← hlast]; simp
          (conv => whnf); (repeat ((with_reducible refine must_intro ?_ ?_); exact decide_eq_true (by omega); (conv => whnf)))
          refine idxK_map_intro (show (j : Int).toNat < (l.drop (i + 1)).length by simpa using hc2) ?_
          rw [show (l.drop (i + 1))[(j : Int).toNat]'(by simpa using hc2) = (l.drop (i + 1))[j] from by congr 1]
          obtain ⟨s, hs⟩ : ∃ s, s = (l.drop (i + 1))[j] := ⟨_, rfl⟩
          rw [← hs] at hnext ⊢
          cases last
          · (conv => whnf)
            rw [i64_nat (by omega)]
            exact IH2 (j + 1) false ⟨by omega, by rw [hnext]; rfl⟩ (by omega)
          · (conv => whnf)
            refine br_intro (fun ht => ?_) (fun ht => ?_)
            · have ht : s.target ≠ r.target := by simpa [ofB_eq] using ht
              (conv => whnf)
              rw [i64_nat (by omega)]
              exact IH2 (j + 1) true ⟨by omega, by rw [hnext]; simp [past, ht]⟩ (by omega)
            · have ht : s.target = r.target := by simpa [ofB_eq] using ht
              (conv => whnf)
              refine br_intro (fun hq => ?_) (fun hq => ?_)
              · have hq1 : s.kind ≠ 1 := by simpa using hq
                (conv => whnf)
                rw [i64_nat (by omega)]
                exact IH2 (j + 1) (s.kind != 2) ⟨by omega, by rw [hnext]; simp [past, ht, hq1]; rfl⟩ (by omega)
              · have hq1 : s.kind = 1 := by simpa using hq
                (conv => whnf)
                rw [i64_nat (by omega)]
                exact IH2 (j + 1) false ⟨by omega, by rw [hnext]; simp [past, ht, hq1]⟩ (by omega)
        · have hc2 := ge_of_decE hsd hc2
          rw [List.take_of_length_le hc2] at hlast
          clear IH2
          cases last
          · (conv => whnf)
            refine Find_calls m (by omega) hmd r.target ?_
            (conv => whnf)
            rw [i64_nat (by omega)]
            exact IH (i + 1) (by omega) (by omega)
          · have hfl := find_last hc hrk (fun s hs => by rw [← hr]; exact List.all_eq_true.1 hlast.symm s hs)
            rw [hm, ← hr] at hfl
            rcases hk with hk | hk
            · rw [if_pos hk] at hfl
              have hfr : findR m r.target = r := by rw [findR, hfl]; rfl
              (conv => whnf)
              refine Find_calls m (by omega) hmd r.target ?_
              rw [hfr, hfl]
              (conv => whnf)
              refine br_false (by simp [hk]) ?_
              (conv => whnf)
              refine Same8_calls r r (hd _ (by rw [hr]; exact List.getElem_mem hc)) fun p hp => ?_
              have hp : p = true := by rw [hp]; exact decide_eq_true rfl
              subst hp
              (conv => whnf)
              rw [i64_nat (by omega)]
              exact IH (i + 1) (by omega) (by omega)
            · rw [if_neg (by omega)] at hfl
              (conv => whnf)
              refine Find_calls m (by omega) hmd r.target ?_
              rw [hfl]
              (conv => whnf)
              refine br_false (by simp [hk]) ?_
              (conv => whnf)
              rw [i64_nat (by omega)]
              exact IH (i + 1) (by omega) (by omega)
    · have hk : r.kind = 1 ∨ r.kind = 2 := .inl (by simpa using hk1)
      (conv => whnf)
      rw [i64_nat (by omega)]
      (conv => whnf); (repeat ((with_reducible refine must_intro ?_ ?_); exact decide_eq_true (by omega); (conv => whnf)))
      have hdrop2 : List.drop (Int.toNat ((i + 1 : Nat) : Int)) (List.take (Int.toNat (((recs l).length : Nat) : Int)) (recs l)) = recs (l.drop (i + 1)) := by
        rw [Int.toNat_natCast, Int.toNat_natCast, List.take_length]; simp [recs, List.map_drop]
      rw [hdrop2]
      have hsd := recs_length (l.drop (i + 1))
      have hrk : l[i].kind = 1 ∨ l[i].kind = 2 := by rw [← hr]; exact hk
      refine LoopP.ind2 (fun (j : Nat) (last : Bool) => [(9, .val (.bool last)), (70, vi j)]) (fun _ _ => []) (fun j _ => (l.drop (i + 1)).length - j) (fun j last => j ≤ (l.drop (i + 1)).length ∧ last = ((l.drop (i + 1)).take j).all (past r.target)) 0 true rfl ⟨by omega, by simp⟩ ?_
      rintro j last ⟨hj0, hlast⟩ IH2
      (conv => whnf)
      refine br_intro (fun hc2 => ?_) (fun hc2 => ?_)
      · have hc2 := lt_of_decE hsd hc2
        have hcl2 : (l.drop (i + 1)).length = l.length - (i + 1) := by simp
        have hnext : ((l.drop (i + 1)).take (j + 1)).all (past r.target) = (last && past r.target (l.drop (i + 1))[j]) := by
          rw [List.take_succ_eq_append_getElem hc2, List.all_append, ← hlast]; simp
        (conv => whnf); (repeat ((with_reducible refine must_intro ?_ ?_); exact decide_eq_true (by omega); (conv => whnf)))
        refine idxK_map_intro (show (j : Int).toNat < (l.drop (i + 1)).length by simpa using hc2) ?_
        rw [show (l.drop (i + 1))[(j : Int).toNat]'(by simpa using hc2) = (l.drop (i + 1))[j] from by congr 1]
        obtain ⟨s, hs⟩ : ∃ s, s = (l.drop (i + 1))[j] := ⟨_, rfl⟩
        rw [← hs] at hnext ⊢
        cases last
        · (conv => whnf)
          rw [i64_nat (by omega)]
          exact IH2 (j + 1) false ⟨by omega, by rw [hnext]; rfl⟩ (by omega)
        · (conv => whnf)
          refine br_intro (fun ht => ?_) (fun ht => ?_)
          · have ht : s.target ≠ r.target := by simpa [ofB_eq] using ht
            (conv => whnf)
            rw [i64_nat (by omega)]
            exact IH2 (j + 1) true ⟨by omega, by rw [hnext]; simp [past, ht]⟩ (by omega)
          · have ht : s.target = r.target := by simpa [ofB_eq] using ht
            (conv => whnf)
            refine br_intro (fun hq => ?_) (fun hq => ?_)
            · have hq1 : s.kind ≠ 1 := by simpa using hq
              (conv => whnf)
              rw [i64_nat (by omega)]
              exact IH2 (j + 1) (s.kind != 2) ⟨by omega, by rw [hnext]; simp [past, ht, hq1]; rfl⟩ (by omega)
            · have hq1 : s.kind = 1 := by simpa using hq
              (conv => whnf)
              rw [i64_nat (by omega)]
              exact IH2 (j + 1) false ⟨by omega, by rw [hnext]; simp [past, ht, hq1]⟩ (by omega)
      · have hc2 := ge_of_decE hsd hc2
        rw [List.take_of_length_le hc2] at hlast
        clear IH2
        cases last
        · (conv => whnf)
          refine Find_calls m (by omega) hmd r.target ?_
          (conv => whnf)
          rw [i64_nat (by omega)]
          exact IH (i + 1) (by omega) (by omega)
        · have hfl := find_last hc hrk (fun s hs => by rw [← hr]; exact List.all_eq_true.1 hlast.symm s hs)
          rw [hm, ← hr] at hfl
          rcases hk with hk | hk
          · rw [if_pos hk] at hfl
            have hfr : findR m r.target = r := by rw [findR, hfl]; rfl
            (conv => whnf)
            refine Find_calls m (by omega) hmd r.target ?_
            rw [hfr, hfl]
            (conv => whnf)
            refine br_false (by simp [hk]) ?_
            (conv => whnf)
            refine Same8_calls r r (hd _ (by rw [hr]; exact List.getElem_mem hc)) fun p hp => ?_
            have hp : p = true := by rw [hp]; exact decide_eq_true rfl
            subst hp
            (conv => whnf)
            rw [i64_nat (by omega)]
            exact IH (i + 1) (by omega) (by omega)
          · rw [if_neg (by omega)] at hfl
            (conv => whnf)
            refine Find_calls m (by omega) hmd r.target ?_
            rw [hfl]
            (conv => whnf)
            refine br_false (by simp [hk]) ?_
            (conv => whnf)
            rw [i64_nat (by omega)]
            exact IH (i + 1) (by omega) (by omega)
  · have hc := ge_of_decE hsl hc
    (conv => whnf)
    refine ffix_calls ?_
    (conv => whnf)
    exact h
theorem FoldParts_row (l : List AV) (h : Args tab 12 [22, 5] l) : ACalls Try.prog 5 l [] fun r _ => r = .val (.bool true) := by
  obtain ⟨a, l1, rfl, h1, h2, h3⟩ := args_recs h
  obtain ⟨x, l2, rfl, hx, h4⟩ := args_u8 h3
  obtain rfl := args_nil h4
  exact FoldParts_calls a h1 h2 x hx rfl
end Go.Abs
end
