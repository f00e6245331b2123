/- Several texts of this claim, one behind the other: H7, H8, H9, G4, G5, HA. -/
import Derived.Test.YtnifkinpogopkaaYDirtyClean1

section
/- record.Same, fold.Same; the chapter's example; FoldFinds. -/
set_option maxRecDepth 100000
set_option maxHeartbeats 1000000
set_option linter.unusedVariables false
set_option linter.unusedSimpArgs false
namespace Go.Abs
open Go Go.Proofs Dig
attribute [local irreducible] ibits byteAt strLt firstIdx

def Rc.bare (r : Rc) : List AV := [vi r.kind, vs r.target, vs r.tag, uv r.rule, uv r.out, uv r.wen]
theorem of_calls (r : Rc) {R} (h : R (.agg r.bare) []) : ACalls Try.prog 81 [.agg r.enc] [] R := by
  refine acalls_of_xwp (an := an81) tab_ok Try.func81 ?_
  (conv => whnf)
  exact h
theorem dp_ne (a b : Dp) (h : (!(true && decide (ofB a.name = ofB b.name) && ((a.hash.toNat : Int) == (b.hash.toNat : Int)) && (a.order == b.order))) = true) : a ≠ b := by
  rintro rfl
  simp at h
theorem dp_eq (a b : Dp) (h : (!(true && decide (ofB a.name = ofB b.name) && ((a.hash.toNat : Int) == (b.hash.toNat : Int)) && (a.order == b.order))) = false) : a = b := by
  simp [ofB_eq] at h
  obtain ⟨⟨h1, h2⟩, h3⟩ := h
  have h2 : a.hash = b.hash := BitVec.eq_of_toNat_eq (by omega)
  cases a; cases b
  simp_all
theorem EqualD_calls (a b : List Dp) (ha : a.length < 1000000) {R} (h : ∀ p, p = decide (a = b) → R (.val (.bool p)) []) : ACalls Try.prog 82 [.sl none 3 (dpsA a), .sl none 3 (dpsA b)] [] R := by
  refine acalls_of_xwp (an := an82) tab_ok Try.func82 ?_
  have hsa := dpsA_length a
  have hsb := dpsA_length b
  (conv => whnf)
  rw [hsa, hsb]
  refine br_intro (fun hc => ?_) (fun hc => ?_)
  · (conv => whnf)
    refine h false (decide_eq_false ?_).symm
    rintro rfl
    simp at hc
  have hlen : a.length = b.length := by simp at hc; omega
  (conv => whnf)
  refine LoopP.ind1 (fun (i : Nat) => [(13, vi i)]) (fun _ => []) (fun i => a.length - i) (fun i => i ≤ a.length ∧ a.take i = b.take i) 0 rfl ⟨by omega, by simp⟩ ?_
  rintro i ⟨h0, h1⟩ IH
  (conv => whnf)
  refine br_intro (fun hc => ?_) (fun hc => ?_)
  · have hc := lt_of_decE hsa hc
    have hcb : i < b.length := by omega
    (conv => whnf); (repeat ((with_reducible refine must_intro ?_ ?_); exact decide_eq_true (by omega); (conv => whnf)))
    refine idxK_map_intro (show (i : Int).toNat < a.length by simpa using hc) ?_
    rw [show a[(i : Int).toNat]'(by simpa using hc) = a[i] from by congr 1]
    (conv => whnf); (repeat ((with_reducible refine must_intro ?_ ?_); exact decide_eq_true (by omega); (conv => whnf)))
    refine idxK_map_intro (show (i : Int).toNat < b.length by simpa using hcb) ?_
    rw [show b[(i : Int).toNat]'(by simpa using hcb) = b[i] from by congr 1]
    (conv => whnf)
    refine br_intro (fun he => ?_) (fun he => ?_)
    · have he := dp_ne _ _ he
      (conv => whnf)
      refine h false (decide_eq_false ?_).symm
      rintro rfl
      exact he rfl
    · have he := dp_eq _ _ he
      (conv => whnf)
      rw [i64_nat (by omega)]
      refine IH (i + 1) ⟨by omega, ?_⟩ (by omega)
      rw [List.take_succ_eq_append_getElem hc, List.take_succ_eq_append_getElem hcb, h1, he]
  · have hc := ge_of_decE hsa hc
    rw [List.take_of_length_le hc, List.take_of_length_le (by omega)] at h1
    (conv => whnf)
    exact h true (decide_eq_true h1).symm
theorem SameR_calls (a b : Rc) (ha : a.deps.length < 1000000) {R} (h : ∀ p, p = decide (a = b) → R (.val (.bool p)) []) : ACalls Try.prog 56 [.agg a.enc, .agg b.enc] [] R := by
  refine acalls_of_xwp (an := an56) tab_ok Try.func56 ?_
  (conv => whnf)
  refine of_calls a ?_
  (conv => whnf)
  refine of_calls b ?_
  (conv => whnf)
  refine br_intro (fun g => ?_) (fun g => ?_)
  · have g2 : a.kind = b.kind ∧ a.target = b.target ∧ a.tag = b.tag ∧ a.rule = b.rule ∧ a.out = b.out ∧ a.wen = b.wen := by
      simp [ofB_eq] at g
      obtain ⟨⟨⟨⟨⟨g1, g2⟩, g3⟩, g4⟩, g5⟩, g6⟩ := g
      exact ⟨g1, g2, g3, BitVec.eq_of_toNat_eq (by omega), BitVec.eq_of_toNat_eq (by omega), BitVec.eq_of_toNat_eq (by omega)⟩
    (conv => whnf)
    refine EqualD_calls a.deps b.deps ha fun p hp => ?_
    (conv => whnf)
    refine h _ ?_
    rw [hp]
    refine decide_eq_decide.2 ⟨fun e => ?_, fun e => by rw [e]⟩
    obtain ⟨g1, g2, g3, g4, g5, g6⟩ := g2
    cases a; cases b
    simp_all
  · (conv => whnf)
    refine h false (decide_eq_false ?_).symm
    rintro rfl
    simp at g
theorem SameL_calls (a b : List Rc) (ha : a.length < 1000000) (had : ∀ r ∈ a, r.deps.length < 1000000) {R} (h : ∀ p, p = decide (a = b) → R (.val (.bool p)) []) : ACalls Try.prog 29 [.sl none 7 (recs a), .sl none 7 (recs b)] [] R := by
  have key : ∀ {R}, (∀ p, p = decide (a = b) → R (.val (.bool p)) []) → ACalls Try.prog 55 [.sl none 7 (recs a), .sl none 7 (recs b), .fn (.func 56) [] []] [] R := by
    intro R h
    refine acalls_of_xwp (an := an55) tab_ok Try.func55 ?_
    have hsa := recs_length a
    have hsb := recs_length b
    (conv => whnf)
    rw [hsa, hsb]
    refine br_intro (fun hc => ?_) (fun hc => ?_)
    · (conv => whnf)
      refine h false (decide_eq_false ?_).symm
      rintro rfl
      simp at hc
    have hlen : a.length = b.length := by simp at hc; omega
    (conv => whnf)
    refine LoopP.ind1 (fun (i : Nat) => [(17, vi i)]) (fun _ => []) (fun i => a.length - i) (fun i => i ≤ a.length ∧ a.take i = b.take i) 0 rfl ⟨by omega, by simp⟩ ?_
    rintro i ⟨h0, h1⟩ IH
    (conv => whnf)
    refine br_intro (fun hc => ?_) (fun hc => ?_)
    · have hc := lt_of_decE hsa hc
      have hcb : i < b.length := by omega
      (conv => whnf); (repeat ((with_reducible refine must_intro ?_ ?_); exact decide_eq_true (by omega); (conv => whnf)))
      refine idxK_map_intro (show (i : Int).toNat < a.length by simpa using hc) ?_
      rw [show a[(i : Int).toNat]'(by simpa using hc) = a[i] from by congr 1]
      (conv => whnf); (repeat ((with_reducible refine must_intro ?_ ?_); exact decide_eq_true (by omega); (conv => whnf)))
      refine idxK_map_intro (show (i : Int).toNat < b.length by simpa using hcb) ?_
      rw [show b[(i : Int).toNat]'(by simpa using hcb) = b[i] from by congr 1]
      (conv => whnf)
      refine SameR_calls a[i] b[i] (had _ (List.getElem_mem hc)) fun p hp => ?_
      (conv => whnf)
      refine br_intro (fun he => ?_) (fun he => ?_)
      · have he : ¬ a[i] = b[i] := by simpa [hp] using he
        (conv => whnf)
        refine h false (decide_eq_false ?_).symm
        rintro rfl
        exact he rfl
      · have he : a[i] = b[i] := by simpa [hp] using he
        (conv => whnf)
        rw [i64_nat (by omega)]
        refine IH (i + 1) ⟨by omega, ?_⟩ (by omega)
        rw [List.take_succ_eq_append_getElem hc, List.take_succ_eq_append_getElem hcb, h1, he]
    · have hc := ge_of_decE hsa hc
      rw [List.take_of_length_le hc, List.take_of_length_le (by omega)] at h1
      (conv => whnf)
      exact h true (decide_eq_true h1).symm
  refine acalls_of_xwp (an := an29) tab_ok Try.func29 ?_
  (conv => whnf)
  refine key fun p hp => ?_
  (conv => whnf)
  exact h p hp

def ffA : Rc := ⟨1, [97], 0, [], 0, 0, []⟩
def ffB : Rc := ⟨1, [98], 0, [], 3, 0, []⟩
def ffC : Rc := ⟨2, [97], 0, [], 0, 0, []⟩
theorem ffix_of : docOf [ffA, ffB, ffC] = [ffB] := by decide +kernel
theorem le_rec2 (k : Int) (t : B) (u o w : U) (g : B) : leL [.val (.int .i64 k), .val (.string (ofB t)), .val (.int .u64 (u.toNat : Int)), .val (.slice none 0 0), .val (.int .u64 (o.toNat : Int)), .val (.int .u64 (w.toNat : Int)), .val (.string (ofB g))] (Rc.enc ⟨k, t, u, [], o, w, g⟩) :=
  leL.cons (.refl _) (leL.cons (.refl _) (leL.cons (.refl _) (leL.cons (le_nil 3) (leL.refl _))))
theorem ffix_calls {R} (h : R (.val (.bool true)) []) : ACalls Try.prog 21 [] [] R := by
  refine acalls_of_xwp (an := an21) tab_ok Try.func21 ?_
  have hle := leE.cons (le_rec2 1 [97] 0 0 0 []) rfl (leE.cons (le_rec2 1 [98] 0 3 0 []) rfl (leE.cons (le_rec2 2 [97] 0 0 0 []) rfl leE.nil))
  (conv => whnf)
  refine ACalls.args ?_ (Of_records [ffA, ffB, ffC] (by decide) (by decide) ?_)
  · exact leL.cons (le_sl _ _ hle) leL.nil
  rw [ffix_of]
  (conv => whnf)
  exact h

theorem FoldFinds_calls (l m : List Rc) (hl : l.length ≤ maxLen) (hd : ∀ r ∈ l, r.deps.length ≤ maxLen) (hl2 : m.length ≤ maxLen) (hd2 : ∀ r ∈ m, r.deps.length ≤ maxLen) (t : B) {R} (h : R (.val (.bool true)) []) :
    ACalls Try.prog 6 [.sl none 7 (recs l), .sl none 7 (recs m), vs t] [] R := by
  refine acalls_of_xwp (an := an6) tab_ok Try.func6 ?_
  (conv => whnf)
  refine Great10_calls l hl hd fun b hb => ?_
  (conv => whnf)
  refine br_intro (fun g => ?_) (fun g => ?_)
  · (conv => whnf)
    refine ffix_calls ?_
    (conv => whnf)
    exact h
  obtain ⟨c1, c2⟩ := hb g
  have hl : l.length < 1000000 := by omega
  have hd : ∀ r ∈ l, r.deps.length < 1000000 := fun r hr => by have := (c2 r hr).1; omega
  (conv => whnf)
  refine Great10_calls m hl2 hd2 fun b hb => ?_
  (conv => whnf)
  refine br_intro (fun g => ?_) (fun g => ?_)
  · (conv => whnf)
    refine ffix_calls ?_
    (conv => whnf)
    exact h
  have hrd := findR_deps hd t
  (conv => whnf)
  refine Find_calls l hl hd t ?_
  (conv => whnf)
  refine docFind_calls l hl t ?_
  (conv => whnf)
  refine ffix_calls ?_
  (conv => whnf)
  refine Same8_calls (findR l t) (findR l t) hrd fun p hp => ?_
  have hp : p = true := by rw [hp]; exact decide_eq_true rfl
  subst hp
  (conv => whnf)
  refine br_true (by simp) ?_
  (conv => whnf)
  refine SameL_calls l m hl hd fun p hp => ?_
  (conv => whnf)
  refine All_calls l m hl hd fun q hq => ?_
  (conv => whnf)
  refine br_true (by rw [hp, hq]; simp) ?_
  (conv => whnf)
  refine SameL_calls l l hl hd fun p hp => ?_
  have hp : p = true := by rw [hp]; exact decide_eq_true rfl
  subst hp
  (conv => whnf)
  exact h
theorem args_str {ts : List TypeId} {l : List AV} (h : Args tab 12 (9 :: ts) l) : ∃ (x : B) (l' : List AV), l = vs x :: l' ∧ x.length ≤ maxLen ∧ Args tab 12 ts l' := by
  obtain ⟨a, l', rfl, h1, h2⟩ := h
  obtain ⟨s, e, hs⟩ : ∃ s : ByteArray, [a] = [.val (.string s)] ∧ s.size ≤ maxLen := h1
  simp only [List.cons.injEq, and_true] at e
  refine ⟨bs s, l', by rw [e, vs, ofB_bs], ?_, h2⟩
  have := size_ofB (bs s)
  rw [ofB_bs] at this
  omega
theorem FoldFinds_row (l : List AV) (h : Args tab 12 [22, 22, 9] l) : ACalls Try.prog 6 l [] fun r _ => r = .val (.bool true) := by
  obtain ⟨a, l1, rfl, h1, h2, h3⟩ := args_recs h
  obtain ⟨b, l2, rfl, h4, h5, h6⟩ := args_recs h3
  obtain ⟨t, l3, rfl, h7, h8⟩ := args_str h6
  obtain rfl := args_nil h8
  exact FoldFinds_calls a b h1 h2 h4 h5 t rfl
end Go.Abs
end

section
/- fold.Right; FoldParts. -/
set_option maxRecDepth 100000
set_option maxHeartbeats 1000000
set_option linter.unusedVariables false
set_option linter.unusedSimpArgs false
namespace Go.Abs
open Go Go.Proofs Dig
attribute [local irreducible] ibits byteAt strLt firstIdx

def okAt (l : List Rc) : Nat → Bool
  | 0 => match l[0]? with
    | some r => decide (r.kind = 1)
    | none => true
  | j + 1 => match l[j + 1]?, l[j]? with
    | some r, some s => decide (r.kind = 1) && ltB s.target r.target
    | _, _ => true
def rightB (l : List Rc) : Bool := (List.range l.length).all (okAt l)
theorem rightB_no {l : List Rc} {i : Nat} (hi : i < l.length) (h : okAt l i = false) : rightB l = false := by
  refine Bool.eq_false_iff.2 fun e => ?_
  have := List.all_eq_true.1 e i (List.mem_range.2 hi)
  rw [h] at this; cases this
theorem rightB_yes {l : List Rc} (hs : Srt l) (hk : ∀ r ∈ l, r.kind = 1) : rightB l = true := by
  refine List.all_eq_true.2 fun i hi => ?_
  have hi := List.mem_range.1 hi
  cases i with
  | zero => simp only [okAt, List.getElem?_eq_getElem hi]; exact decide_eq_true (hk _ (List.getElem_mem hi))
  | succ j =>
    have hj : j < l.length := by omega
    simp only [okAt, List.getElem?_eq_getElem hi, List.getElem?_eq_getElem hj, ltB_eq]
    have := List.pairwise_iff_getElem.1 hs j (j + 1) hj hi (by omega)
    simp [hk _ (List.getElem_mem hi), this]
theorem Right_calls (l : List Rc) (hl : l.length < 1000000) {R} (h : ∀ p, p = rightB l → R (.val (.bool p)) []) : ACalls Try.prog 24 [.sl none 7 (recs l)] [] R := by
  refine acalls_of_xwp (an := an24) tab_ok Try.func24 ?_
  have hsl := recs_length l
  (conv => whnf)
  refine LoopP.ind1 (fun (i : Nat) => [(7, vi i)]) (fun _ => []) (fun i => l.length - i) (fun i => i ≤ l.length ∧ (List.range i).all (okAt l) = true) 0 rfl ⟨by omega, by simp⟩ ?_
  rintro i ⟨h0, h1⟩ IH
  (conv => whnf)
  refine br_intro (fun hc => ?_) (fun hc => ?_)
  · have hc := lt_of_decE hsl hc
    have next : okAt l i = true → (List.range (i + 1)).all (okAt l) = true := fun e => by
      rw [List.range_succ, List.all_append, h1]; simp [e]
    (conv => whnf); (repeat ((with_reducible refine must_intro ?_ ?_); exact decide_eq_true (by omega); (conv => whnf)))
    refine idxK_map_intro (show (i : Int).toNat < l.length by simpa using hc) ?_
    rw [show l[(i : Int).toNat]'(by simpa using hc) = l[i] from by congr 1]
    (conv => whnf)
    refine br_intro (fun hk => ?_) (fun hk => ?_)
    · have hk : ¬ l[i].kind = 1 := by simpa using hk
      (conv => whnf)
      refine h false (rightB_no hc ?_).symm
      cases i with
      | zero => simp only [okAt, List.getElem?_eq_getElem hc]; exact decide_eq_false hk
      | succ j =>
        have hj : j < l.length := by omega
        simp only [okAt, List.getElem?_eq_getElem hc, List.getElem?_eq_getElem hj]
        simp [hk]
    · have hk : l[i].kind = 1 := by simpa using hk
      cases i with
      | zero =>
        (conv => whnf)
        refine IH 1 ⟨by omega, next ?_⟩ (by omega)
        simp only [okAt, List.getElem?_eq_getElem hc]
        exact decide_eq_true hk
      | succ j =>
        have hj : j < l.length := by omega
        (conv => whnf)
        refine br_true (by simp) ?_
        (conv => whnf)
        rw [show IntKind.i64.wrap (((j + 1 : Nat) : Int) - 1) = (j : Int) by rw [wrap_i64 (by omega) (by omega)]; omega]
        (conv => whnf); (repeat ((with_reducible refine must_intro ?_ ?_); exact decide_eq_true (by omega); (conv => whnf)))
        refine idxK_map_intro (show (j : Int).toNat < l.length by simpa using hj) ?_
        rw [show l[(j : Int).toNat]'(by simpa using hj) = l[j] from by congr 1]
        (conv => whnf)
        rw [strLt_ofB]
        have hok : okAt l (j + 1) = ltB l[j].target l[j + 1].target := by
          simp only [okAt, List.getElem?_eq_getElem hc, List.getElem?_eq_getElem hj]
          simp [hk]
        refine br_intro (fun hb => ?_) (fun hb => ?_)
        · have hb : ltB l[j].target l[j + 1].target = false := by simpa using hb
          (conv => whnf)
          exact h false (rightB_no hc (by rw [hok, hb])).symm
        · have hb : ltB l[j].target l[j + 1].target = true := by simpa using hb
          (conv => whnf)
          rw [i64_nat (by omega)]
          exact IH (j + 1 + 1) ⟨by omega, next (by rw [hok, hb])⟩ (by omega)
  · have hc := ge_of_decE hsl hc
    have e : i = l.length := by omega
    (conv => whnf)
    exact h true (by rw [rightB, ← e, h1])
end Go.Abs
end

section
/- The statement FoldParts. -/
set_option maxRecDepth 100000
set_option maxHeartbeats 1000000
set_option linter.unusedVariables false
set_option linter.unusedSimpArgs false
namespace Go.Abs
open Go Go.Proofs Dig
attribute [local irreducible] ibits byteAt strLt firstIdx

theorem docOf_append (a b : List Rc) : docOf (a ++ b) = b.foldl docPut (docOf a) := by simp [docOf]
theorem docOf_parts (a b : List Rc) : docOf (docOf a ++ b) = docOf (a ++ b) := by rw [docOf_append, docOf_docOf, docOf_append]
def past (t : B) (s : Rc) : Bool := decide (s.target ≠ t) || (decide (s.kind ≠ 1) && decide (s.kind ≠ 2))
theorem docPut_past {S : List Rc} {s x : Rc} {t : B} (hp : past t s = true) (hx : x.target = t) : x ∈ docPut S s ↔ x ∈ S := by
  unfold docPut
  split
  · exact Iff.rfl
  · rename_i hk
    have hs : s.target ≠ t := by
      simp only [past, Bool.or_eq_true, Bool.and_eq_true, decide_eq_true_eq] at hp
      rcases hp with h | h
      · exact h
      · exact absurd h hk
    rw [docLoop_mem]
    constructor
    · rintro (⟨_, rfl⟩ | ⟨h, _⟩)
      · exact absurd hx hs
      · exact h
    · intro h
      exact .inr ⟨h, fun e => hs (by rw [← e, hx])⟩
theorem docFold_past {t : B} : ∀ (l S : List Rc), (∀ s ∈ l, past t s = true) → ∀ x, x.target = t → (x ∈ l.foldl docPut S ↔ x ∈ S) := by
  intro l
  induction l with
  | nil => intro S _ x _; exact Iff.rfl
  | cons s l ih =>
    intro S h x hx
    rw [List.foldl_cons, ih _ (fun y hy => h y (by simp [hy])) x hx, docPut_past (h s (by simp)) hx]
theorem srt_uniq {S : List Rc} (hs : Srt S) {a b : Rc} (ha : a ∈ S) (hb : b ∈ S) (e : a.target = b.target) : a = b := by
  obtain ⟨i, hi, rfl⟩ := List.getElem_of_mem ha
  obtain ⟨j, hj, rfl⟩ := List.getElem_of_mem hb
  have hp := List.pairwise_iff_getElem.1 hs
  rcases Nat.lt_trichotomy i j with h | h | h
  · exact absurd (hp i j hi hj h) (by rw [e]; exact List.lt_irrefl _)
  · subst h; rfl
  · exact absurd (hp j i hj hi h) (by rw [e]; exact List.lt_irrefl _)
theorem findP_some {S : List Rc} (hs : Srt S) {r : Rc} (hr : r ∈ S) (hk : r.kind = 1) : findP S r.target = some r := by
  unfold findP
  cases h : S.reverse.find? (isOf r.target) with
  | none => exact absurd (List.find?_eq_none.1 h r (List.mem_reverse.2 hr)) (by simp [isOf, hk])
  | some x =>
    have h1 := List.find?_some h
    have h2 := List.mem_reverse.1 (List.mem_of_find?_eq_some h)
    simp only [isOf, Bool.and_eq_true, decide_eq_true_eq] at h1
    rw [srt_uniq hs h2 hr h1.2]
theorem findP_none {S : List Rc} {t : B} (h : ∀ x ∈ S, x.target ≠ t) : findP S t = none := by
  unfold findP
  rw [List.find?_eq_none]
  intro x hx
  simp [isOf, h x (List.mem_reverse.1 hx)]
/-- What the last record of a target tells. -/
theorem find_last {l : List Rc} {i : Nat} (hi : i < l.length) (hk : l[i].kind = 1 ∨ l[i].kind = 2) (hp : ∀ s ∈ l.drop (i + 1), past l[i].target s = true) :
    findP (docOf l) l[i].target = if l[i].kind = 1 then some l[i] else none := by
  have e : docOf l = (l.drop (i + 1)).foldl docPut (docPut (docOf (l.take i)) l[i]) := by
    have : l = l.take i ++ ([l[i]] ++ l.drop (i + 1)) := by
      rw [List.singleton_append, ← List.drop_eq_getElem_cons hi, List.take_append_drop]
    conv => lhs; rw [this]
    rw [docOf_append, List.foldl_append]
    rfl
  have hm : ∀ x, x.target = l[i].target → (x ∈ docOf l ↔ x ∈ docPut (docOf (l.take i)) l[i]) := fun x hx => by rw [e]; exact docFold_past _ _ hp x hx
  rcases hk with hk | hk
  · rw [if_pos hk]
    exact findP_some (docOf_srt l) ((hm _ rfl).2 ((docPut_mem1 hk _).2 (.inl rfl))) hk
  · rw [if_neg (by omega)]
    refine findP_none fun x hx hxt => ?_
    have h1 := (hm x hxt).1 hx
    rw [docPut, if_neg (by omega), docLoop_mem] at h1
    rcases h1 with ⟨h1, _⟩ | ⟨_, h1⟩
    · simp [hk] at h1
    · exact h1 hxt

theorem FoldParts_calls (l : List Rc) (hl : l.length ≤ maxLen) (hd : ∀ r ∈ l, r.deps.length ≤ maxLen) (a : Int) (ha : 0 ≤ a ∧ a ≤ 255) {R} (h : R (.val (.bool true)) []) :
    ACalls Try.prog 5 [.sl none 7 (recs l), .val (.int .u8 a)] [] R := by
  refine acalls_of_xwp (an := an5) tab_ok Try.func5 ?_
  (conv => whnf)
  refine Great10_calls l hl hd fun b hb => ?_
  (conv => whnf)
  refine br_intro (fun g => ?_) (fun g => ?_)
  · (conv => whnf)
    refine ffix_calls ?_
    (conv => whnf)
    exact h
  obtain ⟨c1, c2⟩ := hb g
  have hl : l.length < 1000000 := by omega
  have hd : ∀ r ∈ l, r.deps.length < 1000000 := fun r hr => by have := (c2 r hr).1; omega
  have hsl := recs_length l
  generalize hm : docOf l = m
  have hms : Srt m := by rw [← hm]; exact docOf_srt l
  have hml : m.length ≤ l.length := by rw [← hm]; exact docOf_len l
  have hmk : ∀ r ∈ m, r.kind = 1 := fun r hr => (docOf_sub (by rw [hm]; exact hr)).2
  have hmd : ∀ r ∈ m, r.deps.length < 1000000 := fun r hr => hd r (docOf_sub (by rw [hm]; exact hr)).1
  have hmm : docOf m = m := by rw [← hm]; exact docOf_docOf l
  obtain ⟨k, hk, hkl⟩ : ∃ k : Nat, (if ((recs l).length : Int) < IntKind.i64.wrap a then ((recs l).length : Int) else IntKind.i64.wrap a) = (k : Int) ∧ k ≤ l.length := by
    rw [wrap_i64 (by omega) (by omega), hsl]
    split
    · exact ⟨l.length, rfl, Nat.le_refl _⟩
    · exact ⟨a.toNat, by omega, by omega⟩
  (conv => whnf)
  refine Of_records l hl hd ?_
  rw [hm]
  (conv => whnf)
  refine Right_calls m (by omega) fun p hp => ?_
  have hp : p = true := by rw [hp]; exact rightB_yes hms hmk
  subst hp
  (conv => whnf)
  refine Of_records m (by omega) hmd ?_
  rw [hmm]
  (conv => whnf)
  refine All_calls m m (by omega) hmd fun p hp => ?_
  have hp : p = true := by rw [hp]; exact decide_eq_true rfl
  subst hp
  (conv => whnf)
  rw [hk]
  (conv => whnf); (repeat ((with_reducible refine must_intro ?_ ?_); exact decide_eq_true (by omega); (conv => whnf)))
  rw [show List.drop (Int.toNat ((0 : Nat) : Int)) (List.take (Int.toNat (k : Int)) (recs l)) = recs (l.take k) from by simp [recs, List.map_take]]
  have htk : (l.take k).length = k := by simp; omega
  refine Of_records (l.take k) (by omega) (fun r hr => hd r (List.mem_of_mem_take hr)) ?_
  have hdl := docOf_len (l.take k)
  have hdr := recs_length (docOf (l.take k))
  have hlk := recs_length (l.drop k)
  have hlk2 : (l.drop k).length = l.length - k := by simp
  (conv => whnf)
  refine ⟨rfl, (by show (0 + (recs (docOf (l.take k))).length) * (88 + 1) ≤ _; omega), ?_⟩
  (conv => whnf); (repeat ((with_reducible refine must_intro ?_ ?_); exact decide_eq_true (by omega); (conv => whnf)))
  have hdrop : List.drop (Int.toNat (k : Int)) (List.take (Int.toNat (((recs l).length : Nat) : Int)) (recs l)) = recs (l.drop k) := by
    rw [Int.toNat_natCast, Int.toNat_natCast, List.take_length]; simp [recs, List.map_drop]
  rw [hdrop]
  refine ⟨by simp, (by rw [show (tab.ti 29).bytes = 88 from rfl, List.nil_append]; omega), ?_⟩
  (conv => whnf)
  rw [show [] ++ recs (docOf (l.take k)) ++ recs (l.drop k) = recs (docOf (l.take k) ++ l.drop k) from by simp [recs]]
  refine Of_records (docOf (l.take k) ++ l.drop k) (by rw [List.length_append]; omega) (fun r hr => ?_) ?_
  · rw [List.mem_append] at hr
    rcases hr with hr | hr
    · exact hd r (List.mem_of_mem_take (docOf_sub hr).1)
    · exact hd r (List.mem_of_mem_drop hr)
  rw [docOf_parts, List.take_append_drop, hm]
  (conv => whnf)
  refine All_calls m m (by omega) hmd fun p hp => ?_
  have hp : p = true := by rw [hp]; exact decide_eq_true rfl
  subst hp
  (conv => whnf)
  refine LoopP.ind1 (fun (i : Nat) => [(52, vi i)]) (fun _ => []) (fun i => l.length - i) (fun i => i ≤ l.length) 0 rfl (by omega) ?_
  rintro i h0 IH
  (conv => whnf)
  refine br_intro (fun hc => ?_) (fun hc => ?_)
  · have hc := lt_of_decE hsl hc
    (conv => whnf); (repeat ((with_reducible refine must_intro ?_ ?_); exact decide_eq_true (by omega); (conv => whnf)))
    refine idxK_map_intro (show (i : Int).toNat < l.length by simpa using hc) ?_
    rw [show l[(i : Int).toNat]'(by simpa using hc) = l[i] from by congr 1]
    obtain ⟨r, hr⟩ : ∃ r, r = l[i] := ⟨_, rfl⟩
    rw [← hr]
    (conv => whnf)
    refine br_intro (fun hk1 => ?_) (fun hk1 => ?_)
    · (conv => whnf)
      refine br_intro (fun hk2 => ?_) (fun hk2 => ?_)
      · (conv => whnf)
        rw [i64_nat (by omega)]
        exact IH (i + 1) (by omega) (by omega)
      · have hk : r.kind = 1 ∨ r.kind = 2 := .inr (by simpa using hk2)
        (conv => whnf)
        rw [i64_nat (by omega)]
        (conv => whnf); (repeat ((with_reducible refine must_intro ?_ ?_); exact decide_eq_true (by omega); (conv => whnf)))
        have hdrop2 : List.drop (Int.toNat ((i + 1 : Nat) : Int)) (List.take (Int.toNat (((recs l).length : Nat) : Int)) (recs l)) = recs (l.drop (i + 1)) := by
          rw [Int.toNat_natCast, Int.toNat_natCast, List.take_length]; simp [recs, List.map_drop]
        rw [hdrop2]
        have hsd := recs_length (l.drop (i + 1))
        have hrk : l[i].kind = 1 ∨ l[i].kind = 2 := by rw [← hr]; exact hk
        refine LoopP.ind2 (fun (j : Nat) (last : Bool) => [(9, .val (.bool last)), (70, vi j)]) (fun _ _ => []) (fun j _ => (l.drop (i + 1)).length - j) (fun j last => j ≤ (l.drop (i + 1)).length ∧ last = ((l.drop (i + 1)).take j).all (past r.target)) 0 true rfl ⟨by omega, by simp⟩ ?_
        rintro j last ⟨hj0, hlast⟩ IH2
        (conv => whnf)
        refine br_intro (fun hc2 => ?_) (fun hc2 => ?_)
        · have hc2 := lt_of_decE hsd hc2
          have hcl2 : (l.drop (i + 1)).length = l.length - (i + 1) := by simp
          have hnext : ((l.drop (i + 1)).take (j + 1)).all (past r.target) = (last && past r.target (l.drop (i + 1))[j]) := by
            rw [List.take_succ_eq_append_getElem hc2, List.all_append, ← hlast]; simp
          (conv => whnf); (repeat ((with_reducible refine must_intro ?_ ?_); exact decide_eq_true (by omega); (conv => whnf)))
          refine idxK_map_intro (show (j : Int).toNat < (l.drop (i + 1)).length by simpa using hc2) ?_
          rw [show (l.drop (i + 1))[(j : Int).toNat]'(by simpa using hc2) = (l.drop (i + 1))[j] from by congr 1]
          obtain ⟨s, hs⟩ : ∃ s, s = (l.drop (i + 1))[j] := ⟨_, rfl⟩
          rw [← hs] at hnext ⊢
          cases last
          · (conv => whnf)
            rw [i64_nat (by omega)]
            exact IH2 (j + 1) false ⟨by omega, by rw [hnext]; rfl⟩ (by omega)
          · (conv => whnf)
            refine br_intro (fun ht => ?_) (fun ht => ?_)
            · have ht : s.target ≠ r.target := by simpa [ofB_eq] using ht
              (conv => whnf)
              rw [i64_nat (by omega)]
              exact IH2 (j + 1) true ⟨by omega, by rw [hnext]; simp [past, ht]⟩ (by omega)
            · have ht : s.target = r.target := by simpa [ofB_eq] using ht
              (conv => whnf)
              refine br_intro (fun hq => ?_) (fun hq => ?_)
              · have hq1 : s.kind ≠ 1 := by simpa using hq
                (conv => whnf)
                rw [i64_nat (by omega)]
                exact IH2 (j + 1) (s.kind != 2) ⟨by omega, by rw [hnext]; simp [past, ht, hq1]; rfl⟩ (by omega)
              · have hq1 : s.kind = 1 := by simpa using hq
                (conv => whnf)
                rw [i64_nat (by omega)]
                exact IH2 (j + 1) false ⟨by omega, by rw [hnext]; simp [past, ht, hq1]⟩ (by omega)
        · have hc2 := ge_of_decE hsd hc2
          rw [List.take_of_length_le hc2] at hlast
          clear IH2
          cases last
          · (conv => whnf)
            refine Find_calls m (by omega) hmd r.target ?_
            (conv => whnf)
            rw [i64_nat (by omega)]
            exact IH (i + 1) (by omega) (by omega)
          · have hfl := find_last hc hrk (fun s hs => by rw [← hr]; exact List.all_eq_true.1 hlast.symm s hs)
            rw [hm, ← hr] at hfl
            rcases hk with hk | hk
            · rw [if_pos hk] at hfl
              have hfr : findR m r.target = r := by rw [findR, hfl]; rfl
              (conv => whnf)
              refine Find_calls m (by omega) hmd r.target ?_
              rw [hfr, hfl]
              (conv => whnf)
              refine br_false (by simp [hk]) ?_
              (conv => whnf)
              refine Same8_calls r r (hd _ (by rw [hr]; exact List.getElem_mem hc)) fun p hp => ?_
              have hp : p = true := by rw [hp]; exact decide_eq_true rfl
              subst hp
              (conv => whnf)
              rw [i64_nat (by omega)]
              exact IH (i + 1) (by omega) (by omega)
            · rw [if_neg (by omega)] at hfl
              (conv => whnf)
              refine Find_calls m (by omega) hmd r.target ?_
              rw [hfl]
              (conv => whnf)
              refine br_false (by simp [hk]) ?_
              (conv => whnf)
              rw [i64_nat (by omega)]
              exact IH (i + 1) (by omega) (by omega)
    · have hk : r.kind = 1 ∨ r.kind = 2 := .inl (by simpa using hk1)
      (conv => whnf)
      rw [i64_nat (by omega)]
      (conv => whnf); (repeat ((with_reducible refine must_intro ?_ ?_); exact decide_eq_true (by omega); (conv => whnf)))
      have hdrop2 : List.drop (Int.toNat ((i + 1 : Nat) : Int)) (List.take (Int.toNat (((recs l).length : Nat) : Int)) (recs l)) = recs (l.drop (i + 1)) := by
        rw [Int.toNat_natCast, Int.toNat_natCast, List.take_length]; simp [recs, List.map_drop]
      rw [hdrop2]
      have hsd := recs_length (l.drop (i + 1))
      have hrk : l[i].kind = 1 ∨ l[i].kind = 2 := by rw [← hr]; exact hk
      refine LoopP.ind2 (fun (j : Nat) (last : Bool) => [(9, .val (.bool last)), (70, vi j)]) (fun _ _ => []) (fun j _ => (l.drop (i + 1)).length - j) (fun j last => j ≤ (l.drop (i + 1)).length ∧ last = ((l.drop (i + 1)).take j).all (past r.target)) 0 true rfl ⟨by omega, by simp⟩ ?_
      rintro j last ⟨hj0, hlast⟩ IH2
      (conv => whnf)
      refine br_intro (fun hc2 => ?_) (fun hc2 => ?_)
      · have hc2 := lt_of_decE hsd hc2
        have hcl2 : (l.drop (i + 1)).length = l.length - (i + 1) := by simp
        have hnext : ((l.drop (i + 1)).take (j + 1)).all (past r.target) = (last && past r.target (l.drop (i + 1))[j]) := by
          rw [List.take_succ_eq_append_getElem hc2, List.all_append, ← hlast]; simp
        (conv => whnf); (repeat ((with_reducible refine must_intro ?_ ?_); exact decide_eq_true (by omega); (conv => whnf)))
        refine idxK_map_intro (show (j : Int).toNat < (l.drop (i + 1)).length by simpa using hc2) ?_
        rw [show (l.drop (i + 1))[(j : Int).toNat]'(by simpa using hc2) = (l.drop (i + 1))[j] from by congr 1]
        obtain ⟨s, hs⟩ : ∃ s, s = (l.drop (i + 1))[j] := ⟨_, rfl⟩
        rw [← hs] at hnext ⊢
        cases last
        · (conv => whnf)
          rw [i64_nat (by omega)]
          exact IH2 (j + 1) false ⟨by omega, by rw [hnext]; rfl⟩ (by omega)
        · (conv => whnf)
          refine br_intro (fun ht => ?_) (fun ht => ?_)
          · have ht : s.target ≠ r.target := by simpa [ofB_eq] using ht
            (conv => whnf)
            rw [i64_nat (by omega)]
            exact IH2 (j + 1) true ⟨by omega, by rw [hnext]; simp [past, ht]⟩ (by omega)
          · have ht : s.target = r.target := by simpa [ofB_eq] using ht
            (conv => whnf)
            refine br_intro (fun hq => ?_) (fun hq => ?_)
            · have hq1 : s.kind ≠ 1 := by simpa using hq
              (conv => whnf)
              rw [i64_nat (by omega)]
              exact IH2 (j + 1) (s.kind != 2) ⟨by omega, by rw [hnext]; simp [past, ht, hq1]; rfl⟩ (by omega)
            · have hq1 : s.kind = 1 := by simpa using hq
              (conv => whnf)
              rw [i64_nat (by omega)]
              exact IH2 (j + 1) false ⟨by omega, by rw [hnext]; simp [past, ht, hq1]⟩ (by omega)
      · have hc2 := ge_of_decE hsd hc2
        rw [List.take_of_length_le hc2] at hlast
        clear IH2
        cases last
        · (conv => whnf)
          refine Find_calls m (by omega) hmd r.target ?_
          (conv => whnf)
          rw [i64_nat (by omega)]
          exact IH (i + 1) (by omega) (by omega)
        · have hfl := find_last hc hrk (fun s hs => by rw [← hr]; exact List.all_eq_true.1 hlast.symm s hs)
          rw [hm, ← hr] at hfl
          rcases hk with hk | hk
          · rw [if_pos hk] at hfl
            have hfr : findR m r.target = r := by rw [findR, hfl]; rfl
            (conv => whnf)
            refine Find_calls m (by omega) hmd r.target ?_
            rw [hfr, hfl]
            (conv => whnf)
            refine br_false (by simp [hk]) ?_
            (conv => whnf)
            refine Same8_calls r r (hd _ (by rw [hr]; exact List.getElem_mem hc)) fun p hp => ?_
            have hp : p = true := by rw [hp]; exact decide_eq_true rfl
            subst hp
            (conv => whnf)
            rw [i64_nat (by omega)]
            exact IH (i + 1) (by omega) (by omega)
          · rw [if_neg (by omega)] at hfl
            (conv => whnf)
            refine Find_calls m (by omega) hmd r.target ?_
            rw [hfl]
            (conv => whnf)
            refine br_false (by simp [hk]) ?_
            (conv => whnf)
            rw [i64_nat (by omega)]
            exact IH (i + 1) (by omega) (by omega)
  · have hc := ge_of_decE hsl hc
    (conv => whnf)
    refine ffix_calls ?_
    (conv => whnf)
    exact h
theorem FoldParts_row (l : List AV) (h : Args tab 12 [22, 5] l) : ACalls Try.prog 5 l [] fun r _ => r = .val (.bool true) := by
  obtain ⟨a, l1, rfl, h1, h2, h3⟩ := args_recs h
  obtain ⟨x, l2, rfl, hx, h4⟩ := args_u8 h3
  obtain rfl := args_nil h4
  exact FoldParts_calls a h1 h2 x hx rfl
end Go.Abs
end

section
/- Why a node is to be run (dirty.Why), and the document's. -/
set_option maxRecDepth 100000
set_option linter.unusedVariables false
set_option linter.unusedSimpArgs false
namespace Go.Abs
open Go Go.Proofs Dig
attribute [local irreducible] ibits byteAt strLt firstIdx

def hashBad : List Dp → List U → Bool
  | d :: ds, h :: hs => (!d.order && decide (d.hash ≠ h)) || hashBad ds hs
  | _, _ => false
def depsBad (n : Nd) (r : Rc) (hs : List U) : Bool := decide (hs.length ≠ n.deps.length) || decide (r.deps.map (·.name) ≠ n.deps)
def whyR (n : Nd) (r : Rc) (hs : List U) : Int := if r.rule ≠ n.rule then 2 else if depsBad n r hs = true then 3 else if hashBad r.deps hs = true then 4 else 0
def whyP (n : Nd) (l : List Rc) (hs : List U) : Int := if n.source = true then 0 else if (findP l n.name).isSome = false then 1 else whyR n (findR l n.name) hs
theorem hashBad_take {ds : List Dp} {hs : List U} (h : hs.length = ds.length) {i : Nat} (hi : i < ds.length) :
    hashBad (ds.take (i + 1)) (hs.take (i + 1)) = (hashBad (ds.take i) (hs.take i) || (!ds[i].order && decide (ds[i].hash ≠ hs[i]))) := by
  induction ds generalizing hs i with
  | nil => simp at hi
  | cons d ds ih =>
    cases hs with
    | nil => simp at h
    | cons x hs =>
      cases i with
      | zero => simp [hashBad]
      | succ i => simp [hashBad, ih (hs := hs) (i := i) (by simpa using h) (by simpa using hi), Bool.or_assoc]
theorem hashBad_drop {ds : List Dp} {hs : List U} (h : hs.length = ds.length) {i : Nat} (hi : i < ds.length) (hb : (!ds[i].order && decide (ds[i].hash ≠ hs[i])) = true) : hashBad ds hs = true := by
  induction ds generalizing hs i with
  | nil => simp at hi
  | cons d ds ih =>
    cases hs with
    | nil => simp at h
    | cons x hs =>
      cases i with
      | zero =>
        have hb : (!d.order && decide (d.hash ≠ x)) = true := hb
        rw [hashBad, hb]; rfl
      | succ i =>
        have := ih (hs := hs) (i := i) (by simpa using h) (by simpa using hi) hb
        rw [hashBad, this, Bool.or_true]
theorem u_ne (x y : U) : (!((x.toNat : Int) == (y.toNat : Int))) = decide (x ≠ y) := by
  by_cases h : x = y
  · subst h; simp
  · have : ¬ (x.toNat : Int) = y.toNat := fun e => h (BitVec.eq_of_toNat_eq (by omega))
    simp [h, this]

abbrev asked (n : Nd) (r : Rc) (b : Bool) (hs : List U) : List AV := n.enc ++ r.enc ++ [.val (.bool b), .sl none 1 (nums hs)]
theorem qnone (n : Nd) (r : Rc) (b : Bool) (hs : List U) {R} (h : R (.val (.bool (!b))) []) : ACalls Try.prog 86 [.agg (asked n r b hs)] [] R := by
  refine acalls_of_xwp (an := an86) tab_ok Try.func86 ?_
  (conv => whnf)
  exact h
theorem qrule (n : Nd) (r : Rc) (b : Bool) (hs : List U) {R} (h : R (.val (.bool (decide (r.rule ≠ n.rule)))) []) : ACalls Try.prog 87 [.agg (asked n r b hs)] [] R := by
  refine acalls_of_xwp (an := an87) tab_ok Try.func87 ?_
  rw [← u_ne] at h
  (conv => whnf)
  exact h
theorem depName (d : Dp) (s : B) {R} (h : R (.val (.bool (decide (d.name = s)))) []) : ACalls Try.prog 109 [.agg d.enc, vs s] [] R := by
  refine acalls_of_xwp (an := an109) tab_ok Try.func109 ?_
  have e : decide (ofB d.name = ofB s) = decide (d.name = s) := decide_eq_decide.2 ofB_eq
  rw [← e] at h
  (conv => whnf)
  exact h
theorem EqNames (ds : List Dp) (ns : List B) (hl : ds.length < 1000000) {R} (h : ∀ p, p = decide (ds.map (·.name) = ns) → R (.val (.bool p)) []) :
    ACalls Try.prog 110 [.sl none 3 (dpsA ds), .sl none 1 (strs ns), .fn (.func 109) [] []] [] R := by
  refine acalls_of_xwp (an := an110) tab_ok Try.func110 ?_
  have hsd := dpsA_length ds
  have hss := strs_length ns
  (conv => whnf)
  rw [hsd, hss]
  refine br_intro (fun hc => ?_) (fun hc => ?_)
  · (conv => whnf)
    refine h false (decide_eq_false fun e => ?_).symm
    have : ds.length = ns.length := by rw [← e]; simp
    simp [this] at hc
  have hlen : ds.length = ns.length := by simp at hc; omega
  (conv => whnf)
  refine LoopP.ind1 (fun (i : Nat) => [(17, vi i)]) (fun _ => []) (fun i => ds.length - i) (fun i => i ≤ ds.length ∧ (ds.take i).map (·.name) = ns.take i) 0 rfl ⟨by omega, by simp⟩ ?_
  rintro i ⟨h0, h1⟩ IH
  (conv => whnf)
  refine br_intro (fun hc => ?_) (fun hc => ?_)
  · have hc := lt_of_decE hsd hc
    have hcn : i < ns.length := by omega
    (conv => whnf); (repeat ((with_reducible refine must_intro ?_ ?_); exact decide_eq_true (by omega); (conv => whnf)))
    refine idxK_map_intro (show (i : Int).toNat < ds.length by simpa using hc) ?_
    rw [show ds[(i : Int).toNat]'(by simpa using hc) = ds[i] from by congr 1]
    (conv => whnf); (repeat ((with_reducible refine must_intro ?_ ?_); exact decide_eq_true (by omega); (conv => whnf)))
    refine idxK_map_intro (show (i : Int).toNat < ns.length by simpa using hcn) ?_
    rw [show ns[(i : Int).toNat]'(by simpa using hcn) = ns[i] from by congr 1]
    (conv => whnf)
    refine depName ds[i] ns[i] ?_
    (conv => whnf)
    refine br_intro (fun he => ?_) (fun he => ?_)
    · have he : ¬ ds[i].name = ns[i] := by simpa using he
      (conv => whnf)
      refine h false (decide_eq_false fun e => he ?_).symm
      have : (ds.map (·.name))[i]'(by simpa using hc) = ns[i] := by congr 1
      simpa using this
    · have he : ds[i].name = ns[i] := by simpa using he
      (conv => whnf)
      rw [i64_nat (by omega)]
      refine IH (i + 1) ⟨by omega, ?_⟩ (by omega)
      rw [List.take_succ_eq_append_getElem hc, List.take_succ_eq_append_getElem hcn, List.map_append, h1]
      simp [he]
  · have hc := ge_of_decE hsd hc
    rw [List.take_of_length_le hc, List.take_of_length_le (by omega)] at h1
    (conv => whnf)
    exact h true (decide_eq_true h1).symm
theorem qdeps (n : Nd) (r : Rc) (b : Bool) (hs : List U) (hl : r.deps.length < 1000000) {R} (h : ∀ p, p = depsBad n r hs → R (.val (.bool p)) []) : ACalls Try.prog 88 [.agg (asked n r b hs)] [] R := by
  refine acalls_of_xwp (an := an88) tab_ok Try.func88 ?_
  have hsd := strs_length n.deps
  have hsh := nums_len hs
  (conv => whnf)
  rw [hsh, hsd]
  refine br_intro (fun hc => ?_) (fun hc => ?_)
  · (conv => whnf)
    refine h true ?_
    have : hs.length ≠ n.deps.length := by simp at hc; omega
    simp [depsBad, this]
  · (conv => whnf)
    refine EqNames r.deps n.deps hl fun p hp => ?_
    (conv => whnf)
    refine h _ ?_
    have : hs.length = n.deps.length := by simp at hc; omega
    rw [hp]
    simp [depsBad, this]
theorem qhash (n : Nd) (r : Rc) (b : Bool) (hs : List U) (hl : r.deps.length < 1000000) (he : hs.length = r.deps.length) {R} (h : ∀ p, p = hashBad r.deps hs → R (.val (.bool p)) []) : ACalls Try.prog 89 [.agg (asked n r b hs)] [] R := by
  refine acalls_of_xwp (an := an89) tab_ok Try.func89 ?_
  have hsd := dpsA_length r.deps
  have hsh := nums_len hs
  (conv => whnf)
  refine LoopP.ind1 (fun (i : Nat) => [(9, vi i)]) (fun _ => []) (fun i => r.deps.length - i) (fun i => i ≤ r.deps.length ∧ hashBad (r.deps.take i) (hs.take i) = false) 0 rfl ⟨by omega, by simp [hashBad]⟩ ?_
  rintro i ⟨h0, h1⟩ IH
  (conv => whnf)
  refine br_intro (fun hc => ?_) (fun hc => ?_)
  · have hc := lt_of_decE hsd hc
    have hch : i < hs.length := by omega
    have htk := hashBad_take he hc
    (conv => whnf); (repeat ((with_reducible refine must_intro ?_ ?_); exact decide_eq_true (by omega); (conv => whnf)))
    refine idxK_map_intro (show (i : Int).toNat < r.deps.length by simpa using hc) ?_
    rw [show r.deps[(i : Int).toNat]'(by simpa using hc) = r.deps[i] from by congr 1]
    (conv => whnf)
    refine br_intro (fun ho => ?_) (fun ho => ?_)
    · (conv => whnf); (repeat ((with_reducible refine must_intro ?_ ?_); exact decide_eq_true (by omega); (conv => whnf)))
      refine idxK_map_intro (show (i : Int).toNat < hs.length by simpa using hch) ?_
      rw [show hs[(i : Int).toNat]'(by simpa using hch) = hs[i] from by congr 1]
      (conv => whnf)
      refine br_intro (fun hh => ?_) (fun hh => ?_)
      · have hh : decide (r.deps[i].hash ≠ hs[i]) = true := (u_ne _ _).symm.trans hh
        (conv => whnf)
        exact h true (hashBad_drop he hc (by rw [ho, hh]; rfl)).symm
      · have hh : decide (r.deps[i].hash ≠ hs[i]) = false := (u_ne _ _).symm.trans hh
        (conv => whnf)
        rw [i64_nat (by omega)]
        exact IH (i + 1) ⟨by omega, by rw [htk, h1, hh]; simp⟩ (by omega)
    · (conv => whnf)
      rw [i64_nat (by omega)]
      exact IH (i + 1) ⟨by omega, by rw [htk, h1, ho]; simp⟩ (by omega)
  · have hc := ge_of_decE hsd hc
    rw [List.take_of_length_le hc, List.take_of_length_le (by omega)] at h1
    (conv => whnf)
    exact h false h1.symm
theorem questions_calls {R} (h : R (.agg [.fn (.func 86) [] [], vi 1, .fn (.func 87) [] [], vi 2, .fn (.func 88) [] [], vi 3, .fn (.func 89) [] [], vi 4]) []) :
    ACalls Try.prog 58 [] [] R := by
  refine acalls_of_xwp (an := an58) tab_ok Try.func58 ?_
  (conv => whnf)
  exact h

theorem Why_calls (n : Nd) (l : List Rc) (hl : l.length < 1000000) (hd : ∀ r ∈ l, r.deps.length < 1000000) (hs : List U) {R} (h : ∀ e, e = whyP n l hs → R (vi e) []) :
    ACalls Try.prog 33 [.agg n.enc, .sl none 7 (recs l), .sl none 1 (nums hs)] [] R := by
  refine acalls_of_xwp (an := an33) tab_ok Try.func33 ?_
  have hrd := findR_deps hd n.name
  (conv => whnf)
  refine br_intro (fun g => ?_) (fun g => ?_)
  · (conv => whnf)
    exact h 0 (by rw [whyP, if_pos g])
  have g : ¬ n.source = true := by simp [g]
  (conv => whnf)
  refine Find_calls l hl hd n.name ?_
  generalize hr : findR l n.name = r at hrd ⊢
  generalize hb : (findP l n.name).isSome = b
  have hw : whyP n l hs = if b = false then 1 else whyR n r hs := by rw [whyP, if_neg g, hr, hb]
  (conv => whnf)
  refine questions_calls ?_
  (conv => whnf)
  refine LoopP.step ?_
  (conv => whnf)
  refine qnone n r b hs ?_
  (conv => whnf)
  refine br_intro (fun q1 => ?_) (fun q1 => ?_)
  · (conv => whnf)
    exact h 1 (by rw [hw, if_pos (by simpa using q1)])
  have q1 : b = true := by simpa using q1
  rw [if_neg (by simp [q1])] at hw
  (conv => whnf)
  refine LoopP.step ?_
  (conv => whnf)
  refine qrule n r b hs ?_
  (conv => whnf)
  refine br_intro (fun q2 => ?_) (fun q2 => ?_)
  · have q2 : r.rule ≠ n.rule := of_decide_eq_true q2
    (conv => whnf)
    exact h 2 (by rw [hw, whyR, if_pos q2])
  have q2 : r.rule = n.rule := Classical.not_not.1 (of_decide_eq_false q2)
  (conv => whnf)
  refine LoopP.step ?_
  (conv => whnf)
  refine qdeps n r b hs hrd fun p hp => ?_
  (conv => whnf)
  refine br_intro (fun q3 => ?_) (fun q3 => ?_)
  · (conv => whnf)
    exact h 3 (by rw [hw, whyR, if_neg (by simp [q2]), if_pos (by rw [← hp, q3])])
  have q3 : depsBad n r hs = false := by rw [← hp, q3]
  have hle : hs.length = r.deps.length := by
    unfold depsBad at q3
    simp at q3
    rw [q3.1, ← q3.2]; simp
  (conv => whnf)
  refine LoopP.step ?_
  (conv => whnf)
  refine qhash n r b hs hrd hle fun p hp => ?_
  (conv => whnf)
  refine br_intro (fun q4 => ?_) (fun q4 => ?_)
  · (conv => whnf)
    exact h 4 (by rw [hw, whyR, if_neg (by simp [q2]), if_neg (by simp [q3]), if_pos (by rw [← hp, q4])])
  have q4 : hashBad r.deps hs = false := by rw [← hp, q4]
  (conv => whnf)
  refine LoopP.step ?_
  (conv => whnf)
  exact h 0 (by rw [hw, whyR, if_neg (by simp [q2]), if_neg (by simp [q3]), if_neg (by simp [q4])])
end Go.Abs
end

section
/- The document's Why; great; the chapter's example. -/
set_option maxRecDepth 100000
set_option linter.unusedVariables false
set_option linter.unusedSimpArgs false
namespace Go.Abs
open Go Go.Proofs Dig
attribute [local irreducible] ibits byteAt strLt firstIdx

theorem great_calls (n : Nd) (hn : n.deps.length ≤ maxLen) {R} (h : ∀ b : Bool, (b = false → n.deps.length ≤ 60 ∧ n.name.length ≤ 300 ∧ ∀ d ∈ n.deps, d.length ≤ 300) → R (.val (.bool b)) []) :
    ACalls Try.prog 30 [.agg n.enc] [] R := by
  refine acalls_of_xwp (an := an30) tab_ok Try.func30 ?_
  have hsl := strs_length n.deps
  have hmx : maxLen ≤ 9223372036854775807 := by decide
  have yes : R (.val (.bool true)) [] := h true (fun e => by cases e)
  (conv => whnf)
  refine LoopP.ind1 (fun (i : Nat) => [(8, vi i)]) (fun _ => []) (fun i => n.deps.length - i) (fun i => i ≤ n.deps.length ∧ ∀ d ∈ n.deps.take i, d.length ≤ 300) 0 rfl ⟨by omega, by simp⟩ ?_
  rintro i ⟨h0, hdo⟩ IH
  (conv => whnf)
  refine br_intro (fun hc => ?_) (fun hc => ?_)
  · have hc := lt_of_decE hsl hc
    (conv => whnf); (repeat ((with_reducible refine must_intro ?_ ?_); exact decide_eq_true (by omega); (conv => whnf)))
    refine idxK_map_intro (show (i : Int).toNat < n.deps.length by simpa using hc) ?_
    rw [show n.deps[(i : Int).toNat]'(by simpa using hc) = n.deps[i] from by congr 1]
    have hsn := size_ofB n.deps[i]
    (conv => whnf)
    rw [hsn]
    refine br_intro (fun g => ?_) (fun g => ?_)
    · (conv => whnf)
      exact yes
    have g : n.deps[i].length ≤ 300 := by simp at g; omega
    (conv => whnf)
    rw [wrap_i64 (by omega) (by omega), show ((i : Int) + 1) = ((i + 1 : Nat) : Int) by omega]
    refine IH (i + 1) ⟨by omega, fun d hd => ?_⟩ (by omega)
    rw [List.take_succ_eq_append_getElem hc, List.mem_append, List.mem_singleton] at hd
    rcases hd with hd | rfl
    · exact hdo d hd
    · exact g
  · have hc := ge_of_decE hsl hc
    rw [List.take_of_length_le hc] at hdo
    have hst := size_ofB n.name
    (conv => whnf)
    rw [hsl]
    refine br_intro (fun g1 => ?_) (fun g1 => ?_)
    · (conv => whnf)
      exact yes
    have g1 : n.deps.length ≤ 60 := by simp at g1; omega
    (conv => whnf)
    rw [hst]
    refine h _ fun e => ⟨g1, ?_, hdo⟩
    simp at e
    omega

def fixN : Nd := ⟨[97], false, 1, []⟩
def fixN2 : Nd := ⟨[97], false, 2, []⟩
theorem le_fixN : leL [.agg [.val (.string (ofB [97])), .val (.bool false), .val (.int .u64 1), .val (.slice none 0 0)]] [.agg fixN.enc] :=
  leL.cons (le_agg (leL.cons (.refl _) (leL.cons (.refl _) (leL.cons (.refl _) (leL.cons (le_nil 1) leL.nil))))) leL.nil
theorem dfix_calls {R} (h : R (.val (.bool true)) []) : ACalls Try.prog 31 [] [] R := by
  refine acalls_of_xwp (an := an31) tab_ok Try.func31 ?_
  (conv => whnf)
  refine ACalls.args ?_ (Trace_calls fixN (by decide) [] 5 6 fun r e hr he => ?_)
  · exact leL.append (l := [_]) le_fixN (leL.cons (le_nil 1) (leL.refl _))
  have he : e = 0 := by rw [he]; rfl
  have hr : r = ⟨1, [97], 1, [], dig 5, 6, []⟩ := by rw [hr]; rfl
  subst he
  (conv => whnf)
  refine ACalls.args ?_ (Why_calls fixN [] (by decide) (by simp) [] fun e he => ?_)
  · exact leL.append (l := [_]) le_fixN (leL.cons (le_nil 7) (leL.cons (le_nil 1) leL.nil))
  have he : e = 1 := by rw [he]; rfl
  subst he
  (conv => whnf)
  refine ACalls.args ?_ (Why_calls fixN [r] (by simp) (by simp [hr]) [] fun e he => ?_)
  · exact leL.append (l := [_]) le_fixN (leL.cons (.refl _) (leL.cons (le_nil 1) leL.nil))
  have he : e = 0 := by rw [he, hr]; rfl
  subst he
  (conv => whnf)
  refine ACalls.args ?_ (Why_calls fixN2 [r] (by simp) (by simp [hr]) [] fun e he => ?_)
  · refine leL.cons (le_agg (leL.cons (.refl _) (leL.cons (.refl _) (leL.cons (.refl _) (leL.cons (le_nil 1) leL.nil))))) (leL.cons (.refl _) (leL.cons (le_nil 1) leL.nil))
  have he : e = 2 := by rw [he, hr]; rfl
  subst he
  (conv => whnf)
  exact h
end Go.Abs
end

section
/- fold.Put; the statement DirtyClean. -/
set_option maxRecDepth 100000
set_option maxHeartbeats 1000000
set_option linter.unusedVariables false
set_option linter.unusedSimpArgs false
namespace Go.Abs
open Go Go.Proofs Dig
attribute [local irreducible] ibits byteAt strLt firstIdx

theorem CloneL_calls (l : List Rc) (hl : l.length < 1000000) {R} (h1 : l = [] → R (.val (.slice none 0 0)) []) (h2 : R (.sl (some 0) 7 (recs l)) [.row 29 7 (recs l).length]) :
    ACalls Try.prog 51 [.sl none 7 (recs l)] [] R := by
  refine acalls_of_xwp (an := an51) tab_ok Try.func51 ?_
  have hsl := recs_length l
  (conv => whnf)
  intro b hb
  refine br_intro (fun g => ?_) (fun g => ?_)
  · have e := hb g
    have e : l = [] := by
      cases l with
      | nil => rfl
      | cons r l => simp [recs] at e
    (conv => whnf)
    exact h1 e
  · (conv => whnf)
    refine ⟨rfl, (by show (0 + (recs l).length) * (88 + 1) ≤ _; omega), ?_⟩
    (conv => whnf)
    rw [show [].length + (recs l).length = (recs l).length by simp, show [] ++ recs l = recs l from rfl]
    exact h2
theorem Put_calls (l : List Rc) (hl : l.length < 100000) (hd : ∀ r ∈ l, r.deps.length < 1000000) (r : Rc) (hr : r.deps.length < 1000000) {R} (h : R (.sl none 7 (recs (docOf (l ++ [r])))) []) :
    ACalls Try.prog 23 [.sl none 7 (recs l), .agg r.enc] [] R := by
  refine acalls_of_xwp (an := an23) tab_ok Try.func23 ?_
  have hsl := recs_length l
  have hd' : ∀ x ∈ l ++ [r], x.deps.length < 1000000 := fun x hx => by
    rw [List.mem_append, List.mem_singleton] at hx
    rcases hx with hx | rfl
    · exact hd x hx
    · exact hr
  (conv => whnf)
  refine CloneL_calls l (by omega) (fun e => ?_) ?_
  · subst e
    (conv => whnf)
    refine ⟨(show 1 * (88 + 1) ≤ 140737488355328 by decide), ?_⟩
    (conv => whnf)
    refine Of_records [r] (by simp) hd' ?_
    (conv => whnf)
    exact h
  · (conv => whnf)
    refine ⟨rfl, (by show ((recs l).length + 1) * (88 + 1) ≤ _; omega), ?_⟩
    (conv => whnf)
    rw [show recs l ++ [[AV.val (Value.int IntKind.i64 r.kind), AV.val (Value.string (ofB r.target)), AV.val (Value.int IntKind.u64 (r.rule.toNat : Int)), AV.sl none 3 (dpsA r.deps), AV.val (Value.int IntKind.u64 (r.out.toNat : Int)), AV.val (Value.int IntKind.u64 (r.wen.toNat : Int)), AV.val (Value.string (ofB r.tag))]] = recs (l ++ [r]) from by simp [recs, Rc.enc, vi, vs, uv]]
    refine Of_records (l ++ [r]) (by simp; omega) hd' ?_
    (conv => whnf)
    exact h

theorem depsOf_names {ns : List B} {hs : List U} (h : hs.length = ns.length) : (depsOf ns hs).map (·.name) = ns := by
  induction ns generalizing hs with
  | nil => rfl
  | cons n ns ih =>
    cases hs with
    | nil => simp at h
    | cons x hs => simp [depsOf, ih (by simpa using h)]
theorem depsOf_hash {ns : List B} {hs os : List U} (h : hs.length = ns.length) (ho : os.length = ns.length) : hashBad (depsOf ns hs) os = decide (hs ≠ os) := by
  induction ns generalizing hs os with
  | nil =>
    have e1 : hs = [] := List.eq_nil_of_length_eq_zero (by simpa using h)
    have e2 : os = [] := List.eq_nil_of_length_eq_zero (by simpa using ho)
    subst e1 e2
    rfl
  | cons n ns ih =>
    cases hs with
    | nil => simp at h
    | cons x hs =>
      cases os with
      | nil => simp at ho
      | cons y os =>
        rw [depsOf, hashBad, ih (by simpa using h) (by simpa using ho)]
        by_cases e : x = y <;> by_cases e2 : hs = os <;> simp [e, e2]

theorem DirtyClean_calls (n : Nd) (hn : n.deps.length ≤ maxLen) (l : List Rc) (hl : l.length ≤ maxLen) (hd : ∀ r ∈ l, r.deps.length ≤ maxLen) (p0 p1 p2 : List U) (q0 : p0.length ≤ maxLen) (q1 : p1.length ≤ maxLen) {R} (h : R (.val (.bool true)) []) :
    ACalls Try.prog 7 [.agg n.enc, .sl none 7 (recs l), .agg [.sl none 1 (nums p0), .sl none 1 (nums p1), .sl none 1 (nums p2)]] [] R := by
  refine acalls_of_xwp (an := an7) tab_ok Try.func7 ?_
  have hsp0 := nums_len p0
  have hsp1 := nums_len p1
  (conv => whnf)
  refine great_calls n hn fun b hb => ?_
  (conv => whnf)
  refine br_intro (fun g => ?_) (fun g => ?_)
  · (conv => whnf)
    refine dfix_calls ?_
    (conv => whnf)
    exact h
  obtain ⟨b1, b2, b3⟩ := hb g
  (conv => whnf)
  refine Great10_calls l hl hd fun b hb => ?_
  (conv => whnf)
  refine br_intro (fun g => ?_) (fun g => ?_)
  · (conv => whnf)
    refine dfix_calls ?_
    (conv => whnf)
    exact h
  obtain ⟨c1, c2⟩ := hb g
  have hl : l.length < 100000 := by omega
  have hd : ∀ r ∈ l, r.deps.length < 1000000 := fun r hr => by have := (c2 r hr).1; omega
  (conv => whnf)
  rw [hsp0]
  refine br_intro (fun g => ?_) (fun g => ?_)
  · (conv => whnf)
    refine dfix_calls ?_
    (conv => whnf)
    exact h
  have q0 : p0.length ≤ 60 := by simp at g; omega
  (conv => whnf)
  rw [hsp1]
  refine br_intro (fun g => ?_) (fun g => ?_)
  · (conv => whnf)
    refine dfix_calls ?_
    (conv => whnf)
    exact h
  have q1 : p1.length ≤ 60 := by simp at g; omega
  (conv => whnf)
  refine br_intro (fun g => ?_) (fun g => ?_)
  · (conv => whnf)
    refine dfix_calls ?_
    (conv => whnf)
    exact h
  have hsrc : n.source = false := g
  have hsd := strs_length n.deps
  (conv => whnf)
  refine LoopP.ind4 (fun (i : Nat) (H O : List U) (same : Bool) => [(7, .sl (some (nameOf 7)) 1 (nums H)), (8, .sl (some (nameOf 8)) 1 (nums O)), (9, .val (.bool same)), (44, vi i)]) (fun i H O _ => [(nameOf 7, .row 26 1 H.length), (nameOf 8, .row 26 1 O.length)])
    (fun i _ _ _ => n.deps.length - i) (fun i H O same => i ≤ n.deps.length ∧ H.length = i ∧ O.length = i ∧ same = decide (H = O)) 0 [] [] true rfl ⟨by omega, rfl, rfl, rfl⟩ ?_
  rintro i H O same ⟨h0, hH, hO, hsame⟩ IH
  have hsH := nums_len H
  have hsO := nums_len O
  (conv => whnf)
  refine br_intro (fun hc => ?_) (fun hc => ?_)
  · have hc := lt_of_decE hsd hc
    have fin : ∀ x y : U, decide (H ++ [x] = O ++ [y]) = (same && decide (x = y)) := fun x y => by
      rw [hsame]
      by_cases e : x = y <;> by_cases e2 : H = O
      · subst e e2; simp
      · subst e; simp [e2]
      · subst e2; simp [e]
      · have : ¬ (H ++ [x] = O ++ [y]) := fun q => e2 (List.append_inj q (by omega)).1
        simp [e2, this]
    have hcu : IntKind.u64.wrap (i : Int) = ((BitVec.ofNat 64 i).toNat : Int) := by
      rw [wrap_u64]; simp
    (conv => whnf)
    rw [hcu, hsp0]
    refine br_intro (fun g0 => ?_) (fun g0 => ?_)
    · have g0 : i < p0.length := lt_of_dec g0
      (conv => whnf); (repeat ((with_reducible refine must_intro ?_ ?_); exact decide_eq_true (by omega); (conv => whnf)))
      refine idxK_map_intro (show (i : Int).toNat < p0.length by simpa using g0) ?_
      rw [show p0[(i : Int).toNat]'(by simpa using g0) = p0[i] from by congr 1]
      generalize p0[i] = x
      (conv => whnf)
      rw [hsp1]
      refine br_intro (fun g1 => ?_) (fun g1 => ?_)
      · have g1 : i < p1.length := lt_of_dec g1
        (conv => whnf); (repeat ((with_reducible refine must_intro ?_ ?_); exact decide_eq_true (by omega); (conv => whnf)))
        refine idxK_map_intro (show (i : Int).toNat < p1.length by simpa using g1) ?_
        rw [show p1[(i : Int).toNat]'(by simpa using g1) = p1[i] from by congr 1]
        generalize p1[i] = y
        (conv => whnf)
        refine ⟨hsH.symm, (by rw [hsH]; show (H.length + 1) * (8 + 1) ≤ _; omega), ?_⟩
        (conv => whnf)
        refine ⟨hsO.symm, (by rw [hsO]; show (O.length + 1) * (8 + 1) ≤ _; omega), ?_⟩
        have e1 : nums (H ++ [x]) = nums H ++ [[uv x]] := by simp [nums]
        have e2 : (H ++ [x]).length = (nums H).length + [[uv x]].length := by simp [hsH]
        have e3 : nums (O ++ [y]) = nums O ++ [[uv y]] := by simp [nums]
        have e4 : (O ++ [y]).length = (nums O).length + [[uv y]].length := by simp [hsO]
        have eb : ((x.toNat : Int) == (y.toNat : Int)) = decide (x = y) := by
          by_cases q : x = y
          · subst q; simp
          · have : ¬ (x.toNat : Int) = y.toNat := fun e => q (BitVec.eq_of_toNat_eq (by omega))
            simp [q, this]
        have := IH (i + 1) (H ++ [x]) (O ++ [y]) (same && decide (x = y)) ⟨by omega, by simp; omega, by simp; omega, (fin x y).symm⟩ (by omega)
        rw [← eb, e1, e2, e3, e4] at this
        cases same
        · (conv => whnf)
          rw [i64_nat (by omega)]
          try subst hy
          exact this
        · (conv => whnf)
          rw [i64_nat (by omega)]
          try subst hy
          exact this
      · obtain ⟨y, hy⟩ : ∃ y, y = x := ⟨x, rfl⟩
        (conv => whnf)
        refine ⟨hsH.symm, (by rw [hsH]; show (H.length + 1) * (8 + 1) ≤ _; omega), ?_⟩
        (conv => whnf)
        refine ⟨hsO.symm, (by rw [hsO]; show (O.length + 1) * (8 + 1) ≤ _; omega), ?_⟩
        have e1 : nums (H ++ [x]) = nums H ++ [[uv x]] := by simp [nums]
        have e2 : (H ++ [x]).length = (nums H).length + [[uv x]].length := by simp [hsH]
        have e3 : nums (O ++ [y]) = nums O ++ [[uv y]] := by simp [nums]
        have e4 : (O ++ [y]).length = (nums O).length + [[uv y]].length := by simp [hsO]
        have eb : ((x.toNat : Int) == (y.toNat : Int)) = decide (x = y) := by
          by_cases q : x = y
          · subst q; simp
          · have : ¬ (x.toNat : Int) = y.toNat := fun e => q (BitVec.eq_of_toNat_eq (by omega))
            simp [q, this]
        have := IH (i + 1) (H ++ [x]) (O ++ [y]) (same && decide (x = y)) ⟨by omega, by simp; omega, by simp; omega, (fin x y).symm⟩ (by omega)
        rw [← eb, e1, e2, e3, e4] at this
        cases same
        · (conv => whnf)
          rw [i64_nat (by omega)]
          try subst hy
          exact this
        · (conv => whnf)
          rw [i64_nat (by omega)]
          try subst hy
          exact this
    · generalize BitVec.ofNat 64 i = x
      (conv => whnf)
      rw [hsp1]
      refine br_intro (fun g1 => ?_) (fun g1 => ?_)
      · have g1 : i < p1.length := lt_of_dec g1
        (conv => whnf); (repeat ((with_reducible refine must_intro ?_ ?_); exact decide_eq_true (by omega); (conv => whnf)))
        refine idxK_map_intro (show (i : Int).toNat < p1.length by simpa using g1) ?_
        rw [show p1[(i : Int).toNat]'(by simpa using g1) = p1[i] from by congr 1]
        generalize p1[i] = y
        (conv => whnf)
        refine ⟨hsH.symm, (by rw [hsH]; show (H.length + 1) * (8 + 1) ≤ _; omega), ?_⟩
        (conv => whnf)
        refine ⟨hsO.symm, (by rw [hsO]; show (O.length + 1) * (8 + 1) ≤ _; omega), ?_⟩
        have e1 : nums (H ++ [x]) = nums H ++ [[uv x]] := by simp [nums]
        have e2 : (H ++ [x]).length = (nums H).length + [[uv x]].length := by simp [hsH]
        have e3 : nums (O ++ [y]) = nums O ++ [[uv y]] := by simp [nums]
        have e4 : (O ++ [y]).length = (nums O).length + [[uv y]].length := by simp [hsO]
        have eb : ((x.toNat : Int) == (y.toNat : Int)) = decide (x = y) := by
          by_cases q : x = y
          · subst q; simp
          · have : ¬ (x.toNat : Int) = y.toNat := fun e => q (BitVec.eq_of_toNat_eq (by omega))
            simp [q, this]
        have := IH (i + 1) (H ++ [x]) (O ++ [y]) (same && decide (x = y)) ⟨by omega, by simp; omega, by simp; omega, (fin x y).symm⟩ (by omega)
        rw [← eb, e1, e2, e3, e4] at this
        cases same
        · (conv => whnf)
          rw [i64_nat (by omega)]
          try subst hy
          exact this
        · (conv => whnf)
          rw [i64_nat (by omega)]
          try subst hy
          exact this
      · obtain ⟨y, hy⟩ : ∃ y, y = x := ⟨x, rfl⟩
        (conv => whnf)
        refine ⟨hsH.symm, (by rw [hsH]; show (H.length + 1) * (8 + 1) ≤ _; omega), ?_⟩
        (conv => whnf)
        refine ⟨hsO.symm, (by rw [hsO]; show (O.length + 1) * (8 + 1) ≤ _; omega), ?_⟩
        have e1 : nums (H ++ [x]) = nums H ++ [[uv x]] := by simp [nums]
        have e2 : (H ++ [x]).length = (nums H).length + [[uv x]].length := by simp [hsH]
        have e3 : nums (O ++ [y]) = nums O ++ [[uv y]] := by simp [nums]
        have e4 : (O ++ [y]).length = (nums O).length + [[uv y]].length := by simp [hsO]
        have eb : ((x.toNat : Int) == (y.toNat : Int)) = decide (x = y) := by
          by_cases q : x = y
          · subst q; simp
          · have : ¬ (x.toNat : Int) = y.toNat := fun e => q (BitVec.eq_of_toNat_eq (by omega))
            simp [q, this]
        have := IH (i + 1) (H ++ [x]) (O ++ [y]) (same && decide (x = y)) ⟨by omega, by simp; omega, by simp; omega, (fin x y).symm⟩ (by omega)
        rw [← eb, e1, e2, e3, e4] at this
        cases same
        · (conv => whnf)
          rw [i64_nat (by omega)]
          try subst hy
          exact this
        · (conv => whnf)
          rw [i64_nat (by omega)]
          try subst hy
          exact this
  · have hc := ge_of_decE hsd hc
    have hHn : H.length = n.deps.length := by omega
    have hOn : O.length = n.deps.length := by omega
    clear IH
    (conv => whnf)
    refine Trace_calls n (by omega) H 7 8 fun r e hr he => ?_
    have hbad : traceBad n H = false := by simp [traceBad, hsrc, hHn]
    have hr : r = ⟨1, n.name, n.rule, depsOf n.deps H, dig 7, 8, []⟩ := by rw [hr, traceP, hbad]; rfl
    have he : e = 0 := by rw [he, traceE, hbad]; rfl
    subst he
    have hrk : r.kind = 1 := by rw [hr]
    have hrt : r.target = n.name := by rw [hr]
    have hrr : r.rule = n.rule := by rw [hr]
    have hrd : r.deps = depsOf n.deps H := by rw [hr]
    have hrl : r.deps.length < 1000000 := by rw [hrd, depsOf_length hHn]; omega
    have hf : findP (docOf (l ++ [r])) n.name = some r := by
      rw [← hrt]
      exact findP_some (docOf_srt _) (by rw [docOf_snoc]; exact (docPut_mem1 hrk r).2 (.inl rfl)) hrk
    have hSl : (docOf (l ++ [r])).length < 1000000 := by have := docOf_len (l ++ [r]); simp at this; omega
    have hSd : ∀ x ∈ docOf (l ++ [r]), x.deps.length < 1000000 := fun x hx => by
      have := (docOf_sub hx).1
      rw [List.mem_append, List.mem_singleton] at this
      rcases this with h | rfl
      · exact hd x h
      · exact hrl
    (conv => whnf)
    refine Put_calls l hl hd r hrl ?_
    generalize docOf (l ++ [r]) = S at hf hSl hSd ⊢
    have why : ∀ (m : Nd) (hs : List U), m.source = false → m.name = n.name → whyP m S hs = whyR m r hs := fun m hs h1 h2 => by
      rw [whyP, h1, h2, hf, findR, hf]; simp
    (conv => whnf)
    refine ⟨rfl, (by show (0 + (strs n.deps).length) * (16 + 1) ≤ _; omega), ?_⟩
    (conv => whnf)
    refine ⟨by simp, (by rw [show (tab.ti 9).bytes = 16 from rfl, List.nil_append]; simp; omega), ?_⟩
    (conv => whnf)
    refine dfix_calls ?_
    (conv => whnf)
    refine Why_calls n S hSl hSd H fun e he => ?_
    have hd0 : depsBad n r H = false := by simp [depsBad, hHn, hrd, depsOf_names hHn]
    have he : e = 0 := by
      rw [he, why n H hsrc rfl, whyR, if_neg (by simp [hrr]), if_neg (by simp [hd0]), if_neg]
      rw [hrd, depsOf_hash hHn hHn]; simp
    subst he
    (conv => whnf)
    refine Why_calls n S hSl hSd O fun e he => ?_
    have hd1 : depsBad n r O = false := by simp [depsBad, hOn, hrd, depsOf_names hHn]
    have he : e = if H = O then 0 else 4 := by
      rw [he, why n O hsrc rfl, whyR, if_neg (by simp [hrr]), if_neg (by simp [hd1]), hrd, depsOf_hash hHn hOn]
      by_cases q : H = O <;> simp [q]
    (conv => whnf)
    refine br_true (by rw [he, hsame]; by_cases q : H = O <;> simp [q]) ?_
    (conv => whnf)
    rw [show IntKind.u64.wrap ((n.rule.toNat : Int) + 1) = ((n.rule + 1).toNat : Int) from u_add n.rule 1]
    refine Why_calls ⟨n.name, n.source, n.rule + 1, n.deps⟩ S hSl hSd H fun e he => ?_
    have he : e = 2 := by
      rw [he, why ⟨n.name, n.source, n.rule + 1, n.deps⟩ H hsrc rfl, whyR, if_pos]
      rw [hrr]
      intro q
      have q := congrArg (fun z => z - n.rule) q
      simp at q
      exact absurd q (by bv_omega)
    subst he
    (conv => whnf)
    refine ⟨hsH.symm, (by rw [hsH]; show (H.length + 1) * (8 + 1) ≤ _; omega), ?_⟩
    (conv => whnf)
    rw [show nums H ++ [[AV.val (Value.int IntKind.u64 1)]] = nums (H ++ [1]) from by simp [nums, uv],
      show [] ++ strs n.deps ++ [[AV.val (Value.string { data := #[109, 111, 114, 101] })]] = strs (n.deps ++ [[109, 111, 114, 101]]) from by simp [strs, vs, ofB]]
    refine Why_calls ⟨n.name, n.source, n.rule, n.deps ++ [[109, 111, 114, 101]]⟩ S hSl hSd (H ++ [1]) fun e he => ?_
    have he : e = 3 := by
      rw [he, why ⟨n.name, n.source, n.rule, n.deps ++ [[109, 111, 114, 101]]⟩ (H ++ [1]) hsrc rfl, whyR, if_neg (by simp [hrr]), if_pos]
      simp [depsBad, hrd, depsOf_names hHn]
    subst he
    (conv => whnf)
    exact h
theorem args_p3 {ts : List TypeId} {l : List AV} (h : Args tab 12 (46 :: ts) l) : ∃ (x y z : List U) (l' : List AV), l = .agg [.sl none 1 (nums x), .sl none 1 (nums y), .sl none 1 (nums z)] :: l' ∧ x.length ≤ maxLen ∧ y.length ≤ maxLen ∧ Args tab 12 ts l' := by
  obtain ⟨a, l', rfl, h1, h2⟩ := h
  obtain ⟨z, rfl, a1, r1, rfl, ⟨x1, rfl, l1, hx1⟩, a2, r2, rfl, ⟨x2, rfl, l2, hx2⟩, a3, r3, rfl, ⟨x3, rfl, l3, hx3⟩, rfl⟩ : ∃ z, a = .agg z ∧ ∃ a r, z = a ++ r ∧ (∃ x : List (List AV), a = [.sl none 1 x] ∧ x.length ≤ maxLen ∧ ∀ y ∈ x, Typed tab 10 26 y) ∧
    ∃ a r', r = a ++ r' ∧ (∃ x : List (List AV), a = [.sl none 1 x] ∧ x.length ≤ maxLen ∧ ∀ y ∈ x, Typed tab 10 26 y) ∧
    ∃ a r'', r' = a ++ r'' ∧ (∃ x : List (List AV), a = [.sl none 1 x] ∧ x.length ≤ maxLen ∧ ∀ y ∈ x, Typed tab 10 26 y) ∧ r'' = [] := h1
  obtain ⟨n1, rfl⟩ := typed_nums (l := x1) hx1
  obtain ⟨n2, rfl⟩ := typed_nums (l := x2) hx2
  obtain ⟨n3, rfl⟩ := typed_nums (l := x3) hx3
  exact ⟨n1, n2, n3, l', rfl, by simpa [nums] using l1, by simpa [nums] using l2, h2⟩
theorem DirtyClean_row (l : List AV) (h : Args tab 12 [44, 22, 46] l) : ACalls Try.prog 7 l [] fun r _ => r = .val (.bool true) := by
  obtain ⟨n, l1, rfl, h1, h2⟩ := args_node h
  obtain ⟨a, l2, rfl, h3, h4, h5⟩ := args_recs h2
  obtain ⟨x, y, z, l3, rfl, h6, h7, h8⟩ := args_p3 h5
  obtain rfl := args_nil h8
  exact DirtyClean_calls n h1 a h3 h4 x y z h6 h7 rfl
end Go.Abs
end
