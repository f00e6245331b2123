/- Several texts of this claim, one behind the other: H7, HB, HC, H8, H9, HD. -/
import Derived.Test.YtnifkinpogopkaaYFoldMoves1

section
/- record.Same, fold.Same; the chapter's example; FoldFinds. -/
set_option maxRecDepth 100000
set_option maxHeartbeats 1000000
set_option linter.unusedVariables false
set_option linter.unusedSimpArgs false
namespace Go.Abs
open Go Go.Proofs Dig
attribute [local irreducible] ibits byteAt strLt firstIdx

def Rc.bare (r : Rc) : List AV := [vi r.kind, vs r.target, vs r.tag, uv r.rule, uv r.out, uv r.wen]
theorem of_calls (r : Rc) {R} (h : R (.agg r.bare) []) : ACalls Try.prog 81 [.agg r.enc] [] R := by
  refine acalls_of_xwp (an := an81) tab_ok Try.func81 ?_
  (conv => whnf)
  exact h
theorem dp_ne (a b : Dp) (h : (!(true && decide (ofB a.name = ofB b.name) && ((a.hash.toNat : Int) == (b.hash.toNat : Int)) && (a.order == b.order))) = true) : a ≠ b := by
  rintro rfl
  simp at h
theorem dp_eq (a b : Dp) (h : (!(true && decide (ofB a.name = ofB b.name) && ((a.hash.toNat : Int) == (b.hash.toNat : Int)) && (a.order == b.order))) = false) : a = b := by
  simp [ofB_eq] at h
  obtain ⟨⟨h1, h2⟩, h3⟩ := h
  have h2 : a.hash = b.hash := BitVec.eq_of_toNat_eq (by omega)
  cases a; cases b
  simp_all
theorem EqualD_calls (a b : List Dp) (ha : a.length < 1000000) {R} (h : ∀ p, p = decide (a = b) → R (.val (.bool p)) []) : ACalls Try.prog 82 [.sl none 3 (dpsA a), .sl none 3 (dpsA b)] [] R := by
  refine acalls_of_xwp (an := an82) tab_ok Try.func82 ?_
  have hsa := dpsA_length a
  have hsb := dpsA_length b
  (conv => whnf)
  rw [hsa, hsb]
  refine br_intro (fun hc => ?_) (fun hc => ?_)
  · (conv => whnf)
    refine h false (decide_eq_false ?_).symm
    rintro rfl
    simp at hc
  have hlen : a.length = b.length := by simp at hc; omega
  (conv => whnf)
  refine LoopP.ind1 (fun (i : Nat) => [(13, vi i)]) (fun _ => []) (fun i => a.length - i) (fun i => i ≤ a.length ∧ a.take i = b.take i) 0 rfl ⟨by omega, by simp⟩ ?_
  rintro i ⟨h0, h1⟩ IH
  (conv => whnf)
  refine br_intro (fun hc => ?_) (fun hc => ?_)
  · have hc := lt_of_decE hsa hc
    have hcb : i < b.length := by omega
    (conv => whnf); (repeat ((with_reducible refine must_intro ?_ ?_); exact decide_eq_true (by omega); (conv => whnf)))
    refine idxK_map_intro (show (i : Int).toNat < a.length by simpa using hc) ?_
    rw [show a[(i : Int).toNat]'(by simpa using hc) = a[i] from by congr 1]
    (conv => whnf); (repeat ((with_reducible refine must_intro ?_ ?_); exact decide_eq_true (by omega); (conv => whnf)))
    refine idxK_map_intro (show (i : Int).toNat < b.length by simpa using hcb) ?_
    rw [show b[(i : Int).toNat]'(by simpa using hcb) = b[i] from by congr 1]
    (conv => whnf)
    refine br_intro (fun he => ?_) (fun he => ?_)
    · have he := dp_ne _ _ he
      (conv => whnf)
      refine h false (decide_eq_false ?_).symm
      rintro rfl
      exact he rfl
    · have he := dp_eq _ _ he
      (conv => whnf)
      rw [i64_nat (by omega)]
      refine IH (i + 1) ⟨by omega, ?_⟩ (by omega)
      rw [List.take_succ_eq_append_getElem hc, List.take_succ_eq_append_getElem hcb, h1, he]
  · have hc := ge_of_decE hsa hc
    rw [List.take_of_length_le hc, List.take_of_length_le (by omega)] at h1
    (conv => whnf)
    exact h true (decide_eq_true h1).symm
theorem SameR_calls (a b : Rc) (ha : a.deps.length < 1000000) {R} (h : ∀ p, p = decide (a = b) → R (.val (.bool p)) []) : ACalls Try.prog 56 [.agg a.enc, .agg b.enc] [] R := by
  refine acalls_of_xwp (an := an56) tab_ok Try.func56 ?_
  (conv => whnf)
  refine of_calls a ?_
  (conv => whnf)
  refine of_calls b ?_
  (conv => whnf)
  refine br_intro (fun g => ?_) (fun g => ?_)
  · have g2 : a.kind = b.kind ∧ a.target = b.target ∧ a.tag = b.tag ∧ a.rule = b.rule ∧ a.out = b.out ∧ a.wen = b.wen := by
      simp [ofB_eq] at g
      obtain ⟨⟨⟨⟨⟨g1, g2⟩, g3⟩, g4⟩, g5⟩, g6⟩ := g
      exact ⟨g1, g2, g3, BitVec.eq_of_toNat_eq (by omega), BitVec.eq_of_toNat_eq (by omega), BitVec.eq_of_toNat_eq (by omega)⟩
    (conv => whnf)
    refine EqualD_calls a.deps b.deps ha fun p hp => ?_
    (conv => whnf)
    refine h _ ?_
    rw [hp]
    refine decide_eq_decide.2 ⟨fun e => ?_, fun e => by rw [e]⟩
    obtain ⟨g1, g2, g3, g4, g5, g6⟩ := g2
    cases a; cases b
    simp_all
  · (conv => whnf)
    refine h false (decide_eq_false ?_).symm
    rintro rfl
    simp at g
theorem SameL_calls (a b : List Rc) (ha : a.length < 1000000) (had : ∀ r ∈ a, r.deps.length < 1000000) {R} (h : ∀ p, p = decide (a = b) → R (.val (.bool p)) []) : ACalls Try.prog 29 [.sl none 7 (recs a), .sl none 7 (recs b)] [] R := by
  have key : ∀ {R}, (∀ p, p = decide (a = b) → R (.val (.bool p)) []) → ACalls Try.prog 55 [.sl none 7 (recs a), .sl none 7 (recs b), .fn (.func 56) [] []] [] R := by
    intro R h
    refine acalls_of_xwp (an := an55) tab_ok Try.func55 ?_
    have hsa := recs_length a
    have hsb := recs_length b
    (conv => whnf)
    rw [hsa, hsb]
    refine br_intro (fun hc => ?_) (fun hc => ?_)
    · (conv => whnf)
      refine h false (decide_eq_false ?_).symm
      rintro rfl
      simp at hc
    have hlen : a.length = b.length := by simp at hc; omega
    (conv => whnf)
    refine LoopP.ind1 (fun (i : Nat) => [(17, vi i)]) (fun _ => []) (fun i => a.length - i) (fun i => i ≤ a.length ∧ a.take i = b.take i) 0 rfl ⟨by omega, by simp⟩ ?_
    rintro i ⟨h0, h1⟩ IH
    (conv => whnf)
    refine br_intro (fun hc => ?_) (fun hc => ?_)
    · have hc := lt_of_decE hsa hc
      have hcb : i < b.length := by omega
      (conv => whnf); (repeat ((with_reducible refine must_intro ?_ ?_); exact decide_eq_true (by omega); (conv => whnf)))
      refine idxK_map_intro (show (i : Int).toNat < a.length by simpa using hc) ?_
      rw [show a[(i : Int).toNat]'(by simpa using hc) = a[i] from by congr 1]
      (conv => whnf); (repeat ((with_reducible refine must_intro ?_ ?_); exact decide_eq_true (by omega); (conv => whnf)))
      refine idxK_map_intro (show (i : Int).toNat < b.length by simpa using hcb) ?_
      rw [show b[(i : Int).toNat]'(by simpa using hcb) = b[i] from by congr 1]
      (conv => whnf)
      refine SameR_calls a[i] b[i] (had _ (List.getElem_mem hc)) fun p hp => ?_
      (conv => whnf)
      refine br_intro (fun he => ?_) (fun he => ?_)
      · have he : ¬ a[i] = b[i] := by simpa [hp] using he
        (conv => whnf)
        refine h false (decide_eq_false ?_).symm
        rintro rfl
        exact he rfl
      · have he : a[i] = b[i] := by simpa [hp] using he
        (conv => whnf)
        rw [i64_nat (by omega)]
        refine IH (i + 1) ⟨by omega, ?_⟩ (by omega)
        rw [List.take_succ_eq_append_getElem hc, List.take_succ_eq_append_getElem hcb, h1, he]
    · have hc := ge_of_decE hsa hc
      rw [List.take_of_length_le hc, List.take_of_length_le (by omega)] at h1
      (conv => whnf)
      exact h true (decide_eq_true h1).symm
  refine acalls_of_xwp (an := an29) tab_ok Try.func29 ?_
  (conv => whnf)
  refine key fun p hp => ?_
  (conv => whnf)
  exact h p hp

def ffA : Rc := ⟨1, [97], 0, [], 0, 0, []⟩
def ffB : Rc := ⟨1, [98], 0, [], 3, 0, []⟩
def ffC : Rc := ⟨2, [97], 0, [], 0, 0, []⟩
theorem ffix_of : docOf [ffA, ffB, ffC] = [ffB] := by decide +kernel
theorem le_rec2 (k : Int) (t : B) (u o w : U) (g : B) : leL [.val (.int .i64 k), .val (.string (ofB t)), .val (.int .u64 (u.toNat : Int)), .val (.slice none 0 0), .val (.int .u64 (o.toNat : Int)), .val (.int .u64 (w.toNat : Int)), .val (.string (ofB g))] (Rc.enc ⟨k, t, u, [], o, w, g⟩) :=
  leL.cons (.refl _) (leL.cons (.refl _) (leL.cons (.refl _) (leL.cons (le_nil 3) (leL.refl _))))
theorem ffix_calls {R} (h : R (.val (.bool true)) []) : ACalls Try.prog 21 [] [] R := by
  refine acalls_of_xwp (an := an21) tab_ok Try.func21 ?_
  have hle := leE.cons (le_rec2 1 [97] 0 0 0 []) rfl (leE.cons (le_rec2 1 [98] 0 3 0 []) rfl (leE.cons (le_rec2 2 [97] 0 0 0 []) rfl leE.nil))
  (conv => whnf)
  refine ACalls.args ?_ (Of_records [ffA, ffB, ffC] (by decide) (by decide) ?_)
  · exact leL.cons (le_sl _ _ hle) leL.nil
  rw [ffix_of]
  (conv => whnf)
  exact h

theorem FoldFinds_calls (l m : List Rc) (hl : l.length ≤ maxLen) (hd : ∀ r ∈ l, r.deps.length ≤ maxLen) (hl2 : m.length ≤ maxLen) (hd2 : ∀ r ∈ m, r.deps.length ≤ maxLen) (t : B) {R} (h : R (.val (.bool true)) []) :
    ACalls Try.prog 6 [.sl none 7 (recs l), .sl none 7 (recs m), vs t] [] R := by
  refine acalls_of_xwp (an := an6) tab_ok Try.func6 ?_
  (conv => whnf)
  refine Great10_calls l hl hd fun b hb => ?_
  (conv => whnf)
  refine br_intro (fun g => ?_) (fun g => ?_)
  · (conv => whnf)
    refine ffix_calls ?_
    (conv => whnf)
    exact h
  obtain ⟨c1, c2⟩ := hb g
  have hl : l.length < 1000000 := by omega
  have hd : ∀ r ∈ l, r.deps.length < 1000000 := fun r hr => by have := (c2 r hr).1; omega
  (conv => whnf)
  refine Great10_calls m hl2 hd2 fun b hb => ?_
  (conv => whnf)
  refine br_intro (fun g => ?_) (fun g => ?_)
  · (conv => whnf)
    refine ffix_calls ?_
    (conv => whnf)
    exact h
  have hrd := findR_deps hd t
  (conv => whnf)
  refine Find_calls l hl hd t ?_
  (conv => whnf)
  refine docFind_calls l hl t ?_
  (conv => whnf)
  refine ffix_calls ?_
  (conv => whnf)
  refine Same8_calls (findR l t) (findR l t) hrd fun p hp => ?_
  have hp : p = true := by rw [hp]; exact decide_eq_true rfl
  subst hp
  (conv => whnf)
  refine br_true (by simp) ?_
  (conv => whnf)
  refine SameL_calls l m hl hd fun p hp => ?_
  (conv => whnf)
  refine All_calls l m hl hd fun q hq => ?_
  (conv => whnf)
  refine br_true (by rw [hp, hq]; simp) ?_
  (conv => whnf)
  refine SameL_calls l l hl hd fun p hp => ?_
  have hp : p = true := by rw [hp]; exact decide_eq_true rfl
  subst hp
  (conv => whnf)
  exact h
theorem args_str {ts : List TypeId} {l : List AV} (h : Args tab 12 (9 :: ts) l) : ∃ (x : B) (l' : List AV), l = vs x :: l' ∧ x.length ≤ maxLen ∧ Args tab 12 ts l' := by
  obtain ⟨a, l', rfl, h1, h2⟩ := h
  obtain ⟨s, e, hs⟩ : ∃ s : ByteArray, [a] = [.val (.string s)] ∧ s.size ≤ maxLen := h1
  simp only [List.cons.injEq, and_true] at e
  refine ⟨bs s, l', by rw [e, vs, ofB_bs], ?_, h2⟩
  have := size_ofB (bs s)
  rw [ofB_bs] at this
  omega
theorem FoldFinds_row (l : List AV) (h : Args tab 12 [22, 22, 9] l) : ACalls Try.prog 6 l [] fun r _ => r = .val (.bool true) := by
  obtain ⟨a, l1, rfl, h1, h2, h3⟩ := args_recs h
  obtain ⟨b, l2, rfl, h4, h5, h6⟩ := args_recs h3
  obtain ⟨t, l3, rfl, h7, h8⟩ := args_str h6
  obtain rfl := args_nil h8
  exact FoldFinds_calls a b h1 h2 h4 h5 t rfl
end Go.Abs
end

section
/- Whether a record may be (record.May); its move to another version (migrate). -/
set_option maxRecDepth 100000
set_option maxHeartbeats 1000000
set_option linter.unusedVariables false
set_option linter.unusedSimpArgs false
namespace Go.Abs
open Go Go.Proofs Dig
attribute [local irreducible] ibits byteAt strLt firstIdx

def depsGo (v : Int) : List Dp → List B → Bool
  | [], _ => true
  | d :: ds, seen => nameOk d.name && (decide (d.name ∉ seen) && (!(d.order && decide (v < 3)) && depsGo v ds (seen ++ [d.name])))
def depsP (v : Int) (r : Rc) : Bool := depsGo v r.deps [r.target] && decide (r.deps.length ≤ 16)
theorem depsR_calls (v : Int) (r : Rc) (hd : r.deps.length < 100000) {R} (h : ∀ p, p = depsP v r → R (.val (.bool p)) []) : ACalls Try.prog 124 [vi v, .agg r.enc] [] R := by
  refine acalls_of_xwp (an := an124) tab_ok Try.func124 ?_
  have hsl := dpsA_length r.deps
  have no : depsGo v r.deps [r.target] = false → R (.val (.bool false)) [] := fun e => h false (by rw [depsP, e]; rfl)
  (conv => whnf)
  refine New_calls r.target [] (by simp) fun m hm => ?_
  have hm : m = [r.target] := by rw [hm]; simp [tblN, tblP]
  subst hm
  (conv => whnf)
  refine LoopP.ind2 (fun (i : Nat) (seen : List B) => [(17, vi i)]) (fun i seen => [(freshN 13 0, tblO (freshN 13 1) (freshN 13 2) seen), (freshN 13 1, tblR seen), (freshN 13 2, tblM seen)])
    (fun i _ => r.deps.length - i) (fun i seen => i ≤ r.deps.length ∧ seen.length ≤ i + 1 ∧ depsGo v (r.deps.drop i) seen = depsGo v r.deps [r.target]) 0 [r.target] rfl ⟨by omega, by simp, by simp⟩ ?_
  rintro i seen ⟨h0, hsn, hD⟩ IH
  (conv => whnf)
  refine br_intro (fun hc => ?_) (fun hc => ?_)
  · have hc := lt_of_decE hsl hc
    rw [List.drop_eq_getElem_cons hc, depsGo] at hD
    (conv => whnf); (repeat ((with_reducible refine must_intro ?_ ?_); exact decide_eq_true (by omega); (conv => whnf)))
    refine idxK_map_intro (show (i : Int).toNat < r.deps.length by simpa using hc) ?_
    rw [show r.deps[(i : Int).toNat]'(by simpa using hc) = r.deps[i] from by congr 1]
    generalize r.deps[i] = d at hD ⊢
    (conv => whnf)
    by_cases hm : d.name ∈ seen
    · have hbad : depsGo v r.deps [r.target] = false := by rw [← hD]; simp [hm]
      refine ID_old seen d.name hm fun j => ?_
      (conv => whnf)
      refine Name_calls d.name ?_
      (conv => whnf)
      refine br_intro (fun hq => ?_) (fun hq => ?_)
      · (conv => whnf)
        exact no hbad
      · (conv => whnf)
        exact no hbad
    · refine ID_more seen d.name (by omega) hm fun j => ?_
      (conv => whnf)
      refine Name_calls d.name ?_
      (conv => whnf)
      refine br_intro (fun hq => ?_) (fun hq => ?_)
      · have hq : nameOk d.name = false := by simpa using hq
        (conv => whnf)
        exact no (by rw [← hD, hq]; rfl)
      · have hq : nameOk d.name = true := by simpa using hq
        rw [hq, decide_eq_true hm, Bool.true_and, Bool.true_and] at hD
        (conv => whnf)
        refine br_intro (fun ho => ?_) (fun ho => ?_)
        · rw [ho, Bool.true_and] at hD
          (conv => whnf)
          refine br_intro (fun hv => ?_) (fun hv => ?_)
          · rw [hv] at hD
            (conv => whnf)
            exact no (by rw [← hD]; rfl)
          · rw [hv] at hD
            (conv => whnf)
            rw [i64_nat (by omega)]
            exact IH (i + 1) (seen ++ [d.name]) ⟨by omega, by simp; omega, by rw [← hD]; simp⟩ (by omega)
        · rw [ho] at hD
          (conv => whnf)
          rw [i64_nat (by omega)]
          exact IH (i + 1) (seen ++ [d.name]) ⟨by omega, by simp; omega, by rw [← hD]; simp⟩ (by omega)
  · have hc := ge_of_decE hsl hc
    rw [List.drop_eq_nil_of_le hc, depsGo] at hD
    (conv => whnf)
    rw [hsl]
    refine h _ ?_
    rw [depsP, ← hD, Bool.true_and]
    exact decide_eq_decide.2 (by omega)

def earlyP (v : Int) (r : Rc) : Bool := (decide (v < 2) && decide (r.wen ≠ 0)) || (decide (v < 3) && decide (r.tag ≠ []))
def goneR (r : Rc) : Rc := ⟨2, r.target, 0, [], 0, 0, []⟩
def mayP (v : Int) (r : Rc) : Bool :=
  if (decide (v < 1) || decide (3 < v) || !nameOk r.target) = true then false
  else if r.kind = 1 then !earlyP v r && (decide (r.tag.length ≤ 64) && depsP v r)
  else if r.kind = 2 then decide (r = goneR r) else false
theorem nilB : ofB [] = { data := #[] } := rfl
theorem May_calls (v : Int) (r : Rc) (hd : r.deps.length < 100000) {R} (h : ∀ p, p = mayP v r → R (.val (.bool p)) []) : ACalls Try.prog 94 [vi v, .agg r.enc] [] R := by
  refine acalls_of_xwp (an := an94) tab_ok Try.func94 ?_
  have hst := size_ofB r.tag
  (conv => whnf)
  refine br_intro (fun g1 => ?_) (fun g1 => ?_)
  · (conv => whnf)
    exact h false (by rw [mayP, if_pos (by rw [g1]; rfl)])
  (conv => whnf)
  refine br_intro (fun g2 => ?_) (fun g2 => ?_)
  · have g2 : 3 < v := by simpa using g2
    (conv => whnf)
    exact h false (by rw [mayP, if_pos (by rw [g1, decide_eq_true g2]; rfl)])
  have g2 : ¬ 3 < v := by simpa using g2
  (conv => whnf)
  refine Name_calls r.target ?_
  (conv => whnf)
  refine br_intro (fun g3 => ?_) (fun g3 => ?_)
  · (conv => whnf)
    exact h false (by rw [mayP, if_pos (by rw [g3]; simp)])
  have hm : mayP v r = if r.kind = 1 then !earlyP v r && (decide (r.tag.length ≤ 64) && depsP v r) else if r.kind = 2 then decide (r = goneR r) else false := by
    rw [mayP, if_neg (by rw [g1, decide_eq_false g2, g3]; simp)]
  (conv => whnf)
  refine br_intro (fun k1 => ?_) (fun k1 => ?_)
  · have k1 : r.kind = 1 := by simpa using k1
    rw [if_pos k1] at hm
    have wz : ((r.wen.toNat : Int) != 0) = decide (r.wen ≠ 0) := by
      by_cases e : r.wen = 0
      · simp [e]
      · have : r.wen.toNat ≠ 0 := fun x => e (BitVec.eq_of_toNat_eq (by simpa using x))
        rw [decide_eq_true e]; simp; omega
    (conv => whnf)
    refine br_intro (fun e1 => ?_) (fun e1 => ?_)
    · (conv => whnf)
      refine br_intro (fun e2 => ?_) (fun e2 => ?_)
      · rw [wz] at e2
        (conv => whnf)
        exact h false (by rw [hm, earlyP, e1, e2]; rfl)
      · rw [wz] at e2
        have e3 : decide (v < 3) = true := by simp at e1 ⊢; omega
        (conv => whnf)
        refine br_true e3 ?_
        (conv => whnf)
        refine br_intro (fun e4 => ?_) (fun e4 => ?_)
        · have e4 : r.tag = [] := by simpa [← nilB, ofB_eq] using e4
          have e4 : decide (r.tag ≠ []) = false := by rw [e4]; rfl
          have he : earlyP v r = false := by rw [earlyP, e2, e4]; simp
          (conv => whnf)
          refine br_intro (fun q => ?_) (fun q => ?_)
          · have q : r.tag.length ≤ 64 := by have q := of_decide_eq_true q; omega
            (conv => whnf)
            refine depsR_calls v r hd fun p hp => ?_
            (conv => whnf)
            exact h p (by rw [hm, he, decide_eq_true q, hp]; rfl)
          · have q : ¬ r.tag.length ≤ 64 := by have q := of_decide_eq_false q; omega
            (conv => whnf)
            exact h false (by rw [hm, decide_eq_false q]; simp)
        · have e4 : r.tag ≠ [] := by simpa [← nilB, ofB_eq] using e4
          have e4 : decide (r.tag ≠ []) = true := decide_eq_true e4
          (conv => whnf)
          exact h false (by rw [hm, earlyP, e3, e4]; simp)
    · (conv => whnf)
      refine br_intro (fun e3 => ?_) (fun e3 => ?_)
      · (conv => whnf)
        refine br_intro (fun e4 => ?_) (fun e4 => ?_)
        · have e4 : r.tag = [] := by simpa [← nilB, ofB_eq] using e4
          have e4 : decide (r.tag ≠ []) = false := by rw [e4]; rfl
          have he : earlyP v r = false := by rw [earlyP, e1, e4]; simp
          (conv => whnf)
          refine br_intro (fun q => ?_) (fun q => ?_)
          · have q : r.tag.length ≤ 64 := by have q := of_decide_eq_true q; omega
            (conv => whnf)
            refine depsR_calls v r hd fun p hp => ?_
            (conv => whnf)
            exact h p (by rw [hm, he, decide_eq_true q, hp]; rfl)
          · have q : ¬ r.tag.length ≤ 64 := by have q := of_decide_eq_false q; omega
            (conv => whnf)
            exact h false (by rw [hm, decide_eq_false q]; simp)
        · have e4 : r.tag ≠ [] := by simpa [← nilB, ofB_eq] using e4
          have e4 : decide (r.tag ≠ []) = true := decide_eq_true e4
          (conv => whnf)
          exact h false (by rw [hm, earlyP, e3, e4]; simp)
      · have he : earlyP v r = false := by rw [earlyP, e1, e3]; simp
        (conv => whnf)
        refine br_intro (fun q => ?_) (fun q => ?_)
        · have q : r.tag.length ≤ 64 := by have q := of_decide_eq_true q; omega
          (conv => whnf)
          refine depsR_calls v r hd fun p hp => ?_
          (conv => whnf)
          exact h p (by rw [hm, he, decide_eq_true q, hp]; rfl)
        · have q : ¬ r.tag.length ≤ 64 := by have q := of_decide_eq_false q; omega
          (conv => whnf)
          exact h false (by rw [hm, decide_eq_false q]; simp)
  · have k1 : ¬ r.kind = 1 := by simpa using k1
    rw [if_neg k1] at hm
    (conv => whnf)
    refine br_intro (fun k2 => ?_) (fun k2 => ?_)
    · have k2 : r.kind = 2 := by simpa using k2
      rw [if_pos k2] at hm
      (conv => whnf)
      refine ACalls.args ?_ (SameR_calls r (goneR r) (by omega) fun p hp => ?_)
      · exact leL.cons (.refl _) (leL.cons (le_agg (le_rec2 2 r.target 0 0 0 [])) leL.nil)
      (conv => whnf)
      exact h p (by rw [hp, hm])
    · have k2 : ¬ r.kind = 2 := by simpa using k2
      rw [if_neg k2] at hm
      (conv => whnf)
      exact h false hm.symm
end Go.Abs
end

section
/- The moves of records to another version (migrate). -/
set_option maxRecDepth 100000
set_option maxHeartbeats 1000000
set_option linter.unusedVariables false
set_option linter.unusedSimpArgs false
namespace Go.Abs
open Go Go.Proofs Dig
attribute [local irreducible] ibits byteAt strLt firstIdx

def oldB : B := [111, 108, 100]
theorem stepA_calls (r : Rc) {R} (h : R (.tup []) [.cells 29 { r with wen := 1 }.enc]) :
    ACalls Try.prog 125 [.ptr 0 0] [.cells 29 r.enc] R := by
  refine acalls_of_xwp (an := an125) tab_ok Try.func125 ?_
  (conv => whnf)
  exact h
theorem stepB_calls (r : Rc) {R} (h : R (.tup []) [.cells 29 { r with tag := oldB }.enc]) :
    ACalls Try.prog 126 [.ptr 0 0] [.cells 29 r.enc] R := by
  refine acalls_of_xwp (an := an126) tab_ok Try.func126 ?_
  (conv => whnf)
  exact h
theorem steps_calls {R} (h : R (.agg [vi 1, .fn (.func 125) [] [], vi 2, .fn (.func 126) [] []]) []) :
    ACalls Try.prog 95 [] [] R := by
  refine acalls_of_xwp (an := an95) tab_ok Try.func95 ?_
  (conv => whnf)
  exact h
def versP (a b : Int) : Bool := decide (1 ≤ a) && (decide (a ≤ b) && decide (b ≤ 3))
theorem vers_calls (a b : Int) {R} (h : ∀ p, p = versP a b → R (.val (.bool p)) []) : ACalls Try.prog 63 [vi a, vi b] [] R := by
  refine acalls_of_xwp (an := an63) tab_ok Try.func63 ?_
  (conv => whnf)
  refine br_intro (fun g => ?_) (fun g => ?_)
  · have g : 1 ≤ a := by have := of_decide_eq_true g; omega
    (conv => whnf)
    refine br_intro (fun g2 => ?_) (fun g2 => ?_)
    · have g2 : a ≤ b := of_decide_eq_true g2
      (conv => whnf)
      exact h _ (by rw [versP, decide_eq_true g, decide_eq_true g2]; rfl)
    · have g2 : ¬ a ≤ b := of_decide_eq_false g2
      (conv => whnf)
      exact h _ (by rw [versP, decide_eq_false g2]; simp)
  · have g : ¬ 1 ≤ a := by have := of_decide_eq_false g; omega
    (conv => whnf)
    exact h _ (by rw [versP, decide_eq_false g]; simp)
def movR (a b : Int) (r : Rc) : Rc := { r with wen := if r.kind = 1 ∧ a ≤ 1 ∧ 1 < b then 1 else r.wen, tag := if r.kind = 1 ∧ a ≤ 2 ∧ 2 < b then oldB else r.tag }
theorem To_calls (a b : Int) (ha : 1 ≤ a ∧ a ≤ 3) (hb : 1 ≤ b ∧ b ≤ 3) (r : Rc) (hd : r.deps.length < 100000) {R} (h1 : versP a b = true → mayP a r = true → R (.tup [.agg (movR a b r).enc, vi 0]) [])
    (h2 : ∀ e, e ≠ 0 → (versP a b && mayP a r) = false → R (.tup [.agg [.val (.int .i64 0), .val (.string ⟨#[]⟩), .val (.int .u64 0), .val (.slice none 0 0), .val (.int .u64 0), .val (.int .u64 0), .val (.string ⟨#[]⟩)], vi e]) []) : ACalls Try.prog 64 [vi a, vi b, .agg r.enc] [] R := by
  refine acalls_of_xwp (an := an64) tab_ok Try.func64 ?_
  (conv => whnf)
  refine vers_calls a b fun p hp => ?_
  (conv => whnf)
  refine br_intro (fun g => ?_) (fun g => ?_)
  · (conv => whnf)
    exact h2 _ (by decide) (by rw [← hp]; revert g; cases p <;> simp)
  have hv : versP a b = true := by rw [← hp]; revert g; cases p <;> simp
  (conv => whnf)
  refine May_calls a r hd fun q hq => ?_
  (conv => whnf)
  refine br_intro (fun g2 => ?_) (fun g2 => ?_)
  · (conv => whnf)
    exact h2 _ (by decide) (by rw [← hq]; revert g2; cases q <;> simp)
  have hm : mayP a r = true := by rw [← hq]; revert g2; cases q <;> simp
  (conv => whnf)
  refine Clone_calls r (by omega) ?_
  (conv => whnf)
  refine steps_calls ?_
  (conv => whnf)
  have h1 := h1 hv hm
  refine LoopP.step ?_
  (conv => whnf)
  refine br_intro (fun hk => ?_) (fun hk => ?_)
  · have k : r.kind = 1 := by simpa using hk
    (conv => whnf)
    refine br_intro (fun p1 => ?_) (fun p1 => ?_)
    · have p1 : a ≤ 1 := of_decide_eq_true p1
      (conv => whnf)
      refine br_intro (fun p2 => ?_) (fun p2 => ?_)
      · have p2 : 1 < b := of_decide_eq_true p2
        have hw : (if r.kind = 1 ∧ a ≤ 1 ∧ 1 < b then (1 : U) else r.wen) = 1 := if_pos ⟨k, p1, p2⟩
        (conv => whnf)
        refine stepA_calls r ?_
        (conv => whnf)
        refine LoopP.step ?_
        (conv => whnf)
        refine br_true hk ?_
        (conv => whnf)
        refine br_intro (fun q1 => ?_) (fun q1 => ?_)
        · have q1 : a ≤ 2 := of_decide_eq_true q1
          (conv => whnf)
          refine br_intro (fun q2 => ?_) (fun q2 => ?_)
          · have q2 : 2 < b := of_decide_eq_true q2
            have ht : (if r.kind = 1 ∧ a ≤ 2 ∧ 2 < b then oldB else r.tag) = oldB := if_pos ⟨k, q1, q2⟩
            (conv => whnf)
            refine stepB_calls _ ?_
            (conv => whnf)
            refine LoopP.step ?_
            (conv => whnf)
            rw [movR, hw, ht] at h1
            exact h1
          · have q2 : ¬ 2 < b := of_decide_eq_false q2
            have ht : (if r.kind = 1 ∧ a ≤ 2 ∧ 2 < b then oldB else r.tag) = r.tag := if_neg fun x => q2 x.2.2
            (conv => whnf)
            refine LoopP.step ?_
            (conv => whnf)
            rw [movR, hw, ht] at h1
            exact h1
        · have q1 : ¬ a ≤ 2 := of_decide_eq_false q1
          have ht : (if r.kind = 1 ∧ a ≤ 2 ∧ 2 < b then oldB else r.tag) = r.tag := if_neg fun x => q1 x.2.1
          (conv => whnf)
          refine LoopP.step ?_
          (conv => whnf)
          rw [movR, hw, ht] at h1
          exact h1
      · have p2 : ¬ 1 < b := of_decide_eq_false p2
        have hw : (if r.kind = 1 ∧ a ≤ 1 ∧ 1 < b then (1 : U) else r.wen) = r.wen := if_neg fun x => p2 x.2.2
        (conv => whnf)
        refine LoopP.step ?_
        (conv => whnf)
        refine br_true hk ?_
        (conv => whnf)
        refine br_intro (fun q1 => ?_) (fun q1 => ?_)
        · have q1 : a ≤ 2 := of_decide_eq_true q1
          (conv => whnf)
          refine br_intro (fun q2 => ?_) (fun q2 => ?_)
          · have q2 : 2 < b := of_decide_eq_true q2
            have ht : (if r.kind = 1 ∧ a ≤ 2 ∧ 2 < b then oldB else r.tag) = oldB := if_pos ⟨k, q1, q2⟩
            (conv => whnf)
            refine stepB_calls _ ?_
            (conv => whnf)
            refine LoopP.step ?_
            (conv => whnf)
            rw [movR, hw, ht] at h1
            exact h1
          · have q2 : ¬ 2 < b := of_decide_eq_false q2
            have ht : (if r.kind = 1 ∧ a ≤ 2 ∧ 2 < b then oldB else r.tag) = r.tag := if_neg fun x => q2 x.2.2
            (conv => whnf)
            refine LoopP.step ?_
            (conv => whnf)
            rw [movR, hw, ht] at h1
            exact h1
        · have q1 : ¬ a ≤ 2 := of_decide_eq_false q1
          have ht : (if r.kind = 1 ∧ a ≤ 2 ∧ 2 < b then oldB else r.tag) = r.tag := if_neg fun x => q1 x.2.1
          (conv => whnf)
          refine LoopP.step ?_
          (conv => whnf)
          rw [movR, hw, ht] at h1
          exact h1
    · have p1 : ¬ a ≤ 1 := of_decide_eq_false p1
      have hw : (if r.kind = 1 ∧ a ≤ 1 ∧ 1 < b then (1 : U) else r.wen) = r.wen := if_neg fun x => p1 x.2.1
      (conv => whnf)
      refine LoopP.step ?_
      (conv => whnf)
      refine br_true hk ?_
      (conv => whnf)
      refine br_intro (fun q1 => ?_) (fun q1 => ?_)
      · have q1 : a ≤ 2 := of_decide_eq_true q1
        (conv => whnf)
        refine br_intro (fun q2 => ?_) (fun q2 => ?_)
        · have q2 : 2 < b := of_decide_eq_true q2
          have ht : (if r.kind = 1 ∧ a ≤ 2 ∧ 2 < b then oldB else r.tag) = oldB := if_pos ⟨k, q1, q2⟩
          (conv => whnf)
          refine stepB_calls _ ?_
          (conv => whnf)
          refine LoopP.step ?_
          (conv => whnf)
          rw [movR, hw, ht] at h1
          exact h1
        · have q2 : ¬ 2 < b := of_decide_eq_false q2
          have ht : (if r.kind = 1 ∧ a ≤ 2 ∧ 2 < b then oldB else r.tag) = r.tag := if_neg fun x => q2 x.2.2
          (conv => whnf)
          refine LoopP.step ?_
          (conv => whnf)
          rw [movR, hw, ht] at h1
          exact h1
      · have q1 : ¬ a ≤ 2 := of_decide_eq_false q1
        have ht : (if r.kind = 1 ∧ a ≤ 2 ∧ 2 < b then oldB else r.tag) = r.tag := if_neg fun x => q1 x.2.1
        (conv => whnf)
        refine LoopP.step ?_
        (conv => whnf)
        rw [movR, hw, ht] at h1
        exact h1
  · have k : ¬ r.kind = 1 := by simpa using hk
    have hw : (if r.kind = 1 ∧ a ≤ 1 ∧ 1 < b then (1 : U) else r.wen) = r.wen := if_neg fun x => k x.1
    have ht : (if r.kind = 1 ∧ a ≤ 2 ∧ 2 < b then oldB else r.tag) = r.tag := if_neg fun x => k x.1
    (conv => whnf)
    refine LoopP.step ?_
    (conv => whnf)
    refine br_false hk ?_
    (conv => whnf)
    refine LoopP.step ?_
    (conv => whnf)
    rw [movR, hw, ht] at h1
    exact h1
theorem recs_snoc (l : List Rc) (r : Rc) : recs l ++ [r.enc] = recs (l ++ [r]) := by simp [recs]
theorem All_moves (a b : Int) (ha : 1 ≤ a ∧ a ≤ 3) (hb : 1 ≤ b ∧ b ≤ 3) (l : List Rc) (hl : l.length < 100000) (hd : ∀ r ∈ l, r.deps.length < 100000) {R}
    (h1 : versP a b = true → (∀ r ∈ l, mayP a r = true) → R (.tup [.sl none 7 (recs (l.map (movR a b))), vi 0]) [])
    (h2 : ∀ e, e ≠ 0 → ¬ (versP a b = true ∧ ∀ r ∈ l, mayP a r = true) → R (.tup [.val (.slice none 0 0), vi e]) []) : ACalls Try.prog 39 [vi a, vi b, .sl none 7 (recs l)] [] R := by
  refine acalls_of_xwp (an := an39) tab_ok Try.func39 ?_
  have hsl := recs_length l
  (conv => whnf)
  refine vers_calls a b fun p hp => ?_
  (conv => whnf)
  refine br_intro (fun g => ?_) (fun g => ?_)
  · (conv => whnf)
    exact h2 _ (by decide) (by rw [← hp]; revert g; cases p <;> simp)
  have hv : versP a b = true := by rw [← hp]; revert g; cases p <;> simp
  (conv => whnf)
  refine LoopP.ind2 (fun (i : Nat) (out : List Rc) => [(8, .sl (some (nameOf 8)) 7 (recs out)), (19, vi i)]) (fun i out => [(nameOf 8, .row 29 7 (recs out).length)]) (fun i _ => l.length - i)
    (fun i out => i ≤ l.length ∧ out = (l.take i).map (movR a b) ∧ ∀ r ∈ l.take i, mayP a r = true) 0 [] rfl ⟨by omega, rfl, by simp⟩ ?_
  rintro i out ⟨h0, hm, hg⟩ IH
  have hrl := recs_length out
  have hol : out.length ≤ i := by rw [hm]; simp; omega
  (conv => whnf)
  refine br_intro (fun hc => ?_) (fun hc => ?_)
  · have hc := lt_of_decE hsl hc
    (conv => whnf); (repeat ((with_reducible refine must_intro ?_ ?_); exact decide_eq_true (by omega); (conv => whnf)))
    refine idxK_map_intro (show (i : Int).toNat < l.length by simpa using hc) ?_
    rw [show l[(i : Int).toNat]'(by simpa using hc) = l[i] from by congr 1]
    (conv => whnf)
    refine To_calls a b ha hb l[i] (hd _ (List.getElem_mem hc)) (fun hv hm2 => ?_) (fun e he hbad => ?_)
    · (conv => whnf)
      refine ⟨rfl, (by rw [show (tab.ti 29).bytes = 88 from rfl]; simp only [List.length_cons, List.length_nil]; omega), ?_⟩
      (conv => whnf)
      rw [i64_nat (by omega)]
      have hx := IH (i + 1) (out ++ [movR a b l[i]]) ⟨by omega, by rw [List.take_succ_eq_append_getElem hc, List.map_append, hm]; rfl, fun r hr => ?_⟩ (by omega)
      · rw [← recs_snoc, List.length_append] at hx
        exact hx
      · rw [List.take_succ_eq_append_getElem hc, List.mem_append, List.mem_singleton] at hr
        rcases hr with hr | rfl
        · exact hg r hr
        · exact hm2
    · (conv => whnf)
      refine br_true (bne_iff_ne.2 he) ?_
      (conv => whnf)
      refine h2 e he fun x => ?_
      rw [x.1, x.2 _ (List.getElem_mem hc)] at hbad
      simp at hbad
  · have hc := ge_of_decE hsl hc
    rw [List.take_of_length_le hc] at hm hg
    (conv => whnf)
    rw [hm]
    exact h1 hv hg
end Go.Abs
end

section
/- fold.Right; FoldParts. -/
set_option maxRecDepth 100000
set_option maxHeartbeats 1000000
set_option linter.unusedVariables false
set_option linter.unusedSimpArgs false
namespace Go.Abs
open Go Go.Proofs Dig
attribute [local irreducible] ibits byteAt strLt firstIdx

def okAt (l : List Rc) : Nat → Bool
  | 0 => match l[0]? with
    | some r => decide (r.kind = 1)
    | none => true
  | j + 1 => match l[j + 1]?, l[j]? with
    | some r, some s => decide (r.kind = 1) && ltB s.target r.target
    | _, _ => true
def rightB (l : List Rc) : Bool := (List.range l.length).all (okAt l)
theorem rightB_no {l : List Rc} {i : Nat} (hi : i < l.length) (h : okAt l i = false) : rightB l = false := by
  refine Bool.eq_false_iff.2 fun e => ?_
  have := List.all_eq_true.1 e i (List.mem_range.2 hi)
  rw [h] at this; cases this
theorem rightB_yes {l : List Rc} (hs : Srt l) (hk : ∀ r ∈ l, r.kind = 1) : rightB l = true := by
  refine List.all_eq_true.2 fun i hi => ?_
  have hi := List.mem_range.1 hi
  cases i with
  | zero => simp only [okAt, List.getElem?_eq_getElem hi]; exact decide_eq_true (hk _ (List.getElem_mem hi))
  | succ j =>
    have hj : j < l.length := by omega
    simp only [okAt, List.getElem?_eq_getElem hi, List.getElem?_eq_getElem hj, ltB_eq]
    have := List.pairwise_iff_getElem.1 hs j (j + 1) hj hi (by omega)
    simp [hk _ (List.getElem_mem hi), this]
theorem Right_calls (l : List Rc) (hl : l.length < 1000000) {R} (h : ∀ p, p = rightB l → R (.val (.bool p)) []) : ACalls Try.prog 24 [.sl none 7 (recs l)] [] R := by
  refine acalls_of_xwp (an := an24) tab_ok Try.func24 ?_
  have hsl := recs_length l
  (conv => whnf)
  refine LoopP.ind1 (fun (i : Nat) => [(7, vi i)]) (fun _ => []) (fun i => l.length - i) (fun i => i ≤ l.length ∧ (List.range i).all (okAt l) = true) 0 rfl ⟨by omega, by simp⟩ ?_
  rintro i ⟨h0, h1⟩ IH
  (conv => whnf)
  refine br_intro (fun hc => ?_) (fun hc => ?_)
  · have hc := lt_of_decE hsl hc
    have next : okAt l i = true → (List.range (i + 1)).all (okAt l) = true := fun e => by
      rw [List.range_succ, List.all_append, h1]; simp [e]
    (conv => whnf); (repeat ((with_reducible refine must_intro ?_ ?_); exact decide_eq_true (by omega); (conv => whnf)))
    refine idxK_map_intro (show (i : Int).toNat < l.length by simpa using hc) ?_
    rw [show l[(i : Int).toNat]'(by simpa using hc) = l[i] from by congr 1]
    (conv => whnf)
    refine br_intro (fun hk => ?_) (fun hk => ?_)
    · have hk : ¬ l[i].kind = 1 := by simpa using hk
      (conv => whnf)
      refine h false (rightB_no hc ?_).symm
      cases i with
      | zero => simp only [okAt, List.getElem?_eq_getElem hc]; exact decide_eq_false hk
      | succ j =>
        have hj : j < l.length := by omega
        simp only [okAt, List.getElem?_eq_getElem hc, List.getElem?_eq_getElem hj]
        simp [hk]
    · have hk : l[i].kind = 1 := by simpa using hk
      cases i with
      | zero =>
        (conv => whnf)
        refine IH 1 ⟨by omega, next ?_⟩ (by omega)
        simp only [okAt, List.getElem?_eq_getElem hc]
        exact decide_eq_true hk
      | succ j =>
        have hj : j < l.length := by omega
        (conv => whnf)
        refine br_true (by simp) ?_
        (conv => whnf)
        rw [show IntKind.i64.wrap (((j + 1 : Nat) : Int) - 1) = (j : Int) by rw [wrap_i64 (by omega) (by omega)]; omega]
        (conv => whnf); (repeat ((with_reducible refine must_intro ?_ ?_); exact decide_eq_true (by omega); (conv => whnf)))
        refine idxK_map_intro (show (j : Int).toNat < l.length by simpa using hj) ?_
        rw [show l[(j : Int).toNat]'(by simpa using hj) = l[j] from by congr 1]
        (conv => whnf)
        rw [strLt_ofB]
        have hok : okAt l (j + 1) = ltB l[j].target l[j + 1].target := by
          simp only [okAt, List.getElem?_eq_getElem hc, List.getElem?_eq_getElem hj]
          simp [hk]
        refine br_intro (fun hb => ?_) (fun hb => ?_)
        · have hb : ltB l[j].target l[j + 1].target = false := by simpa using hb
          (conv => whnf)
          exact h false (rightB_no hc (by rw [hok, hb])).symm
        · have hb : ltB l[j].target l[j + 1].target = true := by simpa using hb
          (conv => whnf)
          rw [i64_nat (by omega)]
          exact IH (j + 1 + 1) ⟨by omega, next (by rw [hok, hb])⟩ (by omega)
  · have hc := ge_of_decE hsl hc
    have e : i = l.length := by omega
    (conv => whnf)
    exact h true (by rw [rightB, ← e, h1])
end Go.Abs
end

section
/- The statement FoldParts. -/
set_option maxRecDepth 100000
set_option maxHeartbeats 1000000
set_option linter.unusedVariables false
set_option linter.unusedSimpArgs false
namespace Go.Abs
open Go Go.Proofs Dig
attribute [local irreducible] ibits byteAt strLt firstIdx

theorem docOf_append (a b : List Rc) : docOf (a ++ b) = b.foldl docPut (docOf a) := by simp [docOf]
theorem docOf_parts (a b : List Rc) : docOf (docOf a ++ b) = docOf (a ++ b) := by rw [docOf_append, docOf_docOf, docOf_append]
def past (t : B) (s : Rc) : Bool := decide (s.target ≠ t) || (decide (s.kind ≠ 1) && decide (s.kind ≠ 2))
theorem docPut_past {S : List Rc} {s x : Rc} {t : B} (hp : past t s = true) (hx : x.target = t) : x ∈ docPut S s ↔ x ∈ S := by
  unfold docPut
  split
  · exact Iff.rfl
  · rename_i hk
    have hs : s.target ≠ t := by
      simp only [past, Bool.or_eq_true, Bool.and_eq_true, decide_eq_true_eq] at hp
      rcases hp with h | h
      · exact h
      · exact absurd h hk
    rw [docLoop_mem]
    constructor
    · rintro (⟨_, rfl⟩ | ⟨h, _⟩)
      · exact absurd hx hs
      · exact h
    · intro h
      exact .inr ⟨h, fun e => hs (by rw [← e, hx])⟩
theorem docFold_past {t : B} : ∀ (l S : List Rc), (∀ s ∈ l, past t s = true) → ∀ x, x.target = t → (x ∈ l.foldl docPut S ↔ x ∈ S) := by
  intro l
  induction l with
  | nil => intro S _ x _; exact Iff.rfl
  | cons s l ih =>
    intro S h x hx
    rw [List.foldl_cons, ih _ (fun y hy => h y (by simp [hy])) x hx, docPut_past (h s (by simp)) hx]
theorem srt_uniq {S : List Rc} (hs : Srt S) {a b : Rc} (ha : a ∈ S) (hb : b ∈ S) (e : a.target = b.target) : a = b := by
  obtain ⟨i, hi, rfl⟩ := List.getElem_of_mem ha
  obtain ⟨j, hj, rfl⟩ := List.getElem_of_mem hb
  have hp := List.pairwise_iff_getElem.1 hs
  rcases Nat.lt_trichotomy i j with h | h | h
  · exact absurd (hp i j hi hj h) (by rw [e]; exact List.lt_irrefl _)
  · subst h; rfl
  · exact absurd (hp j i hj hi h) (by rw [e]; exact List.lt_irrefl _)
theorem findP_some {S : List Rc} (hs : Srt S) {r : Rc} (hr : r ∈ S) (hk : r.kind = 1) : findP S r.target = some r := by
  unfold findP
  cases h : S.reverse.find? (isOf r.target) with
  | none => exact absurd (List.find?_eq_none.1 h r (List.mem_reverse.2 hr)) (by simp [isOf, hk])
  | some x =>
    have h1 := List.find?_some h
    have h2 := List.mem_reverse.1 (List.mem_of_find?_eq_some h)
    simp only [isOf, Bool.and_eq_true, decide_eq_true_eq] at h1
    rw [srt_uniq hs h2 hr h1.2]
theorem findP_none {S : List Rc} {t : B} (h : ∀ x ∈ S, x.target ≠ t) : findP S t = none := by
  unfold findP
  rw [List.find?_eq_none]
  intro x hx
  simp [isOf, h x (List.mem_reverse.1 hx)]
/-- What the last record of a target tells. -/
theorem find_last {l : List Rc} {i : Nat} (hi : i < l.length) (hk : l[i].kind = 1 ∨ l[i].kind = 2) (hp : ∀ s ∈ l.drop (i + 1), past l[i].target s = true) :
    findP (docOf l) l[i].target = if l[i].kind = 1 then some l[i] else none := by
  have e : docOf l = (l.drop (i + 1)).foldl docPut (docPut (docOf (l.take i)) l[i]) := by
    have : l = l.take i ++ ([l[i]] ++ l.drop (i + 1)) := by
      rw [List.singleton_append, ← List.drop_eq_getElem_cons hi, List.take_append_drop]
    conv => lhs; rw [this]
    rw [docOf_append, List.foldl_append]
    rfl
  have hm : ∀ x, x.target = l[i].target → (x ∈ docOf l ↔ x ∈ docPut (docOf (l.take i)) l[i]) := fun x hx => by rw [e]; exact docFold_past _ _ hp x hx
  rcases hk with hk | hk
  · rw [if_pos hk]
    exact findP_some (docOf_srt l) ((hm _ rfl).2 ((docPut_mem1 hk _).2 (.inl rfl))) hk
  · rw [if_neg (by omega)]
    refine findP_none fun x hx hxt => ?_
    have h1 := (hm x hxt).1 hx
    rw [docPut, if_neg (by omega), docLoop_mem] at h1
    rcases h1 with ⟨h1, _⟩ | ⟨_, h1⟩
    · simp [hk] at h1
    · exact h1 hxt

theorem FoldParts_calls (l : List Rc) (hl : l.length ≤ maxLen) (hd : ∀ r ∈ l, r.deps.length ≤ maxLen) (a : Int) (ha : 0 ≤ a ∧ a ≤ 255) {R} (h : R (.val (.bool true)) []) :
    ACalls Try.prog 5 [.sl none 7 (recs l), .val (.int .u8 a)] [] R := by
  refine acalls_of_xwp (an := an5) tab_ok Try.func5 ?_
  (conv => whnf)
  refine Great10_calls l hl hd fun b hb => ?_
  (conv => whnf)
  refine br_intro (fun g => ?_) (fun g => ?_)
  · (conv => whnf)
    refine ffix_calls ?_
    (conv => whnf)
    exact h
  obtain ⟨c1, c2⟩ := hb g
  have hl : l.length < 1000000 := by omega
  have hd : ∀ r ∈ l, r.deps.length < 1000000 := fun r hr => by have := (c2 r hr).1; omega
  have hsl := recs_length l
  generalize hm : docOf l = m
  have hms : Srt m := by rw [← hm]; exact docOf_srt l
  have hml : m.length ≤ l.length := by rw [← hm]; exact docOf_len l
  have hmk : ∀ r ∈ m, r.kind = 1 := fun r hr => (docOf_sub (by rw [hm]; exact hr)).2
  have hmd : ∀ r ∈ m, r.deps.length < 1000000 := fun r hr => hd r (docOf_sub (by rw [hm]; exact hr)).1
  have hmm : docOf m = m := by rw [← hm]; exact docOf_docOf l
  obtain ⟨k, hk, hkl⟩ : ∃ k : Nat, (if ((recs l).length : Int) < IntKind.i64.wrap a then ((recs l).length : Int) else IntKind.i64.wrap a) = (k : Int) ∧ k ≤ l.length := by
    rw [wrap_i64 (by omega) (by omega), hsl]
    split
    · exact ⟨l.length, rfl, Nat.le_refl _⟩
    · exact ⟨a.toNat, by omega, by omega⟩
  (conv => whnf)
  refine Of_records l hl hd ?_
  rw [hm]
  (conv => whnf)
  refine Right_calls m (by omega) fun p hp => ?_
  have hp : p = true := by rw [hp]; exact rightB_yes hms hmk
  subst hp
  (conv => whnf)
  refine Of_records m (by omega) hmd ?_
  rw [hmm]
  (conv => whnf)
  refine All_calls m m (by omega) hmd fun p hp => ?_
  have hp : p = true := by rw [hp]; exact decide_eq_true rfl
  subst hp
  (conv => whnf)
  rw [hk]
  (conv => whnf); (repeat ((with_reducible refine must_intro ?_ ?_); exact decide_eq_true (by omega); (conv => whnf)))
  rw [show List.drop (Int.toNat ((0 : Nat) : Int)) (List.take (Int.toNat (k : Int)) (recs l)) = recs (l.take k) from by simp [recs, List.map_take]]
  have htk : (l.take k).length = k := by simp; omega
  refine Of_records (l.take k) (by omega) (fun r hr => hd r (List.mem_of_mem_take hr)) ?_
  have hdl := docOf_len (l.take k)
  have hdr := recs_length (docOf (l.take k))
  have hlk := recs_length (l.drop k)
  have hlk2 : (l.drop k).length = l.length - k := by simp
  (conv => whnf)
  refine ⟨rfl, (by show (0 + (recs (docOf (l.take k))).length) * (88 + 1) ≤ _; omega), ?_⟩
  (conv => whnf); (repeat ((with_reducible refine must_intro ?_ ?_); exact decide_eq_true (by omega); (conv => whnf)))
  have hdrop : List.drop (Int.toNat (k : Int)) (List.take (Int.toNat (((recs l).length : Nat) : Int)) (recs l)) = recs (l.drop k) := by
    rw [Int.toNat_natCast, Int.toNat_natCast, List.take_length]; simp [recs, List.map_drop]
  rw [hdrop]
  refine ⟨by simp, (by rw [show (tab.ti 29).bytes = 88 from rfl, List.nil_append]; omega), ?_⟩
  (conv => whnf)
  rw [show [] ++ recs (docOf (l.take k)) ++ recs (l.drop k) = recs (docOf (l.take k) ++ l.drop k) from by simp [recs]]
  refine Of_records (docOf (l.take k) ++ l.drop k) (by rw [List.length_append]; omega) (fun r hr => ?_) ?_
  · rw [List.mem_append] at hr
    rcases hr with hr | hr
    · exact hd r (List.mem_of_mem_take (docOf_sub hr).1)
    · exact hd r (List.mem_of_mem_drop hr)
  rw [docOf_parts, List.take_append_drop, hm]
  (conv => whnf)
  refine All_calls m m (by omega) hmd fun p hp => ?_
  have hp : p = true := by rw [hp]; exact decide_eq_true rfl
  subst hp
  (conv => whnf)
  refine LoopP.ind1 (fun (i : Nat) => [(52, vi i)]) (fun _ => []) (fun i => l.length - i) (fun i => i ≤ l.length) 0 rfl (by omega) ?_
  rintro i h0 IH
  (conv => whnf)
  refine br_intro (fun hc => ?_) (fun hc => ?_)
  · have hc := lt_of_decE hsl hc
    (conv => whnf); (repeat ((with_reducible refine must_intro ?_ ?_); exact decide_eq_true (by omega); (conv => whnf)))
    refine idxK_map_intro (show (i : Int).toNat < l.length by simpa using hc) ?_
    rw [show l[(i : Int).toNat]'(by simpa using hc) = l[i] from by congr 1]
    obtain ⟨r, hr⟩ : ∃ r, r = l[i] := ⟨_, rfl⟩
    rw [← hr]
    (conv => whnf)
    refine br_intro (fun hk1 => ?_) (fun hk1 => ?_)
    · (conv => whnf)
      refine br_intro (fun hk2 => ?_) (fun hk2 => ?_)
      · (conv => whnf)
        rw [i64_nat (by omega)]
        exact IH (i + 1) (by omega) (by omega)
      · have hk : r.kind = 1 ∨ r.kind = 2 := .inr (by simpa using hk2)
        (conv => whnf)
        rw [i64_nat (by omega)]
        (conv => whnf); (repeat ((with_reducible refine must_intro ?_ ?_); exact decide_eq_true (by omega); (conv => whnf)))
        have hdrop2 : List.drop (Int.toNat ((i + 1 : Nat) : Int)) (List.take (Int.toNat (((recs l).length : Nat) : Int)) (recs l)) = recs (l.drop (i + 1)) := by
          rw [Int.toNat_natCast, Int.toNat_natCast, List.take_length]; simp [recs, List.map_drop]
        rw [hdrop2]
        have hsd := recs_length (l.drop (i + 1))
        have hrk : l[i].kind = 1 ∨ l[i].kind = 2 := by rw [← hr]; exact hk
        refine LoopP.ind2 (fun (j : Nat) (last : Bool) => [(9, .val (.bool last)), (70, vi j)]) (fun _ _ => []) (fun j _ => (l.drop (i + 1)).length - j) (fun j last => j ≤ (l.drop (i + 1)).length ∧ last = ((l.drop (i + 1)).take j).all (past r.target)) 0 true rfl ⟨by omega, by simp⟩ ?_
        rintro j last ⟨hj0, hlast⟩ IH2
        (conv => whnf)
        refine br_intro (fun hc2 => ?_) (fun hc2 => ?_)
        · have hc2 := lt_of_decE hsd hc2
          have hcl2 : (l.drop (i + 1)).length = l.length - (i + 1) := by simp
          have hnext : ((l.drop (i + 1)).take (j + 1)).all (past r.target) = (last && past r.target (l.drop (i + 1))[j]) := by
            rw [List.take_succ_eq_append_getElem hc2, List.all_append, ← hlast]; simp
          (conv => whnf); (repeat ((with_reducible refine must_intro ?_ ?_); exact decide_eq_true (by omega); (conv => whnf)))
          refine idxK_map_intro (show (j : Int).toNat < (l.drop (i + 1)).length by simpa using hc2) ?_
          rw [show (l.drop (i + 1))[(j : Int).toNat]'(by simpa using hc2) = (l.drop (i + 1))[j] from by congr 1]
          obtain ⟨s, hs⟩ : ∃ s, s = (l.drop (i + 1))[j] := ⟨_, rfl⟩
          rw [← hs] at hnext ⊢
          cases last
          · (conv => whnf)
            rw [i64_nat (by omega)]
            exact IH2 (j + 1) false ⟨by omega, by rw [hnext]; rfl⟩ (by omega)
          · (conv => whnf)
            refine br_intro (fun ht => ?_) (fun ht => ?_)
            · have ht : s.target ≠ r.target := by simpa [ofB_eq] using ht
              (conv => whnf)
              rw [i64_nat (by omega)]
              exact IH2 (j + 1) true ⟨by omega, by rw [hnext]; simp [past, ht]⟩ (by omega)
            · have ht : s.target = r.target := by simpa [ofB_eq] using ht
              (conv => whnf)
              refine br_intro (fun hq => ?_) (fun hq => ?_)
              · have hq1 : s.kind ≠ 1 := by simpa using hq
                (conv => whnf)
                rw [i64_nat (by omega)]
                exact IH2 (j + 1) (s.kind != 2) ⟨by omega, by rw [hnext]; simp [past, ht, hq1]; rfl⟩ (by omega)
              · have hq1 : s.kind = 1 := by simpa using hq
                (conv => whnf)
                rw [i64_nat (by omega)]
                exact IH2 (j + 1) false ⟨by omega, by rw [hnext]; simp [past, ht, hq1]⟩ (by omega)
        · have hc2 := ge_of_decE hsd hc2
          rw [List.take_of_length_le hc2] at hlast
          clear IH2
          cases last
          · (conv => whnf)
            refine Find_calls m (by omega) hmd r.target ?_
            (conv => whnf)
            rw [i64_nat (by omega)]
            exact IH (i + 1) (by omega) (by omega)
          · have hfl := find_last hc hrk (fun s hs => by rw [← hr]; exact List.all_eq_true.1 hlast.symm s hs)
            rw [hm, ← hr] at hfl
            rcases hk with hk | hk
            · rw [if_pos hk] at hfl
              have hfr : findR m r.target = r := by rw [findR, hfl]; rfl
              (conv => whnf)
              refine Find_calls m (by omega) hmd r.target ?_
              rw [hfr, hfl]
              (conv => whnf)
              refine br_false (by simp [hk]) ?_
              (conv => whnf)
              refine Same8_calls r r (hd _ (by rw [hr]; exact List.getElem_mem hc)) fun p hp => ?_
              have hp : p = true := by rw [hp]; exact decide_eq_true rfl
              subst hp
              (conv => whnf)
              rw [i64_nat (by omega)]
              exact IH (i + 1) (by omega) (by omega)
            · rw [if_neg (by omega)] at hfl
              (conv => whnf)
              refine Find_calls m (by omega) hmd r.target ?_
              rw [hfl]
              (conv => whnf)
              refine br_false (by simp [hk]) ?_
              (conv => whnf)
              rw [i64_nat (by omega)]
              exact IH (i + 1) (by omega) (by omega)
    · have hk : r.kind = 1 ∨ r.kind = 2 := .inl (by simpa using hk1)
      (conv => whnf)
      rw [i64_nat (by omega)]
      (conv => whnf); (repeat ((with_reducible refine must_intro ?_ ?_); exact decide_eq_true (by omega); (conv => whnf)))
      have hdrop2 : List.drop (Int.toNat ((i + 1 : Nat) : Int)) (List.take (Int.toNat (((recs l).length : Nat) : Int)) (recs l)) = recs (l.drop (i + 1)) := by
        rw [Int.toNat_natCast, Int.toNat_natCast, List.take_length]; simp [recs, List.map_drop]
      rw [hdrop2]
      have hsd := recs_length (l.drop (i + 1))
      have hrk : l[i].kind = 1 ∨ l[i].kind = 2 := by rw [← hr]; exact hk
      refine LoopP.ind2 (fun (j : Nat) (last : Bool) => [(9, .val (.bool last)), (70, vi j)]) (fun _ _ => []) (fun j _ => (l.drop (i + 1)).length - j) (fun j last => j ≤ (l.drop (i + 1)).length ∧ last = ((l.drop (i + 1)).take j).all (past r.target)) 0 true rfl ⟨by omega, by simp⟩ ?_
      rintro j last ⟨hj0, hlast⟩ IH2
      (conv => whnf)
      refine br_intro (fun hc2 => ?_) (fun hc2 => ?_)
      · have hc2 := lt_of_decE hsd hc2
        have hcl2 : (l.drop (i + 1)).length = l.length - (i + 1) := by simp
        have hnext : ((l.drop (i + 1)).take (j + 1)).all (past r.target) = (last && past r.target (l.drop (i + 1))[j]) := by
          rw [List.take_succ_eq_append_getElem hc2, List.all_append, ← hlast]; simp
        (conv => whnf); (repeat ((with_reducible refine must_intro ?_ ?_); exact decide_eq_true (by omega); (conv => whnf)))
        refine idxK_map_intro (show (j : Int).toNat < (l.drop (i + 1)).length by simpa using hc2) ?_
        rw [show (l.drop (i + 1))[(j : Int).toNat]'(by simpa using hc2) = (l.drop (i + 1))[j] from by congr 1]
        obtain ⟨s, hs⟩ : ∃ s, s = (l.drop (i + 1))[j] := ⟨_, rfl⟩
        rw [← hs] at hnext ⊢
        cases last
        · (conv => whnf)
          rw [i64_nat (by omega)]
          exact IH2 (j + 1) false ⟨by omega, by rw [hnext]; rfl⟩ (by omega)
        · (conv => whnf)
          refine br_intro (fun ht => ?_) (fun ht => ?_)
          · have ht : s.target ≠ r.target := by simpa [ofB_eq] using ht
            (conv => whnf)
            rw [i64_nat (by omega)]
            exact IH2 (j + 1) true ⟨by omega, by rw [hnext]; simp [past, ht]⟩ (by omega)
          · have ht : s.target = r.target := by simpa [ofB_eq] using ht
            (conv => whnf)
            refine br_intro (fun hq => ?_) (fun hq => ?_)
            · have hq1 : s.kind ≠ 1 := by simpa using hq
              (conv => whnf)
              rw [i64_nat (by omega)]
              exact IH2 (j + 1) (s.kind != 2) ⟨by omega, by rw [hnext]; simp [past, ht, hq1]; rfl⟩ (by omega)
            · have hq1 : s.kind = 1 := by simpa using hq
              (conv => whnf)
              rw [i64_nat (by omega)]
              exact IH2 (j + 1) false ⟨by omega, by rw [hnext]; simp [past, ht, hq1]⟩ (by omega)
      · have hc2 := ge_of_decE hsd hc2
        rw [List.take_of_length_le hc2] at hlast
        clear IH2
        cases last
        · (conv => whnf)
          refine Find_calls m (by omega) hmd r.target ?_
          (conv => whnf)
          rw [i64_nat (by omega)]
          exact IH (i + 1) (by omega) (by omega)
        · have hfl := find_last hc hrk (fun s hs => by rw [← hr]; exact List.all_eq_true.1 hlast.symm s hs)
          rw [hm, ← hr] at hfl
          rcases hk with hk | hk
          · rw [if_pos hk] at hfl
            have hfr : findR m r.target = r := by rw [findR, hfl]; rfl
            (conv => whnf)
            refine Find_calls m (by omega) hmd r.target ?_
            rw [hfr, hfl]
            (conv => whnf)
            refine br_false (by simp [hk]) ?_
            (conv => whnf)
            refine Same8_calls r r (hd _ (by rw [hr]; exact List.getElem_mem hc)) fun p hp => ?_
            have hp : p = true := by rw [hp]; exact decide_eq_true rfl
            subst hp
            (conv => whnf)
            rw [i64_nat (by omega)]
            exact IH (i + 1) (by omega) (by omega)
          · rw [if_neg (by omega)] at hfl
            (conv => whnf)
            refine Find_calls m (by omega) hmd r.target ?_
            rw [hfl]
            (conv => whnf)
            refine br_false (by simp [hk]) ?_
            (conv => whnf)
            rw [i64_nat (by omega)]
            exact IH (i + 1) (by omega) (by omega)
  · have hc := ge_of_decE hsl hc
    (conv => whnf)
    refine ffix_calls ?_
    (conv => whnf)
    exact h
theorem FoldParts_row (l : List AV) (h : Args tab 12 [22, 5] l) : ACalls Try.prog 5 l [] fun r _ => r = .val (.bool true) := by
  obtain ⟨a, l1, rfl, h1, h2, h3⟩ := args_recs h
  obtain ⟨x, l2, rfl, hx, h4⟩ := args_u8 h3
  obtain rfl := args_nil h4
  exact FoldParts_calls a h1 h2 x hx rfl
end Go.Abs
end

section
/- The statement FoldMoves. -/
set_option maxRecDepth 100000
set_option maxHeartbeats 1000000
set_option linter.unusedVariables false
set_option linter.unusedSimpArgs false
namespace Go.Abs
open Go Go.Proofs Dig
attribute [local irreducible] ibits byteAt strLt firstIdx

section
variable {M : Rc → Rc} (hk : ∀ r, (M r).kind = r.kind) (ht : ∀ r, (M r).target = r.target)
include hk ht
omit hk in
theorem docLoop_map (r : Rc) : ∀ (S : List Rc) (laid : Bool), docLoop (M r) laid (S.map M) = (docLoop r laid S).map M := by
  intro S
  induction S with
  | nil => intro laid; cases laid <;> simp [docLoop]
  | cons s S ih =>
    intro laid
    simp only [List.map_cons, docLoop, ht, ih, List.map_append]
    congr 1
    · split <;> simp
    · congr 1
      split <;> simp
theorem docPut_map (S : List Rc) (r : Rc) : docPut (S.map M) (M r) = (docPut S r).map M := by
  unfold docPut
  rw [hk]
  split
  · rfl
  · exact docLoop_map ht r S _
theorem docOf_map (l : List Rc) : docOf (l.map M) = (docOf l).map M := by
  have : ∀ (l S : List Rc), (l.map M).foldl docPut (S.map M) = (l.foldl docPut S).map M := by
    intro l
    induction l with
    | nil => intro S; rfl
    | cons r l ih => intro S; rw [List.map_cons, List.foldl_cons, docPut_map hk ht, ih]; rfl
  simpa [docOf] using this l []
end
theorem FoldMoves_calls (l : List Rc) (hl : l.length ≤ maxLen) (hd : ∀ r ∈ l, r.deps.length ≤ maxLen) (x y : Int) (hx : 0 ≤ x ∧ x ≤ 255) (hy : 0 ≤ y ∧ y ≤ 255) {R} (h : R (.val (.bool true)) []) :
    ACalls Try.prog 9 [.sl none 7 (recs l), .agg [.val (.int .u8 x), .val (.int .u8 y)]] [] R := by
  refine acalls_of_xwp (an := an9) tab_ok Try.func9 ?_
  (conv => whnf)
  refine Great10_calls l hl hd fun b hb => ?_
  (conv => whnf)
  refine br_intro (fun g => ?_) (fun g => ?_)
  · (conv => whnf)
    refine ffix_calls ?_
    (conv => whnf)
    exact h
  obtain ⟨c1, c2⟩ := hb g
  have hl : l.length < 100000 := by omega
  have hd : ∀ r ∈ l, r.deps.length < 100000 := fun r hr => by have := (c2 r hr).1; omega
  (conv => whnf)
  have hm3 : ∀ z : Int, 0 ≤ z ∧ z ≤ 255 → ∃ a : Int, IntKind.i64.wrap (1 + IntKind.i64.wrap (z.tmod 3)) = a ∧ 1 ≤ a ∧ a ≤ 3 := fun z hz => by
    have e : z.tmod 3 = z % 3 := Int.tmod_eq_emod_of_nonneg hz.1
    have w1 : IntKind.i64.wrap (z % 3) = z % 3 := wrap_i64 (by omega) (by omega)
    rw [e, w1, wrap_i64 (by omega) (by omega)]
    exact ⟨_, rfl, by omega, by omega⟩
  obtain ⟨a, ea, ha⟩ := hm3 x hx
  obtain ⟨b2, eb, hb2⟩ := hm3 y hy
  rw [ea, eb]
  generalize hm : docOf l = m
  have hml : m.length ≤ l.length := by rw [← hm]; exact docOf_len l
  have hmd : ∀ r ∈ m, r ∈ l := fun r hr => (docOf_sub (by rw [hm]; exact hr)).1
  refine All_moves a b2 ha hb2 l hl hd (fun hv hmay => ?_) (fun e he _ => ?_)
  · (conv => whnf)
    refine Of_records l (by omega) (fun r hr => by have := hd r hr; omega) ?_
    rw [hm]
    (conv => whnf)
    refine All_moves a b2 ha hb2 m (by omega) (fun r hr => hd r (hmd r hr)) (fun _ _ => ?_) (fun e he hbad => absurd ⟨hv, fun r hr => hmay r (hmd r hr)⟩ hbad)
    (conv => whnf)
    refine ffix_calls ?_
    (conv => whnf)
    refine Of_records (l.map (movR a b2)) (by simp; omega) (fun r hr => ?_) ?_
    · obtain ⟨r', hr', rfl⟩ := List.mem_map.1 hr
      have := hd r' hr'
      show r'.deps.length < _
      omega
    rw [docOf_map (M := movR a b2) (fun _ => rfl) (fun _ => rfl), hm]
    (conv => whnf)
    refine All_calls _ _ (by simp; omega) (fun r hr => ?_) fun p hp => ?_
    · obtain ⟨r', hr', rfl⟩ := List.mem_map.1 hr
      have := hd r' (hmd r' hr')
      show r'.deps.length < _
      omega
    have hp : p = true := by rw [hp]; exact decide_eq_true rfl
    subst hp
    (conv => whnf)
    exact h
  · (conv => whnf)
    refine Of_records l (by omega) (fun r hr => by have := hd r hr; omega) ?_
    rw [hm]
    (conv => whnf)
    refine All_moves a b2 ha hb2 m (by omega) (fun r hr => hd r (hmd r hr)) (fun _ _ => ?_) (fun e2 he2 hbad => ?_)
    · (conv => whnf)
      refine br_true (bne_iff_ne.2 he) ?_
      (conv => whnf)
      refine ffix_calls ?_
      (conv => whnf)
      exact h
    · (conv => whnf)
      refine br_true (bne_iff_ne.2 he) ?_
      (conv => whnf)
      refine ffix_calls ?_
      (conv => whnf)
      exact h
theorem typed_two {x : List AV} (h : Typed tab 12 62 x) : ∃ a b : Int, x = [.val (.int .u8 a), .val (.int .u8 b)] ∧ (0 ≤ a ∧ a ≤ 255) ∧ (0 ≤ b ∧ b ≤ 255) := by
  have h : TypedF (Typed tab 11) [5, 5] x := h
  have k : ∀ z : List AV, Typed tab 11 5 z → ∃ a : Int, z = [.val (.int .u8 a)] ∧ (0 ≤ a ∧ a ≤ 255) := fun z hz => by
    obtain ⟨x, e, hx⟩ : ∃ x, z = [.val (.int .u8 x)] ∧ (Lit.int .u8 x).wf = true := hz
    simp only [Lit.wf, Bool.and_eq_true, decide_eq_true_eq] at hx
    have e1 : IntKind.u8.min = 0 := rfl
    have e2 : IntKind.u8.max = 255 := rfl
    rw [e1, e2] at hx
    exact ⟨x, e, hx⟩
  obtain ⟨p, q, rfl, h1, r, s, rfl, h2, rfl⟩ := h
  obtain ⟨a, rfl, ha⟩ := k p h1
  obtain ⟨b, rfl, hb⟩ := k r h2
  exact ⟨a, b, rfl, ha, hb⟩
theorem FoldMoves_row (l : List AV) (h : Args tab 12 [22, 62] l) : ACalls Try.prog 9 l [] fun r _ => r = .val (.bool true) := by
  obtain ⟨a, l1, rfl, h1, h2, h3⟩ := args_recs h
  obtain ⟨v, l2, rfl, ⟨w, rfl, hw⟩, h4⟩ := h3
  obtain ⟨x, y, rfl, hx, hy⟩ := typed_two hw
  obtain rfl := args_nil h4
  exact FoldMoves_calls a h1 h2 x y hx hy rfl
end Go.Abs
end
