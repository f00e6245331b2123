/- Words of texts (escape): the statements. -/
import Derived.Test.YtlagdcbgkfaheaaEB
set_option maxRecDepth 100000
set_option linter.unusedVariables false
set_option linter.unusedSimpArgs false
namespace Go.Abs
open Go Go.Proofs
attribute [local irreducible] ibits byteAt strLt firstIdx

theorem refPut_calls (s : B) (hs : s.length < 100000) {R} (h : ∀ d, d = ofB (putP s) → R (.val (.string d)) []) : ACalls Try.prog 28 [vs s] [] R := by
  refine acalls_of_xwp (an := an28) tab_ok Try.func28 ?_
  have hsz : (ofB s).size = s.length := size_ofB s
  (conv => whnf)
  refine br_intro (fun g => ?_) (fun g => ?_)
  · have g : ofB s = ofB [] := of_decide_eq_true g
    have g := ofB_inj g
    (conv => whnf)
    refine h _ ?_
    rw [putP, if_pos g]
    rfl
  have g : s ≠ [] := by
    rintro rfl
    exact of_decide_eq_false g rfl
  have hb : decide (ofB s = { data := #[45] }) = decide (s = [45]) := decide_eq_decide.2 ⟨fun e => ofB_inj (show ofB s = ofB [45] from e), fun e => by rw [e]; rfl⟩
  have hpr : (if decide (s = [45]) = true then noneP else plainP) = (if s = [45] then noneP else plainP) := by simp
  (conv => whnf)
  refine LoopP.ind2 (fun (i : Nat) (out : B) => [(3, vs out), (4, vi i)]) (fun _ _ => []) (fun i _ => s.length - i) (fun i out => i ≤ s.length ∧ out = signsP (if s = [45] then noneP else plainP) (s.take i)) 0 [] rfl ⟨by omega, by simp [signsP]⟩ ?_
  rintro i out ⟨h0, h1⟩ IH
  have hol : out.length ≤ 3 * i := by
    have := signsP_len (if s = [45] then noneP else plainP) (s.take i)
    rw [← h1, List.length_take] at this
    omega
  (conv => whnf)
  refine br_intro (fun hc => ?_) (fun hc => ?_)
  · have hc := lt_of_decE hsz hc
    have hbt : byteAt (ofB s) ((i : Int)).toNat = ((s[i]).toNat : Int) := by rw [Int.toNat_natCast, byteAt_ofB s hc]
    (conv => whnf); (repeat ((with_reducible refine must_intro ?_ ?_); exact decide_eq_true (by omega); (conv => whnf)))
    rw [hbt, hb]
    refine sign_calls s[i] (decide (s = [45])) fun d hd => ?_
    rw [hpr] at hd
    subst hd
    have h3 := (sgn_len (if s = [45] then noneP else plainP) s[i]).2
    (conv => whnf)
    refine must_intro (decide_eq_true (by rw [size_ofB, size_ofB]; omega)) ?_
    rw [ofB_append]
    (conv => whnf)
    rw [i64_nat (by omega)]
    refine IH (i + 1) (out ++ sgn (if s = [45] then noneP else plainP) s[i]) ⟨by omega, ?_⟩ (by omega)
    rw [h1, List.take_succ_eq_append_getElem hc]
    simp only [signsP, List.flatMap_append, List.flatMap_cons, List.flatMap_nil, List.append_nil]
  · have hc := ge_of_decE hsz hc
    rw [List.take_of_length_le hc] at h1
    (conv => whnf)
    refine h _ ?_
    rw [h1, putP, if_neg g]

theorem u8_of {c : Nat} (h : c < 256) : IntKind.u8.wrap (c : Int) = (((UInt8.ofNat c).toNat : Nat) : Int) := by
  rw [wrap_u8]
  simp
theorem refGet_calls (w : B) (hw : w.length < 10000) {R} (h : ∀ o, o = refGetP w → R (vgets o) []) : ACalls Try.prog 30 [vs w] [] R := by
  refine acalls_of_xwp (an := an30) tab_ok Try.func30 ?_
  have hsz : (ofB w).size = w.length := size_ofB w
  have hb : decide (ofB w = { data := #[92, 50, 100] }) = decide (w = [92, 50, 100]) := decide_eq_decide.2 ⟨fun e => ofB_inj (show ofB w = ofB [92, 50, 100] from e), fun e => by rw [e]; rfl⟩
  have hpr : (if decide (w = [92, 50, 100]) = true then noneP else plainP) = prW w := by simp [prW]
  have hok := ok_prW w
  (conv => whnf)
  refine br_intro (fun g => ?_) (fun g => ?_)
  · have g : ofB w = ofB [45] := of_decide_eq_true g
    have g := ofB_inj g
    (conv => whnf)
    have := h (some []) (by rw [refGetP, if_pos g])
    exact this
  have g : w ≠ [45] := by
    rintro rfl
    exact of_decide_eq_false g rfl
  (conv => whnf)
  refine LoopP.ind2 (fun (at_ : Nat) (out : B) => [(4, vs out), (5, vi at_)]) (fun _ _ => []) (fun i _ => w.length - i) (fun i out => i ≤ w.length ∧ out.length ≤ i ∧ w = signsP (prW w) out ++ w.drop i) 0 [] rfl ⟨by omega, by simp, by simp [signsP]⟩ ?_
  rintro i out ⟨h0, h1, h2⟩ IH
  (conv => whnf)
  refine br_intro (fun hc => ?_) (fun hc => ?_)
  · have hc := lt_of_decE hsz hc
    (conv => whnf)
    refine LoopP.ind2 (fun (c : Nat) (f : Option UInt8) => match f with
        | none => [(4, vs out), (5, vi i), (6, .val (.bool false)), (7, vi c)]
        | some x => [(4, vs (out ++ [x])), (5, vi ((i + (sgn (prW w) x).length : Nat) : Int)), (6, .val (.bool true)), (7, vi c)]) (fun _ _ => []) (fun c _ => 300 - c)
      (fun c f => c ≤ 256 ∧ (match f with
        | none => ∀ d : UInt8, d.toNat < c → ¬ sgn (prW w) d <+: w.drop i
        | some x => sgn (prW w) x <+: w.drop i)) 0 none rfl ⟨by omega, fun d hd => by omega⟩ ?_
    rintro c f ⟨hc0, hf⟩ IH2
    cases f with
    | some x =>
      obtain ⟨t, ht⟩ := hf
      have hxl := sgn_len (prW w) x
      have hle : i + (sgn (prW w) x).length ≤ w.length := by
        have := congrArg List.length ht
        simp at this
        omega
      have next : LoopP _ _ := IH (i + (sgn (prW w) x).length) (out ++ [x]) ⟨hle, by simp; omega, by
        rw [← List.drop_drop, ← ht, List.drop_left]
        conv => lhs; rw [h2, ← ht]
        simp [signsP, List.flatMap_append]⟩ (by omega)
      (conv => whnf)
      refine br_intro (fun _ => ?_) (fun _ => ?_)
      · (conv => whnf)
        exact next
      · (conv => whnf)
        exact next
    | none =>
      simp only at hf
      (conv => whnf)
      refine br_intro (fun hc2 => ?_) (fun hc2 => ?_)
      · have hc2 : c < 256 := by simp at hc2; omega
        (conv => whnf)
        rw [u8_of hc2, hb]
        refine sign_calls (UInt8.ofNat c) (decide (w = [92, 50, 100])) fun d hd => ?_
        rw [hpr] at hd
        subst hd
        have hsl := size_ofB (sgn (prW w) (UInt8.ofNat c))
        have hxl := sgn_len (prW w) (UInt8.ofNat c)
        have hcn : (UInt8.ofNat c).toNat = c := by simp; omega
        have go : ¬ sgn (prW w) (UInt8.ofNat c) <+: w.drop i → (∀ d : UInt8, d.toNat < c + 1 → ¬ sgn (prW w) d <+: w.drop i) := by
          intro hn d hd
          by_cases e : d = UInt8.ofNat c
          · rw [e]; exact hn
          · refine hf d ?_
            have : d.toNat ≠ c := by
              intro e'
              apply e
              rw [← e']
              simp
            omega
        (conv => whnf)
        rw [hsl, wrap_i64 (by omega) (by omega)]
        refine br_intro (fun g2 => ?_) (fun g2 => ?_)
        · have g2 : i + (sgn (prW w) (UInt8.ofNat c)).length ≤ w.length := by
            have := of_decide_eq_true g2
            rw [hsz] at this
            omega
          (conv => whnf)
          rw [hsl, wrap_i64 (by omega) (by omega)]
          refine must_intro (decide_eq_true (by omega)) ?_
          refine must_intro (decide_eq_true (by rw [hsz]; omega)) ?_
          have hex : ByteArray.extract (ofB w) ((i : Int)).toNat ((i : Int) + ((sgn (prW w) (UInt8.ofNat c)).length : Int)).toNat = ofB ((w.drop i).take (sgn (prW w) (UInt8.ofNat c)).length) := by
            rw [Int.toNat_natCast, show ((i : Int) + ((sgn (prW w) (UInt8.ofNat c)).length : Int)).toNat = i + (sgn (prW w) (UInt8.ofNat c)).length by omega, ofB_extract, List.drop_take]
            congr 2
            omega
          rw [hex]
          (conv => whnf)
          refine br_intro (fun g3 => ?_) (fun g3 => ?_)
          · have g3 : (w.drop i).take (sgn (prW w) (UInt8.ofNat c)).length = sgn (prW w) (UInt8.ofNat c) := ofB_inj (of_decide_eq_true g3)
            (conv => whnf)
            rw [u8_of hc2]
            refine ⟨[(((UInt8.ofNat c).toNat : Nat) : Int)], rfl, ?_⟩
            have e := strOfNums_ofB [UInt8.ofNat c]
            rw [show strOfNums [(((UInt8.ofNat c).toNat : Nat) : Int)] = ofB [UInt8.ofNat c] from e]
            (conv => whnf)
            refine must_intro (decide_eq_true (by rw [size_ofB, size_ofB]; simp; omega)) ?_
            rw [ofB_append]
            (conv => whnf)
            rw [hsl, wrap_i64 (x := (i : Int) + _) (by omega) (by omega), i64_nat (by omega)]
            refine IH2 (c + 1) (some (UInt8.ofNat c)) ⟨by omega, ?_⟩ (by omega)
            exact List.prefix_iff_eq_take.2 g3.symm
          · have g3 : (w.drop i).take (sgn (prW w) (UInt8.ofNat c)).length ≠ sgn (prW w) (UInt8.ofNat c) := fun e => of_decide_eq_false g3 (by rw [e])
            (conv => whnf)
            rw [i64_nat (by omega)]
            exact IH2 (c + 1) none ⟨by omega, go (fun hp => g3 (List.prefix_iff_eq_take.1 hp).symm)⟩ (by omega)
        · have g2 : w.length < i + (sgn (prW w) (UInt8.ofNat c)).length := by
            have := of_decide_eq_false g2
            rw [hsz] at this
            omega
          (conv => whnf)
          rw [i64_nat (by omega)]
          exact IH2 (c + 1) none ⟨by omega, go (fun hp => by have := hp.length_le; simp at this; omega)⟩ (by omega)
      · have hc2 : c = 256 := by simp at hc2; omega
        subst hc2
        (conv => whnf)
        refine h none ?_
        unfold refGetP
        rw [if_neg g]
        cases hd : dec w with
        | none => rfl
        | some o =>
          simp only
          rw [if_neg]
          rintro ⟨e1, e2⟩
          obtain ⟨o', rfl, h3⟩ := signs_pre hok out o _ (e1.trans h2)
          cases o' with
          | nil =>
            have := congrArg List.length h3
            simp [signsP] at this
            omega
          | cons x o' =>
            exact hf x x.toNat_lt ⟨signsP (prW w) o', by rw [h3]; rfl⟩
  · have hc := ge_of_decE hsz hc
    rw [List.drop_eq_nil_of_le hc, List.append_nil] at h2
    (conv => whnf)
    have hd : dec w = some out := by
      conv => lhs; rw [h2]
      exact dec_signs hok out
    by_cases ho : out = []
    · subst ho
      have := h none (by rw [refGetP, if_neg g, hd]; simp)
      exact this
    · have hk := h (some out) (by rw [refGetP, if_neg g, hd]; simp only; rw [if_pos ⟨h2.symm, ho⟩])
      have e : (!decide (ofB out = { data := #[] })) = true := by
        rw [Bool.not_eq_true']
        exact decide_eq_false fun e => ho (ofB_inj (show ofB out = ofB [] from e))
      rw [e]
      exact hk

theorem efixed_calls {R} (h : R (.val (.bool true)) []) : ACalls Try.prog 25 [] [] R := by
  refine acalls_of_xwp (an := an25) tab_ok Try.func25 ?_
  (conv => whnf)
  refine Put_calls [97, 32, 92] (by simp) fun d hd => ?_
  have e1 : putP [97, 32, 92] = [97, 92, 50, 48, 92, 53, 99] := by decide +kernel
  rw [e1] at hd
  subst hd
  (conv => whnf)
  refine Put_calls [] (by simp) fun d hd => ?_
  have e2 : putP [] = [45] := by decide +kernel
  rw [e2] at hd
  subst hd
  (conv => whnf)
  exact h

theorem getP_some {w s : B} (hg : getP w = some s) : s.length ≤ w.length ∧ putP s = w := by
  unfold getP at hg
  cases hd : dec w with
  | none => rw [hd] at hg; cases hg
  | some o =>
    rw [hd] at hg
    have hg : (if putP (if w = [45] then [] else o) = w then some (if w = [45] then [] else o) else none) = some s := hg
    by_cases hp : putP (if w = [45] then [] else o) = w
    · rw [if_pos hp] at hg
      have hg := Option.some.inj hg
      rw [hg] at hp
      refine ⟨?_, hp⟩
      rw [← hg]
      by_cases hw : w = [45]
      · rw [if_pos hw]; simp
      · rw [if_neg hw]; exact dec_len _ _ _ (Nat.le_refl _) hd
    · rw [if_neg hp] at hg; cases hg

theorem EscapeGets_calls (w : B) {R} (h : R (.val (.bool true)) []) : ACalls Try.prog 8 [vs w] [] R := by
  refine acalls_of_xwp (an := an8) tab_ok Try.func8 ?_
  have hsz : (ofB w).size = w.length := size_ofB w
  (conv => whnf)
  refine br_intro (fun hc => ?_) (fun hc => ?_)
  · (conv => whnf)
    refine efixed_calls ?_
    (conv => whnf)
    exact h
  have hl : w.length ≤ 300 := by rw [hsz] at hc; simp at hc; omega
  (conv => whnf)
  refine Get_calls w (by omega) fun o1 h1 => ?_
  (conv => whnf)
  refine refGet_calls w (by omega) fun o2 h2 => ?_
  rw [← getP_ref] at h2
  have h12 : o1 = o2 := h1.trans h2.symm
  subst h12
  (conv => whnf)
  refine efixed_calls ?_
  (conv => whnf)
  refine br_true (by simp) ?_
  (conv => whnf)
  refine br_true (by simp) ?_
  (conv => whnf)
  cases o1 with
  | none =>
    (conv => whnf)
    exact h
  | some s =>
    have hs := getP_some h1.symm
    (conv => whnf)
    refine Put_calls s (by omega) fun d hd => ?_
    rw [hs.2] at hd
    subst hd
    (conv => whnf)
    simpa using h

theorem hexc_ne {d : Nat} (h : d < 16) : hexc d ≠ 32 ∧ hexc d ≠ 10 := by
  have key : (List.range 16).all (fun d => decide (hexc d ≠ 32 ∧ hexc d ≠ 10)) = true := by decide +kernel
  have h := List.all_eq_true.1 key d (List.mem_range.2 h)
  exact of_decide_eq_true h
theorem signs_mem {pr : UInt8 → Bool} (hpr : ∀ c, pr c = true → c ≠ 32 ∧ c ≠ 10) {s : B} {c : UInt8} (h : c ∈ signsP pr s) : c ≠ 32 ∧ c ≠ 10 := by
  unfold signsP at h
  obtain ⟨x, _, hx⟩ := List.mem_flatMap.1 h
  have hxl := x.toNat_lt
  unfold sgn at hx
  by_cases hp : pr x = true
  · rw [if_pos hp, List.mem_singleton] at hx
    subst hx
    exact hpr _ hp
  · rw [if_neg hp] at hx
    simp only [List.mem_cons, List.not_mem_nil, or_false] at hx
    rcases hx with rfl | rfl | rfl
    · decide
    · exact hexc_ne (by omega)
    · exact hexc_ne (by omega)
theorem putP_mem {s : B} {c : UInt8} (h : c ∈ putP s) : c ≠ 32 ∧ c ≠ 10 := by
  unfold putP at h
  by_cases h0 : s = []
  · rw [if_pos h0, List.mem_singleton] at h
    subst h
    decide
  · rw [if_neg h0] at h
    by_cases h45 : s = [45]
    · rw [if_pos h45] at h
      exact signs_mem (fun c hc => by cases hc) h
    · rw [if_neg h45] at h
      refine signs_mem (fun c hc => ?_) h
      unfold plainP at hc
      rw [Bool.and_eq_true, decide_eq_true_iff] at hc
      refine ⟨fun e => ?_, fun e => ?_⟩ <;> (rw [e] at hc; exact absurd hc.1 (by decide))
theorem firstIdx_none {l : B} {c : UInt8} (h : c ∉ l) : firstIdx (ofB l) c = -1 := by
  unfold firstIdx
  have hn : (List.range (ofB l).size).find? (fun i => (ofB l)[i]! == c) = none := by
    rw [List.find?_eq_none]
    intro i hi
    rw [List.mem_range, size_ofB] at hi
    intro e
    apply h
    have e : (ofB l)[i]! = c := by simpa using e
    have h1 : (ofB l)[i]! = l[i] := by
      have hs : i < (ofB l).size := by rw [size_ofB]; exact hi
      rw [getElem!_pos (ofB l) i hs]
      rfl
    rw [← e, h1]
    exact List.getElem_mem hi
  rw [hn]

theorem EscapePuts_calls (s : B) {R} (h : R (.val (.bool true)) []) : ACalls Try.prog 7 [vs s] [] R := by
  refine acalls_of_xwp (an := an7) tab_ok Try.func7 ?_
  have hsz : (ofB s).size = s.length := size_ofB s
  (conv => whnf)
  refine br_intro (fun hc => ?_) (fun hc => ?_)
  · (conv => whnf)
    refine efixed_calls ?_
    (conv => whnf)
    exact h
  have hl : s.length ≤ 300 := by rw [hsz] at hc; simp at hc; omega
  have hpl : (putP s).length ≤ 3 * s.length + 1 := by
    unfold putP
    split
    · simp
    · have := signsP_len (if s = [45] then noneP else plainP) s
      omega
  (conv => whnf)
  refine Put_calls s (by omega) fun d hd => ?_
  subst hd
  (conv => whnf)
  refine Get_calls (putP s) (by omega) fun o h1 => ?_
  rw [getP_putP] at h1
  subst h1
  (conv => whnf)
  refine efixed_calls ?_
  (conv => whnf)
  refine refPut_calls s (by omega) fun d hd => ?_
  subst hd
  (conv => whnf)
  refine br_true (by simp) ?_
  (conv => whnf)
  have hne : putP s ≠ [] := by
    intro e
    have h1 := getP_putP s
    rw [e] at h1
    have h2 : getP [] = none := by decide +kernel
    rw [h2] at h1
    cases h1
  refine br_true (by
    rw [Bool.not_eq_true']
    exact decide_eq_false fun e => hne (ofB_inj (show ofB (putP s) = ofB [] from e))) ?_
  (conv => whnf)
  refine IndexByte_calls _ _ fun r hr => ?_
  have hr : r = -1 := hr.trans (firstIdx_none fun hm => (putP_mem hm).1 rfl)
  subst hr
  (conv => whnf)
  refine IndexByte_calls _ _ fun r hr => ?_
  have hr : r = -1 := hr.trans (firstIdx_none fun hm => (putP_mem hm).2 rfl)
  subst hr
  (conv => whnf)
  have e : decide (ofB s = ofB s) = true := by simp
  first | exact h | (rw [e]; exact h) | simpa using h

theorem EscapePuts_row (l : List AV) (h : Args tab 12 [9] l) : ACalls Try.prog 7 l [] fun r _ => r = .val (.bool true) := by
  obtain ⟨a, l1, rfl, _, h1⟩ := args_str h
  obtain rfl := args_nil h1
  exact EscapePuts_calls a rfl
theorem EscapeGets_row (l : List AV) (h : Args tab 12 [9] l) : ACalls Try.prog 8 l [] fun r _ => r = .val (.bool true) := by
  obtain ⟨a, l1, rfl, _, h1⟩ := args_str h
  obtain rfl := args_nil h1
  exact EscapeGets_calls a rfl
end Go.Abs
