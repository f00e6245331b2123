/- Words of texts (escape): what is written. -/
import Derived.Test.YtlagdcbgkfaheaaE8
import Derived.Test.YtlagdcbgkfaheaaD6
import Derived.Test.YtlagdcbgkfaheaaE2
set_option maxRecDepth 100000
set_option linter.unusedVariables false
set_option linter.unusedSimpArgs false
namespace Go.Abs
open Go Go.Proofs
attribute [local irreducible] ibits byteAt strLt firstIdx

theorem byteEls_length (l : B) : (byteEls l).length = l.length := by simp [byteEls]
theorem byteEls_append (l m : B) : byteEls (l ++ m) = byteEls l ++ byteEls m := by simp [byteEls]
theorem bytes_u8 : (tab.ti 5).bytes = 1 := rfl
abbrev nilS : AV := .val (.slice none 0 0)
abbrev nilP : AV := .val (.pointer none)
/-- A builder in memory. -/
def sb0 : List AObj := [sbC nilP nilS]
def sb1 (l : B) : List AObj := [sbC (.ptr 0 0) (.sl (some 1) 1 (byteEls l)), .row 5 1 l.length]
theorem closed_sb0 : closedOs [sbC (.ptr 0 0) nilS] := by
  intro i o ho m hm
  match i, ho with
  | 0, ho =>
    cases ho
    simp only [objNames, sbC, namesL, AV.names, List.append_nil, List.cons_append, List.nil_append, List.mem_cons, List.not_mem_nil, or_false] at hm
    subst hm
    simp
  | i + 1, ho => simp at ho
theorem closed_sb1 (l : B) : closedOs (sb1 l) := by
  intro i o ho m hm
  match i, ho with
  | 0, ho =>
    cases ho
    simp only [objNames, sbC, namesL, AV.names, List.append_nil, List.cons_append, List.nil_append, List.mem_cons, List.not_mem_nil, or_false] at hm
    rcases hm with rfl | rfl <;> simp [sb1]
  | 1, ho => cases ho; simp [objNames] at hm
  | i + 2, ho => simp [sb1] at ho

theorem Write_first (q : B) (hq : q.length < 1000000) {R} (h : ∀ n : Int, R (.tup [vi n, .val .nilIface]) (sb1 q)) : ACalls Try.prog 87 [.ptr 0 0, .sl none 1 (byteEls q)] sb0 R := by
  refine acalls_of_xwp (an := an87) tab_ok Try.func87 ?_
  (conv => whnf)
  refine copyCheck_first nilS [] closed_sb0 ?_
  (conv => whnf)
  refine ⟨by rw [byteEls_length, bytes_u8]; omega, ?_⟩
  (conv => whnf)
  rw [byteEls_length]
  exact h _
theorem Write_again (l q : B) (hl : l.length < 100000000) (hq : q.length < 1000000) {R} (h : ∀ n : Int, R (.tup [vi n, .val .nilIface]) (sb1 (l ++ q))) : ACalls Try.prog 87 [.ptr 0 0, .sl none 1 (byteEls q)] (sb1 l) R := by
  refine acalls_of_xwp (an := an87) tab_ok Try.func87 ?_
  (conv => whnf)
  refine copyCheck_again (.sl (some 1) 1 (byteEls l)) [.row 5 1 l.length] (closed_sb1 l) ?_
  (conv => whnf)
  refine ⟨(byteEls_length l).symm, by rw [byteEls_length, byteEls_length, bytes_u8]; omega, ?_⟩
  (conv => whnf)
  rw [byteEls_length, byteEls_length, ← byteEls_append, ← List.length_append]
  exact h _
theorem WriteByte_first (c : UInt8) {R} (h : R (.val .nilIface) (sb1 [c])) : ACalls Try.prog 86 [.ptr 0 0, .val (.int .u8 c.toNat)] sb0 R := by
  refine acalls_of_xwp (an := an86) tab_ok Try.func86 ?_
  (conv => whnf)
  refine copyCheck_first nilS [] closed_sb0 ?_
  (conv => whnf)
  refine ⟨(by rw [bytes_u8]; decide : 1 * ((tab.ti 5).bytes + 1) ≤ 140737488355328), ?_⟩
  (conv => whnf)
  exact h
theorem WriteByte_again (l : B) (c : UInt8) (hl : l.length < 100000000) {R} (h : R (.val .nilIface) (sb1 (l ++ [c]))) : ACalls Try.prog 86 [.ptr 0 0, .val (.int .u8 c.toNat)] (sb1 l) R := by
  refine acalls_of_xwp (an := an86) tab_ok Try.func86 ?_
  (conv => whnf)
  refine copyCheck_again (.sl (some 1) 1 (byteEls l)) [.row 5 1 l.length] (closed_sb1 l) ?_
  (conv => whnf)
  refine ⟨(byteEls_length l).symm, by rw [byteEls_length, bytes_u8]; simp; omega, ?_⟩
  (conv => whnf)
  have e1 : byteEls l ++ [[AV.val (.int .u8 c.toNat)]] = byteEls (l ++ [c]) := (byteEls_append l [c]).symm
  have e2 : (byteEls l).length + [[AV.val (.int .u8 (c.toNat : Int))]].length = (l ++ [c]).length := by simp [byteEls_length]
  rw [e1, e2]
  exact h

/-! ### bytes as signs -/
def sgn (pr : UInt8 → Bool) (c : UInt8) : B := if pr c then [c] else [92, hexc (c.toNat / 16), hexc (c.toNat % 16)]
def signsP (pr : UInt8 → Bool) (s : B) : B := s.flatMap (sgn pr)
theorem sgn_len (pr : UInt8 → Bool) (c : UInt8) : 1 ≤ (sgn pr c).length ∧ (sgn pr c).length ≤ 3 := by unfold sgn; split <;> simp
theorem signsP_len (pr : UInt8 → Bool) (s : B) : (signsP pr s).length ≤ 3 * s.length := by
  induction s with
  | nil => simp [signsP]
  | cons a s ih =>
    have := (sgn_len pr a).2
    simp only [signsP, List.flatMap_cons, List.length_append, List.length_cons] at ih ⊢
    omega
theorem u8_hi0 : (List.range 256).all (fun n => decide ((((UInt8.ofNat n).toNat : Nat) : Int).fdiv (2 ^ min ((4 : Int)).toNat IntKind.u8.bits) = (((UInt8.ofNat n).toNat / 16 : Nat) : Int) ∧ ibits .and .u8 (((UInt8.ofNat n).toNat : Nat) : Int) 15 = (((UInt8.ofNat n).toNat % 16 : Nat) : Int))) = true := by decide +kernel
theorem u8_hi (c : UInt8) : ((c.toNat : Nat) : Int).fdiv (2 ^ min ((4 : Int)).toNat IntKind.u8.bits) = ((c.toNat / 16 : Nat) : Int) ∧ ibits .and .u8 ((c.toNat : Nat) : Int) 15 = ((c.toNat % 16 : Nat) : Int) := by
  have h := List.all_eq_true.1 u8_hi0 c.toNat (List.mem_range.2 c.toNat_lt)
  rw [show UInt8.ofNat c.toNat = c by simp] at h
  exact of_decide_eq_true h
inductive SbSt where | fresh | a | b

theorem signs_calls (g : FuncId) (hg : tab.fn g = true) (pr : UInt8 → Bool) (hpr : ∀ (c : UInt8) R, R (.val (.bool (pr c))) [] → ACalls Try.prog g [.val (.int .u8 c.toNat)] [] R) (s : B) (hs0 : s ≠ []) (hs : s.length < 100000) {R} (h : ∀ d, d = ofB (signsP pr s) → R (.val (.string d)) []) :
    ACalls Try.prog 62 [vs s, .fn (.func g) [] []] [] R := by
  refine acalls_of_xwp (an := an62) tab_ok Try.func62 ?_
  (conv => whnf)
  have hdat : (ofB s).data.toList = s := bs_ofB s
  rw [hdat]
  have hsl : (byteEls s).length = s.length := byteEls_length s
  refine LoopP.ind3 (fun (i : Nat) (out : B) (st : SbSt) => [(11, vi i)])
    (fun i out st => match st with
      | .fresh => [(nameOf 5, sbC nilP nilS)]
      | .a => [(nameOf 5, sbC (.ptr (nameOf 5) 0) (.sl (some (freshN 19 0)) 1 (byteEls out))), (freshN 19 0, .row 5 1 out.length)]
      | .b => [(nameOf 5, sbC (.ptr (nameOf 5) 0) (.sl (some (freshN 27 0)) 1 (byteEls out))), (freshN 27 0, .row 5 1 out.length)])
    (fun i _ _ => s.length - i) (fun i out st => i ≤ s.length ∧ out = signsP pr (s.take i) ∧ (st = .fresh → i = 0 ∧ out = [])) 0 [] .fresh rfl ⟨by omega, by simp [signsP], fun _ => ⟨rfl, rfl⟩⟩ ?_
  rintro i out st ⟨h0, h1, h2⟩ IH
  have hol : out.length ≤ 3 * i := by
    have := signsP_len pr (s.take i)
    rw [← h1, List.length_take] at this
    omega
  cases st
  all_goals
    (conv => whnf)
    refine br_intro (fun hc => ?_) (fun hc => ?_)
  · have hc := lt_of_decE hsl hc
    have hlt := (s[i]).toNat_lt
    have out1 : signsP pr (s.take (i + 1)) = out ++ sgn pr s[i] := by
      rw [h1, List.take_succ_eq_append_getElem hc]
      simp only [signsP, List.flatMap_append, List.flatMap_cons, List.flatMap_nil, List.append_nil]
    (conv => whnf); (repeat ((with_reducible refine must_intro ?_ ?_); exact decide_eq_true (by omega); (conv => whnf)))
    refine idxK_map_intro (show (i : Int).toNat < s.length by simpa using hc) ?_
    rw [show s[(i : Int).toNat]'(by simpa using hc) = s[i] from by congr 1]
    (conv => whnf)
    refine must_intro hg ?_
    refine hpr s[i] _ ?_
    (conv => whnf)
    refine br_intro (fun hp => ?_) (fun hp => ?_)
    · have hsg : sgn pr s[i] = [s[i]] := by unfold sgn; rw [if_pos hp]
      rw [hsg] at out1
      (conv => whnf)
      obtain ⟨rfl, rfl⟩ := h2 rfl
      refine WriteByte_first s[0] ?_
      (conv => whnf)
      rw [i64_nat (by omega)]
      exact IH (0 + 1) ([] ++ [s[0]]) .a ⟨by omega, out1.symm, fun e => by cases e⟩ (by omega)
    · have hsg : sgn pr s[i] = [92, hexc ((s[i]).toNat / 16), hexc ((s[i]).toNat % 16)] := by unfold sgn; rw [if_neg (by rw [hp]; simp)]
      rw [hsg] at out1
      have lo : (s[i]).toNat / 16 < 16 := by omega
      (conv => whnf)
      refine must_intro (decide_eq_true (by rw [(u8_hi s[i]).1]; omega)) ?_
      refine must_intro (decide_eq_true (by rw [(u8_hi s[i]).1]; show ((_ : Nat) : Int) < 16; omega)) ?_
      (conv => whnf)
      refine must_intro (decide_eq_true (by rw [(u8_hi s[i]).2]; omega)) ?_
      refine must_intro (decide_eq_true (by rw [(u8_hi s[i]).2]; show ((_ : Nat) : Int) < 16; omega)) ?_
      (conv => whnf)
      have k1 : byteAt { data := #[48, 49, 50, 51, 52, 53, 54, 55, 56, 57, 97, 98, 99, 100, 101, 102] } (((s[i]).toNat : Int).fdiv (2 ^ min ((4 : Int)).toNat IntKind.u8.bits)).toNat = ((hexc ((s[i]).toNat / 16)).toNat : Int) := by
        rw [(u8_hi s[i]).1, Int.toNat_natCast]
        exact at_signs lo
      have k2 : byteAt { data := #[48, 49, 50, 51, 52, 53, 54, 55, 56, 57, 97, 98, 99, 100, 101, 102] } (ibits .and .u8 ((s[i]).toNat : Int) 15).toNat = ((hexc ((s[i]).toNat % 16)).toNat : Int) := by
        rw [(u8_hi s[i]).2, Int.toNat_natCast]
        exact at_signs (by omega)
      rw [k1, k2]
      obtain ⟨rfl, rfl⟩ := h2 rfl
      refine Write_first [92, hexc ((s[0]).toNat / 16), hexc ((s[0]).toNat % 16)] (by simp) fun n => ?_
      (conv => whnf)
      rw [i64_nat (by omega)]
      exact IH (0 + 1) ([] ++ [92, hexc ((s[0]).toNat / 16), hexc ((s[0]).toNat % 16)]) .b ⟨by omega, out1.symm, fun e => by cases e⟩ (by omega)
  · have hc := ge_of_decE hsl hc
    obtain ⟨rfl, _⟩ := h2 rfl
    exact absurd (List.eq_nil_of_length_eq_zero (by omega)) hs0
  · have hc := lt_of_decE hsl hc
    have hlt := (s[i]).toNat_lt
    have out1 : signsP pr (s.take (i + 1)) = out ++ sgn pr s[i] := by
      rw [h1, List.take_succ_eq_append_getElem hc]
      simp only [signsP, List.flatMap_append, List.flatMap_cons, List.flatMap_nil, List.append_nil]
    (conv => whnf); (repeat ((with_reducible refine must_intro ?_ ?_); exact decide_eq_true (by omega); (conv => whnf)))
    refine idxK_map_intro (show (i : Int).toNat < s.length by simpa using hc) ?_
    rw [show s[(i : Int).toNat]'(by simpa using hc) = s[i] from by congr 1]
    (conv => whnf)
    refine must_intro hg ?_
    refine hpr s[i] _ ?_
    (conv => whnf)
    refine br_intro (fun hp => ?_) (fun hp => ?_)
    · have hsg : sgn pr s[i] = [s[i]] := by unfold sgn; rw [if_pos hp]
      rw [hsg] at out1
      (conv => whnf)
      refine WriteByte_again out s[i] (by omega) ?_
      (conv => whnf)
      rw [i64_nat (by omega)]
      exact IH (i + 1) (out ++ [s[i]]) .a ⟨by omega, out1.symm, fun e => by cases e⟩ (by omega)
    · have hsg : sgn pr s[i] = [92, hexc ((s[i]).toNat / 16), hexc ((s[i]).toNat % 16)] := by unfold sgn; rw [if_neg (by rw [hp]; simp)]
      rw [hsg] at out1
      have lo : (s[i]).toNat / 16 < 16 := by omega
      (conv => whnf)
      refine must_intro (decide_eq_true (by rw [(u8_hi s[i]).1]; omega)) ?_
      refine must_intro (decide_eq_true (by rw [(u8_hi s[i]).1]; show ((_ : Nat) : Int) < 16; omega)) ?_
      (conv => whnf)
      refine must_intro (decide_eq_true (by rw [(u8_hi s[i]).2]; omega)) ?_
      refine must_intro (decide_eq_true (by rw [(u8_hi s[i]).2]; show ((_ : Nat) : Int) < 16; omega)) ?_
      (conv => whnf)
      have k1 : byteAt { data := #[48, 49, 50, 51, 52, 53, 54, 55, 56, 57, 97, 98, 99, 100, 101, 102] } (((s[i]).toNat : Int).fdiv (2 ^ min ((4 : Int)).toNat IntKind.u8.bits)).toNat = ((hexc ((s[i]).toNat / 16)).toNat : Int) := by
        rw [(u8_hi s[i]).1, Int.toNat_natCast]
        exact at_signs lo
      have k2 : byteAt { data := #[48, 49, 50, 51, 52, 53, 54, 55, 56, 57, 97, 98, 99, 100, 101, 102] } (ibits .and .u8 ((s[i]).toNat : Int) 15).toNat = ((hexc ((s[i]).toNat % 16)).toNat : Int) := by
        rw [(u8_hi s[i]).2, Int.toNat_natCast]
        exact at_signs (by omega)
      rw [k1, k2]
      refine Write_again out [92, hexc ((s[i]).toNat / 16), hexc ((s[i]).toNat % 16)] (by omega) (by simp) fun n => ?_
      (conv => whnf)
      rw [i64_nat (by omega)]
      exact IH (i + 1) (out ++ [92, hexc ((s[i]).toNat / 16), hexc ((s[i]).toNat % 16)]) .a ⟨by omega, out1.symm, fun e => by cases e⟩ (by omega)
  · have hc := ge_of_decE hsl hc
    rw [List.take_of_length_le hc] at h1
    have hne : out ≠ [] := by
      rw [h1]
      cases s with
      | nil => exact absurd rfl hs0
      | cons x s =>
        intro e
        have h3 := (sgn_len pr x).1
        have h4 : sgn pr x = [] := by
          simp only [signsP, List.flatMap_cons, List.append_eq_nil_iff] at e
          exact e.1
        rw [h4] at h3
        simp at h3
    (conv => whnf)
    refine sbString_calls nilP out hne ?_
    (conv => whnf)
    exact h _ (by rw [h1])
  · have hc := lt_of_decE hsl hc
    have hlt := (s[i]).toNat_lt
    have out1 : signsP pr (s.take (i + 1)) = out ++ sgn pr s[i] := by
      rw [h1, List.take_succ_eq_append_getElem hc]
      simp only [signsP, List.flatMap_append, List.flatMap_cons, List.flatMap_nil, List.append_nil]
    (conv => whnf); (repeat ((with_reducible refine must_intro ?_ ?_); exact decide_eq_true (by omega); (conv => whnf)))
    refine idxK_map_intro (show (i : Int).toNat < s.length by simpa using hc) ?_
    rw [show s[(i : Int).toNat]'(by simpa using hc) = s[i] from by congr 1]
    (conv => whnf)
    refine must_intro hg ?_
    refine hpr s[i] _ ?_
    (conv => whnf)
    refine br_intro (fun hp => ?_) (fun hp => ?_)
    · have hsg : sgn pr s[i] = [s[i]] := by unfold sgn; rw [if_pos hp]
      rw [hsg] at out1
      (conv => whnf)
      refine WriteByte_again out s[i] (by omega) ?_
      (conv => whnf)
      rw [i64_nat (by omega)]
      exact IH (i + 1) (out ++ [s[i]]) .b ⟨by omega, out1.symm, fun e => by cases e⟩ (by omega)
    · have hsg : sgn pr s[i] = [92, hexc ((s[i]).toNat / 16), hexc ((s[i]).toNat % 16)] := by unfold sgn; rw [if_neg (by rw [hp]; simp)]
      rw [hsg] at out1
      have lo : (s[i]).toNat / 16 < 16 := by omega
      (conv => whnf)
      refine must_intro (decide_eq_true (by rw [(u8_hi s[i]).1]; omega)) ?_
      refine must_intro (decide_eq_true (by rw [(u8_hi s[i]).1]; show ((_ : Nat) : Int) < 16; omega)) ?_
      (conv => whnf)
      refine must_intro (decide_eq_true (by rw [(u8_hi s[i]).2]; omega)) ?_
      refine must_intro (decide_eq_true (by rw [(u8_hi s[i]).2]; show ((_ : Nat) : Int) < 16; omega)) ?_
      (conv => whnf)
      have k1 : byteAt { data := #[48, 49, 50, 51, 52, 53, 54, 55, 56, 57, 97, 98, 99, 100, 101, 102] } (((s[i]).toNat : Int).fdiv (2 ^ min ((4 : Int)).toNat IntKind.u8.bits)).toNat = ((hexc ((s[i]).toNat / 16)).toNat : Int) := by
        rw [(u8_hi s[i]).1, Int.toNat_natCast]
        exact at_signs lo
      have k2 : byteAt { data := #[48, 49, 50, 51, 52, 53, 54, 55, 56, 57, 97, 98, 99, 100, 101, 102] } (ibits .and .u8 ((s[i]).toNat : Int) 15).toNat = ((hexc ((s[i]).toNat % 16)).toNat : Int) := by
        rw [(u8_hi s[i]).2, Int.toNat_natCast]
        exact at_signs (by omega)
      rw [k1, k2]
      refine Write_again out [92, hexc ((s[i]).toNat / 16), hexc ((s[i]).toNat % 16)] (by omega) (by simp) fun n => ?_
      (conv => whnf)
      rw [i64_nat (by omega)]
      exact IH (i + 1) (out ++ [92, hexc ((s[i]).toNat / 16), hexc ((s[i]).toNat % 16)]) .b ⟨by omega, out1.symm, fun e => by cases e⟩ (by omega)
  · have hc := ge_of_decE hsl hc
    rw [List.take_of_length_le hc] at h1
    have hne : out ≠ [] := by
      rw [h1]
      cases s with
      | nil => exact absurd rfl hs0
      | cons x s =>
        intro e
        have h3 := (sgn_len pr x).1
        have h4 : sgn pr x = [] := by
          simp only [signsP, List.flatMap_cons, List.append_eq_nil_iff] at e
          exact e.1
        rw [h4] at h3
        simp at h3
    (conv => whnf)
    refine sbString_calls nilP out hne ?_
    (conv => whnf)
    exact h _ (by rw [h1])
end Go.Abs
