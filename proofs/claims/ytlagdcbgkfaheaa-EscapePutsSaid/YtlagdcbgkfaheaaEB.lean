/- Words of texts (escape): the document's functions, the statements EscapePuts and EscapeGets. -/
import Derived.Test.YtlagdcbgkfaheaaEA
import Derived.Test.YtlagdcbgkfaheaaD7
set_option maxRecDepth 100000
set_option linter.unusedVariables false
set_option linter.unusedSimpArgs false
namespace Go.Abs
open Go Go.Proofs
attribute [local irreducible] ibits byteAt strLt firstIdx

/-! ### signs, parted -/
def okPr (pr : UInt8 → Bool) : Prop := ∀ c, pr c = true → c ≠ 92
theorem ok_plain : okPr plainP := fun c h => by
  unfold plainP at h
  simp only [Bool.and_eq_true, decide_eq_true_eq] at h
  exact h.2.2
theorem ok_none : okPr noneP := fun c h => by cases h
theorem sgn_hex (c : UInt8) : hexv (hexc (c.toNat / 16)) = some (c.toNat / 16) ∧ hexv (hexc (c.toNat % 16)) = some (c.toNat % 16) ∧ UInt8.ofNat (16 * (c.toNat / 16) + c.toNat % 16) = c := by
  have := c.toNat_lt
  refine ⟨hexv_hexc (by omega), hexv_hexc (by omega), ?_⟩
  rw [show 16 * (c.toNat / 16) + c.toNat % 16 = c.toNat by omega]
  simp
theorem dec_sgn {pr : UInt8 → Bool} (hpr : okPr pr) (c : UInt8) (r : B) : dec (sgn pr c ++ r) = (dec r).map (c :: ·) := by
  unfold sgn
  split
  · rename_i h
    show dec (c :: r) = _
    conv => lhs; unfold dec
    rw [if_pos (hpr c h)]
  · show dec (92 :: hexc (c.toNat / 16) :: hexc (c.toNat % 16) :: r) = _
    obtain ⟨h1, h2, h3⟩ := sgn_hex c
    rw [dec, if_neg (by simp), h1, h2]
    simp only [h3]
theorem dec_signs {pr : UInt8 → Bool} (hpr : okPr pr) : ∀ (o : B), dec (signsP pr o) = some o := by
  intro o
  induction o with
  | nil => simp [signsP, dec]
  | cons c o ih =>
    show dec (sgn pr c ++ signsP pr o) = _
    rw [dec_sgn hpr, ih]
    rfl
theorem sgn_pre {pr : UInt8 → Bool} (hpr : okPr pr) {c d : UInt8} {r t : B} (h : sgn pr c ++ r = sgn pr d ++ t) : c = d ∧ r = t := by
  have key : c = d := by
    unfold sgn at h
    split at h
    · rename_i h1
      split at h
      · rename_i h2
        injection h with h
      · injection h with h _
        exact absurd h (hpr c h1)
    · split at h
      · rename_i h2
        injection h with h _
        exact absurd h.symm (hpr d h2)
      · obtain ⟨a1, a2, a3⟩ := sgn_hex c
        obtain ⟨b1, b2, b3⟩ := sgn_hex d
        injection h with _ h
        injection h with e1 h
        injection h with e2 h
        rw [e1, b1] at a1
        rw [e2, b2] at a2
        simp only [Option.some.injEq] at a1 a2
        rw [← a3, ← b3, a1, a2]
  subst key
  exact ⟨rfl, List.append_cancel_left h⟩
theorem signs_pre {pr : UInt8 → Bool} (hpr : okPr pr) : ∀ (out o : B) (rest : B), signsP pr o = signsP pr out ++ rest → ∃ o', o = out ++ o' ∧ rest = signsP pr o' := by
  intro out
  induction out with
  | nil => intro o rest h; exact ⟨o, rfl, by simpa [signsP] using h.symm⟩
  | cons d out ih =>
    intro o rest h
    cases o with
    | nil =>
      exfalso
      have := congrArg List.length h
      have h1 := (sgn_len pr d).1
      simp [signsP] at this
      omega
    | cons c o =>
      have h' : sgn pr c ++ signsP pr o = sgn pr d ++ (signsP pr out ++ rest) := by
        rw [← List.append_assoc]; exact h
      obtain ⟨rfl, h2⟩ := sgn_pre hpr h'
      obtain ⟨o', rfl, h3⟩ := ih o rest h2
      exact ⟨o', rfl, h3⟩
def prW (w : B) : UInt8 → Bool := if w = [92, 50, 100] then noneP else plainP
theorem ok_prW (w : B) : okPr (prW w) := by unfold prW; split; exact ok_none; exact ok_plain
def refGetP (w : B) : Option B := if w = [45] then some [] else match dec w with
  | none => none
  | some o => if signsP (prW w) o = w ∧ o ≠ [] then some o else none
theorem getP_ref (w : B) : getP w = refGetP w := by
  unfold getP refGetP
  by_cases hw : w = [45]
  · subst hw
    decide +kernel
  rw [if_neg hw]
  cases hd : dec w with
  | none => rfl
  | some o =>
    simp only [if_neg hw]
    by_cases ho : o = []
    · subst ho
      rw [if_neg (by intro e; exact hw e.symm), if_neg (by simp)]
    have iff : putP o = w ↔ signsP (prW w) o = w := by
      unfold putP prW
      rw [if_neg ho]
      by_cases h45 : o = [45]
      · subst h45
        rw [if_pos rfl]
        have e1 : signsP noneP [45] = [92, 50, 100] := by decide +kernel
        have e2 : signsP plainP [45] = [45] := by decide +kernel
        constructor
        · intro e
          rw [if_pos (by rw [← e, e1])]
          exact e
        · intro e
          by_cases h2d : w = [92, 50, 100]
          · rw [h2d, e1]
          · rw [if_neg h2d, e2] at e
            exact absurd e.symm hw
      · rw [if_neg h45]
        by_cases h2d : w = [92, 50, 100]
        · subst h2d
          have : dec [92, 50, 100] = some [45] := by decide +kernel
          rw [this] at hd
          exact absurd (Option.some.inj hd).symm h45
        · rw [if_neg h2d]
    by_cases hp : putP o = w
    · rw [if_pos hp, if_pos ⟨iff.1 hp, ho⟩]
    · rw [if_neg hp, if_neg (fun h => hp (iff.2 h.1))]
/-- What is put is read as the text. -/
theorem getP_putP (s : B) : getP (putP s) = some s := by
  unfold getP
  by_cases h0 : s = []
  · subst h0; decide +kernel
  have hp : putP s = signsP (if s = [45] then noneP else plainP) s := by rw [putP, if_neg h0]
  have hok : okPr (if s = [45] then noneP else plainP) := by split; exact ok_none; exact ok_plain
  rw [hp, dec_signs hok]
  have hne : signsP (if s = [45] then noneP else plainP) s ≠ [45] := by
    intro e
    have h1 := dec_signs hok s
    rw [e] at h1
    have h2 : dec [45] = some [45] := by decide +kernel
    rw [h2] at h1
    have h3 : s = [45] := (Option.some.inj h1).symm
    subst h3
    revert e
    decide +kernel
  simp only [if_neg hne]
  rw [hp, if_pos rfl]

/-! ### the document's -/
theorem u8_quo (c : UInt8) : IntKind.u8.wrap (((c.toNat : Nat) : Int).tdiv 16) = ((c.toNat / 16 : Nat) : Int) ∧ (((c.toNat : Nat) : Int)).tmod 16 = ((c.toNat % 16 : Nat) : Int) := by
  have := c.toNat_lt
  rw [wrap_u8, Int.tdiv_eq_ediv_of_nonneg (Int.natCast_nonneg _), Int.tmod_eq_emod_of_nonneg (Int.natCast_nonneg _)]
  omega

theorem sign_calls (c : UInt8) (b : Bool) {R} (h : ∀ d, d = ofB (sgn (if b = true then noneP else plainP) c) → R (.val (.string d)) []) : ACalls Try.prog 65 [.val (.int .u8 c.toNat), .val (.bool b)] [] R := by
  refine acalls_of_xwp (an := an65) tab_ok Try.func65 ?_
  have hlt := c.toNat_lt
  have e3 : (((c.toNat : Nat) : Int) != 92) = decide (c ≠ 92) := u8_ne (n := 92) (by omega)
  cases b with
  | true =>
    (conv => whnf)
    refine must_intro (decide_eq_true (by rw [(u8_quo c).1]; show ((_ : Nat) : Int) < 16; omega)) ?_
    (conv => whnf)
    refine must_intro (decide_eq_true (by rw [(u8_quo c).2]; show ((_ : Nat) : Int) < 16; omega)) ?_
    (conv => whnf)
    refine ⟨[92, (((hexc (c.toNat / 16)).toNat : Nat) : Int), (((hexc (c.toNat % 16)).toNat : Nat) : Int)], ?_, ?_⟩
    · have k1 : byteAt { data := #[48, 49, 50, 51, 52, 53, 54, 55, 56, 57, 97, 98, 99, 100, 101, 102] } (IntKind.u8.wrap (((c.toNat : Nat) : Int).tdiv 16)).toNat = ((hexc (c.toNat / 16)).toNat : Int) := by
        rw [(u8_quo c).1, Int.toNat_natCast]
        exact at_signs (by omega)
      have k2 : byteAt { data := #[48, 49, 50, 51, 52, 53, 54, 55, 56, 57, 97, 98, 99, 100, 101, 102] } (((c.toNat : Nat) : Int).tmod 16).toNat = ((hexc (c.toNat % 16)).toNat : Int) := by
        rw [(u8_quo c).2, Int.toNat_natCast]
        exact at_signs (by omega)
      rw [k1, k2]
      rfl
    (conv => whnf)
    refine h _ ?_
    have e := strOfNums_ofB [92, hexc (c.toNat / 16), hexc (c.toNat % 16)]
    refine e.trans ?_
    congr 1
  | false =>
    have esc : plainP c = false → [92, hexc (c.toNat / 16), hexc (c.toNat % 16)] = sgn (if false = true then noneP else plainP) c := by
      intro hp
      rw [if_neg (by simp), sgn, hp]
      rfl
    (conv => whnf)
    refine br_intro (fun g1 => ?_) (fun g1 => ?_)
    · have g1 : 33 ≤ c.toNat := by simp at g1; omega
      (conv => whnf)
      refine br_intro (fun g2 => ?_) (fun g2 => ?_)
      · have g2 : c.toNat ≤ 126 := by simp at g2; omega
        (conv => whnf)
        rw [e3]
        refine br_intro (fun g3 => ?_) (fun g3 => ?_)
        · have g3 : c ≠ 92 := of_decide_eq_true g3
          (conv => whnf)
          refine ⟨[((c.toNat : Nat) : Int)], rfl, ?_⟩
          (conv => whnf)
          refine h _ ?_
          have e := strOfNums_ofB [c]
          refine e.trans ?_
          congr 1
          rw [if_neg (by simp), sgn, if_pos (by simp [plainP, g1, g2, g3])]
        · have g3 : c = 92 := by simpa using g3
          have hp : plainP c = false := by rw [g3]; decide
          (conv => whnf)
          refine must_intro (decide_eq_true (by rw [(u8_quo c).1]; show ((_ : Nat) : Int) < 16; omega)) ?_
          (conv => whnf)
          refine must_intro (decide_eq_true (by rw [(u8_quo c).2]; show ((_ : Nat) : Int) < 16; omega)) ?_
          (conv => whnf)
          refine ⟨[92, (((hexc (c.toNat / 16)).toNat : Nat) : Int), (((hexc (c.toNat % 16)).toNat : Nat) : Int)], ?_, ?_⟩
          · have k1 : byteAt { data := #[48, 49, 50, 51, 52, 53, 54, 55, 56, 57, 97, 98, 99, 100, 101, 102] } (IntKind.u8.wrap (((c.toNat : Nat) : Int).tdiv 16)).toNat = ((hexc (c.toNat / 16)).toNat : Int) := by
              rw [(u8_quo c).1, Int.toNat_natCast]
              exact at_signs (by omega)
            have k2 : byteAt { data := #[48, 49, 50, 51, 52, 53, 54, 55, 56, 57, 97, 98, 99, 100, 101, 102] } (((c.toNat : Nat) : Int).tmod 16).toNat = ((hexc (c.toNat % 16)).toNat : Int) := by
              rw [(u8_quo c).2, Int.toNat_natCast]
              exact at_signs (by omega)
            rw [k1, k2]
            rfl
          (conv => whnf)
          refine h _ ?_
          have e := strOfNums_ofB [92, hexc (c.toNat / 16), hexc (c.toNat % 16)]
          refine e.trans ?_
          congr 1
          exact esc hp
      · have hp : plainP c = false := by
          have g2 : ¬ c.toNat ≤ 126 := by simp at g2; omega
          simp [plainP, g2]
        (conv => whnf)
        refine must_intro (decide_eq_true (by rw [(u8_quo c).1]; show ((_ : Nat) : Int) < 16; omega)) ?_
        (conv => whnf)
        refine must_intro (decide_eq_true (by rw [(u8_quo c).2]; show ((_ : Nat) : Int) < 16; omega)) ?_
        (conv => whnf)
        refine ⟨[92, (((hexc (c.toNat / 16)).toNat : Nat) : Int), (((hexc (c.toNat % 16)).toNat : Nat) : Int)], ?_, ?_⟩
        · have k1 : byteAt { data := #[48, 49, 50, 51, 52, 53, 54, 55, 56, 57, 97, 98, 99, 100, 101, 102] } (IntKind.u8.wrap (((c.toNat : Nat) : Int).tdiv 16)).toNat = ((hexc (c.toNat / 16)).toNat : Int) := by
            rw [(u8_quo c).1, Int.toNat_natCast]
            exact at_signs (by omega)
          have k2 : byteAt { data := #[48, 49, 50, 51, 52, 53, 54, 55, 56, 57, 97, 98, 99, 100, 101, 102] } (((c.toNat : Nat) : Int).tmod 16).toNat = ((hexc (c.toNat % 16)).toNat : Int) := by
            rw [(u8_quo c).2, Int.toNat_natCast]
            exact at_signs (by omega)
          rw [k1, k2]
          rfl
        (conv => whnf)
        refine h _ ?_
        have e := strOfNums_ofB [92, hexc (c.toNat / 16), hexc (c.toNat % 16)]
        refine e.trans ?_
        congr 1
        exact esc hp
    · have hp : plainP c = false := by
        have g1 : ¬ 33 ≤ c.toNat := by simp at g1; omega
        simp [plainP, g1]
      (conv => whnf)
      refine must_intro (decide_eq_true (by rw [(u8_quo c).1]; show ((_ : Nat) : Int) < 16; omega)) ?_
      (conv => whnf)
      refine must_intro (decide_eq_true (by rw [(u8_quo c).2]; show ((_ : Nat) : Int) < 16; omega)) ?_
      (conv => whnf)
      refine ⟨[92, (((hexc (c.toNat / 16)).toNat : Nat) : Int), (((hexc (c.toNat % 16)).toNat : Nat) : Int)], ?_, ?_⟩
      · have k1 : byteAt { data := #[48, 49, 50, 51, 52, 53, 54, 55, 56, 57, 97, 98, 99, 100, 101, 102] } (IntKind.u8.wrap (((c.toNat : Nat) : Int).tdiv 16)).toNat = ((hexc (c.toNat / 16)).toNat : Int) := by
          rw [(u8_quo c).1, Int.toNat_natCast]
          exact at_signs (by omega)
        have k2 : byteAt { data := #[48, 49, 50, 51, 52, 53, 54, 55, 56, 57, 97, 98, 99, 100, 101, 102] } (((c.toNat : Nat) : Int).tmod 16).toNat = ((hexc (c.toNat % 16)).toNat : Int) := by
          rw [(u8_quo c).2, Int.toNat_natCast]
          exact at_signs (by omega)
        rw [k1, k2]
        rfl
      (conv => whnf)
      refine h _ ?_
      have e := strOfNums_ofB [92, hexc (c.toNat / 16), hexc (c.toNat % 16)]
      refine e.trans ?_
      congr 1
      exact esc hp
end Go.Abs
