/- The digest's digits: the functions. -/
import Derived.Test.YtlagdcbgkfaheaaD5
import Derived.Test.YtlagdcbgkfaheaaD4
set_option maxRecDepth 100000
set_option linter.unusedVariables false
set_option linter.unusedSimpArgs false
namespace Go.Abs
open Go Go.Proofs Dig
attribute [local irreducible] ibits byteAt strLt firstIdx

theorem slIndexByte_calls (s : ByteArray) (c : Int) {R} (h : R (.val (.int .i64 (firstIdx s c.toNat.toUInt8))) []) : ACalls Try.prog 66 [.val (.string s), .val (.int .u8 c)] [] R := by
  refine acalls_of_xwp (an := an66) tab_ok Try.func66 ?_
  (conv => whnf)
  refine indexByte_x Try.func89 rfl rfl rfl rfl s c ?_
  (conv => whnf)
  exact h
theorem IndexByte_calls (s : ByteArray) (c : Int) {R} (h : ∀ r, r = firstIdx s c.toNat.toUInt8 → R (.val (.int .i64 r)) []) : ACalls Try.prog 29 [.val (.string s), .val (.int .u8 c)] [] R := by
  refine acalls_of_xwp (an := an29) tab_ok Try.func29 ?_
  (conv => whnf)
  refine slIndexByte_calls s c ?_
  (conv => whnf)
  exact h _ rfl

theorem and15_lo (h : U) (e : Nat) : 0 ≤ ibits .and .u64 ((h.toNat : Int).fdiv (2 ^ e)) 15 := by rw [and15_of]; omega
theorem and15_hi (h : U) (e : Nat) : ibits .and .u64 ((h.toNat : Int).fdiv (2 ^ e)) 15 < 16 := by rw [and15_of]; omega
def hexN (h : U) (e : Nat) : Int := byteAt (ofB signsB) (ibits .and .u64 ((h.toNat : Int).fdiv (2 ^ e)) 15).toNat
theorem hex_at (h : U) (e : Nat) : byteAt (ofB signsB) (ibits .and .u64 ((h.toNat : Int).fdiv (2 ^ e)) 15).toNat = ((hexc (h.toNat / 2 ^ e % 16)).toNat : Int) := by
  rw [and15_of, Int.toNat_natCast, at_signs (Nat.mod_lt _ (by omega))]


theorem Hex_calls (h : U) {R} (k : ∀ d, d = ofB (hexB h) → R (.val (.string d)) []) : ACalls Try.prog 23 [uv h] [] R := by
  refine acalls_of_xwp (an := an23) tab_ok Try.func23 ?_
  (conv => whnf)
  iterate 16
    refine LoopP.step ?_
    (conv => whnf)
    refine must_intro (decide_eq_true (and15_lo _ _)) ?_
    refine must_intro (decide_eq_true (and15_hi _ _)) ?_
    (conv => whnf)
  refine LoopP.step ?_
  (conv => whnf)
  refine ⟨[hexN h 60, hexN h 56, hexN h 52, hexN h 48, hexN h 44, hexN h 40, hexN h 36, hexN h 32, hexN h 28, hexN h 24, hexN h 20, hexN h 16, hexN h 12, hexN h 8, hexN h 4, hexN h 0], rfl, rfl, ?_⟩
  (conv => whnf)
  refine k _ ?_
  rw [← strOfNums_ofB]
  congr 1
  simp only [hexN, hex_at]
  rfl

/-! ### the number of digits -/
theorem hexi_lo (c : UInt8) : hexi c < 0 ↔ hexv c = none := by
  unfold hexi
  cases hexv c with
  | none => simp
  | some d => simp
theorem shl_or {n d : Nat} (hn : n < 18446744073709551616) (hd : d < 16) : ibits .or .u64 (IntKind.u64.wrap ((n : Int) * 2 ^ min ((4 : Int)).toNat IntKind.u64.bits)) (IntKind.u64.wrap (d : Int)) = ((16 * n + d) % 18446744073709551616 : Nat) := by
  have e0 : (2 : Int) ^ min ((4 : Int)).toNat IntKind.u64.bits = 16 := rfl
  rw [e0, wrap_u64, wrap_u64]
  have e1 : ((n : Int) * 16 % 18446744073709551616) = ((n * 16 % 18446744073709551616 : Nat) : Int) := by omega
  have e2 : ((d : Int) % 18446744073709551616) = ((d : Nat) : Int) := by omega
  rw [e1, e2]
  simp only [ibits]
  have f1 : ∀ x : Nat, BitVec.ofInt IntKind.u64.bits (x : Int) = BitVec.ofNat 64 x := fun x => by
    show BitVec.ofInt 64 (x : Int) = _
    simp
  rw [f1, f1, wrap_u64]
  have f2 : (n * 16 % 18446744073709551616) = 2 ^ 4 * (n % 2 ^ 60) := by omega
  have f3 : ((BitVec.ofNat 64 (n * 16 % 18446744073709551616) ||| BitVec.ofNat 64 d : BitVec 64)).toNat = 2 ^ 4 * (n % 2 ^ 60) + d := by
    rw [BitVec.toNat_or, BitVec.toNat_ofNat, BitVec.toNat_ofNat, f2, Nat.mod_eq_of_lt (show 2 ^ 4 * (n % 2 ^ 60) < 2 ^ 64 by omega), Nat.mod_eq_of_lt (show d < 2 ^ 64 by omega), Nat.two_pow_add_eq_or_of_lt (show d < 2 ^ 4 by omega)]
  show (((BitVec.ofNat 64 (n * 16 % 18446744073709551616) ||| BitVec.ofNat 64 d : BitVec 64).toNat : Int)) % _ = _
  rw [f3]
  omega

/-- As long as there are no more than 16 digits nothing is lost. -/
def readW : B → Nat → Option Nat
  | [], n => some n
  | c :: l, n => match hexv c with
    | some d => readW l ((16 * n + d) % 18446744073709551616)
    | none => none
theorem readW_eq : ∀ (l : B) (n : Nat), readW l (n % 18446744073709551616) = (readL l n).map (· % 18446744073709551616) := by
  intro l
  induction l with
  | nil => intro n; simp [readW, readL]
  | cons c l ih =>
    intro n
    simp only [readW, readL]
    cases hexv c with
    | none => simp
    | some d =>
      simp only
      rw [← ih]
      congr 1
      omega
theorem readB_W (s : B) (h : s.length = 16) : readB s = (readW s 0).map (BitVec.ofNat 64) := by
  have := readW_eq s 0
  simp only [Nat.zero_mod] at this
  unfold readB
  rw [if_pos h, this]
  cases readL s 0 with
  | none => rfl
  | some n => simp only [Option.map_some, Option.some.injEq]; exact BitVec.eq_of_toNat_eq (by simp)
theorem readW_lt : ∀ (l : B) (n m : Nat), n < 18446744073709551616 → readW l n = some m → m < 18446744073709551616 := by
  intro l
  induction l with
  | nil => intro n m hn h; simp only [readW, Option.some.injEq] at h; omega
  | cons c l ih =>
    intro n m hn h
    simp only [readW] at h
    split at h
    · exact ih _ _ (Nat.mod_lt _ (by omega)) h
    · cases h

def vread (o : Option U) : AV := .tup [uv (o.getD 0), .val (.bool o.isSome)]
theorem Read_calls (s : B) (hs : s.length ≤ 1000000) {R} (k : ∀ o, o = readB s → R (vread o) []) : ACalls Try.prog 21 [.val (.string (ofB s))] [] R := by
  refine acalls_of_xwp (an := an21) tab_ok Try.func21 ?_
  have hsz : (ofB s).size = s.length := size_ofB s
  (conv => whnf)
  refine LoopP.ind2 (fun (i n : Nat) => [(4, .val (.int .u64 n)), (9, .val (.int .i64 i))]) (fun _ _ => []) (fun i _ => s.length - i)
    (fun i n => i ≤ s.length ∧ n < 18446744073709551616 ∧ readW (s.drop i) n = readW s 0) 0 0 rfl ⟨by simp, by simp, by simp⟩ ?_
  rintro i n ⟨h1, h2, h3⟩ IH
  (conv => whnf)
  refine br_intro (fun hc => ?_) (fun hc => ?_)
  · have hc : i < s.length := by simp at hc; omega
    rw [List.drop_eq_getElem_cons hc] at h3
    (conv => whnf)
    refine must_intro (decide_eq_true (by omega)) ?_
    (conv => whnf)
    refine IndexByte_calls _ _ fun r hr => ?_
    rw [Int.toNat_natCast, byteAt_ofB s hc, u8_back] at hr
    have hr : r = hexi s[i] := hr.trans (idx_signs _)
    (conv => whnf)
    refine br_intro (fun hc => ?_) (fun hc => ?_)
    · (conv => whnf)
      have hn : hexv s[i] = none := by rw [← hexi_lo, ← hr]; simpa using hc
      have : readB s = none := by
        unfold readB
        split
        · rename_i hl
          have := readB_W s hl
          rw [← h3] at this
          simp only [readW, hn, Option.map_none] at this
          unfold readB at this
          rwa [if_pos hl] at this
        · rfl
      exact k none this.symm
    · (conv => whnf)
      have hd : ∃ d, hexv s[i] = some d := by
        cases e : hexv s[i] with
        | none => rw [← hexi_lo, ← hr] at e; simp at hc; omega
        | some d => exact ⟨d, rfl⟩
      obtain ⟨d, hd⟩ := hd
      have hd16 := (hexc_hexv hd).2
      have hrd : r = (d : Int) := by rw [hr]; simp [hexi, hd]
      rw [hrd]
      rw [shl_or h2 hd16, wrap_i64 (by omega) (by omega)]
      refine IH (i + 1) ((16 * n + d) % 18446744073709551616) ⟨by omega, by omega, ?_⟩ (by omega)
      rw [← h3]
      simp only [readW, hd]
  · have hc : i = s.length := by simp at hc; omega
    subst hc
    rw [List.drop_length] at h3
    simp only [readW] at h3
    (conv => whnf)
    refine br_intro (fun hc => ?_) (fun hc => ?_)
    · (conv => whnf)
      refine k none ?_
      unfold readB
      rw [if_neg]
      simp at hc
      omega
    · (conv => whnf)
      have hl : s.length = 16 := by simp at hc; omega
      have hk := k (some (BitVec.ofNat 64 n)) (by rw [readB_W s hl, ← h3]; rfl)
      simpa [vread, uv, Nat.mod_eq_of_lt h2] using hk
end Go.Abs
