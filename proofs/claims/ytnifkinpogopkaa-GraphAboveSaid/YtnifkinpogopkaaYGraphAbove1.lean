/- Several texts of this claim, one behind the other: D5, E1, D1, D2, C2, E2, E3, E4, SH, H1, K1, K2, K3, E5, E6, E7, EG, F7, G1, G2, G3. -/
import Derived.Test.YtnifkinpogopkaaB9
import Derived.Test.YtnifkinpogopkaaAT
import Derived.Test.YtnifkinpogopkaaAN
import Derived.Test.YtnifkinpogopkaaC1
import Derived.Shelf.Small.Bits
import Derived.Shelf.Strconv.Itoa0
import Derived.Shelf.Sort.Plain
import Derived.Shelf.Slices.In.SortNone
import Derived.Test.YtnifkinpogopkaaProg
import Derived.Sort.OwnSorted
import Derived.RangeFuncBound
import Derived.RangeFuncGives
import Derived.RangeFuncSeq
import Derived.Sort.MapsRangeIn
import Derived.Sort.KeysCollected
import Derived.Maps.AppendAt
import Derived.Shelf.Abstract
import Derived.WalkKit
import Derived.OwnWalkIn
import Derived.TacticsInMore
import Derived.RegionIn
import Derived.LoopNIn
import Derived.LoopIn

section
/- Words for texts: a text is a row of bytes. -/
set_option maxRecDepth 100000
set_option linter.unusedVariables false
set_option linter.unusedSimpArgs false
namespace Go.Abs
open Go Go.Proofs

abbrev B := List UInt8
def ofB (l : B) : ByteArray := ⟨l.toArray⟩
def bs (s : ByteArray) : B := s.data.toList
theorem bs_ofB (l : B) : bs (ofB l) = l := by simp [bs, ofB]
theorem ofB_bs (s : ByteArray) : ofB (bs s) = s := by simp [bs, ofB]
theorem bs_inj {s t : ByteArray} (h : bs s = bs t) : s = t := by rw [← ofB_bs s, h, ofB_bs]
theorem ofB_inj {l m : B} (h : ofB l = ofB m) : l = m := by rw [← bs_ofB l, h, bs_ofB]
theorem ofB_eq {l m : B} : ofB l = ofB m ↔ l = m := ⟨ofB_inj, fun h => by rw [h]⟩
theorem bs_append (s t : ByteArray) : bs (s ++ t) = bs s ++ bs t := by simp [bs]
theorem ofB_append (l m : B) : ofB l ++ ofB m = ofB (l ++ m) := bs_inj (by rw [bs_append, bs_ofB, bs_ofB, bs_ofB])
theorem size_bs (s : ByteArray) : s.size = (bs s).length := by simp [bs]
theorem size_ofB (l : B) : (ofB l).size = l.length := by rw [size_bs, bs_ofB]
theorem bs_extract (s : ByteArray) (a b : Nat) : bs (s.extract a b) = ((bs s).take b).drop a := by
  simp [bs, ByteArray.data_extract, List.drop_take]
theorem ofB_extract (l : B) (a b : Nat) : (ofB l).extract a b = ofB ((l.take b).drop a) := bs_inj (by rw [bs_extract, bs_ofB, bs_ofB])
theorem byteAt_ofB (l : B) {i : Nat} (h : i < l.length) : byteAt (ofB l) i = ((l[i]).toNat : Int) := by
  have hs : i < (ofB l).size := by rw [size_ofB]; exact h
  unfold byteAt
  rw [dif_pos hs]
  rfl
theorem strOfNums_ofB (l : B) : strOfNums (l.map fun b => (b.toNat : Int)) = ofB l := bs_inj (by
  rw [bs_ofB]
  show (strOfNums _).data.toList = _
  rw [strOfNums_data, List.map_map]
  conv => rhs; rw [← List.map_id l]
  refine List.map_congr_left fun b _ => ?_
  simp)
theorem u8_back (b : UInt8) : ((b.toNat : Int)).toNat.toUInt8 = b := by simp
theorem u8_inj {a b : UInt8} : ((a.toNat : Int) = (b.toNat : Int)) ↔ a = b := ⟨fun h => UInt8.toNat_inj.1 (by omega), fun h => by rw [h]⟩

/-! ### hexadecimal digits -/
def signsB : B := [48, 49, 50, 51, 52, 53, 54, 55, 56, 57, 97, 98, 99, 100, 101, 102]
def hexc (d : Nat) : UInt8 := if d < 10 then UInt8.ofNat (48 + d) else UInt8.ofNat (87 + d)
def hexv (c : UInt8) : Option Nat := if 48 ≤ c.toNat ∧ c.toNat ≤ 57 then some (c.toNat - 48) else if 97 ≤ c.toNat ∧ c.toNat ≤ 102 then some (c.toNat - 87) else none
def hexi (c : UInt8) : Int := match hexv c with | some d => d | none => -1
theorem idx_signs0 : (List.range 256).all (fun n => decide (firstIdx (ofB signsB) (UInt8.ofNat n) = hexi (UInt8.ofNat n))) = true := by decide +kernel
theorem idx_signs (c : UInt8) : firstIdx (ofB signsB) c = hexi c := by
  have h := List.all_eq_true.1 idx_signs0 c.toNat (List.mem_range.2 c.toNat_lt)
  simpa using h
theorem at_signs0 : (List.range 16).all (fun d => decide (byteAt (ofB signsB) d = ((hexc d).toNat : Int))) = true := by decide +kernel
theorem at_signs {d : Nat} (h : d < 16) : byteAt (ofB signsB) d = ((hexc d).toNat : Int) := by
  have h := List.all_eq_true.1 at_signs0 d (List.mem_range.2 h)
  simpa using h
theorem hexv_hexc0 : (List.range 16).all (fun d => decide (hexv (hexc d) = some d)) = true := by decide +kernel
theorem hexv_hexc {d : Nat} (h : d < 16) : hexv (hexc d) = some d := by
  have h := List.all_eq_true.1 hexv_hexc0 d (List.mem_range.2 h)
  simpa using h
theorem hexc_hexv {c : UInt8} {d : Nat} (h : hexv c = some d) : hexc d = c ∧ d < 16 := by
  have key : (List.range 256).all (fun n => match hexv (UInt8.ofNat n) with | some d => decide (hexc d = UInt8.ofNat n ∧ d < 16) | none => true) = true := by decide +kernel
  have h1 := List.all_eq_true.1 key c.toNat (List.mem_range.2 c.toNat_lt)
  rw [show UInt8.ofNat c.toNat = c by simp, h] at h1
  simpa using h1

theorem and15 {x : Int} (h0 : 0 ≤ x) (h1 : x < 18446744073709551616) : ibits .and .u64 x 15 = x % 16 := by
  obtain ⟨n, rfl⟩ := Int.eq_ofNat_of_zero_le h0
  have hn : n < 18446744073709551616 := by omega
  have e1 : BitVec.ofInt IntKind.u64.bits (n : Int) = BitVec.ofNat 64 n := by
    show BitVec.ofInt 64 (n : Int) = _
    simp
  have e2 : BitVec.ofInt IntKind.u64.bits 15 = BitVec.ofNat 64 15 := rfl
  simp only [ibits]
  rw [e1, e2, wrap_u64]
  have : ((BitVec.ofNat 64 n &&& BitVec.ofNat 64 15 : BitVec 64)).toNat = n % 16 := by
    rw [BitVec.toNat_and, BitVec.toNat_ofNat, BitVec.toNat_ofNat, Nat.mod_eq_of_lt (show n < 2 ^ 64 by simpa using hn), show 15 % 2 ^ 64 = 2 ^ 4 - 1 from rfl, Nat.and_two_pow_sub_one_eq_mod]
  show (((BitVec.ofNat 64 n &&& BitVec.ofNat 64 15 : BitVec 64).toNat : Int)) % _ = _
  rw [this]
  omega
theorem fdiv_nat (n k : Nat) : ((n : Int)).fdiv (2 ^ k) = ((n / 2 ^ k : Nat) : Int) := by
  rw [Int.fdiv_eq_ediv_of_nonneg _ (by exact Int.le_of_lt (Int.pow_pos (by omega)))]
  simp
theorem and15_of (h : U) (e : Nat) : ibits .and .u64 ((h.toNat : Int).fdiv (2 ^ e)) 15 = ((h.toNat / 2 ^ e % 16 : Nat) : Int) := by
  rw [fdiv_nat, and15 (Int.natCast_nonneg _) (by have := h.isLt; have := Nat.div_le_self h.toNat (2 ^ e); omega)]
  omega

/-- The last 'k' digits. -/
def hexL (n : Nat) : Nat → B
  | 0 => []
  | k + 1 => hexc (n / 16 ^ k % 16) :: hexL n k
theorem hexL_length (n : Nat) : ∀ k, (hexL n k).length = k := by
  intro k
  induction k with
  | zero => rfl
  | succ k ih => simp [hexL, ih]
def hexB (h : U) : B := hexL h.toNat 16
/-- What digits tell: on from a number. -/
def readL : B → Nat → Option Nat
  | [], n => some n
  | c :: l, n => match hexv c with
    | some d => readL l (16 * n + d)
    | none => none
def readB (s : B) : Option U := if s.length = 16 then (readL s 0).map (BitVec.ofNat 64) else none
theorem readL_lt : ∀ (s : B) (n k m : Nat), readL s n = some m → n < 16 ^ k → m < 16 ^ (k + s.length) := by
  intro s
  induction s with
  | nil => intro n k m h hn; simp only [readL, Option.some.injEq] at h; subst h; simpa using hn
  | cons c s ih =>
    intro n k m h hn
    simp only [readL] at h
    split at h
    · rename_i d hd
      have := (hexc_hexv hd).2
      have := ih (16 * n + d) (k + 1) m h (by rw [Nat.pow_succ]; omega)
      rw [List.length_cons, show k + (s.length + 1) = k + 1 + s.length by omega]; exact this
    · cases h
theorem readL_hexL (n : Nat) : ∀ (k m : Nat), readL (hexL n k) m = some (16 ^ k * m + n % 16 ^ k) := by
  intro k
  induction k with
  | zero => intro m; simp [readL, hexL, Nat.mod_one]
  | succ k ih =>
    intro m
    simp only [readL, hexL]
    rw [hexv_hexc (Nat.mod_lt _ (by omega))]
    simp only
    rw [ih]
    congr 1
    have e : n % 16 ^ (k + 1) = n % 16 ^ k + 16 ^ k * (n / 16 ^ k % 16) := by rw [Nat.pow_succ, Nat.mod_mul]
    rw [e, Nat.pow_succ, Nat.mul_add, ← Nat.mul_assoc]
    omega
theorem hexL_readL : ∀ (s : B) (n m : Nat), readL s n = some m → hexL m s.length = s ∧ m / 16 ^ s.length = n := by
  intro s
  induction s with
  | nil => intro n m h; simp only [readL, Option.some.injEq] at h; subst h; simp [hexL]
  | cons c s ih =>
    intro n m h
    simp only [readL] at h
    split at h
    · rename_i d hd
      obtain ⟨h1, h2⟩ := hexc_hexv hd
      obtain ⟨h3, h4⟩ := ih _ _ h
      refine ⟨?_, ?_⟩
      · rw [List.length_cons, hexL, h3, h4, show (16 * n + d) % 16 = d by omega, h1]
      · rw [List.length_cons, Nat.pow_succ, ← Nat.div_div_eq_div_mul, h4]; omega
    · cases h
theorem readB_hexB (h : U) : readB (hexB h) = some h := by
  unfold readB hexB
  rw [if_pos (hexL_length _ _), readL_hexL]
  simp only [Option.map_some, Option.some.injEq]
  apply BitVec.eq_of_toNat_eq
  have := h.isLt
  simp
  omega
theorem hexB_readB {s : B} {h : U} (e : readB s = some h) : hexB h = s := by
  unfold readB at e
  split at e
  · rename_i hl
    obtain ⟨m, h1, rfl⟩ := Option.map_eq_some_iff.1 e
    have h2 := readL_lt s 0 0 m h1 (by simp)
    rw [hl] at h2
    have h3 := (hexL_readL s 0 m h1).1
    rw [hl] at h3
    unfold hexB
    rw [BitVec.toNat_ofNat, Nat.mod_eq_of_lt (by simpa using h2), h3]
  · cases e
end Go.Abs
end

section
/- Tables of texts (intern): the functions. -/
set_option maxRecDepth 100000
set_option linter.unusedVariables false
set_option linter.unusedSimpArgs false
namespace Go.Abs
open Go Go.Proofs
attribute [local irreducible] ibits byteAt strLt firstIdx

def vs (s : B) : AV := .val (.string (ofB s))
def vi (i : Int) : AV := .val (.int .i64 i)
def strs (l : List B) : List (List AV) := l.map fun s => [vs s]
theorem strs_length (l : List B) : (strs l).length = l.length := by simp [strs]
theorem strs_append (l m : List B) : strs (l ++ m) = strs l ++ strs m := by simp [strs]

/-! ### maps of texts, by the order in which they came -/
def tblFrom : List B → Nat → List (ByteArray × AV)
  | [], _ => []
  | s :: l, i => (ofB s, vi i) :: tblFrom l (i + 1)
theorem tblFrom_append (l : List B) (s : B) : ∀ i, tblFrom (l ++ [s]) i = tblFrom l i ++ [(ofB s, vi (i + l.length))] := by
  induction l with
  | nil => intro i; simp [tblFrom]
  | cons a l ih => intro i; simp [tblFrom, ih, Int.add_assoc]; congr 2; omega
theorem mapFind_none {l : List B} {s : B} (h : s ∉ l) : ∀ i, mapFind (tblFrom l i) (ofB s) = none := by
  induction l with
  | nil => intro i; rfl
  | cons a l ih =>
    intro i
    simp only [List.mem_cons, not_or] at h
    simp only [tblFrom, mapFind]
    rw [if_neg (fun e => h.1 (ofB_inj e).symm)]
    exact ih h.2 _
theorem mapFind_some {l : List B} {s : B} (h : s ∈ l) : ∀ i, ∃ j : Int, mapFind (tblFrom l i) (ofB s) = some (vi j) := by
  induction l with
  | nil => cases h
  | cons a l ih =>
    intro i
    simp only [tblFrom, mapFind]
    by_cases e : a = s
    · subst e; rw [if_pos rfl]; exact ⟨_, rfl⟩
    · rw [if_neg (fun e' => e (ofB_inj e'))]
      exact ih (by simpa [Ne.symm e, eq_comm] using h) _
theorem mapPut_new {l : List B} {s : B} {v : AV} (h : s ∉ l) : ∀ i, mapPut (tblFrom l i) (ofB s) v = tblFrom l i ++ [(ofB s, v)] := by
  induction l with
  | nil => intro i; rfl
  | cons a l ih =>
    intro i
    simp only [List.mem_cons, not_or] at h
    simp only [tblFrom, mapPut]
    rw [if_neg (fun e => h.1 (ofB_inj e).symm), ih h.2]
    rfl

/-- A table in memory: fresh, or with texts. -/
def tblF : AObj := .cells 170 [.val (.slice none 0 0), .val (.map none)]
def tblO (n m : Nat) (l : List B) : AObj := .cells 170 [.sl (some n) 1 (strs l), .mapv m]
def tblR (l : List B) : AObj := .row 9 1 l.length
def tblM (l : List B) : AObj := .map (tblFrom l 0)
def tblP (l : List B) (s : B) : List B := if s ∈ l then l else l ++ [s]

theorem bytes_str : (tab.ti 9).bytes = 16 := rfl
theorem put_new (s : B) {R} (h : R (.tup [vi 0, .val (.bool true)]) [tblO 1 2 [s], tblR [s], tblM [s]]) :
    ACalls Try.prog 128 [.ptr 0 0, vs s] [tblF] R := by
  refine acalls_of_xwp (an := an128) tab_ok Try.func128 ?_
  (conv => whnf)
  refine ⟨(by rw [bytes_str]; decide : 1 * ((tab.ti 9).bytes + 1) ≤ 140737488355328), ?_⟩
  (conv => whnf)
  exact h

theorem put_old (l : List B) (s : B) (hs : s ∈ l) {R} (h : ∀ j, R (.tup [vi j, .val (.bool false)]) [tblO 1 2 l, tblR l, tblM l]) :
    ACalls Try.prog 128 [.ptr 0 0, vs s] [tblO 1 2 l, tblR l, tblM l] R := by
  refine acalls_of_xwp (an := an128) tab_ok Try.func128 ?_
  obtain ⟨j, hj⟩ := mapFind_some hs 0
  (conv => whnf)
  rw [hj]
  (conv => whnf)
  exact h j

theorem put_more (l : List B) (s : B) (hl : l.length < 1000000) (hs : s ∉ l) {R} (h : R (.tup [vi l.length, .val (.bool true)]) [tblO 1 2 (l ++ [s]), tblR (l ++ [s]), tblM (l ++ [s])]) :
    ACalls Try.prog 128 [.ptr 0 0, vs s] [tblO 1 2 l, tblR l, tblM l] R := by
  refine acalls_of_xwp (an := an128) tab_ok Try.func128 ?_
  (conv => whnf)
  rw [mapFind_none hs]
  (conv => whnf)
  refine ⟨(strs_length l).symm, ?_, ?_⟩
  · rw [strs_length, bytes_str]; simp; omega
  (conv => whnf)
  have e1 : (strs l ++ [[AV.val (Value.string (ofB s))]]) = strs (l ++ [s]) := (strs_append l [s]).symm
  have e2 : IntKind.i64.wrap (((strs (l ++ [s])).length : Int) - 1) = (l.length : Int) := by
    rw [strs_length, wrap_i64 (by rw [List.length_append]; simp <;> omega) (by rw [List.length_append]; simp <;> omega)]; simp
  have e3 : (strs l).length + [[AV.val (Value.string (ofB s))]].length = (l ++ [s]).length := by simp [strs_length]
  rw [mapPut_new hs, e3, e1, e2, strs_length]
  unfold tblM at h
  rw [tblFrom_append, show (((0 : Nat) : Int) + (l.length : Int)) = l.length by omega] at h
  exact h

/-- Put, whatever there is: tables of texts, each once. -/
theorem tblP_some {l : List B} {s : B} (h : s ∈ l) : tblP l s = l := by simp [tblP, h]
theorem tblP_none {l : List B} {s : B} (h : s ∉ l) : tblP l s = l ++ [s] := by simp [tblP, h]

theorem ID_new (s : B) {R} (h : R (.tup [uv 0, .val (.bool true)]) [tblO 1 2 [s], tblR [s], tblM [s]]) :
    ACalls Try.prog 100 [.ptr 0 0, vs s] [tblF] R := by
  refine acalls_of_xwp (an := an100) tab_ok Try.func100 ?_
  (conv => whnf)
  refine put_new s ?_
  (conv => whnf)
  exact h
theorem ID_old (l : List B) (s : B) (hs : s ∈ l) {R} (h : ∀ j : Int, R (.tup [.val (.int .u64 j), .val (.bool false)]) [tblO 1 2 l, tblR l, tblM l]) :
    ACalls Try.prog 100 [.ptr 0 0, vs s] [tblO 1 2 l, tblR l, tblM l] R := by
  refine acalls_of_xwp (an := an100) tab_ok Try.func100 ?_
  (conv => whnf)
  refine put_old l s hs fun j => ?_
  (conv => whnf)
  exact h _
theorem ID_more (l : List B) (s : B) (hl : l.length < 1000000) (hs : s ∉ l) {R} (h : ∀ j : Int, R (.tup [.val (.int .u64 j), .val (.bool true)]) [tblO 1 2 (l ++ [s]), tblR (l ++ [s]), tblM (l ++ [s])]) :
    ACalls Try.prog 100 [.ptr 0 0, vs s] [tblO 1 2 l, tblR l, tblM l] R := by
  refine acalls_of_xwp (an := an100) tab_ok Try.func100 ?_
  (conv => whnf)
  refine put_more l s hl hs ?_
  (conv => whnf)
  exact h _
theorem Len_old (l : List B) {R} (h : R (vi l.length) [tblO 1 2 l, tblR l, tblM l]) :
    ACalls Try.prog 129 [.ptr 0 0] [tblO 1 2 l, tblR l, tblM l] R := by
  refine acalls_of_xwp (an := an129) tab_ok Try.func129 ?_
  (conv => whnf)
  rw [strs_length]
  exact h

/-- A table, whichever. -/
def tblS (l : List B) : List AObj := match l with | [] => [tblF] | _ => [tblO 1 2 l, tblR l, tblM l]
theorem New_nil {R} (h : R (.ptr 0 0) [tblF]) : ACalls Try.prog 99 [.val (.slice none 0 0)] [] R := by
  refine acalls_of_xwp (an := an99) tab_ok Try.func99 ?_
  (conv => whnf)
  refine LoopP.step ?_
  (conv => whnf)
  exact h
def tblN (l : List B) : List B := l.foldl tblP []
theorem New_calls (a : B) (l : List B) (hl : l.length < 100000) {R} (h : ∀ m, m = tblN (a :: l) → R (.ptr 0 0) [tblO 1 2 m, tblR m, tblM m]) : ACalls Try.prog 99 [.sl none 1 (strs (a :: l))] [] R := by
  refine acalls_of_xwp (an := an99) tab_ok Try.func99 ?_
  (conv => whnf)
  have hsl : (strs (a :: l)).length = l.length + 1 := by rw [strs_length]; rfl
  refine LoopP.step ?_
  (conv => whnf)
  refine br_true (by rw [hsl]; simp <;> omega) ?_
  (conv => whnf)
  refine put_new a ?_
  (conv => whnf)
  refine LoopP.ind2 (fun (i : Nat) (m : List B) => [(10, vi i)]) (fun i m => [(nameOf 7, tblO (freshN 18 0) (freshN 18 1) m), (freshN 18 0, tblR m), (freshN 18 1, tblM m)]) (fun i _ => l.length + 1 - i)
    (fun i m => 1 ≤ i ∧ i ≤ l.length + 1 ∧ m.length ≤ i ∧ (l.drop (i - 1)).foldl tblP m = tblN (a :: l)) 1 [a] rfl ⟨by omega, by omega, by simp, by simp [tblN, tblP]⟩ ?_
  rintro i m ⟨h0, h1, h2, h3⟩ IH
  (conv => whnf)
  refine br_intro (fun hc => ?_) (fun hc => ?_)
  · have hc : i < l.length + 1 := by rw [hsl] at hc; simp at hc; omega
    have hi : i < (a :: l).length := by simpa using hc
    (conv => whnf)
    refine idxK_map_intro (show (i : Int).toNat < (a :: l).length by simpa using hc) ?_
    obtain ⟨s, hs⟩ : ∃ s, s = (a :: l)[(i : Int).toNat]'(by simpa using hc) := ⟨_, rfl⟩
    rw [← hs]
    have hd : l.drop (i - 1) = s :: l.drop i := by
      rw [List.drop_eq_getElem_cons (show i - 1 < l.length by omega), show i - 1 + 1 = i by omega, hs]
      congr 1
      obtain ⟨j, rfl⟩ : ∃ j, i = j + 1 := ⟨i - 1, by omega⟩
      simp
    rw [hd, List.foldl_cons] at h3
    (conv => whnf)
    by_cases hm : s ∈ m
    · refine put_old m s hm fun j => ?_
      rw [tblP_some hm] at h3
      (conv => whnf)
      rw [wrap_i64 (by omega) (by omega)]
      exact IH (i + 1) m ⟨by omega, by omega, by omega, by simpa using h3⟩ (by omega)
    · refine put_more m s (by omega) hm ?_
      rw [tblP_none hm] at h3
      (conv => whnf)
      rw [wrap_i64 (by omega) (by omega)]
      exact IH (i + 1) (m ++ [s]) ⟨by omega, by omega, by simp; omega, by simpa using h3⟩ (by omega)
  · have hc : i = l.length + 1 := by rw [hsl] at hc; simp at hc; omega
    subst hc
    rw [Nat.add_sub_cancel, List.drop_length] at h3
    (conv => whnf)
    exact h m h3
end Go.Abs
end

section
/- The digest's functions, and the document's. -/
set_option maxRecDepth 100000
set_option linter.unusedVariables false
set_option linter.unusedSimpArgs false
namespace Go.Abs
open Go Go.Proofs

/-! ### the plain functions -/
namespace Dig
def plus : U := 0x9e3779b97f4a7c15#64
def first : U := 0xbf58476d1ce4e5b9#64
def other : U := 0x94d049bb133111eb#64
def down (k : Nat) (x : U) : U := x ^^^ (x >>> k)
def dig (n : U) : U := down 31 (down 27 (down 30 (n + plus) * first) * other)
def up (k : Nat) (h : U) : U := h ^^^ ((h ^^^ (h >>> k)) >>> k)
def back (n : U) : U := let b0 := n; let s := fun b : U => b * (2 - n * b); s (s (s (s (s (s b0)))))
def dBack (h : U) : U := up 30 (up 27 (up 31 h * back other) * back first) - plus
def fold (n : U) (l : List U) : U := l.foldl (fun h x => dig (h ^^^ x)) (dig n)

theorem up_down (k : Nat) (hk : 22 ≤ k) (x : U) : up k (down k x) = x := by
  unfold up down
  have h1 : ∀ a b : U, (a ^^^ b) >>> k = (a >>> k) ^^^ (b >>> k) := fun a b => BitVec.ushiftRight_xor_distrib a b k
  have h0 : x >>> k >>> k >>> k = 0#64 := by
    rw [← BitVec.shiftRight_add, ← BitVec.shiftRight_add]
    exact BitVec.ushiftRight_eq_zero (by omega)
  simp only [h1, h0]
  apply BitVec.eq_of_getLsbD_eq
  intro i hi
  simp only [BitVec.getLsbD_xor]
  cases x.getLsbD i <;> cases (x >>> k).getLsbD i <;> cases (x >>> k >>> k).getLsbD i <;> simp
theorem back_first (x : U) : x * first * back first = x := by
  rw [BitVec.mul_assoc]
  have : first * back first = 1#64 := by decide +kernel
  rw [this, BitVec.mul_one]
theorem back_other (x : U) : x * other * back other = x := by
  rw [BitVec.mul_assoc]
  have : other * back other = 1#64 := by decide +kernel
  rw [this, BitVec.mul_one]
theorem first_back (x : U) : x * back first * first = x := by
  rw [BitVec.mul_assoc]
  have : back first * first = 1#64 := by decide +kernel
  rw [this, BitVec.mul_one]
theorem other_back (x : U) : x * back other * other = x := by
  rw [BitVec.mul_assoc]
  have : back other * other = 1#64 := by decide +kernel
  rw [this, BitVec.mul_one]
theorem down_up (k : Nat) (hk : 22 ≤ k) (x : U) : down k (up k x) = x := by
  unfold up down
  have h1 : ∀ a b : U, (a ^^^ b) >>> k = (a >>> k) ^^^ (b >>> k) := fun a b => BitVec.ushiftRight_xor_distrib a b k
  have h0 : x >>> k >>> k >>> k = 0#64 := by
    rw [← BitVec.shiftRight_add, ← BitVec.shiftRight_add]
    exact BitVec.ushiftRight_eq_zero (by omega)
  simp only [h1, h0]
  apply BitVec.eq_of_getLsbD_eq
  intro i hi
  simp only [BitVec.getLsbD_xor]
  cases x.getLsbD i <;> cases (x >>> k).getLsbD i <;> cases (x >>> k >>> k).getLsbD i <;> simp
theorem dBack_dOf (n : U) : dBack (dig n) = n := by
  unfold dBack dig
  rw [up_down 31 (by omega), back_other, up_down 27 (by omega), back_first, up_down 30 (by omega), BitVec.add_sub_cancel]
theorem dOf_dBack (n : U) : dig (dBack n) = n := by
  unfold dBack dig
  rw [BitVec.sub_add_cancel, down_up 30 (by omega), first_back, down_up 27 (by omega), other_back, down_up 31 (by omega)]
theorem dOf_inj {a b : U} (h : dig a = dig b) : a = b := by rw [← dBack_dOf a, h, dBack_dOf]
end Dig
open Dig

/-! ### the steps -/
theorem down_calls (b : Int) {R} (h : R (.fn (.func 107) [] [.cptr [.val (.int .u64 b)] 0]) []) : ACalls Try.prog 84 [.val (.int .u64 b)] [] R := by
  refine acalls_of_xwp (an := an84) tab_ok Try.func84 ?_
  conv => whnf
  exact h
theorem times_calls (b : Int) {R} (h : R (.fn (.func 108) [] [.cptr [.val (.int .u64 b)] 0]) []) : ACalls Try.prog 85 [.val (.int .u64 b)] [] R := by
  refine acalls_of_xwp (an := an85) tab_ok Try.func85 ?_
  conv => whnf
  exact h
/-- A function value that does what a plain function does. -/
def Does (e : List AV) (g : U → U) : Prop := ∃ f cs, e = [.fn (.func f) [] [.cptr cs 0]] ∧ tab.fn f = true ∧ ∀ x R, R (uv (g x)) [] → ACalls Try.prog f [uv x, .cptr cs 0] [] R

theorem u_shr' (x : U) (k : Nat) (hk : k ≤ 64) : ((x.toNat : Int)).fdiv (2 ^ min ((k : Int)).toNat IntKind.u64.bits) = ((x >>> k).toNat : Int) := by
  have : min ((k : Int)).toNat IntKind.u64.bits = k := by
    show min ((k : Int)).toNat 64 = k
    simp; omega
  rw [this, u_shr]

theorem down_does (k : Nat) (hk : k ≤ 64) : Does [.fn (.func 107) [] [.cptr [.val (.int .u64 k)] 0]] (down k) := by
  refine ⟨_, _, rfl, rfl, fun x R h => ?_⟩
  refine acalls_of_xwp (an := an107) tab_ok Try.func107 ?_
  conv => whnf
  rw [u_shr' x k hk, u_xor]
  exact h
theorem times_does (n : U) : Does [.fn (.func 108) [] [.cptr [uv n] 0]] (· * n) := by
  refine ⟨_, _, rfl, rfl, fun x R h => ?_⟩
  refine acalls_of_xwp (an := an108) tab_ok Try.func108 ?_
  conv => whnf
  rw [u_mul]
  exact h
end Go.Abs
end

section
/- The digest's functions, and the document's, on. -/
set_option maxRecDepth 100000
set_option linter.unusedVariables false
set_option linter.unusedSimpArgs false
namespace Go.Abs
open Go Go.Proofs Dig
attribute [local irreducible] ibits byteAt strLt

theorem idx_some {α : Type} {l : List α} {i : Int} (h0 : 0 ≤ i) (h1 : i < (l.length : Int)) : i.toNat < l.length := by omega

theorem run_calls (x : U) (l : List (List AV)) (gs : List (U → U)) (hl : l.length = gs.length) (hlen : l.length < 1000) (hd : ∀ i (h : i < l.length), Does l[i] (gs[i]'(by omega))) (own : Option Nm) {R} (h : R (uv (gs.foldl (fun h g => g h) x)) []) :
    ACalls Try.prog 83 [uv x, .sl none 1 l] [] R := by
  refine acalls_of_xwp (an := an83) tab_ok Try.func83 ?_
  conv => whnf
  refine LoopP.ind (α := Int × Int) (fun p => [(0, .val (.int .u64 p.2)), (9, .val (.int .i64 p.1))]) (fun _ => []) (fun p => l.length - p.1.toNat)
    (fun p => 0 ≤ p.1 ∧ p.1 ≤ l.length ∧ ∃ y : U, p.2 = (y.toNat : Int) ∧ (gs.drop p.1.toNat).foldl (fun h g => g h) y = gs.foldl (fun h g => g h) x) (0, (x.toNat : Int)) rfl ⟨by simp, by simp, x, rfl, by simp⟩ ?_
  rintro ⟨i, yy⟩ ⟨h0, h1, y, rfl, hy⟩ IH
  simp only at h0 h1 hy IH
  conv => whnf
  refine br_intro (fun hc => ?_) (fun hc => ?_)
  · have hc : i < (l.length : Int) := by simpa using hc
    conv => whnf
    refine must_intro (by simpa using h0) ?_
    refine idxK_intro (idx_some h0 hc) ?_
    obtain ⟨f, cs, e1, e2, e3⟩ := hd i.toNat (idx_some h0 hc)
    rw [e1]
    conv => whnf
    refine must_intro e2 ?_
    refine e3 y _ ?_
    conv => whnf
    rw [wrap_i64 (by omega) (by omega)]
    refine IH (i + 1, _) ⟨?_, ?_, _, rfl, ?_⟩ ?_
    · simp only; omega
    · simp only; omega
    · simp only
      rw [← hy, show (i + 1).toNat = i.toNat + 1 by omega, List.drop_eq_getElem_cons (show i.toNat < gs.length by omega), List.foldl_cons]
    · simp only; omega
  · have hc : i = (l.length : Int) := by simp at hc; omega
    conv => whnf
    have : gs.drop i.toNat = [] := List.drop_eq_nil_of_le (by omega)
    rw [this] at hy
    simp only [List.foldl_nil] at hy
    rw [hy]
    exact h

theorem Of_calls (n : U) {R} (h : ∀ d, d = dig n → R (uv d) []) : ACalls Try.prog 57 [uv n] [] R := by
  refine acalls_of_xwp (an := an57) tab_ok Try.func57 ?_
  conv => whnf
  refine down_calls _ ?_
  conv => whnf
  refine times_calls _ ?_
  conv => whnf
  refine down_calls _ ?_
  conv => whnf
  refine times_calls _ ?_
  conv => whnf
  refine down_calls _ ?_
  conv => whnf
  rw [show (11400714819323198485 : Int) = (plus.toNat : Int) from rfl, u_add]
  refine run_calls _ _ [down 30, (· * first), down 27, (· * other), down 31] rfl (by simp) (fun i hi => ?_) none ?_
  · match i, hi with
    | 0, _ => exact down_does 30 (by omega)
    | 1, _ => exact times_does first
    | 2, _ => exact down_does 27 (by omega)
    | 3, _ => exact times_does other
    | 4, _ => exact down_does 31 (by omega)
  · conv => whnf
    exact h _ rfl

/-- Numbers, read out of a slice. -/
def nums (l : List U) : List (List AV) := l.map fun x => [uv x]

theorem Fold_calls (n : U) (l : List U) (hl : l.length ≤ 1000000) {X : List (List AV)} (hX : X = nums l) {R} (h : ∀ d, d = fold n l → R (uv d) []) : ACalls Try.prog 106 [uv n, .sl none 1 X] [] R := by
  subst hX
  refine acalls_of_xwp (an := an106) tab_ok Try.func106 ?_
  have hnl : (nums l).length = l.length := by simp [nums]
  conv => whnf
  refine Of_calls n fun d0 hd0 => ?_
  conv => whnf
  refine LoopP.ind (α := Int × U) (fun p => [(5, uv p.2), (12, .val (.int .i64 p.1))]) (fun _ => []) (fun p => l.length - p.1.toNat)
    (fun p => 0 ≤ p.1 ∧ p.1 ≤ l.length ∧ (l.drop p.1.toNat).foldl (fun h x => dig (h ^^^ x)) p.2 = fold n l) (0, d0) rfl ⟨by simp, by simp, by simp [fold, hd0]⟩ ?_
  rintro ⟨i, y⟩ ⟨h0, h1, hy⟩ IH
  simp only at h0 h1 hy IH
  conv => whnf
  refine br_intro (fun hc => ?_) (fun hc => ?_)
  · have hc : i < (l.length : Int) := by simpa [hnl] using hc
    conv => whnf
    refine must_intro (by simpa using h0) ?_
    refine idxK_map_intro (idx_some h0 hc) ?_
    conv => whnf
    rw [u_xor]
    refine Of_calls _ fun d hd => ?_
    conv => whnf
    rw [wrap_i64 (by omega) (by omega)]
    refine IH (i + 1, _) ⟨?_, ?_, ?_⟩ ?_
    · simp only; omega
    · simp only; omega
    · show List.foldl _ _ (List.drop (i + 1).toNat l) = _
      rw [← hy, show (i + 1).toNat = i.toNat + 1 by omega, List.drop_eq_getElem_cons (idx_some h0 hc), List.foldl_cons, ← hd]
    · simp only; omega
  · have hc : i = (l.length : Int) := by simp [hnl] at hc; omega
    conv => whnf
    rw [List.drop_eq_nil_of_le (by omega)] at hy
    simp only [List.foldl_nil] at hy
    exact h _ hy

/-! ### the document's -/
theorem u_div (x : U) (k : Nat) (hk : k < 63) {c : Int} (hc : c = 2 ^ k) : IntKind.u64.wrap ((x.toNat : Int).tdiv c) = ((x >>> k).toNat : Int) := by
  subst hc
  rw [wrap_u64]
  have h1 : (x.toNat : Int).tdiv (2 ^ k) = ((x >>> k).toNat : Int) := by
    rw [BitVec.toNat_ushiftRight, Nat.shiftRight_eq_div_pow]
    rw [Int.tdiv_eq_ediv_of_nonneg (by omega)]
    simp
  rw [h1]
  have := (x >>> k).isLt
  omega

theorem refOf_calls (n : U) {R} (h : ∀ d, d = dig n → R (uv d) []) : ACalls Try.prog 104 [uv n] [] R := by
  refine acalls_of_xwp (an := an104) tab_ok Try.func104 ?_
  conv => whnf
  rw [show (11400714819323198485 : Int) = (plus.toNat : Int) from rfl, show (13787848793156543929 : Int) = (first.toNat : Int) from rfl, show (10723151780598845931 : Int) = (other.toNat : Int) from rfl]
  have e30 := fun x => u_div x 30 (by omega) (c := 1073741824) rfl
  have e27 := fun x => u_div x 27 (by omega) (c := 134217728) rfl
  have e31 := fun x => u_div x 31 (by omega) (c := 2147483648) rfl
  rw [u_add, e30, u_xor, u_mul, e27, u_xor, u_mul, e31, u_xor]
  exact h _ rfl

theorem refFold_calls (n : U) (l : List U) (hl : l.length ≤ 1000000) {X : List (List AV)} (hX : X = nums l) {R} (h : ∀ d, d = fold n l → R (uv d) []) : ACalls Try.prog 74 [uv n, .sl none 1 X] [] R := by
  subst hX
  refine acalls_of_xwp (an := an74) tab_ok Try.func74 ?_
  have hnl : (nums l).length = l.length := by simp [nums]
  conv => whnf
  refine refOf_calls n fun d0 hd0 => ?_
  conv => whnf
  refine LoopP.ind (α := Int × U) (fun p => [(5, uv p.2), (6, .val (.int .i64 p.1))]) (fun _ => []) (fun p => l.length - p.1.toNat)
    (fun p => 0 ≤ p.1 ∧ p.1 ≤ l.length ∧ (l.drop p.1.toNat).foldl (fun h x => dig (h ^^^ x)) p.2 = fold n l) (0, d0) rfl ⟨by simp, by simp, by simp [fold, hd0]⟩ ?_
  rintro ⟨i, y⟩ ⟨h0, h1, hy⟩ IH
  simp only at h0 h1 hy IH
  conv => whnf
  refine br_intro (fun hc => ?_) (fun hc => ?_)
  · have hc : i < (l.length : Int) := by simpa [hnl] using hc
    conv => whnf
    refine must_intro (by simpa using h0) ?_
    refine idxK_map_intro (idx_some h0 hc) ?_
    conv => whnf
    rw [u_xor]
    refine refOf_calls _ fun d hd => ?_
    conv => whnf
    rw [wrap_i64 (by omega) (by omega)]
    refine IH (i + 1, _) ⟨?_, ?_, ?_⟩ ?_
    · simp only; omega
    · simp only; omega
    · show List.foldl _ _ (List.drop (i + 1).toNat l) = _
      rw [← hy, show (i + 1).toNat = i.toNat + 1 by omega, List.drop_eq_getElem_cons (idx_some h0 hc), List.foldl_cons, ← hd]
    · simp only; omega
  · have hc : i = (l.length : Int) := by simp [hnl] at hc; omega
    conv => whnf
    rw [List.drop_eq_nil_of_le (by omega)] at hy
    simp only [List.foldl_nil] at hy
    exact h _ hy
end Go.Abs
end

section
/- Arguments that are numbers. -/
set_option maxRecDepth 100000
set_option linter.unusedVariables false
set_option linter.unusedSimpArgs false
namespace Go.Abs
open Go Go.Proofs Dig
theorem args_u64 {ts : List TypeId} {l : List AV} (h : Args tab 12 (26 :: ts) l) : ∃ (x : U) (l' : List AV), l = uv x :: l' ∧ Args tab 12 ts l' := by
  obtain ⟨a, l', rfl, h1, h2⟩ := h
  obtain ⟨x, e, hx⟩ : ∃ x, [a] = [.val (.int .u64 x)] ∧ (Lit.int .u64 x).wf = true := h1
  simp only [Lit.wf, Bool.and_eq_true, decide_eq_true_eq] at hx
  have e1 : IntKind.u64.min = 0 := rfl
  have e2 : IntKind.u64.max = 18446744073709551615 := rfl
  rw [e1, e2] at hx
  refine ⟨BitVec.ofInt 64 x, l', ?_, h2⟩
  simp only [List.cons.injEq, and_true] at e ⊢
  rw [e]
  show _ = AV.val (.int .u64 _)
  congr 2
  exact u_of (by omega) (by omega)
theorem args_nil {l : List AV} (h : Args tab 12 [] l) : l = [] := h
theorem wf_u64 {x : Int} (h : (Lit.int .u64 x).wf = true) : x = ((BitVec.ofInt 64 x : U).toNat : Int) := by
  simp only [Lit.wf, Bool.and_eq_true, decide_eq_true_eq] at h
  have e1 : IntKind.u64.min = 0 := rfl
  have e2 : IntKind.u64.max = 18446744073709551615 := rfl
  rw [e1, e2] at h
  exact u_of (by omega) (by omega)
theorem typed_nums {l : List (List AV)} (h : ∀ x ∈ l, ∃ y, x = [.val (.int .u64 y)] ∧ (Lit.int .u64 y).wf = true) : ∃ ns : List U, l = nums ns := by
  induction l with
  | nil => exact ⟨[], rfl⟩
  | cons x l ih =>
    obtain ⟨ns, rfl⟩ := ih fun y hy => h y (by simp [hy])
    obtain ⟨y, rfl, hy⟩ := h x (by simp)
    exact ⟨BitVec.ofInt 64 y :: ns, by simp only [nums, List.map_cons, uv]; rw [← wf_u64 hy]⟩
theorem args_nums {ts : List TypeId} {l : List AV} (h : Args tab 12 (45 :: ts) l) : ∃ (x : List U) (l' : List AV), l = .sl none 1 (nums x) :: l' ∧ x.length ≤ maxLen ∧ Args tab 12 ts l' := by
  obtain ⟨a, l', rfl, h1, h2⟩ := h
  obtain ⟨x, e, hl, hx⟩ : ∃ x : List (List AV), [a] = [.sl none 1 x] ∧ x.length ≤ maxLen ∧ ∀ y ∈ x, Typed tab 11 26 y := h1
  obtain ⟨ns, rfl⟩ := typed_nums (l := x) hx
  simp only [List.cons.injEq, and_true] at e
  subst e
  exact ⟨ns, l', rfl, by simpa [nums] using hl, h2⟩
theorem args_u8 {ts : List TypeId} {l : List AV} (h : Args tab 12 (5 :: ts) l) : ∃ (x : Int) (l' : List AV), l = .val (.int .u8 x) :: l' ∧ (0 ≤ x ∧ x ≤ 255) ∧ Args tab 12 ts l' := by
  obtain ⟨a, l', rfl, h1, h2⟩ := h
  obtain ⟨x, e, hx⟩ : ∃ x, [a] = [.val (.int .u8 x)] ∧ (Lit.int .u8 x).wf = true := h1
  simp only [Lit.wf, Bool.and_eq_true, decide_eq_true_eq] at hx
  have e1 : IntKind.u8.min = 0 := rfl
  have e2 : IntKind.u8.max = 255 := rfl
  rw [e1, e2] at hx
  simp only [List.cons.injEq, and_true] at e
  exact ⟨x, l', by rw [e], hx, h2⟩
end Go.Abs
end

section
/- Graphs: nodes; what is wrong with one by itself. -/
set_option maxRecDepth 100000
set_option linter.unusedVariables false
set_option linter.unusedSimpArgs false
namespace Go.Abs
open Go Go.Proofs
attribute [local irreducible] ibits byteAt strLt firstIdx

structure Nd where
  name : B
  source : Bool
  rule : U
  deps : List B
def Nd.enc (n : Nd) : List AV := [vs n.name, .val (.bool n.source), uv n.rule, .sl none 1 (strs n.deps)]
def nds (l : List Nd) : List (List AV) := l.map Nd.enc
theorem nds_length (l : List Nd) : (nds l).length = l.length := by simp [nds]
def ints (l : List Nat) : List (List AV) := l.map fun (i : Nat) => [vi (i : Int)]
theorem ints_length (l : List Nat) : (ints l).length = l.length := by simp [ints]

/-! ### names -/
def nameOk (s : B) : Bool := decide (1 ≤ s.length) && decide (s.length ≤ 64)
theorem Name_calls (s : B) {R} (h : R (.val (.bool (nameOk s))) []) : ACalls Try.prog 123 [vs s] [] R := by
  refine acalls_of_xwp (an := an123) tab_ok Try.func123 ?_
  have hsz : (ofB s).size = s.length := size_ofB s
  (conv => whnf)
  rw [hsz]
  refine br_intro (fun hc => ?_) (fun hc => ?_)
  · (conv => whnf)
    have : nameOk s = decide ((s.length : Int) ≤ 64) := by
      unfold nameOk
      rw [hsz] at *
      have hc : 1 ≤ s.length := by simp at hc; omega
      simp [hc]
      omega
    rw [hsz, ← this]
    exact h
  · (conv => whnf)
    have : nameOk s = false := by
      have hc : s.length = 0 := by simp at hc; omega
      simp [nameOk, hc]
    rw [this] at h
    exact h
theorem refName_calls (s : B) {R} (h : R (.val (.bool (nameOk s))) []) : ACalls Try.prog 122 [vs s] [] R := by
  refine acalls_of_xwp (an := an122) tab_ok Try.func122 ?_
  have hsz : (ofB s).size = s.length := size_ofB s
  (conv => whnf)
  refine br_intro (fun hc => ?_) (fun hc => ?_)
  · have hc : s ≠ [] := by
      rintro rfl
      simp at hc
      exact hc rfl
    have hl : 1 ≤ s.length := by cases s with | nil => exact absurd rfl hc | cons a s => simp
    (conv => whnf)
    have : nameOk s = decide ((s.length : Int) < 65) := by
      unfold nameOk
      simp [hl]
      omega
    rw [hsz, ← this]
    exact h
  · have hc : s = [] := by
      simp at hc
      have : ofB s = ofB [] := hc
      exact ofB_inj this
    subst hc
    (conv => whnf)
    exact h

/-! ### places -/
def placeOf : List B → B → Option Nat
  | [], _ => none
  | a :: l, s => if a = s then some 0 else (placeOf l s).map (· + 1)
def placeI (l : List B) (s : B) : Int := match placeOf l s with | some i => i | none => -1
theorem placeOf_none {l : List B} {s : B} : placeOf l s = none ↔ s ∉ l := by
  induction l with
  | nil => simp [placeOf]
  | cons a l ih =>
    simp only [placeOf]
    by_cases h : a = s
    · simp [h]
    · rw [if_neg h]
      simp only [Option.map_eq_none_iff, ih, List.mem_cons, not_or]
      exact ⟨fun h' => ⟨fun e => h e.symm, h'⟩, fun h' => h'.2⟩
theorem placeOf_some {l : List B} {s : B} {i : Nat} (h : placeOf l s = some i) : l[i]? = some s ∧ ∀ j, j < i → l[j]? ≠ some s := by
  induction l generalizing i with
  | nil => simp [placeOf] at h
  | cons a l ih =>
    simp only [placeOf] at h
    by_cases e : a = s
    · rw [if_pos e] at h
      cases h
      subst e
      exact ⟨rfl, fun j hj => by omega⟩
    · rw [if_neg e] at h
      obtain ⟨k, hk, rfl⟩ := Option.map_eq_some_iff.1 h
      obtain ⟨h1, h2⟩ := ih hk
      refine ⟨by simpa using h1, fun j hj => ?_⟩
      cases j with
      | zero => simpa using e
      | succ j => simpa using h2 j (by omega)
theorem placeI_neg {l : List B} {s : B} : placeI l s < 0 ↔ s ∉ l := by
  rw [← placeOf_none]
  unfold placeI
  cases placeOf l s with
  | none => simp
  | some i => simp
theorem placeOf_of {l : List B} {s : B} {i : Nat} (h : l[i]? = some s) (h' : ∀ j, j < i → l[j]? ≠ some s) : placeOf l s = some i := by
  cases e : placeOf l s with
  | none => exact absurd (List.mem_of_getElem? h) (placeOf_none.1 e)
  | some k =>
    obtain ⟨h1, h2⟩ := placeOf_some e
    rcases Nat.lt_trichotomy i k with hl | rfl | hl
    · exact absurd h (h2 _ hl)
    · rfl
    · exact absurd h1 (h' _ hl)

theorem i64_nat {i : Nat} (h : i < 1000000000) : IntKind.i64.wrap ((i : Int) + 1) = ((i + 1 : Nat) : Int) := wrap_i64 (by omega) (by omega)
theorem lt_of_dec {i n : Nat} (h : decide ((i : Int) < (n : Int)) = true) : i < n := by simpa using h
theorem ge_of_dec {i n : Nat} (h : decide ((i : Int) < (n : Int)) = false) : n ≤ i := by simp at h; omega

theorem lt_of_decE {i n m : Nat} (e : m = n) (h : decide ((i : Int) < (m : Int)) = true) : i < n := by subst e; simpa using h
theorem ge_of_decE {i n m : Nat} (e : m = n) (h : decide ((i : Int) < (m : Int)) = false) : n ≤ i := by subst e; simp at h; omega

theorem Place_calls (l : List B) (s : B) (hl : l.length < 1000000) {X : List (List AV)} (hX : X = strs l) {R} (h : ∀ p, p = placeI l s → R (vi p) []) : ACalls Try.prog 47 [.sl none 1 X, vs s] [] R := by
  subst hX
  refine acalls_of_xwp (an := an47) tab_ok Try.func47 ?_
  have hsl := strs_length l
  (conv => whnf)
  refine LoopP.ind1 (fun (i : Nat) => [(5, vi i)]) (fun _ => []) (fun i => l.length - i) (fun i => i ≤ l.length ∧ ∀ j, j < i → l[j]? ≠ some s) 0 rfl ⟨by omega, fun j hj => by omega⟩ ?_
  rintro i ⟨h0, h1⟩ IH
  (conv => whnf)
  rw [hsl]
  refine br_intro (fun hc => ?_) (fun hc => ?_)
  · have hc := lt_of_dec hc
    (conv => whnf); (repeat ((with_reducible refine must_intro ?_ ?_); exact decide_eq_true (by omega); (conv => whnf)))
    refine idxK_map_intro (show (i : Int).toNat < l.length by simpa using hc) ?_
    rw [show l[(i : Int).toNat]'(by simpa using hc) = l[i] from by congr 1]
    (conv => whnf)
    refine br_intro (fun he => ?_) (fun he => ?_)
    · have he : l[i] = s := by simpa [ofB_eq] using he
      (conv => whnf)
      refine h _ ?_
      rw [placeI, placeOf_of (i := i) (by rw [List.getElem?_eq_getElem hc, he]) h1]
    · have he : l[i] ≠ s := by simpa [ofB_eq] using he
      (conv => whnf)
      rw [i64_nat (by omega)]
      refine IH (i + 1) ⟨by omega, fun j hj => ?_⟩ (by omega)
      rcases Nat.lt_or_ge j i with hlt | hge
      · exact h1 j hlt
      · obtain rfl : j = i := by omega
        rw [List.getElem?_eq_getElem hc]
        simpa using he
  · have hc := ge_of_dec hc
    (conv => whnf)
    refine h (-1) ?_
    have : s ∉ l := by
      intro hm
      obtain ⟨j, hj, e⟩ := List.getElem_of_mem hm
      exact h1 j (by omega) (by rw [List.getElem?_eq_getElem hj, e])
    rw [placeI, placeOf_none.2 this]

theorem nPlace_calls (l : List Nd) (s : B) (hl : l.length < 1000000) {X : List (List AV)} (hX : X = nds l) {R} (h : ∀ p, p = placeI (l.map (·.name)) s → R (vi p) []) : ACalls Try.prog 62 [.sl none 4 X, vs s] [] R := by
  subst hX
  refine acalls_of_xwp (an := an62) tab_ok Try.func62 ?_
  have hsl := nds_length l
  (conv => whnf)
  refine LoopP.ind1 (fun (i : Nat) => [(5, vi i)]) (fun _ => []) (fun i => l.length - i) (fun i => i ≤ l.length ∧ ∀ j, j < i → (l.map (·.name))[j]? ≠ some s) 0 rfl ⟨by omega, fun j hj => by omega⟩ ?_
  rintro i ⟨h0, h1⟩ IH
  (conv => whnf)
  rw [hsl]
  refine br_intro (fun hc => ?_) (fun hc => ?_)
  · have hc := lt_of_dec hc
    (conv => whnf); (repeat ((with_reducible refine must_intro ?_ ?_); exact decide_eq_true (by omega); (conv => whnf)))
    refine idxK_map_intro (show (i : Int).toNat < l.length by simpa using hc) ?_
    rw [show l[(i : Int).toNat]'(by simpa using hc) = l[i] from by congr 1]
    (conv => whnf)
    refine br_intro (fun he => ?_) (fun he => ?_)
    · have he : l[i].name = s := by simpa [ofB_eq] using he
      (conv => whnf)
      refine h _ ?_
      rw [placeI, placeOf_of (i := i) (by rw [List.getElem?_map, List.getElem?_eq_getElem hc]; simp [he]) h1]
    · have he : l[i].name ≠ s := by simpa [ofB_eq] using he
      (conv => whnf)
      rw [i64_nat (by omega)]
      refine IH (i + 1) ⟨by omega, fun j hj => ?_⟩ (by omega)
      rcases Nat.lt_or_ge j i with hlt | hge
      · exact h1 j hlt
      · obtain rfl : j = i := by omega
        rw [List.getElem?_map, List.getElem?_eq_getElem hc]
        simpa using he
  · have hc := ge_of_dec hc
    (conv => whnf)
    refine h (-1) ?_
    have : s ∉ l.map (·.name) := by
      intro hm
      obtain ⟨j, hj, e⟩ := List.getElem_of_mem hm
      exact h1 j (by simp at hj; omega) (by rw [List.getElem?_eq_getElem hj, e])
    rw [placeI, placeOf_none.2 this]

theorem in_calls (l : List Nat) (x : Int) (hl : l.length < 1000000) {X : List (List AV)} (hX : X = ints l) {R} (h : ∀ b, b = decide (∃ i ∈ l, (i : Int) = x) → R (.val (.bool b)) []) : ACalls Try.prog 93 [.sl none 1 X, vi x] [] R := by
  subst hX
  refine acalls_of_xwp (an := an93) tab_ok Try.func93 ?_
  have hsl := ints_length l
  (conv => whnf)
  refine LoopP.ind1 (fun (i : Nat) => [(5, vi i)]) (fun _ => []) (fun i => l.length - i) (fun i => i ≤ l.length ∧ ∀ j (hj : j < l.length), j < i → ((l[j] : Nat) : Int) ≠ x) 0 rfl ⟨by omega, fun j hj hlt => by omega⟩ ?_
  rintro i ⟨h0, h1⟩ IH
  (conv => whnf)
  rw [hsl]
  refine br_intro (fun hc => ?_) (fun hc => ?_)
  · have hc := lt_of_dec hc
    (conv => whnf); (repeat ((with_reducible refine must_intro ?_ ?_); exact decide_eq_true (by omega); (conv => whnf)))
    refine idxK_map_intro (show (i : Int).toNat < l.length by simpa using hc) ?_
    rw [show l[(i : Int).toNat]'(by simpa using hc) = l[i] from by congr 1]
    (conv => whnf)
    refine br_intro (fun he => ?_) (fun he => ?_)
    · have he : ((l[i] : Nat) : Int) = x := by simpa using he
      (conv => whnf)
      exact h true (decide_eq_true ⟨l[i], List.getElem_mem hc, he⟩).symm
    · have he : ((l[i] : Nat) : Int) ≠ x := by simpa using he
      (conv => whnf)
      rw [i64_nat (by omega)]
      refine IH (i + 1) ⟨by omega, fun j hj hlt => ?_⟩ (by omega)
      rcases Nat.lt_or_ge j i with hlt | hge
      · exact h1 j hj hlt
      · obtain rfl : j = i := by omega
        exact he
  · have hc := ge_of_dec hc
    (conv => whnf)
    refine h false (decide_eq_false ?_).symm
    rintro ⟨a, ha, e⟩
    obtain ⟨j, hj, rfl⟩ := List.getElem_of_mem ha
    exact h1 j hj (by omega) e

/-! ### which text stands ahead -/
def ltB (a b : B) : Bool := Op.bytesLess a b
theorem strLt_ofB (a b : B) : strLt (ofB a) (ofB b) = ltB a b := by
  unfold strLt ltB
  rw [ByteArray.toList_eq, ByteArray.toList_eq]
  show Op.bytesLess (bs (ofB a)) (bs (ofB b)) = _
  rw [bs_ofB, bs_ofB]
theorem ltB_drop {a b : B} : ∀ {i : Nat}, (∀ j, j < i → a[j]? = b[j]?) → i ≤ a.length → i ≤ b.length → ltB (a.drop i) (b.drop i) = ltB a b := by
  intro i
  induction i generalizing a b with
  | zero => intro _ _ _; simp
  | succ i ih =>
    intro h ha hb
    cases a with
    | nil => simp at ha
    | cons x a =>
      cases b with
      | nil => simp at hb
      | cons y b =>
        have h0 : x = y := by simpa using h 0 (by omega)
        subst h0
        simp only [List.drop_succ_cons]
        rw [ih (fun j hj => by simpa using h (j + 1) (by omega)) (by simpa using ha) (by simpa using hb)]
        simp [ltB, Op.bytesLess]
theorem u8_lt {a b : UInt8} : decide (((a.toNat : Nat) : Int) < ((b.toNat : Nat) : Int)) = decide (a < b) := by
  apply decide_eq_decide.2
  rw [UInt8.lt_iff_toNat_lt]
  omega

theorem Less_calls (a b : B) (ha : a.length < 1000000) (hb : b.length < 1000000) {R} (h : ∀ p, p = ltB a b → R (.val (.bool p)) []) : ACalls Try.prog 52 [vs a, vs b] [] R := by
  refine acalls_of_xwp (an := an52) tab_ok Try.func52 ?_
  have hsa := size_ofB a
  have hsb := size_ofB b
  (conv => whnf)
  refine LoopP.ind1 (fun (i : Nat) => [(5, vi i)]) (fun _ => []) (fun i => a.length - i) (fun i => i ≤ a.length ∧ i ≤ b.length ∧ ∀ j, j < i → a[j]? = b[j]?) 0 rfl ⟨by omega, by omega, fun j hj => by omega⟩ ?_
  rintro i ⟨h0, h0', h1⟩ IH
  have hend : (a.length ≤ i ∨ b.length ≤ i) → ltB a b = decide ((a.length : Int) < (b.length : Int)) := by
    intro hc
    rw [← ltB_drop h1 h0 h0']
    rcases hc with hc | hc
    · rw [List.drop_eq_nil_of_le hc]
      cases hd : b.drop i with
      | nil =>
        have := List.drop_eq_nil_iff.1 hd
        simp [ltB, Op.bytesLess]; omega
      | cons y l =>
        have : i < b.length := by
          rcases Nat.lt_or_ge i b.length with h | h
          · exact h
          · rw [List.drop_eq_nil_of_le h] at hd; cases hd
        simp [ltB, Op.bytesLess]; omega
    · rw [List.drop_eq_nil_of_le hc]
      have : ltB (a.drop i) [] = false := by cases a.drop i <;> rfl
      rw [this]
      simp; omega
  (conv => whnf)
  rw [hsa]
  refine br_intro (fun hc => ?_) (fun hc => ?_)
  · have hc := lt_of_dec hc
    (conv => whnf)
    rw [hsb]
    refine br_intro (fun hc' => ?_) (fun hc' => ?_)
    · have hc' := lt_of_dec hc'
      have ea : byteAt (ofB a) (i : Int).toNat = ((a[i]).toNat : Int) := by rw [Int.toNat_natCast, byteAt_ofB a hc]
      have eb : byteAt (ofB b) (i : Int).toNat = ((b[i]).toNat : Int) := by rw [Int.toNat_natCast, byteAt_ofB b hc']
      (conv => whnf); (repeat ((with_reducible refine must_intro ?_ ?_); exact decide_eq_true (by omega); (conv => whnf)))
      rw [ea, eb]
      refine br_intro (fun he => ?_) (fun he => ?_)
      · have he : a[i] ≠ b[i] := by
          intro e
          rw [e] at he
          simp at he
        (conv => whnf); (repeat ((with_reducible refine must_intro ?_ ?_); exact decide_eq_true (by omega); (conv => whnf)))
        rw [ea, eb, u8_lt]
        refine h _ ?_
        rw [← ltB_drop h1 h0 h0', List.drop_eq_getElem_cons hc, List.drop_eq_getElem_cons hc']
        simp [ltB, Op.bytesLess, he]
      · have he : a[i] = b[i] := by
          simp at he
          exact u8_inj.1 he
        (conv => whnf)
        rw [i64_nat (by omega)]
        refine IH (i + 1) ⟨by omega, by omega, fun j hj => ?_⟩ (by omega)
        rcases Nat.lt_or_ge j i with hlt | hge
        · exact h1 j hlt
        · obtain rfl : j = i := by omega
          rw [List.getElem?_eq_getElem hc, List.getElem?_eq_getElem hc', he]
    · have hc' := ge_of_dec hc'
      (conv => whnf)
      rw [hsa, hsb]
      exact h _ (hend (.inr hc')).symm
  · have hc := ge_of_dec hc
    (conv => whnf)
    rw [hsa, hsb]
    exact h _ (hend (.inl hc)).symm
end Go.Abs
end

section
/- Graphs: what is wrong with a node by itself; places. -/
set_option maxRecDepth 100000
set_option linter.unusedVariables false
set_option linter.unusedSimpArgs false
namespace Go.Abs
open Go Go.Proofs
attribute [local irreducible] ibits byteAt strLt firstIdx

theorem tblP_foldl : ∀ (l m : List B), (l.foldl tblP m).length ≤ m.length + l.length ∧ ((l.foldl tblP m).length = m.length + l.length ↔ l.Nodup ∧ ∀ x ∈ l, x ∉ m) := by
  intro l
  induction l with
  | nil => intro m; simp
  | cons a l ih =>
    intro m
    rw [List.foldl_cons]
    obtain ⟨h1, h2⟩ := ih (tblP m a)
    by_cases ha : a ∈ m
    · rw [tblP_some ha] at h1 h2 ⊢
      refine ⟨by simp; omega, ⟨fun h => by simp at h; omega, fun h => absurd ha (h.2 a (by simp))⟩⟩
    · rw [tblP_none ha] at h1 h2 ⊢
      simp only [List.length_append, List.length_cons, List.length_nil] at h1 h2 ⊢
      refine ⟨by omega, ?_⟩
      rw [show (List.foldl tblP (m ++ [a]) l).length = m.length + (l.length + 1) ↔ (List.foldl tblP (m ++ [a]) l).length = m.length + (0 + 1) + l.length by omega, h2]
      simp only [List.nodup_cons, List.mem_append, List.mem_cons, List.not_mem_nil, or_false, not_or]
      constructor
      · rintro ⟨g1, g2⟩
        exact ⟨⟨fun h => (g2 a h).2 rfl, g1⟩, fun x hx => by
          rcases hx with rfl | hx
          · exact ha
          · exact (g2 x hx).1⟩
      · rintro ⟨⟨g1, g2⟩, g3⟩
        exact ⟨g2, fun x hx => ⟨g3 x (.inr hx), fun e => g1 (e ▸ hx)⟩⟩
theorem tblN_len (l : List B) : ((tblN l).length : Int) = l.length ↔ l.Nodup := by
  have := (tblP_foldl l []).2
  unfold tblN
  rw [show (((List.foldl tblP [] l).length : Nat) : Int) = ((l.length : Nat) : Int) ↔ (List.foldl tblP [] l).length = ([] : List B).length + l.length by simp; omega, this]
  simp

def oneBad (n : Nd) : Bool := !nameOk n.name || (n.source && (decide (0 < n.deps.length) || !decide (n.rule = 0)))
def oneP (n : Nd) : Int := if oneBad n = true then 1 else if ¬ (n.name :: n.deps).Nodup then 1 else if 16 < n.deps.length then 5 else 0

theorem one_calls (n : Nd) (hn : n.deps.length < 10000) {R} (h : ∀ e, e = oneP n → R (vi e) []) : ACalls Try.prog 101 [.agg n.enc] [] R := by
  refine acalls_of_xwp (an := an101) tab_ok Try.func101 ?_
  have hsl := strs_length n.deps
  have bad : oneBad n = true → R (vi 1) [] := fun hb => h 1 (by simp [oneP, hb])
  have len : (strs n.deps).length = n.deps.length := strs_length _
  (conv => whnf)
  refine Name_calls n.name ?_
  (conv => whnf)
  refine br_intro (fun h1 => ?_) (fun h1 => ?_)
  · (conv => whnf)
    exact bad (by simp at h1; simp [oneBad, h1])
  have h1 : nameOk n.name = true := by simpa using h1
  have rest : oneBad n = false → (∀ m, m = tblN (n.name :: n.deps) → ((m.length : Int) = n.deps.length + 1 ↔ (n.name :: n.deps).Nodup)) := fun hb m hm => by
    subst hm
    have := tblN_len (n.name :: n.deps)
    rw [List.length_cons] at this
    push_cast at this
    exact this
  (conv => whnf)
  refine br_intro (fun h2 => ?_) (fun h2 => ?_)
  · (conv => whnf)
    refine br_intro (fun h3 => ?_) (fun h3 => ?_)
    · (conv => whnf)
      refine bad ?_
      have h3 : 0 < n.deps.length := by rw [len] at h3; simp at h3; omega
      simp [oneBad, h2, h3]
    · (conv => whnf)
      have h3 : n.deps.length = 0 := by rw [len] at h3; simpa using h3
      refine br_intro (fun h4 => ?_) (fun h4 => ?_)
      · (conv => whnf)
        refine bad ?_
        have h4 : ¬ n.rule = 0 := by
          rintro e
          rw [e] at h4
          simp at h4
        unfold oneBad
        rw [h1, h2, decide_eq_false h4]
        simp
      · (conv => whnf)
        have h4 : n.rule = 0 := by
          have : ((n.rule.toNat : Nat) : Int) = ((0 : U).toNat : Int) := by simpa using h4
          exact u_inj.1 this
        have hb : oneBad n = false := by
          unfold oneBad
          rw [h1, h2, h3, h4]
          simp
        refine ⟨rfl, (show (1 + (strs n.deps).length) * ((tab.ti 9).bytes + 1) ≤ 140737488355328 by rw [len, bytes_str]; omega), ?_⟩
        (conv => whnf)
        refine New_calls n.name n.deps (by omega) fun m hm => ?_
        have hm' := rest hb m hm
        (conv => whnf)
        refine Len_old m ?_
        (conv => whnf)
        have fin : ∀ p : Bool, p = decide (¬ (n.name :: n.deps).Nodup) → oneP n = (if p = true then 1 else if 16 < n.deps.length then 5 else 0) := by
          rintro p rfl
          unfold oneP
          rw [if_neg (by rw [hb]; simp)]
          by_cases hd : (n.name :: n.deps).Nodup
          · have hdd : decide (¬ (n.name :: n.deps).Nodup) = false := decide_eq_false (not_not_intro hd)
            rw [if_neg (not_not_intro hd)]
            simp only [hdd, Bool.false_eq_true, if_false]
          · rw [if_pos hd, if_pos (decide_eq_true hd)]
        rw [len, wrap_i64 (by omega) (by omega)]
        refine br_intro (fun g1 => ?_) (fun g1 => ?_)
        · (conv => whnf)
          refine h 1 ?_
          rw [fin true]
          · simp
          · symm
            apply decide_eq_true
            rw [← hm']
            intro e
            rw [e] at g1
            simp at g1
        · have g1 : (n.name :: n.deps).Nodup := by
            rw [← hm']
            simpa using g1
          have fin := fin false (by simp only [g1, not_true, decide_false])
          (conv => whnf)
          rw [len]
          refine br_intro (fun g2 => ?_) (fun g2 => ?_)
          · (conv => whnf)
            refine h 5 ?_
            rw [fin]
            have : 16 < n.deps.length := by simp at g2; omega
            simp [this]
          · (conv => whnf)
            refine h 0 ?_
            rw [fin]
            have : ¬ 16 < n.deps.length := by simp at g2; omega
            simp [this]
  · (conv => whnf)
    have hb : oneBad n = false := by
      unfold oneBad
      rw [h1, h2]
      simp
    refine ⟨rfl, (show (1 + (strs n.deps).length) * ((tab.ti 9).bytes + 1) ≤ 140737488355328 by rw [len, bytes_str]; omega), ?_⟩
    (conv => whnf)
    refine New_calls n.name n.deps (by omega) fun m hm => ?_
    have hm' := rest hb m hm
    (conv => whnf)
    refine Len_old m ?_
    (conv => whnf)
    have fin : ∀ p : Bool, p = decide (¬ (n.name :: n.deps).Nodup) → oneP n = (if p = true then 1 else if 16 < n.deps.length then 5 else 0) := by
      rintro p rfl
      unfold oneP
      rw [if_neg (by rw [hb]; simp)]
      by_cases hd : (n.name :: n.deps).Nodup
      · have hdd : decide (¬ (n.name :: n.deps).Nodup) = false := decide_eq_false (not_not_intro hd)
        rw [if_neg (not_not_intro hd)]
        simp only [hdd, Bool.false_eq_true, if_false]
      · rw [if_pos hd, if_pos (decide_eq_true hd)]
    rw [len, wrap_i64 (by omega) (by omega)]
    refine br_intro (fun g1 => ?_) (fun g1 => ?_)
    · (conv => whnf)
      refine h 1 ?_
      rw [fin true]
      · simp
      · symm
        apply decide_eq_true
        rw [← hm']
        intro e
        rw [e] at g1
        simp at g1
    · have g1 : (n.name :: n.deps).Nodup := by
        rw [← hm']
        simpa using g1
      have fin := fin false (by simp only [g1, not_true, decide_false])
      (conv => whnf)
      rw [len]
      refine br_intro (fun g2 => ?_) (fun g2 => ?_)
      · (conv => whnf)
        refine h 5 ?_
        rw [fin]
        have : 16 < n.deps.length := by simp at g2; omega
        simp [this]
      · (conv => whnf)
        refine h 0 ?_
        rw [fin]
        have : ¬ 16 < n.deps.length := by simp at g2; omega
        simp [this]

theorem nodup_take {a : B} {l : List B} {i : Nat} (hi : i < l.length) : (a :: l.take (i + 1)).Nodup ↔ (a :: l.take i).Nodup ∧ l[i] ≠ a ∧ l[i] ∉ l.take i := by
  rw [List.take_succ_eq_append_getElem hi]
  simp only [List.nodup_cons, List.mem_append, List.mem_singleton, not_or, List.nodup_append, List.nodup_nil, and_true, List.not_mem_nil, not_false_eq_true]
  constructor
  · rintro ⟨⟨h1, h2⟩, h3, h4, h5⟩
    exact ⟨⟨h1, h3⟩, fun e => h2 e.symm, fun hm => h5 _ hm _ rfl rfl⟩
  · rintro ⟨⟨h1, h3⟩, h2, h5⟩
    exact ⟨⟨h1, fun e => h2 e.symm⟩, h3, trivial, fun x hx y hy e => h5 (by rw [← hy, ← e]; exact hx)⟩

theorem refOne_calls (n : Nd) (hn : n.deps.length < 10000) {R} (h : ∀ e, e = oneP n → R (vi e) []) : ACalls Try.prog 92 [.agg n.enc] [] R := by
  refine acalls_of_xwp (an := an92) tab_ok Try.func92 ?_
  have bad : oneBad n = true → R (vi 1) [] := fun hb => h 1 (by simp [oneP, hb])
  have len : (strs n.deps).length = n.deps.length := strs_length _
  (conv => whnf)
  refine refName_calls n.name ?_
  (conv => whnf)
  refine br_intro (fun h1 => ?_) (fun h1 => ?_)
  · (conv => whnf)
    exact bad (by simp at h1; simp [oneBad, h1])
  have h1 : nameOk n.name = true := by simpa using h1
  (conv => whnf)
  refine br_intro (fun h2 => ?_) (fun h2 => ?_)
  · (conv => whnf)
    refine br_intro (fun h3 => ?_) (fun h3 => ?_)
    · (conv => whnf)
      refine bad ?_
      have h3 : 0 < n.deps.length := by rw [len] at h3; simp at h3; omega
      simp [oneBad, h2, h3]
    · (conv => whnf)
      have h3 : n.deps.length = 0 := by rw [len] at h3; simpa using h3
      refine br_intro (fun h4 => ?_) (fun h4 => ?_)
      · (conv => whnf)
        refine bad ?_
        have h4 : ¬ n.rule = 0 := by
          rintro e
          rw [e] at h4
          simp at h4
        unfold oneBad
        rw [h1, h2, decide_eq_false h4]
        simp
      · (conv => whnf)
        have h4 : n.rule = 0 := by
          have : ((n.rule.toNat : Nat) : Int) = ((0 : U).toNat : Int) := by simpa using h4
          exact u_inj.1 this
        have hb : oneBad n = false := by
          unfold oneBad
          rw [h1, h2, h3, h4]
          simp
        refine LoopP.ind1 (fun (i : Nat) => [(3, vi i)]) (fun _ => []) (fun i => n.deps.length - i) (fun i => i ≤ n.deps.length ∧ (n.name :: n.deps.take i).Nodup) 0 rfl ⟨by omega, by simp⟩ ?_
        rintro i ⟨h0, hd⟩ IH
        (conv => whnf)
        refine br_intro (fun hc => ?_) (fun hc => ?_)
        · have hc := lt_of_decE len hc
          have dup : ¬ (n.name :: n.deps.take (i + 1)).Nodup → R (vi 1) [] := by
            intro hn
            refine h 1 ?_
            have : ¬ (n.name :: n.deps).Nodup := by
              intro hd'
              apply hn
              have : (n.name :: n.deps.take (i + 1)).Sublist (n.name :: n.deps) := List.Sublist.cons_cons _ (List.take_sublist _ _)
              exact hd'.sublist this
            unfold oneP
            rw [if_neg (by rw [hb]; simp), if_pos this]
          (conv => whnf); (repeat ((with_reducible refine must_intro ?_ ?_); exact decide_eq_true (by omega); (conv => whnf)))
          refine idxK_map_intro (show (i : Int).toNat < n.deps.length by simpa using hc) ?_
          rw [show n.deps[(i : Int).toNat]'(by simpa using hc) = n.deps[i] from by congr 1]
          (conv => whnf)
          refine br_intro (fun he => ?_) (fun he => ?_)
          · have he : n.deps[i] = n.name := by simpa [ofB_eq] using he
            (conv => whnf)
            exact dup (by rw [nodup_take hc]; intro hh; exact hh.2.1 he)
          · have he : n.deps[i] ≠ n.name := by simpa [ofB_eq] using he
            (conv => whnf); (repeat ((with_reducible refine must_intro ?_ ?_); exact decide_eq_true (by omega); (conv => whnf)))
            refine idxK_map_intro (show (i : Int).toNat < n.deps.length by simpa using hc) ?_
            rw [show n.deps[(i : Int).toNat]'(by simpa using hc) = n.deps[i] from by congr 1]
            (conv => whnf)
            refine Place_calls (n.deps.take i) n.deps[i] (by simp; omega) (by simp [strs, List.map_take]) fun p hp => ?_
            (conv => whnf)
            refine br_intro (fun hg => ?_) (fun hg => ?_)
            · have hg : n.deps[i] ∈ n.deps.take i := by
                have : 0 ≤ p := by simpa using hg
                rw [hp] at this
                exact Classical.byContradiction fun e => by have := placeI_neg.2 e; omega
              (conv => whnf)
              exact dup (by rw [nodup_take hc]; intro hh; exact hh.2.2 hg)
            · have hg : n.deps[i] ∉ n.deps.take i := by
                have : p < 0 := by simpa using hg
                rw [hp] at this
                exact placeI_neg.1 this
              (conv => whnf)
              rw [i64_nat (by omega)]
              exact IH (i + 1) ⟨by omega, (nodup_take hc).2 ⟨hd, he, hg⟩⟩ (by omega)
        · have hc := ge_of_decE len hc
          rw [List.take_of_length_le hc] at hd
          have fin : oneP n = (if 16 < n.deps.length then 5 else 0) := by
            unfold oneP
            rw [if_neg (by rw [hb]; simp), if_neg (not_not_intro hd)]
          (conv => whnf)
          rw [len]
          refine br_intro (fun g2 => ?_) (fun g2 => ?_)
          · (conv => whnf)
            refine h 5 ?_
            rw [fin]
            have : 16 < n.deps.length := by simp at g2; omega
            simp [this]
          · (conv => whnf)
            refine h 0 ?_
            rw [fin]
            have : ¬ 16 < n.deps.length := by simp at g2; omega
            simp [this]
  · (conv => whnf)
    have hb : oneBad n = false := by
      unfold oneBad
      rw [h1, h2]
      simp
    refine LoopP.ind1 (fun (i : Nat) => [(3, vi i)]) (fun _ => []) (fun i => n.deps.length - i) (fun i => i ≤ n.deps.length ∧ (n.name :: n.deps.take i).Nodup) 0 rfl ⟨by omega, by simp⟩ ?_
    rintro i ⟨h0, hd⟩ IH
    (conv => whnf)
    refine br_intro (fun hc => ?_) (fun hc => ?_)
    · have hc := lt_of_decE len hc
      have dup : ¬ (n.name :: n.deps.take (i + 1)).Nodup → R (vi 1) [] := by
        intro hn
        refine h 1 ?_
        have : ¬ (n.name :: n.deps).Nodup := by
          intro hd'
          apply hn
          have : (n.name :: n.deps.take (i + 1)).Sublist (n.name :: n.deps) := List.Sublist.cons_cons _ (List.take_sublist _ _)
          exact hd'.sublist this
        unfold oneP
        rw [if_neg (by rw [hb]; simp), if_pos this]
      (conv => whnf); (repeat ((with_reducible refine must_intro ?_ ?_); exact decide_eq_true (by omega); (conv => whnf)))
      refine idxK_map_intro (show (i : Int).toNat < n.deps.length by simpa using hc) ?_
      rw [show n.deps[(i : Int).toNat]'(by simpa using hc) = n.deps[i] from by congr 1]
      (conv => whnf)
      refine br_intro (fun he => ?_) (fun he => ?_)
      · have he : n.deps[i] = n.name := by simpa [ofB_eq] using he
        (conv => whnf)
        exact dup (by rw [nodup_take hc]; intro hh; exact hh.2.1 he)
      · have he : n.deps[i] ≠ n.name := by simpa [ofB_eq] using he
        (conv => whnf); (repeat ((with_reducible refine must_intro ?_ ?_); exact decide_eq_true (by omega); (conv => whnf)))
        refine idxK_map_intro (show (i : Int).toNat < n.deps.length by simpa using hc) ?_
        rw [show n.deps[(i : Int).toNat]'(by simpa using hc) = n.deps[i] from by congr 1]
        (conv => whnf)
        refine Place_calls (n.deps.take i) n.deps[i] (by simp; omega) (by simp [strs, List.map_take]) fun p hp => ?_
        (conv => whnf)
        refine br_intro (fun hg => ?_) (fun hg => ?_)
        · have hg : n.deps[i] ∈ n.deps.take i := by
            have : 0 ≤ p := by simpa using hg
            rw [hp] at this
            exact Classical.byContradiction fun e => by have := placeI_neg.2 e; omega
          (conv => whnf)
          exact dup (by rw [nodup_take hc]; intro hh; exact hh.2.2 hg)
        · have hg : n.deps[i] ∉ n.deps.take i := by
            have : p < 0 := by simpa using hg
            rw [hp] at this
            exact placeI_neg.1 this
          (conv => whnf)
          rw [i64_nat (by omega)]
          exact IH (i + 1) ⟨by omega, (nodup_take hc).2 ⟨hd, he, hg⟩⟩ (by omega)
    · have hc := ge_of_decE len hc
      rw [List.take_of_length_le hc] at hd
      have fin : oneP n = (if 16 < n.deps.length then 5 else 0) := by
        unfold oneP
        rw [if_neg (by rw [hb]; simp), if_neg (not_not_intro hd)]
      (conv => whnf)
      rw [len]
      refine br_intro (fun g2 => ?_) (fun g2 => ?_)
      · (conv => whnf)
        refine h 5 ?_
        rw [fin]
        have : 16 < n.deps.length := by simp at g2; omega
        simp [this]
      · (conv => whnf)
        refine h 0 ?_
        rw [fin]
        have : ¬ 16 < n.deps.length := by simp at g2; omega
        simp [this]

/-! ### maps of texts, whatever stands in them -/
def KeyMap (Pv : AV → Prop) (es : List (ByteArray × AV)) (S : B → Prop) : Prop := ∀ s, (S s → ∃ v, mapFind es (ofB s) = some v ∧ Pv v) ∧ (¬ S s → mapFind es (ofB s) = none)
theorem mapFind_put (es : List (ByteArray × AV)) (k k' : ByteArray) (v : AV) : mapFind (mapPut es k v) k' = if k = k' then some v else mapFind es k' := by
  induction es with
  | nil => simp [mapPut, mapFind]
  | cons e es ih =>
    obtain ⟨s, u⟩ := e
    simp only [mapPut]
    by_cases h : s = k
    · subst h
      rw [if_pos rfl]
      simp only [mapFind]
      split <;> simp_all
    · rw [if_neg h]
      simp only [mapFind, ih]
      by_cases h1 : s = k'
      · subst h1
        rw [if_pos rfl, if_neg (Ne.symm h), if_pos rfl]
      · rw [if_neg h1, if_neg h1]
theorem KeyMap.nil (Pv : AV → Prop) : KeyMap Pv [] fun _ => False := fun s => ⟨fun h => h.elim, fun _ => rfl⟩
theorem KeyMap.put {Pv : AV → Prop} {es : List (ByteArray × AV)} {S S' : B → Prop} (h : KeyMap Pv es S) (k : B) {v : AV} (hv : Pv v) (hS : ∀ s, S' s ↔ S s ∨ s = k) : KeyMap Pv (mapPut es (ofB k) v) S' := by
  intro s
  rw [mapFind_put]
  by_cases e : k = s
  · subst e
    rw [if_pos rfl]
    exact ⟨fun _ => ⟨v, rfl, hv⟩, fun hn => absurd ((hS k).2 (.inr rfl)) hn⟩
  · rw [if_neg (fun e' => e (ofB_inj e'))]
    refine ⟨fun hs => (h s).1 (((hS s).1 hs).resolve_right (fun e' => e e'.symm)), fun hs => (h s).2 fun hs' => hs ((hS s).2 (.inl hs'))⟩

theorem places_calls (l : List Nd) (hl : l.length < 1000000) {R} (h : ∀ es, KeyMap (fun v => ∃ j, v = vi j) es (fun s => s ∈ l.map (·.name)) → R (.mapv 0) [.map es]) : ACalls Try.prog 102 [.sl none 4 (nds l)] [] R := by
  refine acalls_of_xwp (an := an102) tab_ok Try.func102 ?_
  have hsl := nds_length l
  (conv => whnf)
  refine LoopP.ind2 (fun (i : Nat) (es : List (ByteArray × AV)) => [(9, vi i)]) (fun _ es => [(nameOf 6, .map es)]) (fun i _ => l.length - i) (fun i es => i ≤ l.length ∧ KeyMap (fun v => ∃ j, v = vi j) es (fun s => s ∈ (l.take i).map (·.name))) 0 [] rfl ⟨by omega, by simpa using KeyMap.nil _⟩ ?_
  rintro i es ⟨h0, h1⟩ IH
  (conv => whnf)
  refine br_intro (fun hc => ?_) (fun hc => ?_)
  · have hc := lt_of_decE hsl hc
    (conv => whnf); (repeat ((with_reducible refine must_intro ?_ ?_); exact decide_eq_true (by omega); (conv => whnf)))
    refine idxK_map_intro (show (i : Int).toNat < l.length by simpa using hc) ?_
    rw [show l[(i : Int).toNat]'(by simpa using hc) = l[i] from by congr 1]
    (conv => whnf)
    rw [i64_nat (by omega)]
    refine IH (i + 1) (mapPut es (ofB l[i].name) (vi i)) ⟨by omega, ?_⟩ (by omega)
    refine h1.put l[i].name ⟨_, rfl⟩ fun s => ?_
    rw [List.take_succ_eq_append_getElem hc]
    simp only [List.map_append, List.map_cons, List.map_nil, List.mem_append, List.mem_singleton]
  · have hc := ge_of_decE hsl hc
    (conv => whnf)
    refine h es ?_
    rwa [List.take_of_length_le hc] at h1
end Go.Abs
end

section
/- Graphs: the order. -/
set_option maxRecDepth 100000
set_option linter.unusedVariables false
set_option linter.unusedSimpArgs false
namespace Go.Abs
open Go Go.Proofs
attribute [local irreducible] ibits byteAt strLt firstIdx

/-- The name of a place. -/
def nm (l : List Nd) (i : Nat) : B := ((l[i]?).map (·.name)).getD []
theorem nm_eq {l : List Nd} {i : Nat} (h : i < l.length) : nm l i = l[i].name := by simp [nm, List.getElem?_eq_getElem h]
def dps (l : List Nd) (i : Nat) : List B := ((l[i]?).map (·.deps)).getD []
theorem dps_eq {l : List Nd} {i : Nat} (h : i < l.length) : dps l i = l[i].deps := by simp [dps, List.getElem?_eq_getElem h]
def ready (l : List Nd) (D : List B) (i : Nat) : Bool := decide (nm l i ∉ D) && decide (∀ d ∈ dps l i, d ∈ D)
def bstep (l : List Nd) (D : List B) (best : Option Nat) (i : Nat) : Option Nat :=
  if ready l D i = true ∧ (∀ b, best = some b → ltB (nm l i) (nm l b) = true) then some i else best
def best (l : List Nd) (D : List B) (k : Nat) : Option Nat := (List.range k).foldl (bstep l D) none
theorem best_succ (l : List Nd) (D : List B) (k : Nat) : best l D (k + 1) = bstep l D (best l D k) k := by simp [best, List.range_succ]
theorem best_some {l : List Nd} {D : List B} : ∀ {k b : Nat}, best l D k = some b → b < k ∧ ready l D b = true := by
  intro k
  induction k with
  | zero => intro b h; simp [best] at h
  | succ k ih =>
    intro b h
    rw [best_succ] at h
    unfold bstep at h
    split at h
    · rename_i hc
      simp only [Option.some.injEq] at h
      subst h
      exact ⟨by omega, hc.1⟩
    · have := ih h
      exact ⟨by omega, this.2⟩
def bestI (o : Option Nat) : Int := match o with | none => -1 | some b => b
def rowFrom (l : List Nd) : Nat → List Nat → List Nat
  | 0, out => out
  | k + 1, out => match best l (out.map (nm l)) l.length with
    | none => out
    | some b => rowFrom l k (out ++ [b])
def rowP (l : List Nd) : List Nat := rowFrom l l.length []

/-! ### closures over what is done -/
abbrev isT (v : AV) : Prop := v = .val (.bool true)
theorem rowf_calls (s : B) (D : List B) (es : List (ByteArray × AV)) (hk : KeyMap isT es (· ∈ D)) {R} (h : R (.val (.bool (decide (s ∉ D)))) [.cells 77 [.mapv 1], .map es]) :
    ACalls Try.prog 103 [vs s, .ptr 0 0] [.cells 77 [.mapv 1], .map es] R := by
  refine acalls_of_xwp (an := an103) tab_ok Try.func103 ?_
  by_cases hs : s ∈ D
  · obtain ⟨v, h1, rfl⟩ := (hk s).1 hs
    (conv => whnf)
    rw [h1]
    rw [decide_eq_false (not_not_intro hs)] at h
    (conv => whnf)
    exact h
  · have h1 := (hk s).2 hs
    (conv => whnf)
    rw [h1]
    rw [decide_eq_true hs] at h
    (conv => whnf)
    exact h

theorem rowIdx_calls (l : List B) (hl : l.length < 1000000) (D : List B) (es : List (ByteArray × AV)) (hk : KeyMap isT es (· ∈ D)) {R} (h : ∀ p : Int, (0 ≤ p ↔ ∃ d ∈ l, d ∉ D) → R (vi p) [.cells 77 [.mapv 1], .map es]) :
    ACalls Try.prog 96 [.sl none 1 (strs l), .fn (.func 103) [] [.ptr 0 0]] [.cells 77 [.mapv 1], .map es] R := by
  refine acalls_of_xwp (an := an96) tab_ok Try.func96 ?_
  have hsl := strs_length l
  (conv => whnf)
  refine LoopP.ind1 (fun (i : Nat) => [(8, vi i)]) (fun _ => [(0, .cells 77 [.mapv 1]), (1, .map es)]) (fun i => l.length - i) (fun i => i ≤ l.length ∧ ∀ d ∈ l.take i, d ∈ D) 0 rfl ⟨by omega, by simp⟩ ?_
  rintro i ⟨h0, h1⟩ IH
  (conv => whnf)
  refine br_intro (fun hc => ?_) (fun hc => ?_)
  · have hc := lt_of_decE hsl hc
    (conv => whnf); (repeat ((with_reducible refine must_intro ?_ ?_); exact decide_eq_true (by omega); (conv => whnf)))
    refine idxK_map_intro (show (i : Int).toNat < l.length by simpa using hc) ?_
    rw [show l[(i : Int).toNat]'(by simpa using hc) = l[i] from by congr 1]
    (conv => whnf)
    refine rowf_calls l[i] D es hk ?_
    (conv => whnf)
    refine br_intro (fun he => ?_) (fun he => ?_)
    · have he : l[i] ∉ D := of_decide_eq_true he
      (conv => whnf)
      exact h _ ⟨fun _ => ⟨_, List.getElem_mem hc, he⟩, fun _ => by omega⟩
    · have he : l[i] ∈ D := by simpa using he
      (conv => whnf)
      rw [i64_nat (by omega)]
      refine IH (i + 1) ⟨by omega, fun d hd => ?_⟩ (by omega)
      rw [List.take_succ_eq_append_getElem hc, List.mem_append, List.mem_singleton] at hd
      rcases hd with hd | rfl
      · exact h1 d hd
      · exact he
  · have hc := ge_of_decE hsl hc
    rw [List.take_of_length_le hc] at h1
    (conv => whnf)
    exact h (-1) ⟨fun hh => by omega, fun ⟨d, hd, hn⟩ => absurd (h1 d hd) hn⟩

theorem rowAny_calls (l : List B) (hl : l.length < 1000000) (D : List B) (es : List (ByteArray × AV)) (hk : KeyMap isT es (· ∈ D)) {R} (h : ∀ b, b = decide (∃ d ∈ l, d ∉ D) → R (.val (.bool b)) [.cells 77 [.mapv 1], .map es]) :
    ACalls Try.prog 66 [.sl none 1 (strs l), .fn (.func 103) [] [.ptr 0 0]] [.cells 77 [.mapv 1], .map es] R := by
  refine acalls_of_xwp (an := an66) tab_ok Try.func66 ?_
  (conv => whnf)
  refine rowIdx_calls l hl D es hk fun p hp => ?_
  (conv => whnf)
  refine h _ ?_
  exact decide_eq_decide.2 hp

def small (l : List Nd) : Prop := l.length < 100000 ∧ ∀ n ∈ l, n.deps.length < 10000 ∧ n.name.length < 10000 ∧ ∀ d ∈ n.deps, d.length < 10000

theorem row_calls (l : List Nd) (hl : small l) {R} (h : ∀ r, r = rowP l → R (.sl none 1 (ints r)) []) : ACalls Try.prog 72 [.sl none 4 (nds l)] [] R := by
  refine acalls_of_xwp (an := an72) tab_ok Try.func72 ?_
  obtain ⟨hlen, hsm⟩ := hl
  have hsl := nds_length l
  (conv => whnf)
  refine LoopP.ind2 (fun (out : List Nat) (es : List (ByteArray × AV)) => [(4, .sl (some (nameOf 4)) 1 (ints out)), (12, vi out.length)]) (fun out es => [(nameOf 3, .cells 77 [.mapv (nameOf 9)]), (nameOf 4, .row 3 1 out.length), (nameOf 9, .map es)])
    (fun out _ => l.length - out.length) (fun out es => out.length ≤ l.length ∧ rowFrom l (l.length - out.length) out = rowP l ∧ KeyMap isT es (· ∈ out.map (nm l)) ∧ ∀ b ∈ out, b < l.length) [] [] rfl ⟨by simp, rfl, by simpa using KeyMap.nil _, by simp⟩ ?_
  rintro out es ⟨h0, h1, hk, hb⟩ IH
  have hol := ints_length out
  (conv => whnf)
  refine br_intro (fun hc => ?_) (fun hc => ?_)
  · have hc := lt_of_decE hsl hc
    (conv => whnf)
    refine LoopP.ind1 (fun (k : Nat) => [(5, vi (bestI (best l (out.map (nm l)) k))), (16, vi k)]) (fun _ => [(nameOf 3, .cells 77 [.mapv (nameOf 9)]), (nameOf 4, .row 3 1 out.length), (nameOf 9, .map es)]) (fun k => l.length - k) (fun k => k ≤ l.length) 0 rfl (by omega) ?_
    rintro k hk0 IH2
    (conv => whnf)
    refine br_intro (fun hc2 => ?_) (fun hc2 => ?_)
    · have hc2 := lt_of_decE hsl hc2
      (conv => whnf); (repeat ((with_reducible refine must_intro ?_ ?_); exact decide_eq_true (by omega); (conv => whnf)))
      refine idxK_map_intro (show (k : Int).toNat < l.length by simpa using hc2) ?_
      rw [show l[(k : Int).toNat]'(by simpa using hc2) = l[k] from by congr 1]
      (conv => whnf)
      have same : ready l (out.map (nm l)) k = false → bestI (best l (out.map (nm l)) k) = bestI (best l (out.map (nm l)) (k + 1)) := by
        intro hr
        rw [best_succ]
        unfold bstep
        rw [if_neg (by rw [hr]; simp)]
      by_cases hs : l[k].name ∈ out.map (nm l)
      · obtain ⟨v, e1, rfl⟩ := (hk _).1 hs
        have hr : ready l (out.map (nm l)) k = false := by
          unfold ready
          rw [nm_eq hc2, decide_eq_false (not_not_intro hs), Bool.false_and]
        rw [e1, same hr]
        (conv => whnf)
        rw [i64_nat (by omega)]
        exact IH2 (k + 1) (by omega) (by omega)
      · rw [(hk _).2 hs]
        (conv => whnf)
        refine rowAny_calls l[k].deps (by have := (hsm _ (List.getElem_mem hc2)).1; omega) (out.map (nm l)) es hk fun b hbq => ?_
        (conv => whnf)
        refine br_intro (fun hb1 => ?_) (fun hb1 => ?_)
        · have hb1 : b = false := by simpa using hb1
          have hr : ready l (out.map (nm l)) k = true := by
            unfold ready
            rw [nm_eq hc2, dps_eq hc2, decide_eq_true hs, Bool.true_and]
            apply decide_eq_true
            intro d hd
            rw [hb1] at hbq
            have := of_decide_eq_false hbq.symm
            exact Classical.byContradiction fun hn => this ⟨d, hd, hn⟩
          cases hbk : best l (out.map (nm l)) k with
          | none =>
            have e2 : best l (out.map (nm l)) (k + 1) = some k := by
              rw [best_succ, hbk]
              unfold bstep
              rw [if_pos ⟨hr, fun b hb => by cases hb⟩]
            (conv => whnf)
            rw [i64_nat (by omega)]
            have := IH2 (k + 1) (by omega) (by omega)
            rw [e2] at this
            exact this
          | some b0 =>
            obtain ⟨g1, g2⟩ := best_some hbk
            have g1 : b0 < l.length := by omega
            rw [show bestI (some b0) = (b0 : Int) from rfl]
            (conv => whnf); (repeat ((with_reducible refine must_intro ?_ ?_); exact decide_eq_true (by omega); (conv => whnf)))
            refine idxK_map_intro (show (b0 : Int).toNat < l.length by simpa using g1) ?_
            rw [show l[(b0 : Int).toNat]'(by simpa using g1) = l[b0] from by congr 1]
            (conv => whnf)
            rw [strLt_ofB]
            refine br_intro (fun hlt => ?_) (fun hlt => ?_)
            · have e2 : best l (out.map (nm l)) (k + 1) = some k := by
                rw [best_succ, hbk]
                unfold bstep
                rw [if_pos ⟨hr, fun b hb => by cases hb; rw [nm_eq hc2, nm_eq g1]; exact hlt⟩]
              (conv => whnf)
              rw [i64_nat (by omega)]
              have := IH2 (k + 1) (by omega) (by omega)
              rw [e2] at this
              exact this
            · have e2 : best l (out.map (nm l)) (k + 1) = some b0 := by
                rw [best_succ, hbk]
                unfold bstep
                rw [if_neg (fun hh => by have := hh.2 b0 rfl; rw [nm_eq hc2, nm_eq g1, hlt] at this; cases this)]
              (conv => whnf)
              rw [i64_nat (by omega)]
              have := IH2 (k + 1) (by omega) (by omega)
              rw [e2] at this
              exact this
        · have hb1 : b = true := by simpa using hb1
          have hr : ready l (out.map (nm l)) k = false := by
            unfold ready
            rw [dps_eq hc2, Bool.and_eq_false_iff]
            right
            apply decide_eq_false
            intro hall
            rw [hb1] at hbq
            obtain ⟨d, hd, hn⟩ := of_decide_eq_true hbq.symm
            exact hn (hall d hd)
          rw [same hr]
          (conv => whnf)
          rw [i64_nat (by omega)]
          exact IH2 (k + 1) (by omega) (by omega)
    · have hc2 := ge_of_decE hsl hc2
      obtain rfl : k = l.length := by omega
      obtain ⟨j, hj⟩ : ∃ j, l.length - out.length = j + 1 := ⟨l.length - out.length - 1, by omega⟩
      rw [hj, rowFrom] at h1
      cases hbk : best l (out.map (nm l)) l.length with
      | none =>
        rw [hbk] at h1
        (conv => whnf)
        exact h _ h1
      | some b =>
        rw [hbk] at h1
        obtain ⟨g1, g2⟩ := best_some hbk
        rw [show bestI (some b) = (b : Int) from rfl]
        (conv => whnf); (repeat ((with_reducible refine must_intro ?_ ?_); exact decide_eq_true (by omega); (conv => whnf)))
        refine idxK_map_intro (show (b : Int).toNat < l.length by simpa using g1) ?_
        rw [show l[(b : Int).toNat]'(by simpa using g1) = l[b] from by congr 1]
        (conv => whnf)
        refine ⟨hol.symm, ?_, ?_⟩
        · rw [hol]
          show (out.length + 1) * (8 + 1) ≤ _
          omega
        (conv => whnf)
        have e1 : ints out ++ [[AV.val (Value.int IntKind.i64 (b : Int))]] = ints (out ++ [b]) := by simp [ints, vi]
        have e2 : (ints out).length + [[AV.val (Value.int IntKind.i64 (b : Int))]].length = (out ++ [b]).length := by simp [hol]
        rw [e1, e2, i64_nat (by omega), show out.length + 1 = (out ++ [b]).length by simp]
        refine IH (out ++ [b]) (mapPut es (ofB l[b].name) (.val (.bool true))) ⟨by simp; omega, ?_, ?_, ?_⟩ (by simp; omega)
        · rw [← h1]
          congr 1
          simp; omega
        · refine hk.put l[b].name rfl fun s => ?_
          simp only [List.map_append, List.map_cons, List.map_nil, List.mem_append, List.mem_singleton, nm_eq g1]
        · intro x hx
          rw [List.mem_append, List.mem_singleton] at hx
          rcases hx with hx | rfl
          · exact hb x hx
          · exact g1
  · have hc := ge_of_decE hsl hc
    (conv => whnf)
    refine h out ?_
    rw [show l.length - out.length = 0 by omega] at h1
    exact h1
end Go.Abs
end

section
/-
  DERIVED: THE SHELF's CONTRACTS AT THIS DUMP, IN PLAIN WORDS (tools/lay-plain.mjs out of 'TryShelf.lean', which tools/lay-shelf.mjs wrote): THE SAME DECLARATIONS UNDER THE SAME NAMES: 'import', 'namespace', 'open', 'def', 'theorem' AND NOTHING ELSE: no command of the shelf's: FOR A HAND-IN. Each laying: the table of numbers ('.._ren') and one theorem, a field a fact of the dump's own or the kernel's comparison; each contract: ONE APPLICATION.
-/
namespace Go.Proofs
open Go.Shelf
def Try.lays128_ren : Go.Shelf.Ren := ⟨fun | 128 => 120 | n => n, fun | 51 => 164 | 3 => 3 | 4 => 4 | 46 => 129 | 5 => 5 | 9 => 9 | n => n, fun | n => n⟩
theorem Try.lays128 : Go.Proofs.Lays.n128 Try.prog Try.lays128_ren := {
  mixed := by kernel_rfl
  f128 := Try.func120.trans (congrArg some (by kernel_rfl))
  t3 := Try.underlying3
  a3 := Try.isAgg3
  z3 := Try.sizeOf3
  v3 := Try.zeroValue3
  t4 := Try.underlying4
  a4 := Try.isAgg4
  z4 := Try.sizeOf4
  v4 := Try.zeroValue4
  t5 := Try.underlying5
  a5 := Try.isAgg5
  z5 := Try.sizeOf5
  v5 := Try.zeroValue5
  t9 := Try.underlying9
  a9 := Try.isAgg9
  z9 := Try.sizeOf9
  v9 := Try.zeroValue9
  t46 := Try.underlying129
  a46 := Try.isAgg129
  z46 := Try.sizeOf129
  v46 := Try.zeroValue129
  t51 := Try.underlying164
  a51 := Try.isAgg164
  z51 := Try.sizeOf164
  v51 := Try.zeroValue164 }
/-- bits.Len32: "Len32 returns the minimum number of bits required to represent x; the result is 0 for x == 0.": IT RETURNS 'Lib.bitLen x'; the world is as it was. ('h0', 'h1': x is a uint32.) (LAID: no walk: one application.) -/
theorem Try.bits_Len32 (x : Int) (w : World) (h0 : 0 ≤ x) (h1 : x ≤ 4294967295) :
    Calls Try.prog 120 #[.int .u32 x] w fun e w' => e = .returned (.int .i64 (Lib.bitLen x.toNat)) ∧ w' = w := Any.bits_Len32 Try.lays128 x w h0 h1
def Try.lays125_ren : Go.Shelf.Ren := ⟨fun | 125 => 91 | 128 => 120 | 129 => 121 | n => n, fun | 46 => 129 | 3 => 3 | 51 => 164 | 53 => 26 | 4 => 4 | 5 => 5 | 9 => 9 | n => n, fun | n => n⟩
theorem Try.lays125 : Go.Proofs.Lays.n125 Try.prog Try.lays125_ren := {
  mixed := by kernel_rfl
  f125 := Try.func91.trans (congrArg some (by kernel_rfl))
  f128 := Try.func120.trans (congrArg some (by kernel_rfl))
  f129 := Try.func121.trans (congrArg some (by kernel_rfl))
  t3 := Try.underlying3
  a3 := Try.isAgg3
  z3 := Try.sizeOf3
  v3 := Try.zeroValue3
  t4 := Try.underlying4
  a4 := Try.isAgg4
  z4 := Try.sizeOf4
  v4 := Try.zeroValue4
  t5 := Try.underlying5
  a5 := Try.isAgg5
  z5 := Try.sizeOf5
  v5 := Try.zeroValue5
  t9 := Try.underlying9
  a9 := Try.isAgg9
  z9 := Try.sizeOf9
  v9 := Try.zeroValue9
  t46 := Try.underlying129
  a46 := Try.isAgg129
  z46 := Try.sizeOf129
  v46 := Try.zeroValue129
  t51 := Try.underlying164
  a51 := Try.isAgg164
  z51 := Try.sizeOf164
  v51 := Try.zeroValue164
  t53 := Try.underlying26
  a53 := Try.isAgg26
  z53 := Try.sizeOf26
  v53 := Try.zeroValue26 }
/-- bits.Len: "Len returns the minimum number of bits required to represent x; the result is 0 for x == 0.": IT RETURNS 'Lib.bitLen x'; the world is as it was. (A uint has 64 bits in the model.) ITS CALLEE bits.Len64 IS MET BY ITS OWN CONTRACT OFF THE SHELF (lay that first). (LAID: no walk: one application.) -/
theorem Try.bits_Len (x : Int) (w : World) (h0 : 0 ≤ x) (h1 : x ≤ 18446744073709551615) :
    Calls Try.prog 91 #[.int .u64 x] w fun e w' => e = .returned (.int .i64 (Lib.bitLen x.toNat)) ∧ w' = w := Any.bits_Len Try.lays125 x w h0 h1
def Try.lays129_ren : Go.Shelf.Ren := ⟨fun | 129 => 121 | n => n, fun | 53 => 26 | 3 => 3 | 4 => 4 | 46 => 129 | 5 => 5 | 9 => 9 | n => n, fun | n => n⟩
theorem Try.lays129 : Go.Proofs.Lays.n129 Try.prog Try.lays129_ren := {
  mixed := by kernel_rfl
  f129 := Try.func121.trans (congrArg some (by kernel_rfl))
  t3 := Try.underlying3
  a3 := Try.isAgg3
  z3 := Try.sizeOf3
  v3 := Try.zeroValue3
  t4 := Try.underlying4
  a4 := Try.isAgg4
  z4 := Try.sizeOf4
  v4 := Try.zeroValue4
  t5 := Try.underlying5
  a5 := Try.isAgg5
  z5 := Try.sizeOf5
  v5 := Try.zeroValue5
  t9 := Try.underlying9
  a9 := Try.isAgg9
  z9 := Try.sizeOf9
  v9 := Try.zeroValue9
  t46 := Try.underlying129
  a46 := Try.isAgg129
  z46 := Try.sizeOf129
  v46 := Try.zeroValue129
  t53 := Try.underlying26
  a53 := Try.isAgg26
  z53 := Try.sizeOf26
  v53 := Try.zeroValue26 }
/-- bits.Len64: "Len64 returns the minimum number of bits required to represent x; the result is 0 for x == 0.": IT RETURNS 'Lib.bitLen x'; the world is as it was. ('h0', 'h1': x is a uint64.) (LAID: no walk: one application.) -/
theorem Try.bits_Len64 (x : Int) (w : World) (h0 : 0 ≤ x) (h1 : x ≤ 18446744073709551615) :
    Calls Try.prog 121 #[.int .u64 x] w fun e w' => e = .returned (.int .i64 (Lib.bitLen x.toNat)) ∧ w' = w := Any.bits_Len64 Try.lays129 x w h0 h1
def Try.lays190_ren : Go.Shelf.Ren := ⟨fun | 190 => 59 | 125 => 91 | 258 => 90 | 128 => 120 | 129 => 121 | 302 => 111 | 303 => 112 | 304 => 113 | 305 => 114 | 306 => 115 | 307 => 116 | 308 => 117 | 309 => 118 | 310 => 119 | 333 => 131 | 329 => 132 | 330 => 133 | 334 => 134 | 335 => 135 | 336 => 136 | 344 => 137 | n => n, fun | 31 => 42 | 9 => 9 | 3 => 3 | 46 => 129 | 0 => 0 | 51 => 164 | 53 => 26 | 4 => 4 | 183 => 158 | 182 => 157 | 131 => 148 | 5 => 5 | 218 => 174 | 222 => 178 | 228 => 181 | 229 => 182 | n => n, fun | n => n⟩
theorem Try.lays190 : Go.Proofs.Lays.n190 Try.prog Try.lays190_ren := {
  mixed := by kernel_rfl
  f125 := Try.func91.trans (congrArg some (by kernel_rfl))
  f128 := Try.func120.trans (congrArg some (by kernel_rfl))
  f129 := Try.func121.trans (congrArg some (by kernel_rfl))
  f190 := Try.func59.trans (congrArg some (by kernel_rfl))
  f258 := Try.func90.trans (congrArg some (by kernel_rfl))
  f302 := Try.func111.trans (congrArg some (by kernel_rfl))
  f303 := Try.func112.trans (congrArg some (by kernel_rfl))
  f304 := Try.func113.trans (congrArg some (by kernel_rfl))
  f305 := Try.func114.trans (congrArg some (by kernel_rfl))
  f306 := Try.func115.trans (congrArg some (by kernel_rfl))
  f307 := Try.func116.trans (congrArg some (by kernel_rfl))
  f308 := Try.func117.trans (congrArg some (by kernel_rfl))
  f309 := Try.func118.trans (congrArg some (by kernel_rfl))
  f310 := Try.func119.trans (congrArg some (by kernel_rfl))
  f329 := Try.func132.trans (congrArg some (by kernel_rfl))
  f330 := Try.func133.trans (congrArg some (by kernel_rfl))
  f333 := Try.func131.trans (congrArg some (by kernel_rfl))
  f334 := Try.func134.trans (congrArg some (by kernel_rfl))
  f335 := Try.func135.trans (congrArg some (by kernel_rfl))
  f336 := Try.func136.trans (congrArg some (by kernel_rfl))
  f344 := Try.func137.trans (congrArg some (by kernel_rfl))
  t0 := Try.underlying0
  a0 := Try.isAgg0
  z0 := Try.sizeOf0
  v0 := Try.zeroValue0
  t3 := Try.underlying3
  a3 := Try.isAgg3
  z3 := Try.sizeOf3
  v3 := Try.zeroValue3
  t4 := Try.underlying4
  a4 := Try.isAgg4
  z4 := Try.sizeOf4
  v4 := Try.zeroValue4
  t5 := Try.underlying5
  a5 := Try.isAgg5
  z5 := Try.sizeOf5
  v5 := Try.zeroValue5
  t9 := Try.underlying9
  a9 := Try.isAgg9
  z9 := Try.sizeOf9
  v9 := Try.zeroValue9
  t31 := Try.underlying42
  a31 := Try.isAgg42
  z31 := Try.sizeOf42
  v31 := Try.zeroValue42
  t46 := Try.underlying129
  a46 := Try.isAgg129
  z46 := Try.sizeOf129
  v46 := Try.zeroValue129
  t51 := Try.underlying164
  a51 := Try.isAgg164
  z51 := Try.sizeOf164
  v51 := Try.zeroValue164
  t53 := Try.underlying26
  a53 := Try.isAgg26
  z53 := Try.sizeOf26
  v53 := Try.zeroValue26
  t131 := Try.underlying148
  a131 := Try.isAgg148
  z131 := Try.sizeOf148
  v131 := Try.zeroValue148
  t182 := Try.underlying157
  a182 := Try.isAgg157
  z182 := Try.sizeOf157
  v182 := Try.zeroValue157
  t183 := Try.underlying158
  a183 := Try.isAgg158
  z183 := Try.sizeOf158
  v183 := Try.zeroValue158
  t218 := Try.underlying174
  a218 := Try.isAgg174
  z218 := Try.sizeOf174
  v218 := Try.zeroValue174
  t222 := Try.underlying178
  a222 := Try.isAgg178
  z222 := Try.sizeOf178
  v222 := Try.zeroValue178
  t228 := Try.underlying181
  a228 := Try.isAgg181
  z228 := Try.sizeOf181
  v228 := Try.zeroValue181
  t229 := Try.underlying182
  a229 := Try.isAgg182
  z229 := Try.sizeOf182
  v229 := Try.zeroValue182 }
open Go.Sort Go.RowKit in
theorem Try.slices_Sort_string (blk off cap : Nat) (ss : List (List UInt8)) (w : World) (hH : Holds encStr w blk off ss.toArray) (hblk : blk < w.heap.size) (hsz : ss.length < 4611686018427387904) :
    Calls Try.prog 59 #[.slice (some ⟨blk, off, none⟩) ss.length cap] w fun e w' =>
      e = .returned (.tuple #[]) ∧ ∃ n os, w' = grow (putRow encStr (Sort.ahead w n) blk off (ss.mergeSort fun x y => decide (x ≤ y)).toArray) os := Any.slices_Sort_string Try.lays190 blk off cap ss w hH hblk hsz
open Go.RowKit Go.Sort in
/-- .. and plain. (LAID: no walk: one application.) -/
theorem Try.slices_Sort_string_none (p : Option Addr) (cap : Nat) (w : World) :
    Calls Try.prog 59 #[.slice p 0 cap] w fun e w' => e = .returned (.tuple #[]) ∧ w' = w := Any.slices_Sort_string_none Try.lays190 p cap w
end Go.Proofs
end

section
/- slices.Sort of texts: the kit's contract, told of a row whose elements may change. -/
set_option maxRecDepth 100000
set_option linter.unusedVariables false
set_option linter.unusedSimpArgs false
namespace Go.Abs
open Go Go.Proofs Go.Sort

def entryS (G : Gh) (w : World) : Entry := ⟨G, w, fun b => ∃ n, G.at n b, True⟩
theorem invS {G : Gh} {os : List AObj} {w : World} (hW : WR G (numbered 0 os) w) : Inv (entryS G w) ⟨[], numbered 0 os⟩ G { tmps := #[], defers := [] } w :=
  ⟨by simp [RepL], Marks.nil _ _ _, hW, Gh.le.refl _, ⟨rfl, rfl, rfl, Nat.le_refl _, fun _ _ _ => rfl, fun _ _ _ _ => rfl⟩, fun n b hb => .inl ⟨n, hb⟩⟩
theorem packS {P : Program} {f : FuncId} {args : List AV} {os : List AObj} {R : AV → List AObj → Prop}
    (h : ∀ (G : Gh) (w : World) (vals : List Value), WR G (numbered 0 os) w → RepL G args vals → Calls P f vals.toArray w fun e w' => ∃ (v : Value) (r : AV) (os' : List AObj) (G' : Gh), e = .returned v ∧ R r os' ∧ Rep G' r v ∧
      Inv (entryS G w) ⟨[], numbered 0 os'⟩ G' { tmps := #[], defers := [] } w' ∧ (∀ (i : Nat) (o : AObj), os'[i]? = some o → ∀ m ∈ objNames o, m < os'.length) ∧ ∀ m ∈ r.names, m < os'.length) : ACalls P f args os R :=
  ⟨fun G w vals hW hA => (h G w vals hW hA).mono fun e w' ⟨v, r, os', G', h1, h2, h3, h4, h5, h6⟩ => ⟨v, r, os', G', h1, h2, h3, h4.wr, h4.le, h4.ext, h4.newb, h5, h6⟩⟩

def sortB (l : List B) : List B := l.mergeSort fun x y => decide (x ≤ y)
theorem strs_flat (G : Gh) (l : List B) (vs : List Value) : RepL G (strs l).flatten vs ↔ vs = l.map encStr := by
  induction l generalizing vs with
  | nil => simp [strs, RepL]
  | cons s l ih =>
    simp only [strs, List.map_cons, List.flatten_cons, List.cons_append, List.nil_append, RepL, Rep]
    constructor
    · rintro ⟨v, us, rfl, h, h2⟩
      have := (ih us).1 h2
      simp only [vs] at h
      rw [this, h]
      rfl
    · rintro rfl
      exact ⟨_, _, rfl, rfl, (ih _).2 rfl⟩

theorem Sort_calls (l : List B) (ver : Nat) (hl : l.length < 1000000) {R} (h : R (.tup []) [.vec 9 1 (strs (sortB l)) ver]) :
    ACalls Try.prog 59 [.slv 0 1 ver 0 l.length] [.vec 9 1 (strs l) ver] R := by
  refine packS fun G w vals hW hA => ?_
  have hI := invS hW
  obtain ⟨u, xs, e1, e2, e3, e4, e5⟩ := hW.obj 0 (.vec 9 1 (strs l) ver) rfl
  have hsl := strs_length l
  have hx : xs = l.map encStr := (strs_flat G l xs).1 e3
  subst hx
  simp only [RepL, Rep] at hA
  obtain ⟨v, _, rfl, ⟨_, u', top, q1, q2, q3⟩, rfl⟩ := hA
  rw [e1] at q1
  injection q1 with q1
  injection q1 with q1 q1'
  subst q1 q1'
  rw [hsl] at e2
  have hv : v = u := by
    obtain ⟨A, L, c, A', hu, hL, hLc, hve, hA0, _⟩ := q3 rfl
    have hA0 := hA0 rfl
    have hLl : L = l.length := by
      rcases e2.2 with ⟨hn, h0⟩ | ⟨g, cap, cur, hn, _⟩
      · rw [hn] at hu; injection hu with _ q2 _; omega
      · rw [hn] at hu; injection hu with _ q2 _; omega
    rw [hve, hu, hLl, hA0]; rfl
  subst hv
  have hsort : (sortB l).length = l.length := by simp [sortB]
  have hsls := strs_length (sortB l)
  have hok : ∀ e ∈ strs (sortB l), e.length = 1 ∧ okCells e = true := fun e he => by
    obtain ⟨s, _, rfl⟩ := List.mem_map.1 he
    exact ⟨rfl, rfl⟩
  rcases e2.2 with ⟨rfl, hz⟩ | ⟨g, cap, cur, rfl, hbase, hgb, r1, r2, r3, r4⟩
  · have hnil : l = [] := List.eq_nil_of_length_eq_zero hz
    subst hnil
    refine (Try.slices_Sort_string_none none 0 w).mono ?_
    rintro e w' ⟨rfl, rfl⟩
    refine ⟨_, .tup [], _, G, rfl, h, by simp only [Rep]; exact ⟨[], rfl, by simp [RepL]⟩, ?_, ?_, by simp [AV.names, namesL]⟩
    · have : sortB ([] : List B) = [] := by simp [sortB]
      rw [this]
      exact hI
    · intro i o ho m hm
      cases i with
      | zero => simp at ho; subst ho; simp [objNames] at hm
      | succ i => simp at ho
  · have hH := holds_of_block (w := w) (ss := l) hgb (by simpa using r4)
    have hglt : g < w.heap.size := (Array.getElem?_eq_some_iff.1 hgb).1
    refine (Try.slices_Sort_string g 0 cap l w hH hglt (by omega)).mono ?_
    rintro e w' ⟨rfl, n, os, rfl⟩
    have hown := ownsRow_sorted (n := n) (os := os) (ss := l) (ts := sortB l) hsort hbase hgb r1 r2 (by simpa using r3)
    have hgr := grownBy_sorted (w := w) (g := g) (n := n) (os := os) (sortB l).toArray
    have hat : ∀ b, G.at 0 b ↔ b = g := fun b => by
      constructor
      · rintro (h1 | ⟨u1, t1, h1, h2⟩)
        · rw [e1] at h1; cases h1
        · rw [e1] at h1; cases h1; simp [Value.ownBlock] at h2; exact h2.symm
      · rintro rfl; exact .inr ⟨_, _, e1, rfl⟩
    have heq : (⟨G.K, addOb G.ob 0 (.rowv (.slice (some ⟨g, 0, none⟩) l.length cap) ver)⟩ : Gh) = G := by
      cases G with
      | mk K ob =>
        congr 1
        funext m
        by_cases hm : m = 0
        · subst hm; simp [addOb]; exact e1.symm
        · simp [addOb, hm]
    have hI' := hI.setObj (w' := grow (putRow encStr (Sort.ahead w n) g 0 (sortB l).toArray) os) (n := 0) (o := .vec 9 1 (strs l) ver) (o' := .vec 9 1 (strs (sortB l)) ver) (objs' := numbered 0 [.vec 9 1 (strs (sortB l)) ver]) (g := .rowv (.slice (some ⟨g, 0, none⟩) l.length cap) ver) (K' := G.K)
      rfl hgr.os hgr.tape hgr.output hgr.size (fun b hb hnat => hgr.block b hb (fun e => hnat ((hat b).2 (by injection e)))) (fun _ _ _ _ => rfl)
      (by rw [heq]; exact Gh.le.refl G)
      (fun b o v hb ev => by
        rcases hb with hb | hb
        · have := hI.wr.kltb ev; omega
        · rw [(hat b).1 hb, e5 g rfl o] at ev; cases ev)
      (fun m => by
        by_cases hm : m = 0
        · subst hm; rfl
        · simp only [hm, if_false]
          have : Nat.beq 0 m = false := by
            cases m with
            | zero => exact absurd rfl hm
            | succ m => rfl
          simp [numbered, objGet, this])
      (by
        rw [heq]
        refine ⟨_, (sortB l).map encStr, e1, by rw [hsls, hsort]; exact hown, (strs_flat _ _ _).2 rfl, hok, fun g' hg' o => ?_⟩
        simp [Value.ownBlock] at hg'
        subst hg'
        exact e5 _ rfl o)
      (fun b hb => by rw [heq] at hb; exact .inr hb)
    rw [heq] at hI'
    refine ⟨_, .tup [], _, G, rfl, h, by simp only [Rep]; exact ⟨[], rfl, by simp [RepL]⟩, hI', ?_, by simp [AV.names, namesL]⟩
    intro i o ho m hm
    cases i with
    | zero => simp at ho; subst ho; simp [objNames] at hm
    | succ i => simp at ho
end Go.Abs
end

section
/- slices.Sorted(maps.Keys(m)), at the level of worlds (after the kit's worked proofs of the same library functions). -/
set_option linter.unusedVariables false
set_option linter.unusedSimpArgs false
namespace Go.Proofs
open Go.RowKit Go.Maps Go.Sort Go.Shelf

theorem Kx.law26 : Keyed Try.prog 9 := string_keyed Try.underlying9


set_option maxHeartbeats 1000000 in
/-- **maps.Keys(m)**: the map is boxed; the function value captures the box. -/
theorem Kx.keys_in (F : Fence) (n : Nat) (h7 : F.fn 69) (hro : F.round = none) (mb : Option Nat) (w : World) :
    CallsIn F n Try.prog 69 #[.map mb] w fun e w' => e = .returned (.func (.func 98) #[] #[.pointer (some ⟨w.heap.size, 0, none⟩)]) ∧ w' = w.alloc (.cells #[.map mb] 77) := by
  refine callsIn_of_wp Try.func69 rfl h7 ?_ hro
  simp only [Try.ntmps69, List.size_toArray, List.length_cons, List.length_nil, Nat.reduceAdd, Nat.reduceSub, Array.replicate_succ, Array.replicate_zero, List.push_toArray, List.append_toArray, List.nil_append, List.cons_append]
  gi_wp2
  go_ret
  exact ⟨rfl, rfl⟩


set_option maxRecDepth 100000 in
set_option maxHeartbeats 1000000 in
/-- **'func(yield func(K) bool) { for k := range m { if !yield(k) { return } } }'**: whatever J the caller keeps between rounds, so it abides the iterator's steps; whatever the rounds do, so they hand back true, carry J on by the key, and leave maps and iterators alone: THE KEYS COME, EACH ONCE, IN SOME ORDER. (As 'Kx.keys1_in'; AND THE ROUND IS TOLD THAT FEWER KEYS HAVE COME THAN THE MAP HOLDS.) -/
theorem Kx.keys1N_in {H : Type} (F : Fence) (n : Nat) (h10 : F.fn 98) (hro : F.round = none) (hn : 1 ≤ n) (l Bm b nn : Nat) (D0 : DataW H) (J : List (List UInt8) → World → Prop)
    (hY : ∀ pre x W, J pre W → pre.length < Maps.size D0 → YieldAt F (n - 1) Try.prog l #[encStr x] W fun e W' => e = .returned (.bool true) ∧ J (pre ++ [x]) W' ∧ KeepsWalks W W')
    (W : World) (hJ : AbidesFrom W.heap.size J) (hm : W.cell? ⟨Bm, 0, none⟩ = some (.map (some b))) (hown : W.ownsMap Try.prog 9 (plainElem Try.prog 4) b nn D0) (h0 : J [] W) :
    CallsIn F n Try.prog 98 #[.func (.yield l) #[] #[], .pointer (some ⟨Bm, 0, none⟩)] W fun e W' => (∃ v, e = .returned v) ∧ ∃ ss : List (List UInt8), ss.Perm (strKeys D0) ∧ J ss W' := by
  refine callsIn_of_wp Try.func98 rfl h10 ?_ hro
  simp only [Try.ntmps98, List.size_toArray, List.length_cons, List.length_nil, Nat.reduceAdd, Nat.reduceSub, Array.replicate_succ, Array.replicate_zero, List.push_toArray, List.append_toArray, List.nil_append, List.cons_append]
  gi_wp2_with (first
    | (gi_at_range; refine wpListIn_range_own _ rfl _ 77 rfl 9 4 Kx.law26 Try.underlying77 _ b nn _ rfl hown ?_; intro w0 hrg0 hg0 hs0)
    | gi_in)
  go_frame
  gi_loopw [3] (fun _ wr => ∃ (left : Lit → Bool) (cnt : Nat) (ss : List (List UInt8)), wr.ranges Try.prog 9 (plainElem Try.prog 4) b W.heap.size nn D0 left cnt ∧ ss.length + cnt ≤ Maps.size D0 ∧ Collected D0 left ss ∧ J ss wr)
    (fun _ wr => wr.rangeLeft b W.heap.size)
  case atStart =>
    exact ⟨_, _, [], hrg0, by simp, Collected.start D0, hJ [] W w0 none h0 hg0 (fun r e => by cases e)⟩
  case round =>
    obtain ⟨left, cnt, ss, hrg, hcs, hC, hJs⟩ := hrel
    gi_wp2_with (first
      | (gi_at_next; refine wpListIn_next_ranges _ rfl _ rfl 9 Kx.law26 (plainElem Try.prog 4) encStr (fun v : Value => v) (fun key kl hk => by obtain ⟨x, hx, _⟩ := Maps.keyOf_str Try.underlying9 hk; exact ⟨x, hx⟩) (fun v y hv => ⟨v, rfl⟩) b W.heap.size nn _ _ _ rfl hrg ?_ ?_)
      | gi_in)
    · -- NOTHING IS LEFT
      intro hc0 hl0
      gi_wp2
      go_end0
      exact ⟨⟨_, rfl⟩, ss, hC.perm hown Kx.law26 Try.underlying9 hl0, hJs⟩
    · -- AN ENTRY HAS COME: yield(k)
      intro x c kl yd yp w2 cnt2 hkey hlk hv hat hrg2 hlt hg2 hs2 hen
      obtain ⟨x', ex, rfl, _⟩ := Maps.keyOf_str Try.underlying9 hkey
      obtain rfl : x = x' := encStr_inj ex
      have hJ2 : J ss w2 := hJ ss wr w2 (some W.heap.size) hJs hg2 (fun r e => by cases e; exact ⟨Nat.le_refl _, hrg.iter_walk⟩)
      obtain ⟨fn, tmps, assign, body, hy, hR⟩ := hY ss x w2 hJ2 (by omega)
      clear hs2
      gi_wp2
      refine hR.mono ?_
      rintro e W3 ⟨rfl, hJ3, hk3⟩
      gi_wp2
      have hrg3 := hrg2.of_walks hk3
      go_roundw
      case rel => exact ⟨_, cnt2, ss ++ [x], hrg3, by simp; omega, hC.step hlk hat, hJ3⟩
      case measure => rw [hrg3.left_eq, hrg.left_eq]; exact hlt


/-- **maps.Keys(m) HANDS BACK AN ITERATOR OVER m's KEYS**: in the world behind the call. -/
theorem Kx.keys_gives {H : Type} (F : Fence) (n : Nat) (h10 : F.fn 98) (hro : F.round = none) (hn : 1 ≤ n) (Bm b nn : Nat) (D0 : DataW H) (w : World) (hBm : Bm < w.heap.size)
    (hm : w.cell? ⟨Bm, 0, none⟩ = some (.map (some b))) (hown : w.ownsMap Try.prog 9 (plainElem Try.prog 4) b nn D0) :
    SeqGives F n Try.prog 98 #[.pointer (some ⟨Bm, 0, none⟩)] encStr (fun ss => ss.Perm (strKeys D0)) (Maps.size D0) w := fun l J W hW hJ hY h0 => by
  have hown' : W.ownsMap Try.prog 9 (plainElem Try.prog 4) b nn D0 := by
    have hbl := hown.lt
    obtain ⟨es, clock, hb, Ft, hs, hD⟩ := hown
    exact ⟨es, clock, (hW.block b hbl).trans hb, Ft, hs, hD⟩
  exact Kx.keys1N_in F n h10 hro hn l Bm b nn D0 J hY W hJ ((hW.cell (p := ⟨Bm, 0, none⟩) hBm).trans hm) hown' h0

/-! ### slices.AppendSeq(nil, seq), AGAINST WHATEVER ITERATOR -/


def Kx.apAssign : Code := (Code.region 2 #[{ dst := some 5, op := Op.assign (Operand.tmp 7), type := 9, pos := "iter.go:51", after := #[], guard := none }] false)
def Kx.apBody : Code := (Code.block 1 (Code.region 3 #[{ dst := some 8, op := Op.load 42 (Operand.tmp 2), type := 42, pos := "iter.go:52", after := #[], guard := none }, { dst := some 9, op := Op.move (Operand.tmp 5), type := 9, pos := "iter.go:52", after := #[], guard := none }, { dst := some 10, op := Op.buildSlice 42 1 #[(0, Operand.tmp 9)], type := 42, pos := "iter.go:52", after := #[{ on := 1, ground := Ground.data }], guard := none }, { dst := some 11, op := Op.call { callee := Callee.builtin Builtin.append, args := #[Operand.tmp 8, Operand.tmp 10], argTypes := #[42, 42] }, type := 42, pos := "iter.go:52", after := #[{ on := 0, ground := Ground.data }, { on := 2, ground := Ground.data }], guard := none }, { dst := none, op := Op.store 42 (Operand.tmp 2) (Operand.tmp 11), type := 0, pos := "iter.go:52", after := #[{ on := 3, ground := Ground.data }, { on := 3, ground := Ground.chain }, { on := 0, ground := Ground.phase }, { on := 1, ground := Ground.phase }, { on := 2, ground := Ground.phase }, { on := 3, ground := Ground.phase }], guard := none }] false))
/-- The loop's record: AppendSeq's temporaries as they stood at the entering: 's' boxed in block Bs; sv: the iterator's value. -/
def Kx.apRec (fn : FuncId) (sv : Value) (Bs D : Nat) (st : LoopState) (pend : Option Code) : Loop :=
  { state := st, pending := pend, fn, tmps := #[.slice none 0 0, sv, .pointer (some ⟨Bs, 0, none⟩), undef, .slice none 0 0, undef, sv, undef, undef, undef, undef, undef, undef], params := #[7], assign := Kx.apAssign, body := Kx.apBody, defers := D }

/-- BETWEEN TWO ROUNDS: the box holds a slice that owns, in a block of the call's own, what has come so far; IT IS nil JUST AS LONG AS NOTHING HAS COME; nothing that lay before the call has turned. -/
structure Kx.ApAt (w0 : World) (fn : FuncId) (sv : Value) (Bs l D : Nat) (ss : List (List UInt8)) (W : World) : Prop where
  box : ∃ v, W.heap[Bs]? = some (.cells #[v] 42 (0, 0)) ∧ W.ownsRow w0.heap.size 9 1 v ss.length (ss.map encStr) ∧ (v = .slice none 0 0 ↔ ss = [])
  L : W.heap[l]? = some (.loop (Kx.apRec fn sv Bs D .ready none))
  K : W.heap[D]? = some (.deferred (some []))
  below : Below w0.heap.size w0 W

/-- A slice's own row is no walk's object: it abides an iterator's step. -/
theorem kx_ownsRow_abides {W W' : World} {row : Option Nat} {base : Nat} {e : TypeId} {size : Nat} {v : Value} {k : Nat} {xs : List Value} (h : W.ownsRow base e size v k xs) (hg : W.grownBy W' row)
    (hrow : ∀ r, row = some r → ∃ o : Obj, W.heap[r]? = some o ∧ o.isWalk = true) : W'.ownsRow base e size v k xs := by
  refine h.kept hg ?_
  rcases h.2 with ⟨rfl, _⟩ | ⟨g, cap, cur, rfl, _, hgb, _⟩
  · exact .inl rfl
  · refine .inr fun e' => ?_
    obtain ⟨o, ho, hw⟩ := hrow g (by simpa [Value.ownBlock] using e'.symm)
    rw [hgb] at ho; cases ho; cases hw

theorem Kx.ap_abides (w0 : World) (fn : FuncId) (sv : Value) (Bs l D B : Nat) (hB : w0.heap.size ≤ B) : AbidesFrom B (Kx.ApAt w0 fn sv Bs l D) := fun s W W' row h hg hrow => by
  have hrow' : ∀ r, row = some r → ∃ o : Obj, W.heap[r]? = some o ∧ o.isWalk = true := fun r e => (hrow r e).2
  obtain ⟨v, hv, hr, hn⟩ := h.box
  exact ⟨⟨v, (grownBy_keeps hg hrow' hv rfl).trans hv, kx_ownsRow_abides hr hg hrow', hn⟩, (grownBy_keeps hg hrow' h.L rfl).trans h.L, (grownBy_keeps hg hrow' h.K rfl).trans h.K,
    h.below.grown hg h.below.size (fun k e => Nat.le_trans hB (hrow k e).1)⟩

theorem kx_grownBy_putObj (W : World) (l : Nat) (o : Obj) : W.grownBy (W.putObj l o) (some l) :=
  ⟨rfl, rfl, rfl, by simp, fun k _ hk => World.putObj_heap_other (fun e => hk (by rw [e]))⟩
theorem kx_grownBy_setCell0 (W : World) (b : Nat) (v : Value) : W.grownBy (W.setCell ⟨b, 0, none⟩ v) (some b) :=
  ⟨rfl, rfl, rfl, (KeepsWalks.setCell W _ v).size, fun k _ hk => Below.heap_setCell _ _ _ k (fun e => hk (by rw [e]))⟩
/-- A slice's own row is not a block that holds something else than cells of its element's type. -/
theorem kx_ownsRow_ne {W : World} {base : Nat} {e : TypeId} {size : Nat} {v : Value} {k : Nat} {xs : List Value} (h : W.ownsRow base e size v k xs) {j : Nat} {o : Obj} (hj : W.heap[j]? = some o) (hno : ∀ cur, o ≠ .cells cur e (0, 0)) :
    v.ownBlock = none ∨ v.ownBlock ≠ some j := by
  rcases h.2 with ⟨rfl, _⟩ | ⟨g, cap, cur, rfl, _, hgb, _⟩
  · exact .inl rfl
  · refine .inr fun e' => ?_
    have : g = j := by simpa [Value.ownBlock] using e'
    subst this; rw [hgb] at hj; cases hj; exact hno cur rfl
theorem kx_cell_of_box {W : World} {B : Nat} {v : Value} {t : TypeId} (h : W.heap[B]? = some (.cells #[v] t (0, 0))) : W.cell? ⟨B, 0, none⟩ = some v ∧ W.frozen? ⟨B, 0, none⟩ = false := by
  constructor <;> simp [World.cell?, World.frozen?, h]

theorem kx_heap_setCell_box {W : World} {B : Nat} {v : Value} {t : TypeId} (v' : Value) (h : W.heap[B]? = some (.cells #[v] t (0, 0))) : (W.setCell ⟨B, 0, none⟩ v').heap[B]? = some (.cells #[v'] t (0, 0)) := by
  obtain ⟨hlt, hk⟩ := Array.getElem?_eq_some_iff.1 h
  show (W.heap.modify B _)[B]? = _
  rw [Array.getElem?_eq_getElem (by rw [Array.size_modify]; exact hlt), Array.getElem_modify_self, hk]
  rfl
theorem kx_ownsRow_not_walk {W : World} {base : Nat} {e : TypeId} {size : Nat} {v : Value} {k : Nat} {xs : List Value} (h : W.ownsRow base e size v k xs) : ∀ (j : Nat) (o : Obj), v.ownBlock = some j → W.heap[j]? = some o → o.isWalk = false := by
  intro j o hj ho
  rcases h.2 with ⟨rfl, _⟩ | ⟨g, cap, cur, rfl, _, hgb, _⟩
  · simp [Value.ownBlock] at hj
  · have : g = j := by simpa [Value.ownBlock] using hj
    subst this; rw [hgb] at ho; cases ho; rfl

theorem Kx.info26 : (Try.prog.info? 9).map (fun i => (i.zero, i.size, i.bytes)) = some (some (.string ⟨#[]⟩), 1, 16) := by kernel_rfl

set_option maxRecDepth 100000 in
set_option maxHeartbeats 2000000 in
theorem Kx.apYield (F : Fence) (m : Nat) (w0 : World) (fn : FuncId) (hfn : F.fn fn) (sv : Value) (Bs l D : Nat) (hBl : Bs ≠ l) (hDl : D ≠ l) (hDB : D ≠ Bs) (h0B : w0.heap.size ≤ Bs) (h0l : w0.heap.size ≤ l)
    (N : Nat) (hN : N ≤ maxLen) (hNb : N * 16 ≤ 140737488355328) (ss : List (List UInt8)) (x : List UInt8) (W : World) (h : Kx.ApAt w0 fn sv Bs l D ss W) (hlen : ss.length < N) :
    YieldAt F m Try.prog l #[encStr x] W fun e W' => e = .returned (.bool true) ∧ Kx.ApAt w0 fn sv Bs l D (ss ++ [x]) W' ∧ KeepsWalks W W' := by
  obtain ⟨i0, hi, hz0, hz1, hz2⟩ := info_parts Kx.info26
  obtain ⟨v, hv, hrow, _⟩ := h.box
  refine ⟨fn, #[.slice none 0 0, sv, .pointer (some ⟨Bs, 0, none⟩), undef, .slice none 0 0, undef, sv, encStr x, undef, undef, undef, undef, undef], Kx.apAssign, Kx.apBody, by simpa [Kx.apRec] using run_yield (P := Try.prog) (args := #[encStr x]) h.L rfl, roundIn_of_wpIn hfn ?_⟩
  have hl : l < W.heap.size := (Array.getElem?_eq_some_iff.1 h.L).1
  have hbr := run_beginRound (P := Try.prog) h.L rfl
  obtain ⟨W2, hW2⟩ : ∃ W2, W.putObj l (.loop { Kx.apRec fn sv Bs D .ready none with state := .busy }) = W2 := ⟨_, rfl⟩
  rw [hW2] at hbr
  have hg2 : W.grownBy W2 (some l) := by rw [← hW2]; exact kx_grownBy_putObj _ _ _
  have hk2 : KeepsWalks W W2 := by rw [← hW2]; exact KeepsWalks.putObj _ h.L rfl
  have hv2 : W2.heap[Bs]? = some (.cells #[v] 42 (0, 0)) := by rw [← hW2]; exact (World.putObj_heap_other hBl).trans hv
  have hK2 : W2.heap[D]? = some (.deferred (some [])) := by rw [← hW2]; exact (World.putObj_heap_other hDl).trans h.K
  have hL2 : W2.heap[l]? = some (.loop { Kx.apRec fn sv Bs D .ready none with state := .busy }) := by rw [← hW2]; exact World.putObj_heap_same hl
  have hrow2 : W2.ownsRow w0.heap.size 9 1 v ss.length (ss.map encStr) := hrow.kept hg2 (kx_ownsRow_ne hrow h.L (fun cur e => by cases e))
  have hb2 : Below w0.heap.size w0 W2 := h.below.grown hg2 h.below.size (fun k e => by cases e; exact h0l)
  obtain ⟨hc2, hf2⟩ := kx_cell_of_box hv2
  have hBlt : Bs < W2.heap.size := (Array.getElem?_eq_some_iff.1 hv2).1
  have hl2 : l < W2.heap.size := (Array.getElem?_eq_some_iff.1 hL2).1
  have hDlt : D < W2.heap.size := (Array.getElem?_eq_some_iff.1 hK2).1
  have ne_of : ∀ {j : Nat} {o : Obj}, W2.heap[j]? = some o → (∀ cur, o ≠ .cells cur 9 (0, 0)) → some j ≠ v.ownBlock := fun hj hno => by
    rcases kx_ownsRow_ne hrow2 hj hno with e | e
    · rw [e]; simp
    · exact fun e' => e e'.symm
  clear hW2
  unfold Kx.apAssign
  gi_wp2_with (rw [Oper.semAt_eq _ _ _ (fun c h => by cases h)]; go_simp; try go_bits)
  unfold Kx.apBody
  gi_wp2_with (first
    | (gi_at_builtin; refine wpListIn_append_own _ rfl _ _ 42 rfl w0.heap.size 9 i0 (.string ⟨#[]⟩) 1 16 Try.underlying42 hi hz0 hz1 hz2 rfl (by decide) _ _ _ rfl (hrow2.alloc _) ⟨W2.heap.size, 0, none⟩ 1 1 [encStr x] rfl rfl (cell_one_new _ _ _) (by simp [Value.oneCell', encStr]) (by omega) (by omega) (by have := hb2.size; simp; omega) ?_; intro v' w3 hown' hg3 hnil3
       have hv3 : w3.heap[Bs]? = some (.cells #[v] 42 (0, 0)) := (hg3.block Bs (by simp; omega) (ne_of hv2 (fun cur e => by cases e))).trans ((Below.heap_alloc _ _ Bs hBlt).trans hv2)
       obtain ⟨hc3, hf3⟩ := kx_cell_of_box hv3
       obtain ⟨g', cap', cur', rfl, hbase', hgb', hr1, hr2, hr3, hr4⟩ : ∃ g' cap' cur', v' = .slice (some ⟨g', 0, none⟩) (ss.length + 1) cap' ∧ w0.heap.size ≤ g' ∧ w3.heap[g']? = some (.cells cur' 9 (0, 0)) ∧ ss.length + 1 ≤ cap' ∧ cap' ≤ maxLen ∧ cur'.size = cap' * 1 ∧ cur'.toList.take ((ss.length + 1) * 1) = ss.map encStr ++ [encStr x] := by
         rcases hown'.2 with ⟨_, h0⟩ | h'
         · exact absurd h0 (by omega)
         · exact h'
       go_frame)
    | (rw [Oper.semAt_eq _ _ _ (fun c h => by cases h)]; go_simp; try go_bits))
  have hg3' : (W2.alloc (.cells #[encStr x] 9)).grownBy w3 v.ownBlock := hg3
  have hL3 : w3.heap[l]? = some (.loop { Kx.apRec fn sv Bs D .ready none with state := .busy }) := (hg3'.block l (by simp; omega) (ne_of hL2 (fun cur e => by cases e))).trans ((Below.heap_alloc _ _ l hl2).trans hL2)
  have hK3 : w3.heap[D]? = some (.deferred (some [])) := (hg3'.block D (by simp; omega) (ne_of hK2 (fun cur e => by cases e))).trans ((Below.heap_alloc _ _ D hDlt).trans hK2)
  obtain ⟨w4, hw4⟩ : ∃ w4, w3.setCell ⟨Bs, 0, none⟩ (.slice (some ⟨g', 0, none⟩) (ss.length + 1) cap') = w4 := ⟨_, rfl⟩
  rw [hw4]
  have hg4 : w3.grownBy w4 (some Bs) := by rw [← hw4]; exact kx_grownBy_setCell0 _ _ _
  have hv4 : w4.heap[Bs]? = some (.cells #[.slice (some ⟨g', 0, none⟩) (ss.length + 1) cap'] 42 (0, 0)) := by rw [← hw4]; exact kx_heap_setCell_box _ hv3
  have hL4 : w4.heap[l]? = some (.loop { Kx.apRec fn sv Bs D .ready none with state := .busy }) := (hg4.block l (Array.getElem?_eq_some_iff.1 hL3).1 (fun e => hBl (by cases e; rfl))).trans hL3
  have hK4 : w4.heap[D]? = some (.deferred (some [])) := (hg4.block D (Array.getElem?_eq_some_iff.1 hK3).1 (fun e => hDB (by cases e; rfl))).trans hK3
  have hrow4 := hown'.kept hg4 (kx_ownsRow_ne hown' hv3 (fun cur e => by cases e))
  have hl4 : l < w4.heap.size := (Array.getElem?_eq_some_iff.1 hL4).1
  have hb3 : Below w0.heap.size w0 w3 := (hb2.alloc hb2.size _).grown hg3' (by have := hb2.size; simp; omega) (fun k e => (hrow2.lt k e).1)
  have hb4 : Below w0.heap.size w0 w4 := hb3.grown hg4 hb3.size (fun k e => by cases e; exact h0B)
  have hk4 : KeepsWalks W w4 := ((hk2.trans (KeepsWalks.alloc _ _)).trans (KeepsWalks.of_grownBy hg3' (kx_ownsRow_not_walk (hrow2.alloc _)))).trans (by rw [← hw4]; exact KeepsWalks.setCell _ _ _)
  clear hw4
  refine ⟨_, _, run_endRound none hL4, rfl, ⟨⟨_, (World.putObj_heap_other hBl).trans hv4, ?_, by simp⟩, World.putObj_heap_same hl4, (World.putObj_heap_other hDl).trans hK4, hb4.grown (kx_grownBy_putObj _ _ _) hb4.size (fun k e => by cases e; exact h0l)⟩, hk4.trans (KeepsWalks.putObj _ hL4 rfl)⟩
  have := hrow4.kept (kx_grownBy_putObj w4 l (.loop { { Kx.apRec fn sv Bs D .ready none with state := .busy } with state := if (none : Option Code).isNone then .ready else .done, pending := none })) (kx_ownsRow_ne hrow4 hL4 (fun cur e => by cases e))
  simpa using this


set_option maxRecDepth 100000 in
set_option maxHeartbeats 2000000 in
/-- **slices.AppendSeq(nil, seq), AGAINST WHATEVER ITERATOR VALUE THAT 'SeqGives'**: it hands back a slice that owns, in a block of the call's own, JUST WHAT THE ITERATOR GAVE, IN THAT ORDER; nil JUST WHERE IT GAVE NOTHING (as Go: 'slices.Collect' of nothing is nil); nothing that lay before the call has turned. -/
theorem Kx.appendSeq_in (F : Fence) (n : Nat) (h11 : F.fn 127) (hro : F.round = none) (hn : 2 ≤ n) (g : Nat) (lb : Array Value) (hFg : F.fn g) (eg : ∀ args w, (callFunc g args).run Try.prog w = .ok (.enter g args) w)
    (S : List (List UInt8) → Prop) (N : Nat) (hN : N ≤ maxLen) (hNb : N * 16 ≤ 140737488355328) (w : World) (hseq : SeqGives F (n - 1) Try.prog g lb encStr S N w) :
    CallsIn F n Try.prog 127 #[.slice none 0 0, .func (.func g) #[] lb] w fun e w' => ∃ (v : Value) (ss : List (List UInt8)), e = .returned v ∧ S ss ∧ w'.ownsRow w.heap.size 9 1 v ss.length (ss.map encStr) ∧ (v = .slice none 0 0 ↔ ss = []) ∧ Below w.heap.size w w' := by
  have h1 : 1 ≤ n := by omega
  refine callsIn_of_wp_marks Try.func127 rfl h11 ?_ hro
  simp only [Try.ntmps127, List.size_toArray, List.length_cons, List.length_nil, Nat.reduceAdd, Nat.reduceSub, Array.replicate_succ, Array.replicate_zero, List.push_toArray, List.append_toArray, List.nil_append, List.cons_append]
  gi_wp2
  refine wpIn_rangeFunc ?_
  intro fn hfn
  rw [hro]
  obtain ⟨W0, hW0⟩ : ∃ W0, w.alloc (.cells #[.slice none 0 0] 42) = W0 := ⟨_, rfl⟩
  have hs0 : W0.heap.size = w.heap.size + 1 := by rw [← hW0]; simp
  have hv0 : W0.heap[w.heap.size]? = some (.cells #[.slice none 0 0] 42 (0, 0)) := by rw [← hW0]; exact World.alloc_heap_new w _
  have hb0 : Below w.heap.size w W0 := by rw [← hW0]; exact (Below.refl _ w).alloc (Nat.le_refl _) _
  rw [hW0]
  obtain ⟨W1, hW1⟩ : ∃ W1, (W0.alloc (.deferred (some []))).alloc (.loop (Kx.apRec fn (.func (.func g) #[] lb) w.heap.size W0.heap.size .ready none)) = W1 := ⟨_, rfl⟩
  have hold : ∀ k, k < W0.heap.size → W1.heap[k]? = W0.heap[k]? := fun k hk => by
    rw [← hW1]; exact (Below.heap_alloc _ _ k (by simp; omega)).trans (Below.heap_alloc _ _ k hk)
  have hb1 : Below w.heap.size w W1 := by rw [← hW1]; exact (hb0.alloc hb0.size _).alloc (by have := hb0.size; simp; omega) _
  have hs1 : W1.heap.size = W0.heap.size + 2 := by rw [← hW1]; simp
  have hM : Kx.ApAt w fn (.func (.func g) #[] lb) w.heap.size (W0.heap.size + 1) W0.heap.size [] W1 :=
    ⟨⟨_, (hold w.heap.size (by omega)).trans hv0, ⟨rfl, .inl ⟨rfl, rfl⟩⟩, by simp⟩,
     by rw [← hW1]; have := World.alloc_heap_new (W0.alloc (.deferred (some []))) (.loop (Kx.apRec fn (.func (.func g) #[] lb) w.heap.size W0.heap.size .ready none)); rwa [World.size_alloc] at this,
     by rw [← hW1]; exact (Below.heap_alloc _ _ _ (by simp)).trans (World.alloc_heap_new W0 _), hb1⟩
  refine ⟨W0.heap.size + 1, [{ target := .collected W0.heap.size, args := #[] }], W1, { target := .fn (.func g) lb, args := #[.func (.yield (W0.heap.size + 1)) #[] #[]] }, W1, g,
    #[.func (.yield (W0.heap.size + 1)) #[] #[]] ++ lb, W1, ?_, ?_, ?_, ?_, fun _ => h1, ?_⟩
  · rw [← hW1]; exact run_enterLoop_outer _ _ _ _ _
  · simp [resolve, go_sem]
  · intro f' hf'; simp [Target.leads] at hf'; subst hf'; exact hFg
  · simp [invoke, go_sem, eg]
  · refine (hseq (W0.heap.size + 1) (Kx.ApAt w fn (.func (.func g) #[] lb) w.heap.size (W0.heap.size + 1) W0.heap.size) W1 hb1 (Kx.ap_abides _ _ _ _ _ _ _ hb1.size)
      (fun pre x W hJ hl => Kx.apYield F (n - 1 - 1) w fn hfn _ w.heap.size (W0.heap.size + 1) W0.heap.size (by omega) (by omega) (by omega) (Nat.le_refl _) (by omega) N hN hNb pre x W hJ hl) hM).mono ?_
    rintro e W2 ⟨⟨v0, rfl⟩, ss, hS, h2⟩
    obtain ⟨v, hv, hrow, hnil⟩ := h2.box
    have hend := run_endLoop (P := Try.prog) h2.L (by simp [Kx.apRec])
    obtain ⟨W3, hW3⟩ : ∃ W3, W2.putObj (W0.heap.size + 1) (.loop { Kx.apRec fn (.func (.func g) #[] lb) w.heap.size W0.heap.size .ready none with state := .exhausted }) = W3 := ⟨_, rfl⟩
    rw [hW3] at hend
    have hg3 : W2.grownBy W3 (some (W0.heap.size + 1)) := by rw [← hW3]; exact kx_grownBy_putObj _ _ _
    have hv3 : W3.heap[w.heap.size]? = some (.cells #[v] 42 (0, 0)) := by rw [← hW3]; exact (World.putObj_heap_other (by omega)).trans hv
    have hK3 : W3.heap[W0.heap.size]? = some (.deferred (some [])) := by rw [← hW3]; exact (World.putObj_heap_other (by omega)).trans h2.K
    have hrow3 := hrow.kept hg3 (kx_ownsRow_ne hrow h2.L (fun cur e => by cases e))
    have hb3 : Below w.heap.size w W3 := h2.below.grown hg3 h2.below.size (fun k e => by cases e; omega)
    obtain ⟨hc3, hf3⟩ := kx_cell_of_box hv3
    clear hW3
    refine ⟨none, W3, hend, ?_⟩
    gi_wp2
    rw [← hs0]
    refine ⟨by simp, .inl ⟨_, _, rfl, run_takeDeferred hK3, ?_⟩⟩
    exact ⟨_, results_tmp rfl _ _ _, v, ss, rfl, hS, hrow3.kept (kx_grownBy_putObj _ _ _) (kx_ownsRow_ne hrow3 hK3 (fun cur e => by cases e)), hnil, hb3.grown (kx_grownBy_putObj _ _ _) hb3.size (fun k e => by cases e; omega)⟩


set_option maxHeartbeats 1000000 in
/-- **slices.Collect(seq), AGAINST WHATEVER ITERATOR VALUE.** -/
theorem Kx.collect_in (F : Fence) (n : Nat) (h8 : F.fn 97) (h11 : F.fn 127) (hro : F.round = none) (hn : 3 ≤ n) (g : Nat) (lb : Array Value) (hFg : F.fn g) (eg : ∀ args w, (callFunc g args).run Try.prog w = .ok (.enter g args) w)
    (S : List (List UInt8) → Prop) (N : Nat) (hN : N ≤ maxLen) (hNb : N * 16 ≤ 140737488355328) (w : World) (hseq : SeqGives F (n - 1 - 1) Try.prog g lb encStr S N w) :
    CallsIn F n Try.prog 97 #[.func (.func g) #[] lb] w fun e w' => ∃ (v : Value) (ss : List (List UInt8)), e = .returned v ∧ S ss ∧ w'.ownsRow w.heap.size 9 1 v ss.length (ss.map encStr) ∧ (v = .slice none 0 0 ↔ ss = []) ∧ Below w.heap.size w w' := by
  have h1 : 1 ≤ n := by omega
  refine callsIn_of_wp Try.func97 rfl h8 ?_ hro
  simp only [Try.ntmps97, List.size_toArray, List.length_cons, List.length_nil, Nat.reduceAdd, Nat.reduceSub, Array.replicate_succ, Array.replicate_zero, List.push_toArray, List.append_toArray, List.nil_append, List.cons_append]
  gi_wp2_with (gi_at_call 127; refine (Kx.appendSeq_in F (n - 1) h11 hro (by omega) g lb hFg eg S N hN hNb _ hseq).mono ?_; rintro e w' ⟨v, ss, rfl, hS, hrow, hnil, hb⟩)
  go_ret
  exact ⟨v, ss, rfl, hS, hrow, hnil, hb⟩

theorem kx_ownsRow_base {W : World} {base base' : Nat} {e : TypeId} {size : Nat} {v : Value} {k : Nat} {xs : List Value} (h : W.ownsRow base e size v k xs) (hb : base' ≤ base) : W.ownsRow base' e size v k xs := by
  refine ⟨h.1, ?_⟩
  rcases h.2 with hn | ⟨g, cap, cur, hv, hbg, rest⟩
  · exact .inl hn
  · exact .inr ⟨g, cap, cur, hv, Nat.le_trans hb hbg, rest⟩


/-- slices.Sort[[]K, K]'s two contracts, inside a fence: what slices.Sorted leans on. -/
def Kx.SortsIn (F : Fence) (m : Nat) : Prop :=
  (∀ (blk off cap : Nat) (ss : List (List UInt8)) (W : World), Holds encStr W blk off ss.toArray → blk < W.heap.size → ss.length < 4611686018427387904 →
    CallsIn F m Try.prog 59 #[.slice (some ⟨blk, off, none⟩) ss.length cap] W fun e w' => e = .returned (.tuple #[]) ∧ ∃ k os, w' = grow (putRow encStr (Sort.ahead W k) blk off (ss.mergeSort fun x y => decide (x ≤ y)).toArray) os) ∧
  (∀ (p : Option Addr) (cap : Nat) (W : World), CallsIn F m Try.prog 59 #[.slice p 0 cap] W fun e w' => e = .returned (.tuple #[]) ∧ w' = W)

set_option maxRecDepth 100000 in
set_option maxHeartbeats 2000000 in
/-- **slices.Sorted(seq), AGAINST WHATEVER ITERATOR VALUE**: a new slice that holds what the iterator gave, SORTED. -/
theorem Kx.sorted_in (F : Fence) (n : Nat) (h6 : F.fn 68) (h8 : F.fn 97) (h9 : F.fn 59) (h11 : F.fn 127) (hro : F.round = none) (hn : 4 ≤ n) (hsort : Kx.SortsIn F (n - 1)) (g : Nat) (lb : Array Value) (hFg : F.fn g) (eg : ∀ args w, (callFunc g args).run Try.prog w = .ok (.enter g args) w)
    (S : List (List UInt8) → Prop) (N : Nat) (hN : N ≤ maxLen) (hNb : N * 16 ≤ 140737488355328) (w : World) (hseq : SeqGives F (n - 1 - 1 - 1) Try.prog g lb encStr S N w) :
    CallsIn F n Try.prog 68 #[.func (.func g) #[] lb] w fun e w' => ∃ (v : Value) (ss : List (List UInt8)), e = .returned v ∧ S ss ∧
      w'.ownsRow w.heap.size 9 1 v ss.length ((ss.mergeSort (fun x y => decide (x ≤ y))).map encStr) ∧ (v = .slice none 0 0 ↔ ss = []) ∧ Below w.heap.size w w' := by
  have h1 : 1 ≤ n := by omega
  refine callsIn_of_wp Try.func68 rfl h6 ?_ hro
  simp only [Try.ntmps68, List.size_toArray, List.length_cons, List.length_nil, Nat.reduceAdd, Nat.reduceSub, Array.replicate_succ, Array.replicate_zero, List.push_toArray, List.append_toArray, List.nil_append, List.cons_append]
  gi_wp2_with (gi_at_call 97; refine (Kx.collect_in F (n - 1) h8 h11 hro (by omega) g lb hFg eg _ N hN hNb _ hseq.bounded).mono ?_; rintro e W ⟨v, ss, rfl, ⟨hS, hlen⟩, hrow, hnil, hb⟩)
  rcases hrow.2 with ⟨rfl, hz⟩ | ⟨gb, cap, cur, rfl, hbase, hgb, r1, r2, r3, r4⟩
  · -- nothing came: the nil slice is sorted and handed back
    have hss : ss = [] := List.eq_nil_of_length_eq_zero hz
    subst hss
    gi_wp2_with (gi_at_call 59; refine (hsort.2 none 0 W).mono ?_; rintro e w' ⟨rfl, rfl⟩)
    go_ret
    exact ⟨.slice none 0 0, [], rfl, hS, by simpa using hrow, by simp, hb⟩
  · have hH : Holds encStr W gb 0 ss.toArray := holds_of_block hgb (by simpa using r4)
    have hgl : gb < W.heap.size := (Array.getElem?_eq_some_iff.1 hgb).1
    have hsz : ss.length < 4611686018427387904 := by omega
    have cS := hsort.1 gb 0 cap ss W hH hgl hsz
    gi_wp2_with (gi_at_call 59; refine cS.mono ?_; rintro e w' ⟨rfl, nn, os, rfl⟩)
    go_ret
    exact ⟨_, ss, rfl, hS, ownsRow_sorted (by simp) hbase hgb r1 r2 r3, hnil, hb.grown (grownBy_sorted _) hb.size (fun j hj => by cases hj; exact hbase)⟩


end Go.Proofs
end

section
/- slices.Sorted(maps.Keys(m)) of a set of texts. -/
set_option maxRecDepth 100000
set_option maxHeartbeats 1000000
set_option linter.unusedVariables false
set_option linter.unusedSimpArgs false
namespace Go.Abs
open Go Go.Proofs Go.Sort Go.Maps

def bmap (l : List B) : List (ByteArray × AV) := l.map fun s => (ofB s, .val (.bool true))
theorem bmap_find (l : List B) (s : B) : mapFind (bmap l) (ofB s) = if s ∈ l then some (.val (.bool true)) else none := by
  induction l with
  | nil => rfl
  | cons a l ih =>
    unfold bmap at ih ⊢
    simp only [List.map_cons, mapFind, ih]
    by_cases e : a = s
    · subst e; simp
    · have : ofB a ≠ ofB s := fun x => e (ofB_inj x)
      simp [this, Ne.symm e]
theorem bmap_put {l : List B} {s : B} (h : s ∉ l) : mapPut (bmap l) (ofB s) (.val (.bool true)) = bmap (l ++ [s]) := by
  induction l with
  | nil => rfl
  | cons a l ih =>
    have h1 : ofB a ≠ ofB s := fun x => h (by rw [ofB_inj x]; simp)
    have h2 : s ∉ l := fun x => h (by simp [x])
    show (if ofB a = ofB s then _ else _) = _
    rw [if_neg h1]
    show _ :: mapPut (bmap l) (ofB s) _ = _
    rw [ih h2]
    rfl

theorem Keys_calls (es : List (ByteArray × AV)) {R} (h : R (.fn (.func 98) [] [.ptr 1 0]) [.map es, .cells 77 [.mapv 0]]) :
    ACalls Try.prog 69 [.mapv 0] [.map es] R := by
  refine acalls_of_xwp (an := an69) tab_ok Try.func69 ?_
  (conv => whnf)
  exact h

theorem sorts_wide (m : Nat) : Kx.SortsIn Fence.wide m :=
  ⟨fun blk off cap ss W hH hblk hsz => callsIn_wide.2 (Try.slices_Sort_string blk off cap ss W hH hblk hsz),
   fun p cap W => callsIn_wide.2 (Try.slices_Sort_string_none p cap W)⟩

theorem bmap_keys {G : Gh} : ∀ {l : List B} {ms : List MapEntry}, MapR G (bmap l) ms → ms.map (·.key) = l.map encStr ∧ ∀ x ∈ ms, x.val = .bool true
  | [], [], _ => ⟨rfl, by simp⟩
  | [], _ :: _, h => by simp [bmap, MapR] at h
  | _ :: _, [], h => by simp [bmap, MapR] at h
  | a :: l, m :: ms, h => by
    obtain ⟨⟨h1, _⟩, h2, h3⟩ : (m.key = .string (ofB a) ∧ _) ∧ Rep G (.val (.bool true)) m.val ∧ MapR G (bmap l) ms := h
    obtain ⟨i1, i2⟩ := bmap_keys h3
    refine ⟨?_, fun x hx => ?_⟩
    · rw [List.map_cons, List.map_cons, i1, h1]
      rfl
    · rcases List.mem_cons.1 hx with rfl | hx
      · simpa [Rep] using h2
      · exact i2 x hx

theorem owns_of {H : Type} {G : Gh} {w : World} {b : Nat} {ms : Array MapEntry} {clock : Nat} {l : List B} (hb : w.heap[b]? = some (.map ms clock)) (hr : MapR G (bmap l) ms.toList) (hok : MapOk ms clock) (hnd : l.Nodup)
    (hl : l.length ≤ maxLen) (hs : ∀ s ∈ l, s.length ≤ maxLen) : ∃ D0 : DataW H, w.ownsMap Try.prog 9 (plainElem Try.prog 4) b l.length D0 ∧ Maps.size D0 = l.length ∧ (strKeys D0).Perm l := by
  obtain ⟨k1, k2⟩ := bmap_keys hr
  have hsz : ms.size = l.length := by
    have := congrArg List.length k1
    simpa using this
  have hread : ∀ x ∈ ms.toList, ∃ s ∈ l, x.key = encStr s ∧ Go.WideElems.rd Try.prog 9 (plainElem (H := H) Try.prog 4) x = some (Lit.string s, DataW.lit (.bool true)) := fun x hx => by
    have hk : x.key ∈ l.map encStr := by rw [← k1]; exact List.mem_map_of_mem hx
    obtain ⟨s, hsl, hsk⟩ := List.mem_map.1 hk
    refine ⟨s, hsl, hsk.symm, ?_⟩
    have h1 : keyOf Try.prog 9 x.key = some (.string s) := by
      rw [← hsk]
      have := hs s hsl
      simp [keyOf, mapKey, Try.underlying9, encStr]
      exact this
    have h2 : plainElem (H := H) Try.prog 4 x.val = some (.lit (.bool true), []) := by rw [k2 x hx]; exact plainElem_bool Try.underlying4 true
    simp [Go.WideElems.rd, h1, h2]
  have hfit : Go.WideElems.Fit Try.prog 9 (plainElem (H := H) Try.prog 4) ms clock := by
    refine ⟨by omega, ⟨hok.2, hok.1, ?_⟩, fun x hx => ?_⟩
    · rw [k1]
      refine (List.pairwise_map.2 (hnd.imp fun hne e => hne (encStr_inj e)))
    · obtain ⟨s, _, _, h⟩ := hread x hx
      exact ⟨_, h⟩
  refine ⟨_, ⟨ms, clock, hb, hfit, by omega, rfl⟩, ?_, ?_⟩
  · simp [Maps.size, length_sorted, hsz]
  · show (((ms.toList.map _).foldr DataW.insert []).map fun p => strOf p.1).Perm l
    refine ((Go.WideShapes.sorted_perm _).map _).trans ?_
    rw [List.map_map]
    have : (ms.toList.map ((fun p : Lit × DataW H => strOf p.1) ∘ Go.WideElems.rg Try.prog 9 (plainElem (H := H) Try.prog 4))) = l := by
      have h1 : ∀ x ∈ ms.toList, encStr (((fun p : Lit × DataW H => strOf p.1) ∘ Go.WideElems.rg Try.prog 9 (plainElem (H := H) Try.prog 4)) x) = x.key := fun x hx => by
        obtain ⟨s, _, h2, h3⟩ := hread x hx
        simp only [Function.comp]
        rw [Go.WideElems.rg_of h3, h2]
        rfl
      have h2 : (ms.toList.map ((fun p : Lit × DataW H => strOf p.1) ∘ Go.WideElems.rg Try.prog 9 (plainElem (H := H) Try.prog 4))).map encStr = l.map encStr := by
        rw [← k1, List.map_map]
        exact List.map_congr_left h1
      exact List.map_inj_right (f := encStr) (fun _ _ e => encStr_inj e) |>.1 h2
    rw [this]

theorem repE_strs {K : Nat → Nat → Option Value} {ob : Nm → Option GO} {g : Nat} : ∀ (ss : List B) (i : Nat), (∀ j s, ss[j]? = some s → K g (i + j) = some (encStr s)) → RepE ⟨K, ob⟩ 1 (some ⟨g, 0, none⟩) i (strs ss)
  | [], _, _ => trivial
  | s :: ss, i, h => by
    refine ⟨⟨g, 0, rfl, rfl, rfl, ⟨encStr s, by have := h 0 s rfl; simpa using this, rfl⟩, trivial⟩, repE_strs ss (i + 1) fun j s' hs => ?_⟩
    have := h (j + 1) s' (by simpa using hs)
    rw [show i + 1 + j = i + (j + 1) by omega]
    exact this

theorem Sorted_calls (l : List B) (hl : l.length < 1000000) (hs : ∀ s ∈ l, s.length < 1000000) (hnd : l.Nodup) {R} (h : R (.sl none 1 (strs (sortB l))) [.cells 77 [.mapv 1], .map (bmap l)]) :
    ACalls Try.prog 68 [.fn (.func 98) [] [.ptr 0 0]] [.cells 77 [.mapv 1], .map (bmap l)] R := by
  have h47 : 1000000 ≤ maxLen := by unfold maxLen; omega
  refine packS fun G w vals hW hA => ?_
  have hI := invS hW
  obtain ⟨bm, vs, e1, e2, e3, e4⟩ := hW.obj 0 (.cells 77 [.mapv 1]) rfl
  obtain ⟨b, ms, clock, m1, m2, m3, m4, m5⟩ := hW.obj 1 (.map (bmap l)) rfl
  simp only [RepL, Rep] at hA e3
  obtain ⟨_, _, rfl, ⟨vf, us, rfl, rfl, v1, us1, rfl, ⟨b', hb', rfl⟩, rfl⟩, rfl⟩ := hA
  obtain ⟨_, _, rfl, ⟨b2, hb2, rfl⟩, rfl⟩ := e3
  rw [e1] at hb'; cases hb'
  rw [m1] at hb2; cases hb2
  obtain ⟨D0, hown, hDs, hDk⟩ := owns_of (H := Unit) m2 m3 m5 hnd (by omega) (fun s hx => by have := hs s hx; omega)
  have hbm : bm < w.heap.size := (Array.getElem?_eq_some_iff.1 e2).1
  have hcell : w.cell? ⟨bm, 0, none⟩ = some (.map (some b)) := by rw [cell_row e2 0]; rfl
  have hseq := Kx.keys_gives Fence.wide (6 - 1 - 1 - 1) trivial rfl (by omega) bm b l.length D0 w hbm hcell hown
  refine (callsIn_wide.1 (Kx.sorted_in Fence.wide 6 trivial trivial trivial trivial rfl (by omega) (sorts_wide _) _ _ trivial (enters_of Try.func98 (by kernel_rfl) rfl) _ _ (by omega) (by omega) w hseq)).mono ?_
  rintro e w' ⟨v, ss, rfl, hperm, hrow, hnil, hbl⟩
  have hpl : ss.Perm l := hperm.trans hDk
  have hsort : (ss.mergeSort fun x y => decide (x ≤ y)) = sortB l := mergeSort_of_perm hpl
  rw [hsort] at hrow
  have hlen : ss.length = (sortB l).length := by rw [hpl.length_eq]; simp [sortB]
  rw [hlen] at hrow
  have hsls := strs_length (sortB l)
  have hob : ∀ (i : Nat) (o : AObj), [AObj.cells 77 [.mapv 1], .map (bmap l)][i]? = some o → ∀ m ∈ objNames o, m < 2 := by
    intro i o ho m hm
    match i, ho with
    | 0, ho => simp at ho; subst ho; have hm : m = 1 := by simpa [objNames, namesL, AV.names] using hm
               subst hm; decide
    | 1, ho => simp at ho; subst ho; simp [objNames] at hm
  rcases hrow.2 with ⟨rfl, hz⟩ | ⟨g, cap, cur, rfl, hbase, hgb, r1, r2, r3, r4⟩
  · have hnil : sortB l = [] := List.eq_nil_of_length_eq_zero hz
    obtain ⟨hI', hle⟩ := hI.grow (w' := w') (K' := G.K) hbl.os hbl.tape hbl.output hbl.size (fun b hb => hbl.block b hb) (fun _ _ _ => rfl) (fun b o v hb ev => by have := hI.wr.kltb ev; omega)
    refine ⟨_, _, _, _, rfl, h, ?_, hI', hob, by simp [AV.names]⟩
    rw [hnil]
    simp only [Rep, strs, List.map_nil]
    exact ⟨⟨none, 0, rfl, Nat.le_refl _, trivial⟩, trivial⟩
  · have htake : ∀ (j : Nat) (s : B), (sortB l)[j]? = some s → cur[j]? = some (encStr s) := fun j s hj => by
      have h1 : (cur.toList.take ((sortB l).length * 1))[j]? = some (encStr s) := by rw [r4]; simp [hj]
      have hjl := (List.getElem?_eq_some_iff.1 hj).1
      rw [List.getElem?_take, if_pos (by omega)] at h1
      simpa using h1
    obtain ⟨hI', hle⟩ := hI.grow (w' := w') (K' := addK G.K g cur.toList) hbl.os hbl.tape hbl.output hbl.size (fun b hb => hbl.block b hb) (fun b o hb => by
        have : b ≠ g := by omega
        show (if b = g then _ else _) = _
        rw [if_neg this]) (fun b o v hb ev => by
        by_cases e : b = g
        · subst e
          simp only [addK, if_true] at ev
          rw [cell_row hgb]
          simpa using ev
        · simp only [addK, e, if_false] at ev
          have := hI.wr.kltb ev; omega)
    refine ⟨_, _, _, _, rfl, h, ?_, hI', hob, by simp [AV.names]⟩
    simp only [Rep]
    rw [hsls]
    refine ⟨⟨_, cap, rfl, r1, repE_strs _ _ fun j s hj => ?_⟩, trivial⟩
    simp [addK, htake j s hj]
end Go.Abs
end

section
/- graph.Above: all that a name leads to. -/
set_option maxRecDepth 100000
set_option maxHeartbeats 1000000
set_option linter.unusedVariables false
set_option linter.unusedSimpArgs false
namespace Go.Abs
open Go Go.Proofs
attribute [local irreducible] ibits byteAt strLt firstIdx

inductive Up (l : List Nd) (a : B) : B → Prop where
  | base (n : Nd) : n ∈ l → a ∈ n.deps → Up l a n.name
  | step (n : Nd) (d : B) : n ∈ l → d ∈ n.deps → Up l a d → Up l a n.name
def upD (a : B) (D : List B) (d : B) : Prop := d = a ∨ d ∈ D
instance (a : B) (D : List B) : DecidablePred (upD a D) := fun d => inferInstanceAs (Decidable (_ ∨ _))
abbrev mO (n : Nm) : AObj := .cells 77 [.mapv n]

theorem upf_calls (s a : B) (D : List B) {R} (h : R (.val (.bool (decide (upD a D s)))) [mO 1, .map (bmap D)]) :
    ACalls Try.prog 67 [vs s, .cptr [vs a] 0, .ptr 0 0] [mO 1, .map (bmap D)] R := by
  refine acalls_of_xwp (an := an67) tab_ok Try.func67 ?_
  (conv => whnf)
  refine br_intro (fun e => ?_) (fun e => ?_)
  · have e : s = a := by simpa [ofB_eq] using e
    rw [decide_eq_true (show upD a D s from .inl e)] at h
    (conv => whnf)
    exact h
  · have e : s ≠ a := by simpa [ofB_eq] using e
    by_cases hs : s ∈ D
    · rw [decide_eq_true (show upD a D s from .inr hs)] at h
      have hf : mapFind (bmap D) (ofB s) = some (.val (.bool true)) := by rw [bmap_find, if_pos hs]
      (conv => whnf)
      rw [hf]
      (conv => whnf)
      exact h
    · rw [decide_eq_false (show ¬ upD a D s from fun x => x.elim e hs)] at h
      have hf : mapFind (bmap D) (ofB s) = none := by rw [bmap_find, if_neg hs]
      (conv => whnf)
      rw [hf]
      (conv => whnf)
      exact h
theorem upIdx_calls (l : List B) (hl : l.length < 1000000) (a : B) (D : List B) {R} (h : ∀ p : Int, (0 ≤ p ↔ ∃ d ∈ l, upD a D d) → R (vi p) [mO 1, .map (bmap D)]) :
    ACalls Try.prog 96 [.sl none 1 (strs l), .fn (.func 67) [] [.cptr [vs a] 0, .ptr 0 0]] [mO 1, .map (bmap D)] R := by
  refine acalls_of_xwp (an := an96) tab_ok Try.func96 ?_
  have hsl := strs_length l
  (conv => whnf)
  refine LoopP.ind1 (fun (i : Nat) => [(8, vi i)]) (fun _ => [(0, mO 1), (1, .map (bmap D))]) (fun i => l.length - i) (fun i => i ≤ l.length ∧ ∀ d ∈ l.take i, ¬ upD a D d) 0 rfl ⟨by omega, by simp⟩ ?_
  rintro i ⟨h0, h1⟩ IH
  (conv => whnf)
  refine br_intro (fun hc => ?_) (fun hc => ?_)
  · have hc := lt_of_decE hsl hc
    (conv => whnf); (repeat ((with_reducible refine must_intro ?_ ?_); exact decide_eq_true (by omega); (conv => whnf)))
    refine idxK_map_intro (show (i : Int).toNat < l.length by simpa using hc) ?_
    rw [show l[(i : Int).toNat]'(by simpa using hc) = l[i] from by congr 1]
    (conv => whnf)
    refine upf_calls l[i] a D ?_
    (conv => whnf)
    refine br_intro (fun he => ?_) (fun he => ?_)
    · have he : upD a D l[i] := of_decide_eq_true he
      (conv => whnf)
      exact h _ ⟨fun _ => ⟨_, List.getElem_mem hc, he⟩, fun _ => by omega⟩
    · have he : ¬ upD a D l[i] := of_decide_eq_false he
      (conv => whnf)
      rw [i64_nat (by omega)]
      refine IH (i + 1) ⟨by omega, fun d hd => ?_⟩ (by omega)
      rw [List.take_succ_eq_append_getElem hc, List.mem_append, List.mem_singleton] at hd
      rcases hd with hd | rfl
      · exact h1 d hd
      · exact he
  · have hc := ge_of_decE hsl hc
    rw [List.take_of_length_le hc] at h1
    (conv => whnf)
    exact h (-1) ⟨fun hh => by omega, fun ⟨d, hd, hn⟩ => absurd hn (h1 d hd)⟩
theorem upAny_calls (l : List B) (hl : l.length < 1000000) (a : B) (D : List B) {R} (h : ∀ b, b = decide (∃ d ∈ l, upD a D d) → R (.val (.bool b)) [mO 1, .map (bmap D)]) :
    ACalls Try.prog 66 [.sl none 1 (strs l), .fn (.func 67) [] [.cptr [vs a] 0, .ptr 0 0]] [mO 1, .map (bmap D)] R := by
  refine acalls_of_xwp (an := an66) tab_ok Try.func66 ?_
  (conv => whnf)
  refine upIdx_calls l hl a D fun p hp => ?_
  (conv => whnf)
  refine h _ ?_
  exact decide_eq_decide.2 hp

theorem sub_len {D l : List B} (hnd : D.Nodup) (h : ∀ x ∈ D, x ∈ l) : D.length ≤ l.length := by
  induction D generalizing l with
  | nil => simp
  | cons a D ih =>
    have ha := h a (by simp)
    have hn := List.nodup_cons.1 hnd
    have h2 := ih (l := l.erase a) hn.2 fun x hx => by
      have hxa : x ≠ a := fun e => hn.1 (e ▸ hx)
      exact (List.mem_erase_of_ne hxa).2 (h x (by simp [hx]))
    have h3 := List.length_erase_of_mem ha
    have h4 := List.length_pos_of_mem ha
    simp; omega

theorem Above_calls (l : List Nd) (hl : small l) (a : B) {R} (h : ∀ ss, (∀ x, x ∈ ss ↔ Up l a x) → ss.Pairwise (· < ·) → ss.length ≤ l.length → R (.sl none 1 (strs ss)) []) : ACalls Try.prog 41 [.sl none 4 (nds l), vs a] [] R := by
  refine acalls_of_xwp (an := an41) tab_ok Try.func41 ?_
  obtain ⟨hlen, hsm⟩ := hl
  have hsl := nds_length l
  (conv => whnf)
  refine LoopP.ind2 (fun (more : Bool) (D : List B) => [(6, .val (.bool more))]) (fun more D => [(nameOf 5, mO (nameOf 10)), (nameOf 10, .map (bmap D))])
    (fun more D => (l.length - D.length) * 2 + (if more = true then 1 else 0)) (fun more D => D.Nodup ∧ (∀ x ∈ D, Up l a x) ∧ (more = false → ∀ n ∈ l, (∃ d ∈ n.deps, upD a D d) → n.name ∈ D)) true [] rfl ⟨by simp, by simp, by simp⟩ ?_
  rintro more D ⟨hnd, hup, hcl⟩ IH
  have hDl : ∀ D : List B, D.Nodup → (∀ x ∈ D, Up l a x) → D.length ≤ l.length := fun D hnd hup => by
    have := sub_len (l := l.map (·.name)) hnd fun x hx => by
      cases hup x hx with
      | base n hn _ => exact List.mem_map_of_mem hn
      | step n d hn _ _ => exact List.mem_map_of_mem hn
    simpa using this
  cases more with
  | false =>
    have hcl := hcl rfl
    have hDl := hDl D hnd hup
    have hall : ∀ x, Up l a x → x ∈ D := fun x hx => by
      induction hx with
      | base n hn ha => exact hcl n hn ⟨a, ha, .inl rfl⟩
      | step n d hn hd _ ih => exact hcl n hn ⟨d, hd, .inr ih⟩
    have hlenD : ∀ s ∈ D, s.length < 1000000 := fun s hs => by
      cases hup s hs with
      | base n hn _ => have := (hsm n hn).2.1; omega
      | step n d hn _ _ => have := (hsm n hn).2.1; omega
    have hsp : (sortB D).Perm D := List.mergeSort_perm _ _
    have hsn : (sortB D).Nodup := hsp.nodup_iff.2 hnd
    have hst : (sortB D).Pairwise (· < ·) := by
      have h1 : (sortB D).Pairwise fun a b => a ≤ b := by
        have := List.pairwise_mergeSort (le := fun x y : B => decide (x ≤ y)) (fun a b c h1 h2 => by simp at h1 h2 ⊢; exact List.le_trans h1 h2) (fun a b => by simp; exact List.le_total a b) D
        exact this.imp fun h => by simpa using h
      refine (List.Pairwise.and h1 hsn).imp fun {x y} ⟨h2, h3⟩ => ?_
      exact Classical.byContradiction fun h4 => h3 (List.le_antisymm h2 (show y ≤ x from h4))
    have fin := h (sortB D) (fun x => (hsp.mem_iff).trans ⟨hup x, hall x⟩) hst (by rw [hsp.length_eq]; exact hDl)
    (conv => whnf)
    refine Keys_calls (bmap D) ?_
    (conv => whnf)
    refine Sorted_calls D (by omega) hlenD hnd ?_
    (conv => whnf)
    exact fin
  | true =>
    (conv => whnf)
    refine LoopP.ind3 (fun (i : Nat) (m2 : Bool) (D2 : List B) => [(6, .val (.bool m2)), (14, vi i)]) (fun i m2 D2 => [(nameOf 5, mO (nameOf 10)), (nameOf 10, .map (bmap D2))]) (fun i _ _ => l.length - i)
      (fun i m2 D2 => i ≤ l.length ∧ D2.Nodup ∧ (∀ x ∈ D2, Up l a x) ∧ (m2 = true → D.length < D2.length) ∧ (m2 = false → D2 = D ∧ ∀ n ∈ l.take i, (∃ d ∈ n.deps, upD a D d) → n.name ∈ D)) 0 false D rfl ⟨by omega, hnd, hup, by simp, fun _ => ⟨rfl, by simp⟩⟩ ?_
    rintro i m2 D2 ⟨h0, hnd2, hup2, hm1, hm0⟩ IH2
    (conv => whnf)
    refine br_intro (fun hc => ?_) (fun hc => ?_)
    · have hc := lt_of_decE hsl hc
      have hn := List.getElem_mem hc
      (conv => whnf); (repeat ((with_reducible refine must_intro ?_ ?_); exact decide_eq_true (by omega); (conv => whnf)))
      refine idxK_map_intro (show (i : Int).toNat < l.length by simpa using hc) ?_
      rw [show l[(i : Int).toNat]'(by simpa using hc) = l[i] from by congr 1]
      obtain ⟨n, hne⟩ : ∃ n, n = l[i] := ⟨_, rfl⟩
      rw [← hne] at hn ⊢
      have hnext : ∀ m3 : Bool, m3 = m2 → (¬ (∃ d ∈ n.deps, upD a D2 d) ∨ n.name ∈ D2) → (m3 = false → D2 = D ∧ ∀ n ∈ l.take (i + 1), (∃ d ∈ n.deps, upD a D d) → n.name ∈ D) := by
        rintro m3 rfl hq e
        obtain ⟨rfl, h2⟩ := hm0 e
        refine ⟨rfl, fun n' hn' hd => ?_⟩
        rw [List.take_succ_eq_append_getElem hc, ← hne, List.mem_append, List.mem_singleton] at hn'
        rcases hn' with hn' | rfl
        · exact h2 n' hn' hd
        · exact hq.resolve_left (fun x => x hd)
      (conv => whnf)
      refine upAny_calls n.deps (by have := (hsm n hn).1; omega) a D2 fun b hb => ?_
      (conv => whnf)
      refine br_intro (fun hb2 => ?_) (fun hb2 => ?_)
      · have hlead : ∃ d ∈ n.deps, upD a D2 d := by rw [hb] at hb2; exact of_decide_eq_true hb2
        by_cases hD : n.name ∈ D2
        · have hf : mapFind (bmap D2) (ofB n.name) = some (.val (.bool true)) := by rw [bmap_find, if_pos hD]
          (conv => whnf)
          rw [hf]
          (conv => whnf)
          rw [i64_nat (by omega)]
          exact IH2 (i + 1) m2 D2 ⟨by omega, hnd2, hup2, hm1, hnext m2 rfl (.inr hD)⟩ (by omega)
        · have hf : mapFind (bmap D2) (ofB n.name) = none := by rw [bmap_find, if_neg hD]
          (conv => whnf)
          rw [hf]
          (conv => whnf)
          rw [bmap_put hD, i64_nat (by omega)]
          have hDD : D.length ≤ D2.length := by
            cases m2 with
            | false => rw [(hm0 rfl).1]; omega
            | true => have := hm1 rfl; omega
          refine IH2 (i + 1) true (D2 ++ [n.name]) ⟨by omega, ?_, ?_, fun _ => by simp; omega, fun e => by cases e⟩ (by omega)
          · exact List.nodup_append.2 ⟨hnd2, by simp, fun x hx y hy => by simp at hy; subst hy; exact fun e => hD (e ▸ hx)⟩
          · intro x hx
            rw [List.mem_append, List.mem_singleton] at hx
            rcases hx with hx | rfl
            · exact hup2 x hx
            · obtain ⟨d, hd, rfl | hd2⟩ := hlead
              · exact .base n hn hd
              · exact .step n d hn hd (hup2 d hd2)
      · have hlead : ¬ ∃ d ∈ n.deps, upD a D2 d := by rw [hb] at hb2; exact of_decide_eq_false hb2
        (conv => whnf)
        rw [i64_nat (by omega)]
        exact IH2 (i + 1) m2 D2 ⟨by omega, hnd2, hup2, hm1, hnext m2 rfl (.inl hlead)⟩ (by omega)
    · have hc := ge_of_decE hsl hc
      rw [List.take_of_length_le hc] at hm0
      have h1 := hDl D hnd hup
      have h2 := hDl D2 hnd2 hup2
      (conv => whnf)
      refine IH m2 D2 ⟨hnd2, hup2, fun e => ?_⟩ ?_
      · obtain ⟨rfl, h3⟩ := hm0 e
        exact h3
      · cases m2 with
        | false => rw [(hm0 rfl).1]; simp
        | true => have := hm1 rfl; simp; omega
end Go.Abs
end

section
/- Graphs: the document's order. -/
set_option maxRecDepth 100000
set_option linter.unusedVariables false
set_option linter.unusedSimpArgs false
namespace Go.Abs
open Go Go.Proofs
attribute [local irreducible] ibits byteAt strLt firstIdx

theorem nm_inj {l : List Nd} (hd : (l.map (·.name)).Nodup) {i j : Nat} (hi : i < l.length) (hj : j < l.length) (h : nm l i = nm l j) : i = j := by
  rw [nm_eq hi, nm_eq hj] at h
  have h1 : (l.map (·.name))[i]'(by simpa using hi) = (l.map (·.name))[j]'(by simpa using hj) := by simpa using h
  exact (List.getElem_inj hd).1 h1
theorem mem_out {l : List Nd} (hd : (l.map (·.name)).Nodup) {out : List Nat} (hb : ∀ b ∈ out, b < l.length) {i : Nat} (hi : i < l.length) : i ∈ out ↔ l[i].name ∈ out.map (nm l) := by
  rw [List.mem_map]
  constructor
  · exact fun h => ⟨i, h, nm_eq hi⟩
  · rintro ⟨j, hj, e⟩
    rw [← nm_eq hi] at e
    rw [← nm_inj hd (hb j hj) hi e]
    exact hj
/-- Stands the place of a name among the places that are out? -/
theorem place_out {l : List Nd} (hd : (l.map (·.name)).Nodup) {out : List Nat} (hb : ∀ b ∈ out, b < l.length) (d : B) : (∃ i ∈ out, (i : Int) = placeI (l.map (·.name)) d) ↔ d ∈ out.map (nm l) := by
  unfold placeI
  cases e : placeOf (l.map (·.name)) d with
  | none =>
    simp only
    refine ⟨fun ⟨i, _, hi⟩ => by omega, fun h => ?_⟩
    obtain ⟨j, hj, e'⟩ := List.mem_map.1 h
    rw [nm_eq (hb j hj)] at e'
    exact absurd (List.mem_map.2 ⟨_, List.getElem_mem (hb j hj), e'⟩) (placeOf_none.1 e)
  | some p =>
    simp only
    obtain ⟨h1, h2⟩ := placeOf_some e
    have hp : p < l.length := by
      have := (List.getElem?_eq_some_iff.1 h1).1
      simpa using this
    have hn : l[p].name = d := by
      rw [List.getElem?_map, List.getElem?_eq_getElem hp] at h1
      simpa using h1
    rw [← hn, ← mem_out hd hb hp]
    exact ⟨fun ⟨i, hi, e⟩ => by have : i = p := by omega
                                rwa [← this], fun h => ⟨p, h, rfl⟩⟩

theorem refRow_calls (l : List Nd) (hl : small l) (hd : (l.map (·.name)).Nodup) {R} (h : ∀ r, r = rowP l → R (.sl none 1 (ints r)) []) : ACalls Try.prog 61 [.sl none 4 (nds l)] [] R := by
  refine acalls_of_xwp (an := an61) tab_ok Try.func61 ?_
  obtain ⟨hlen, hsm⟩ := hl
  have hsl := nds_length l
  (conv => whnf)
  refine LoopP.ind1 (fun (out : List Nat) => [(3, .sl (some (nameOf 8)) 1 (ints out))]) (fun out => [(nameOf 8, .row 3 1 out.length)])
    (fun out => l.length - out.length) (fun out => out.length ≤ l.length ∧ rowFrom l (l.length - out.length) out = rowP l ∧ out.Nodup ∧ ∀ b ∈ out, b < l.length) [] rfl ⟨by simp, rfl, by simp, by simp⟩ ?_
  rintro out ⟨h0, h1, hnd, hb⟩ IH
  have hol := ints_length out
  (conv => whnf)
  refine LoopP.ind1 (fun (k : Nat) => [(4, vi (bestI (best l (out.map (nm l)) k))), (5, vi k)]) (fun _ => [(nameOf 8, .row 3 1 out.length)]) (fun k => l.length - k) (fun k => k ≤ l.length) 0 rfl (by omega) ?_
  rintro k hk0 IH2
  (conv => whnf)
  refine br_intro (fun hc2 => ?_) (fun hc2 => ?_)
  · have hc2 := lt_of_decE hsl hc2
    have hsl2 := strs_length l[k].deps
    obtain ⟨hs1, hs2, hs3⟩ := hsm _ (List.getElem_mem hc2)
    (conv => whnf)
    refine in_calls out k (by omega) rfl fun b hbq => ?_
    have hbq : b = decide (l[k].name ∈ out.map (nm l)) := by
      rw [hbq]
      apply decide_eq_decide.2
      rw [← mem_out hd hb hc2]
      exact ⟨fun ⟨i, hi, e⟩ => by have : i = k := by omega
                                  rwa [← this], fun h => ⟨k, h, rfl⟩⟩
    (conv => whnf)
    refine LoopP.ind2 (fun (j : Nat) (r : Bool) => [(6, .val (.bool r)), (7, vi j)]) (fun _ _ => [(nameOf 8, .row 3 1 out.length)]) (fun j _ => l[k].deps.length - j)
      (fun j r => j ≤ l[k].deps.length ∧ (r = true ↔ (l[k].name ∉ out.map (nm l) ∧ ∀ d ∈ l[k].deps.take j, d ∈ out.map (nm l)))) 0 (!b) rfl ⟨by omega, by rw [hbq]; simp⟩ ?_
    rintro j r ⟨hj0, hr⟩ IH3
    (conv => whnf); (repeat ((with_reducible refine must_intro ?_ ?_); exact decide_eq_true (by omega); (conv => whnf)))
    refine idxK_map_intro (show (k : Int).toNat < l.length by simpa using hc2) ?_
    rw [show l[(k : Int).toNat]'(by simpa using hc2) = l[k] from by congr 1]
    (conv => whnf)
    refine br_intro (fun hc3 => ?_) (fun hc3 => ?_)
    · have hc3 := lt_of_decE hsl2 hc3
      have hr' : ∀ r' : Bool, (r' = true ↔ (r = true ∧ l[k].deps[j] ∈ out.map (nm l))) → (r' = true ↔ (l[k].name ∉ out.map (nm l) ∧ ∀ d ∈ l[k].deps.take (j + 1), d ∈ out.map (nm l))) := by
        intro r' e
        rw [e, hr, List.take_succ_eq_append_getElem hc3]
        constructor
        · rintro ⟨⟨g1, g2⟩, g3⟩
          refine ⟨g1, fun d hd => ?_⟩
          rw [List.mem_append, List.mem_singleton] at hd
          rcases hd with hd | rfl
          · exact g2 d hd
          · exact g3
        · rintro ⟨g1, g2⟩
          exact ⟨⟨g1, fun d hd => g2 d (List.mem_append_left _ hd)⟩, g2 _ (List.mem_append_right _ (by simp))⟩
      (conv => whnf)
      refine br_intro (fun hc4 => ?_) (fun hc4 => ?_)
      · (conv => whnf); (repeat ((with_reducible refine must_intro ?_ ?_); exact decide_eq_true (by omega); (conv => whnf)))
        refine idxK_map_intro (show (k : Int).toNat < l.length by simpa using hc2) ?_
        rw [show l[(k : Int).toNat]'(by simpa using hc2) = l[k] from by congr 1]
        (conv => whnf); (repeat ((with_reducible refine must_intro ?_ ?_); exact decide_eq_true (by omega); (conv => whnf)))
        refine idxK_map_intro (show (j : Int).toNat < l[k].deps.length by simpa using hc3) ?_
        rw [show l[k].deps[(j : Int).toNat]'(by simpa using hc3) = l[k].deps[j] from by congr 1]
        (conv => whnf)
        refine nPlace_calls l l[k].deps[j] (by omega) rfl fun p hp => ?_
        (conv => whnf)
        refine in_calls out p (by omega) rfl fun b' hb' => ?_
        (conv => whnf)
        rw [i64_nat (by omega)]
        refine IH3 (j + 1) b' ⟨by omega, hr' b' ?_⟩ (by omega)
        rw [hb', decide_eq_true_iff, hp, place_out hd hb]
        exact ⟨fun h => ⟨hc4, h⟩, fun h => h.2⟩
      · (conv => whnf)
        rw [i64_nat (by omega)]
        refine IH3 (j + 1) false ⟨by omega, hr' false ?_⟩ (by omega)
        have hc4 : r = false := hc4
        rw [hc4]
        simp
    · have hc3 := ge_of_decE hsl2 hc3
      rw [List.take_of_length_le hc3] at hr
      have hrr : ready l (out.map (nm l)) k = r := by
        unfold ready
        rw [nm_eq hc2, dps_eq hc2, Bool.eq_iff_iff, Bool.and_eq_true, decide_eq_true_iff, decide_eq_true_iff, hr]
      (conv => whnf)
      refine br_intro (fun hc4 => ?_) (fun hc4 => ?_)
      · have hr2 : ready l (out.map (nm l)) k = true := hrr.trans hc4
        cases hbk : best l (out.map (nm l)) k with
        | none =>
          have e2 : best l (out.map (nm l)) (k + 1) = some k := by
            rw [best_succ, hbk]
            unfold bstep
            rw [if_pos ⟨hr2, fun b hb => by cases hb⟩]
          (conv => whnf)
          rw [i64_nat (by omega)]
          have := IH2 (k + 1) (by omega) (by omega)
          rw [e2] at this
          exact this
        | some b0 =>
          obtain ⟨g1, g2⟩ := best_some hbk
          have g1 : b0 < l.length := by omega
          rw [show bestI (some b0) = (b0 : Int) from rfl]
          (conv => whnf); (repeat ((with_reducible refine must_intro ?_ ?_); exact decide_eq_true (by omega); (conv => whnf)))
          refine idxK_map_intro (show (k : Int).toNat < l.length by simpa using hc2) ?_
          rw [show l[(k : Int).toNat]'(by simpa using hc2) = l[k] from by congr 1]
          (conv => whnf); (repeat ((with_reducible refine must_intro ?_ ?_); exact decide_eq_true (by omega); (conv => whnf)))
          refine idxK_map_intro (show (b0 : Int).toNat < l.length by simpa using g1) ?_
          rw [show l[(b0 : Int).toNat]'(by simpa using g1) = l[b0] from by congr 1]
          (conv => whnf)
          refine Less_calls l[k].name l[b0].name (by omega) (by have := (hsm _ (List.getElem_mem g1)).2.1; omega) fun p hp => ?_
          (conv => whnf)
          refine br_intro (fun hlt => ?_) (fun hlt => ?_)
          · have hlt : p = true := hlt
            have e2 : best l (out.map (nm l)) (k + 1) = some k := by
              rw [best_succ, hbk]
              unfold bstep
              rw [if_pos ⟨hr2, fun b hb => by cases hb; rw [nm_eq hc2, nm_eq g1, ← hp]; exact hlt⟩]
            (conv => whnf)
            rw [i64_nat (by omega)]
            have := IH2 (k + 1) (by omega) (by omega)
            rw [e2] at this
            exact this
          · have hlt : p = false := hlt
            have e2 : best l (out.map (nm l)) (k + 1) = some b0 := by
              rw [best_succ, hbk]
              unfold bstep
              rw [if_neg (fun hh => by have := hh.2 b0 rfl; rw [nm_eq hc2, nm_eq g1, ← hp, hlt] at this; cases this)]
            (conv => whnf)
            rw [i64_nat (by omega)]
            have := IH2 (k + 1) (by omega) (by omega)
            rw [e2] at this
            exact this
      · have hr2 : ready l (out.map (nm l)) k = false := hrr.trans hc4
        have e2 : best l (out.map (nm l)) (k + 1) = best l (out.map (nm l)) k := by
          rw [best_succ]
          unfold bstep
          rw [if_neg (by rw [hr2]; simp)]
        (conv => whnf)
        rw [i64_nat (by omega)]
        have := IH2 (k + 1) (by omega) (by omega)
        rw [e2] at this
        exact this
  · have hc2 := ge_of_decE hsl hc2
    obtain rfl : k = l.length := by omega
    cases hbk : best l (out.map (nm l)) l.length with
    | none =>
      have hr : rowFrom l (l.length - out.length) out = out := by
        cases l.length - out.length with
        | zero => rfl
        | succ j => rw [rowFrom, hbk]
      (conv => whnf)
      exact h _ (hr.symm.trans h1)
    | some b =>
      obtain ⟨g1, g2⟩ := best_some hbk
      have hbn : b ∉ out := by
        unfold ready at g2
        rw [Bool.and_eq_true, decide_eq_true_iff, nm_eq g1] at g2
        intro hm
        exact g2.1 ((mem_out hd hb g1).1 hm)
      have hlt : out.length < l.length := by
        have hnd' : (b :: out).Nodup := List.nodup_cons.2 ⟨hbn, hnd⟩
        have hsub : (b :: out) ⊆ List.range l.length := by
          intro x hx
          rw [List.mem_cons] at hx
          rcases hx with rfl | hx
          · exact List.mem_range.2 g1
          · exact List.mem_range.2 (hb x hx)
        have := hnd'.length_le_of_subset hsub
        rw [List.length_range, List.length_cons] at this
        omega
      obtain ⟨j, hj⟩ : ∃ j, l.length - out.length = j + 1 := ⟨l.length - out.length - 1, by omega⟩
      rw [hj, rowFrom, hbk] at h1
      rw [show bestI (some b) = (b : Int) from rfl]
      (conv => whnf)
      refine ⟨hol.symm, ?_, ?_⟩
      · rw [hol]
        show (out.length + 1) * (8 + 1) ≤ _
        omega
      (conv => whnf)
      have e1 : ints out ++ [[AV.val (Value.int IntKind.i64 (b : Int))]] = ints (out ++ [b]) := by simp [ints, vi]
      have e2 : (ints out).length + [[AV.val (Value.int IntKind.i64 (b : Int))]].length = (out ++ [b]).length := by simp [hol]
      rw [e1, e2]
      refine IH (out ++ [b]) ⟨by simp; omega, ?_, ?_, ?_⟩ (by simp; omega)
      · rw [← h1]
        congr 1
        simp; omega
      · rw [List.nodup_append]
        exact ⟨hnd, by simp, fun x hx y hy e => hbn (by rw [List.mem_singleton] at hy; rw [← hy, ← e]; exact hx)⟩
      · intro x hx
        rw [List.mem_append, List.mem_singleton] at hx
        rcases hx with hx | rfl
        · exact hb x hx
        · exact g1
end Go.Abs
end

section
/- Graphs: what is wrong with nodes. -/
set_option maxRecDepth 100000
set_option linter.unusedVariables false
set_option linter.unusedSimpArgs false
namespace Go.Abs
open Go Go.Proofs
attribute [local irreducible] ibits byteAt strLt firstIdx

/-- What is wrong with nodes, one by one. -/
def chk1 : List Nd → List B → Int
  | [], _ => 0
  | n :: r, seen => if n.name ∈ seen then 1 else if oneP n ≠ 0 then oneP n else chk1 r (seen ++ [n.name])
def depsOk (l : List Nd) : Bool := l.all fun n => n.deps.all fun d => decide (d ∈ l.map (·.name))
def checkP (l : List Nd) : Int := if 64 < l.length then 5 else if chk1 l [] ≠ 0 then chk1 l [] else if depsOk l = false then 6 else if (rowP l).length < l.length then 9 else 0
theorem chk1_nodup : ∀ (l : List Nd) (seen : List B), chk1 l seen = 0 → (l.map (·.name)).Nodup ∧ ∀ n ∈ l, n.name ∉ seen := by
  intro l
  induction l with
  | nil => intro seen _; simp
  | cons n r ih =>
    intro seen h
    unfold chk1 at h
    split at h
    · cases h
    · rename_i hn
      split at h
      · rename_i h0; exact absurd h h0
      · obtain ⟨h1, h2⟩ := ih _ h
        refine ⟨?_, fun m hm => ?_⟩
        · rw [List.map_cons, List.nodup_cons]
          refine ⟨fun hm => ?_, h1⟩
          obtain ⟨m, hm, e⟩ := List.mem_map.1 hm
          exact h2 m hm (by rw [e]; simp)
        · rw [List.mem_cons] at hm
          rcases hm with rfl | hm
          · exact hn
          · exact fun hs => h2 m hm (by simp [hs])
/-- On from a place. -/
theorem chk1_drop {l : List Nd} {i : Nat} (hi : i < l.length) (seen : List B) : chk1 (l.drop i) seen = if l[i].name ∈ seen then 1 else if oneP l[i] ≠ 0 then oneP l[i] else chk1 (l.drop (i + 1)) (seen ++ [l[i].name]) := by
  rw [List.drop_eq_getElem_cons hi, chk1]
def names (l : List Nd) : List B := l.map (·.name)
theorem names_take {l : List Nd} {i : Nat} (hi : i < l.length) : names (l.take (i + 1)) = names (l.take i) ++ [l[i].name] := by
  unfold names
  rw [List.take_succ_eq_append_getElem hi, List.map_append]
  rfl

theorem depsOk_false {l : List Nd} {i j : Nat} (hi : i < l.length) (hj : j < l[i].deps.length) (h : l[i].deps[j] ∉ names l) : depsOk l = false := by
  unfold depsOk
  apply Bool.eq_false_iff.2
  intro hall
  have := List.all_eq_true.1 (List.all_eq_true.1 hall _ (List.getElem_mem hi)) _ (List.getElem_mem hj)
  exact h (of_decide_eq_true this)
theorem depsOk_true {l : List Nd} (h : ∀ n ∈ l, ∀ d ∈ n.deps, d ∈ names l) : depsOk l = true := by
  unfold depsOk
  rw [List.all_eq_true]
  intro n hn
  rw [List.all_eq_true]
  intro d hd
  exact decide_eq_true (h n hn d hd)


theorem Check_calls (l : List Nd) (hl : small l) {R} (h : ∀ e, e = checkP l → R (vi e) []) : ACalls Try.prog 71 [.sl none 4 (nds l)] [] R := by
  refine acalls_of_xwp (an := an71) tab_ok Try.func71 ?_
  have hl' := hl
  obtain ⟨hlen, hsm⟩ := hl
  have hsl := nds_length l
  (conv => whnf)
  refine br_intro (fun hc => ?_) (fun hc => ?_)
  · (conv => whnf)
    refine h 5 ?_
    have : 64 < l.length := by rw [hsl] at hc; simp at hc; omega
    simp [checkP, this]
  have h64 : ¬ 64 < l.length := by rw [hsl] at hc; simp at hc; omega
  have bad1 : ∀ e, e ≠ 0 → chk1 l [] = e → R (vi e) [] := fun e hb he => h _ (by unfold checkP; rw [if_neg h64, if_pos (by rw [he]; exact hb), he])
  (conv => whnf)
  refine New_nil ?_
  (conv => whnf)
  refine LoopP.step ?_
  (conv => whnf)
  refine br_intro (fun hc => ?_) (fun hc => ?_)
  · have hc : 0 < l.length := lt_of_decE (i := 0) hsl hc
    obtain ⟨hs1, hs2, hs3⟩ := hsm _ (List.getElem_mem hc)
    have hd0 := chk1_drop hc []
    rw [List.drop_zero, if_neg (by simp)] at hd0
    (conv => whnf); (repeat ((with_reducible refine must_intro ?_ ?_); exact decide_eq_true (by omega); (conv => whnf)))
    refine idxK_map_intro (show (0 : Int).toNat < l.length by simpa using hc) ?_
    rw [show l[(0 : Int).toNat]'(by simpa using hc) = l[0] from by congr 1]
    (conv => whnf)
    refine ID_new l[0].name ?_
    (conv => whnf)
    refine one_calls l[0] (by omega) fun e he => ?_
    (conv => whnf)
    refine br_intro (fun g => ?_) (fun g => ?_)
    · have g : e ≠ 0 := by simpa using g
      (conv => whnf)
      exact bad1 e g (by rw [hd0, ← he, if_pos g])
    · have g : e = 0 := by simpa using g
      rw [← he, if_neg (by rw [g]; simp)] at hd0
      have e0 : names (l.take 1) = [l[0].name] := names_take (i := 0) hc
      (conv => whnf)
      refine LoopP.ind1 (fun (i : Nat) => [(22, vi i)]) (fun i => [(freshN 19 0, tblO (freshN 30 0) (freshN 30 1) (names (l.take i))), (freshN 30 0, tblR (names (l.take i))), (freshN 30 1, tblM (names (l.take i)))]) (fun i => l.length - i) (fun i => i ≤ l.length ∧ chk1 (l.drop i) (names (l.take i)) = chk1 l []) 1 ?_ ⟨by omega, ?_⟩ ?_
      · rw [e0]; rfl
      · rw [e0]; exact hd0.symm
      rintro i ⟨h0, hch⟩ IH
      have hnl : (names (l.take i)).length ≤ l.length := by simp [names]; omega
      (conv => whnf)
      refine br_intro (fun hc => ?_) (fun hc => ?_)
      · have hc := lt_of_decE hsl hc
        obtain ⟨hs1, hs2, hs3⟩ := hsm _ (List.getElem_mem hc)
        rw [chk1_drop hc] at hch
        (conv => whnf); (repeat ((with_reducible refine must_intro ?_ ?_); exact decide_eq_true (by omega); (conv => whnf)))
        refine idxK_map_intro (show (i : Int).toNat < l.length by simpa using hc) ?_
        rw [show l[(i : Int).toNat]'(by simpa using hc) = l[i] from by congr 1]
        (conv => whnf)
        by_cases hm : l[i].name ∈ names (l.take i)
        · rw [if_pos hm] at hch
          refine ID_old _ _ hm fun j => ?_
          (conv => whnf)
          exact bad1 1 (by omega) hch.symm
        · rw [if_neg hm] at hch
          refine ID_more _ _ (by omega) hm fun j => ?_
          (conv => whnf)
          refine one_calls l[i] (by omega) fun e he => ?_
          rw [← he] at hch
          (conv => whnf)
          refine br_intro (fun g => ?_) (fun g => ?_)
          · have g : e ≠ 0 := by simpa using g
            rw [if_pos g] at hch
            (conv => whnf)
            exact bad1 e g hch.symm
          · have g : e = 0 := by simpa using g
            rw [if_neg (by rw [g]; simp), ← names_take hc] at hch
            (conv => whnf)
            rw [i64_nat (by omega), ← names_take hc]
            exact IH (i + 1) ⟨by omega, hch⟩ (by omega)
      · have hc := ge_of_decE hsl hc
        rw [List.drop_eq_nil_of_le hc, chk1] at hch
        have hchk := hch.symm
        (conv => whnf)
        refine places_calls l (by omega) fun es hes => ?_
        (conv => whnf)
        refine LoopP.ind1 (fun (i : Nat) => [(45, vi i)]) (fun _ => [(freshN 42 0, .map es)]) (fun i => l.length - i) (fun i => i ≤ l.length ∧ ∀ n ∈ l.take i, ∀ d ∈ n.deps, d ∈ names l) 0 rfl ⟨by omega, by simp⟩ ?_
        rintro i ⟨h0, hdo⟩ IH
        (conv => whnf)
        refine br_intro (fun hc => ?_) (fun hc => ?_)
        · have hc := lt_of_decE hsl hc
          have hsl3 := strs_length l[i].deps
          obtain ⟨hs1, hs2, hs3⟩ := hsm _ (List.getElem_mem hc)
          (conv => whnf); (repeat ((with_reducible refine must_intro ?_ ?_); exact decide_eq_true (by omega); (conv => whnf)))
          refine idxK_map_intro (show (i : Int).toNat < l.length by simpa using hc) ?_
          rw [show l[(i : Int).toNat]'(by simpa using hc) = l[i] from by congr 1]
          (conv => whnf)
          refine LoopP.ind1 (fun (j : Nat) => [(52, vi j)]) (fun _ => [(freshN 42 0, .map es)]) (fun j => l[i].deps.length - j) (fun j => j ≤ l[i].deps.length ∧ ∀ d ∈ l[i].deps.take j, d ∈ names l) 0 rfl ⟨by omega, by simp⟩ ?_
          rintro j ⟨hj0, hjo⟩ IH2
          (conv => whnf)
          refine br_intro (fun hc2 => ?_) (fun hc2 => ?_)
          · have hc2 := lt_of_decE hsl3 hc2
            (conv => whnf); (repeat ((with_reducible refine must_intro ?_ ?_); exact decide_eq_true (by omega); (conv => whnf)))
            refine idxK_map_intro (show (j : Int).toNat < l[i].deps.length by simpa using hc2) ?_
            rw [show l[i].deps[(j : Int).toNat]'(by simpa using hc2) = l[i].deps[j] from by congr 1]
            (conv => whnf)
            by_cases hm : l[i].deps[j] ∈ names l
            · obtain ⟨v, e1, x, rfl⟩ := (hes _).1 hm
              rw [e1]
              (conv => whnf)
              rw [i64_nat (by omega)]
              refine IH2 (j + 1) ⟨by omega, fun d hd => ?_⟩ (by omega)
              rw [List.take_succ_eq_append_getElem hc2, List.mem_append, List.mem_singleton] at hd
              rcases hd with hd | rfl
              · exact hjo d hd
              · exact hm
            · rw [(hes _).2 hm]
              (conv => whnf)
              refine h 6 ?_
              unfold checkP
              rw [if_neg h64, if_neg (by rw [hchk]; simp), if_pos (depsOk_false hc hc2 hm)]
          · have hc2 := ge_of_decE hsl3 hc2
            rw [List.take_of_length_le hc2] at hjo
            (conv => whnf)
            rw [i64_nat (by omega)]
            refine IH (i + 1) ⟨by omega, fun n hn => ?_⟩ (by omega)
            rw [List.take_succ_eq_append_getElem hc, List.mem_append, List.mem_singleton] at hn
            rcases hn with hn | rfl
            · exact hdo n hn
            · exact hjo
        · have hc := ge_of_decE hsl hc
          rw [List.take_of_length_le hc] at hdo
          (conv => whnf)
          refine row_calls l hl' fun r hr => ?_
          have hrl := ints_length r
          have fin : checkP l = if r.length < l.length then 9 else 0 := by
            unfold checkP
            rw [if_neg h64, if_neg (by rw [hchk]; simp), if_neg (by rw [depsOk_true hdo]; simp), hr]
          (conv => whnf)
          rw [hrl, hsl]
          refine br_intro (fun g2 => ?_) (fun g2 => ?_)
          · (conv => whnf)
            exact h 9 (by rw [fin, if_pos (lt_of_dec g2)])
          · (conv => whnf)
            exact h 0 (by rw [fin, if_neg (by have := ge_of_dec g2; omega)])
  · have hc : l.length ≤ 0 := ge_of_decE (i := 0) hsl hc
    have hnil : l = [] := List.eq_nil_of_length_eq_zero (by omega)
    have hchk : chk1 l [] = 0 := by rw [hnil]; rfl
    (conv => whnf)
    refine places_calls l (by omega) fun es hes => ?_
    (conv => whnf)
    refine LoopP.ind1 (fun (i : Nat) => [(45, vi i)]) (fun _ => [(freshN 42 0, .map es)]) (fun i => l.length - i) (fun i => i ≤ l.length ∧ ∀ n ∈ l.take i, ∀ d ∈ n.deps, d ∈ names l) 0 rfl ⟨by omega, by simp⟩ ?_
    rintro i ⟨h0, hdo⟩ IH
    (conv => whnf)
    refine br_intro (fun hc => ?_) (fun hc => ?_)
    · have hc := lt_of_decE hsl hc
      have hsl3 := strs_length l[i].deps
      obtain ⟨hs1, hs2, hs3⟩ := hsm _ (List.getElem_mem hc)
      (conv => whnf); (repeat ((with_reducible refine must_intro ?_ ?_); exact decide_eq_true (by omega); (conv => whnf)))
      refine idxK_map_intro (show (i : Int).toNat < l.length by simpa using hc) ?_
      rw [show l[(i : Int).toNat]'(by simpa using hc) = l[i] from by congr 1]
      (conv => whnf)
      refine LoopP.ind1 (fun (j : Nat) => [(52, vi j)]) (fun _ => [(freshN 42 0, .map es)]) (fun j => l[i].deps.length - j) (fun j => j ≤ l[i].deps.length ∧ ∀ d ∈ l[i].deps.take j, d ∈ names l) 0 rfl ⟨by omega, by simp⟩ ?_
      rintro j ⟨hj0, hjo⟩ IH2
      (conv => whnf)
      refine br_intro (fun hc2 => ?_) (fun hc2 => ?_)
      · have hc2 := lt_of_decE hsl3 hc2
        (conv => whnf); (repeat ((with_reducible refine must_intro ?_ ?_); exact decide_eq_true (by omega); (conv => whnf)))
        refine idxK_map_intro (show (j : Int).toNat < l[i].deps.length by simpa using hc2) ?_
        rw [show l[i].deps[(j : Int).toNat]'(by simpa using hc2) = l[i].deps[j] from by congr 1]
        (conv => whnf)
        by_cases hm : l[i].deps[j] ∈ names l
        · obtain ⟨v, e1, x, rfl⟩ := (hes _).1 hm
          rw [e1]
          (conv => whnf)
          rw [i64_nat (by omega)]
          refine IH2 (j + 1) ⟨by omega, fun d hd => ?_⟩ (by omega)
          rw [List.take_succ_eq_append_getElem hc2, List.mem_append, List.mem_singleton] at hd
          rcases hd with hd | rfl
          · exact hjo d hd
          · exact hm
        · rw [(hes _).2 hm]
          (conv => whnf)
          refine h 6 ?_
          unfold checkP
          rw [if_neg h64, if_neg (by rw [hchk]; simp), if_pos (depsOk_false hc hc2 hm)]
      · have hc2 := ge_of_decE hsl3 hc2
        rw [List.take_of_length_le hc2] at hjo
        (conv => whnf)
        rw [i64_nat (by omega)]
        refine IH (i + 1) ⟨by omega, fun n hn => ?_⟩ (by omega)
        rw [List.take_succ_eq_append_getElem hc, List.mem_append, List.mem_singleton] at hn
        rcases hn with hn | rfl
        · exact hdo n hn
        · exact hjo
    · have hc := ge_of_decE hsl hc
      rw [List.take_of_length_le hc] at hdo
      (conv => whnf)
      refine row_calls l hl' fun r hr => ?_
      have hrl := ints_length r
      have fin : checkP l = if r.length < l.length then 9 else 0 := by
        unfold checkP
        rw [if_neg h64, if_neg (by rw [hchk]; simp), if_neg (by rw [depsOk_true hdo]; simp), hr]
      (conv => whnf)
      rw [hrl, hsl]
      refine br_intro (fun g2 => ?_) (fun g2 => ?_)
      · (conv => whnf)
        exact h 9 (by rw [fin, if_pos (lt_of_dec g2)])
      · (conv => whnf)
        exact h 0 (by rw [fin, if_neg (by have := ge_of_dec g2; omega)])
end Go.Abs
end

section
/- The statement GraphChecks: the document's check, the order, the statement. -/
set_option maxRecDepth 100000
set_option linter.unusedVariables false
set_option linter.unusedSimpArgs false
namespace Go.Abs
open Go Go.Proofs
attribute [local irreducible] ibits byteAt strLt firstIdx

theorem refCheck_calls (l : List Nd) (hl : small l) {R} (h : ∀ e, e = checkP l → R (vi e) []) : ACalls Try.prog 60 [.sl none 4 (nds l)] [] R := by
  refine acalls_of_xwp (an := an60) tab_ok Try.func60 ?_
  have hl' := hl
  obtain ⟨hlen, hsm⟩ := hl
  have hsl := nds_length l
  (conv => whnf)
  refine br_intro (fun hc => ?_) (fun hc => ?_)
  · (conv => whnf)
    refine h 5 ?_
    have : 64 < l.length := by rw [hsl] at hc; simp at hc; omega
    simp [checkP, this]
  have h64 : ¬ 64 < l.length := by rw [hsl] at hc; simp at hc; omega
  have bad1 : ∀ e, e ≠ 0 → chk1 l [] = e → R (vi e) [] := fun e hb he => h _ (by unfold checkP; rw [if_neg h64, if_pos (by rw [he]; exact hb), he])
  (conv => whnf)
  refine LoopP.ind1 (fun (i : Nat) => [(3, vi i)]) (fun i => []) (fun i => l.length - i) (fun i => i ≤ l.length ∧ chk1 (l.drop i) (names (l.take i)) = chk1 l []) 0 rfl ⟨by omega, by simp [names]⟩ ?_
  rintro i ⟨h0, hch⟩ IH
  (conv => whnf)
  refine br_intro (fun hc => ?_) (fun hc => ?_)
  · have hc := lt_of_decE hsl hc
    obtain ⟨hs1, hs2, hs3⟩ := hsm _ (List.getElem_mem hc)
    rw [chk1_drop hc] at hch
    (conv => whnf); (repeat ((with_reducible refine must_intro ?_ ?_); exact decide_eq_true (by omega); (conv => whnf)))
    refine idxK_map_intro (show (i : Int).toNat < l.length by simpa using hc) ?_
    rw [show l[(i : Int).toNat]'(by simpa using hc) = l[i] from by congr 1]
    (conv => whnf)
    refine nPlace_calls (l.take i) l[i].name (by simp; omega) (by simp [nds, List.map_take]) fun p hp => ?_
    have hp : p = placeI (names (l.take i)) l[i].name := hp
    (conv => whnf)
    refine br_intro (fun hg => ?_) (fun hg => ?_)
    · have hm : l[i].name ∈ names (l.take i) := by
        have : 0 ≤ p := by simpa using hg
        rw [hp] at this
        exact Classical.byContradiction fun e => by have := placeI_neg.2 e; omega
      rw [if_pos hm] at hch
      (conv => whnf)
      exact bad1 1 (by omega) hch.symm
    · have hm : l[i].name ∉ names (l.take i) := by
        have : p < 0 := by simpa using hg
        rw [hp] at this
        exact placeI_neg.1 this
      rw [if_neg hm] at hch
      (conv => whnf); (repeat ((with_reducible refine must_intro ?_ ?_); exact decide_eq_true (by omega); (conv => whnf)))
      refine idxK_map_intro (show (i : Int).toNat < l.length by simpa using hc) ?_
      rw [show l[(i : Int).toNat]'(by simpa using hc) = l[i] from by congr 1]
      (conv => whnf)
      refine refOne_calls l[i] (by omega) fun e he => ?_
      rw [← he] at hch
      (conv => whnf)
      refine br_intro (fun g => ?_) (fun g => ?_)
      · have g : e ≠ 0 := by simpa using g
        rw [if_pos g] at hch
        (conv => whnf)
        exact bad1 e g hch.symm
      · have g : e = 0 := by simpa using g
        rw [if_neg (by rw [g]; simp), ← names_take hc] at hch
        (conv => whnf)
        rw [i64_nat (by omega)]
        exact IH (i + 1) ⟨by omega, hch⟩ (by omega)
  · have hc := ge_of_decE hsl hc
    rw [List.drop_eq_nil_of_le hc, chk1] at hch
    have hchk := hch.symm
    clear IH
    (conv => whnf)
    refine LoopP.ind1 (fun (i : Nat) => [(5, vi i)]) (fun _ => []) (fun i => l.length - i) (fun i => i ≤ l.length ∧ ∀ n ∈ l.take i, ∀ d ∈ n.deps, d ∈ names l) 0 rfl ⟨by omega, by simp⟩ ?_
    rintro i ⟨h0, hdo⟩ IH
    (conv => whnf)
    refine br_intro (fun hc => ?_) (fun hc => ?_)
    · have hc := lt_of_decE hsl hc
      have hsl3 := strs_length l[i].deps
      obtain ⟨hs1, hs2, hs3⟩ := hsm _ (List.getElem_mem hc)
      (conv => whnf)
      refine LoopP.ind1 (fun (j : Nat) => [(6, vi j)]) (fun _ => []) (fun j => l[i].deps.length - j) (fun j => j ≤ l[i].deps.length ∧ ∀ d ∈ l[i].deps.take j, d ∈ names l) 0 rfl ⟨by omega, by simp⟩ ?_
      rintro j ⟨hj0, hjo⟩ IH2
      (conv => whnf); (repeat ((with_reducible refine must_intro ?_ ?_); exact decide_eq_true (by omega); (conv => whnf)))
      refine idxK_map_intro (show (i : Int).toNat < l.length by simpa using hc) ?_
      rw [show l[(i : Int).toNat]'(by simpa using hc) = l[i] from by congr 1]
      (conv => whnf)
      refine br_intro (fun hc2 => ?_) (fun hc2 => ?_)
      · have hc2 := lt_of_decE hsl3 hc2
        (conv => whnf); (repeat ((with_reducible refine must_intro ?_ ?_); exact decide_eq_true (by omega); (conv => whnf)))
        refine idxK_map_intro (show (i : Int).toNat < l.length by simpa using hc) ?_
        rw [show l[(i : Int).toNat]'(by simpa using hc) = l[i] from by congr 1]
        (conv => whnf); (repeat ((with_reducible refine must_intro ?_ ?_); exact decide_eq_true (by omega); (conv => whnf)))
        refine idxK_map_intro (show (j : Int).toNat < l[i].deps.length by simpa using hc2) ?_
        rw [show l[i].deps[(j : Int).toNat]'(by simpa using hc2) = l[i].deps[j] from by congr 1]
        (conv => whnf)
        refine nPlace_calls l l[i].deps[j] (by omega) rfl fun p hp => ?_
        have hp : p = placeI (names l) l[i].deps[j] := hp
        (conv => whnf)
        refine br_intro (fun hg => ?_) (fun hg => ?_)
        · have hm : l[i].deps[j] ∉ names l := by
            have : p < 0 := by simpa using hg
            rw [hp] at this
            exact placeI_neg.1 this
          (conv => whnf)
          refine h 6 ?_
          unfold checkP
          rw [if_neg h64, if_neg (by rw [hchk]; simp), if_pos (depsOk_false hc hc2 hm)]
        · have hm : l[i].deps[j] ∈ names l := by
            have : 0 ≤ p := by simpa using hg
            rw [hp] at this
            exact Classical.byContradiction fun e => by have := placeI_neg.2 e; omega
          (conv => whnf)
          rw [i64_nat (by omega)]
          refine IH2 (j + 1) ⟨by omega, fun d hd => ?_⟩ (by omega)
          rw [List.take_succ_eq_append_getElem hc2, List.mem_append, List.mem_singleton] at hd
          rcases hd with hd | rfl
          · exact hjo d hd
          · exact hm
      · have hc2 := ge_of_decE hsl3 hc2
        rw [List.take_of_length_le hc2] at hjo
        (conv => whnf)
        rw [i64_nat (by omega)]
        refine IH (i + 1) ⟨by omega, fun n hn => ?_⟩ (by omega)
        rw [List.take_succ_eq_append_getElem hc, List.mem_append, List.mem_singleton] at hn
        rcases hn with hn | rfl
        · exact hdo n hn
        · exact hjo
    · have hc := ge_of_decE hsl hc
      rw [List.take_of_length_le hc] at hdo
      (conv => whnf)
      refine refRow_calls l hl' (chk1_nodup l [] hchk).1 fun r hr => ?_
      have hrl := ints_length r
      have fin : checkP l = if r.length < l.length then 9 else 0 := by
        unfold checkP
        rw [if_neg h64, if_neg (by rw [hchk]; simp), if_neg (by rw [depsOk_true hdo]; simp), hr]
      (conv => whnf)
      rw [hrl, hsl]
      refine br_intro (fun g2 => ?_) (fun g2 => ?_)
      · (conv => whnf)
        exact h 9 (by rw [fin, if_pos (lt_of_dec g2)])
      · (conv => whnf)
        exact h 0 (by rw [fin, if_neg (by have := ge_of_dec g2; omega)])

/-- The order, or none. -/
def orderP (l : List Nd) : List Nat := if checkP l = 0 then rowP l else []
theorem Order_calls (l : List Nd) (hl : small l) {R} (h : ∀ o e, o = orderP l → e = checkP l → R (.tup [.sl none 1 (ints o), vi e]) []) : ACalls Try.prog 43 [.sl none 4 (nds l)] [] R := by
  refine ACalls.res ?_
  refine acalls_of_xwp (an := an43) tab_ok Try.func43 ?_
  (conv => whnf)
  refine Check_calls l hl fun e he => ?_
  (conv => whnf)
  refine br_intro (fun g => ?_) (fun g => ?_)
  · have g : e ≠ 0 := by simpa using g
    (conv => whnf)
    refine res_le (le_tup (leL.cons (le_nil 1) (leL.cons (.refl _) leL.nil))) rfl (h [] e ?_ he)
    unfold orderP
    rw [← he, if_neg g]
  · have g : e = 0 := by simpa using g
    (conv => whnf)
    refine row_calls l hl fun r hr => ?_
    (conv => whnf)
    refine res_same ?_
    have := h r 0 (by unfold orderP; rw [← he, if_pos g, hr]) (by rw [← he, g])
    exact this

theorem Same_calls (a b : List Nat) (ha : a.length < 1000000) {R} (h : ∀ p, p = decide (a = b) → R (.val (.bool p)) []) : ACalls Try.prog 65 [.sl none 1 (ints a), .sl none 1 (ints b)] [] R := by
  refine acalls_of_xwp (an := an65) tab_ok Try.func65 ?_
  have hsa := ints_length a
  have hsb := ints_length b
  (conv => whnf)
  rw [hsa, hsb]
  refine br_intro (fun hc => ?_) (fun hc => ?_)
  · (conv => whnf)
    refine h false (decide_eq_false ?_).symm
    rintro rfl
    simp at hc
  have hlen : a.length = b.length := by simp at hc; omega
  (conv => whnf)
  refine LoopP.ind1 (fun (i : Nat) => [(5, vi i)]) (fun _ => []) (fun i => a.length - i) (fun i => i ≤ a.length ∧ a.take i = b.take i) 0 rfl ⟨by omega, by simp⟩ ?_
  rintro i ⟨h0, h1⟩ IH
  (conv => whnf)
  refine br_intro (fun hc => ?_) (fun hc => ?_)
  · have hc := lt_of_decE hsa hc
    have hcb : i < b.length := by omega
    (conv => whnf); (repeat ((with_reducible refine must_intro ?_ ?_); exact decide_eq_true (by omega); (conv => whnf)))
    refine idxK_map_intro (show (i : Int).toNat < a.length by simpa using hc) ?_
    rw [show a[(i : Int).toNat]'(by simpa using hc) = a[i] from by congr 1]
    (conv => whnf); (repeat ((with_reducible refine must_intro ?_ ?_); exact decide_eq_true (by omega); (conv => whnf)))
    refine idxK_map_intro (show (i : Int).toNat < b.length by simpa using hcb) ?_
    rw [show b[(i : Int).toNat]'(by simpa using hcb) = b[i] from by congr 1]
    (conv => whnf)
    refine br_intro (fun he => ?_) (fun he => ?_)
    · have he : ¬ ((a[i] : Nat) : Int) = ((b[i] : Nat) : Int) := by simpa using he
      have he : a[i] ≠ b[i] := fun e => he (by rw [e])
      (conv => whnf)
      refine h false (decide_eq_false ?_).symm
      rintro rfl
      exact he rfl
    · have he : ((a[i] : Nat) : Int) = ((b[i] : Nat) : Int) := by simpa using he
      have he : a[i] = b[i] := by omega
      (conv => whnf)
      rw [i64_nat (by omega)]
      refine IH (i + 1) ⟨by omega, ?_⟩ (by omega)
      rw [List.take_succ_eq_append_getElem hc, List.take_succ_eq_append_getElem hcb, h1, he]
  · have hc := ge_of_decE hsa hc
    rw [List.take_of_length_le hc, List.take_of_length_le (by omega)] at h1
    (conv => whnf)
    exact h true (decide_eq_true h1).symm

def fixNd : List Nd := [⟨[98], false, 0, [[97]]⟩, ⟨[97], true, 0, []⟩]
theorem fix_order : orderP fixNd = [1, 0] := by decide +kernel
theorem fix_check : checkP fixNd = 0 := by decide +kernel
theorem fix_small : small fixNd := by
  refine ⟨by decide, ?_⟩
  simp [fixNd]
theorem gfixed_calls {R} (h : R (.val (.bool true)) []) : ACalls Try.prog 40 [] [] R := by
  refine acalls_of_xwp (an := an40) tab_ok Try.func40 ?_
  (conv => whnf)
  refine ACalls.args ?_ (Order_calls fixNd fix_small fun o e ho he => ?_)
  · refine leL.cons (le_sl _ _ (leE.cons (leL.refl _) rfl (leE.cons ?_ rfl leE.nil))) leL.nil
    exact leL.cons (.refl _) (leL.cons (.refl _) (leL.cons (.refl _) (leL.cons (le_nil 1) leL.nil)))
  rw [fix_order] at ho
  rw [fix_check] at he
  subst ho he
  (conv => whnf)
  refine Same_calls [1, 0] [1, 0] (by simp) fun p hp => ?_
  have hp : p = true := by rw [hp]; decide
  subst hp
  (conv => whnf)
  exact h

/-- What is not too great is small. -/
theorem Great_calls (l : List Nd) (hl : l.length ≤ maxLen) (hn : ∀ n ∈ l, n.deps.length ≤ maxLen) {R} (h : ∀ b : Bool, (b = false → l.length ≤ 80 ∧ ∀ n ∈ l, n.deps.length ≤ 30 ∧ n.name.length ≤ 100 ∧ ∀ d ∈ n.deps, d.length ≤ 100) → R (.val (.bool b)) []) :
    ACalls Try.prog 34 [.sl none 4 (nds l)] [] R := by
  refine acalls_of_xwp (an := an34) tab_ok Try.func34 ?_
  have hsl := nds_length l
  have yes : R (.val (.bool true)) [] := h true (fun e => by cases e)
  (conv => whnf)
  refine LoopP.ind1 (fun (i : Nat) => [(9, vi i)]) (fun _ => []) (fun i => l.length - i) (fun i => i ≤ l.length ∧ ∀ n ∈ l.take i, n.deps.length ≤ 30 ∧ n.name.length ≤ 100 ∧ ∀ d ∈ n.deps, d.length ≤ 100) 0 rfl ⟨by omega, by simp⟩ ?_
  rintro i ⟨h0, hdo⟩ IH
  (conv => whnf)
  refine br_intro (fun hc => ?_) (fun hc => ?_)
  · have hc := lt_of_decE hsl hc
    have hsl3 := strs_length l[i].deps
    have hm := hn _ (List.getElem_mem hc)
    have hmx : maxLen ≤ 9223372036854775807 := by decide
    (conv => whnf); (repeat ((with_reducible refine must_intro ?_ ?_); exact decide_eq_true (by omega); (conv => whnf)))
    refine idxK_map_intro (show (i : Int).toNat < l.length by simpa using hc) ?_
    rw [show l[(i : Int).toNat]'(by simpa using hc) = l[i] from by congr 1]
    (conv => whnf)
    rw [hsl3]
    refine br_intro (fun g1 => ?_) (fun g1 => ?_)
    · (conv => whnf)
      exact yes
    have g1 : l[i].deps.length ≤ 30 := by simp at g1; omega
    have hsn := size_ofB l[i].name
    (conv => whnf)
    rw [hsn]
    refine br_intro (fun g2 => ?_) (fun g2 => ?_)
    · (conv => whnf)
      exact yes
    have g2 : l[i].name.length ≤ 100 := by simp at g2; omega
    (conv => whnf)
    refine LoopP.ind1 (fun (j : Nat) => [(26, vi j)]) (fun _ => []) (fun j => l[i].deps.length - j) (fun j => j ≤ l[i].deps.length ∧ ∀ d ∈ l[i].deps.take j, d.length ≤ 100) 0 rfl ⟨by omega, by simp⟩ ?_
    rintro j ⟨hj0, hjo⟩ IH2
    (conv => whnf)
    refine br_intro (fun hc2 => ?_) (fun hc2 => ?_)
    · have hc2 := lt_of_decE hsl3 hc2
      (conv => whnf); (repeat ((with_reducible refine must_intro ?_ ?_); exact decide_eq_true (by omega); (conv => whnf)))
      refine idxK_map_intro (show (j : Int).toNat < l[i].deps.length by simpa using hc2) ?_
      rw [show l[i].deps[(j : Int).toNat]'(by simpa using hc2) = l[i].deps[j] from by congr 1]
      have hsd := size_ofB l[i].deps[j]
      (conv => whnf)
      rw [hsd]
      refine br_intro (fun g3 => ?_) (fun g3 => ?_)
      · (conv => whnf)
        exact yes
      have g3 : l[i].deps[j].length ≤ 100 := by simp at g3; omega
      (conv => whnf)
      rw [i64_nat (by omega)]
      refine IH2 (j + 1) ⟨by omega, fun d hd => ?_⟩ (by omega)
      rw [List.take_succ_eq_append_getElem hc2, List.mem_append, List.mem_singleton] at hd
      rcases hd with hd | rfl
      · exact hjo d hd
      · exact g3
    · have hc2 := ge_of_decE hsl3 hc2
      rw [List.take_of_length_le hc2] at hjo
      (conv => whnf)
      rw [wrap_i64 (by omega) (by omega), show ((i : Int) + 1) = ((i + 1 : Nat) : Int) by omega]
      refine IH (i + 1) ⟨by omega, fun n hn => ?_⟩ (by omega)
      rw [List.take_succ_eq_append_getElem hc, List.mem_append, List.mem_singleton] at hn
      rcases hn with hn | rfl
      · exact hdo n hn
      · exact ⟨g1, g2, hjo⟩
  · have hc := ge_of_decE hsl hc
    rw [List.take_of_length_le hc] at hdo
    (conv => whnf)
    rw [hsl]
    refine h _ fun e => ⟨?_, hdo⟩
    simp at e
    omega

theorem typed_strs {n : Nat} {l : List (List AV)} (h : ∀ x ∈ l, Typed tab (n + 1) 9 x) : ∃ m : List B, l = strs m := by
  induction l with
  | nil => exact ⟨[], rfl⟩
  | cons x l ih =>
    obtain ⟨m, rfl⟩ := ih fun y hy => h y (by simp [hy])
    obtain ⟨s, rfl, hs⟩ : ∃ s : ByteArray, x = [.val (.string s)] ∧ s.size ≤ maxLen := h x (by simp)
    exact ⟨bs s :: m, by simp only [strs, List.map_cons, vs, ofB_bs]⟩
theorem typed_node {n : Nat} {x : List AV} (h : Typed tab (n + 3) 44 x) : ∃ nd : Nd, x = nd.enc ∧ nd.deps.length ≤ maxLen := by
  obtain ⟨a1, r1, rfl, ⟨s, rfl, hs⟩, a2, r2, rfl, ⟨b, rfl⟩, a3, r3, rfl, ⟨u, rfl, hu⟩, a4, r4, rfl, ⟨l, rfl, hl, hx⟩, rfl⟩ : ∃ a r, x = a ++ r ∧ (∃ s : ByteArray, a = [.val (.string s)] ∧ s.size ≤ maxLen) ∧
      ∃ a r', r = a ++ r' ∧ (∃ b, a = [.val (.bool b)]) ∧ ∃ a r'', r' = a ++ r'' ∧ (∃ y, a = [.val (.int .u64 y)] ∧ (Lit.int .u64 y).wf = true) ∧
      ∃ a r''', r'' = a ++ r''' ∧ (∃ l : List (List AV), a = [.sl none 1 l] ∧ l.length ≤ maxLen ∧ ∀ x ∈ l, Typed tab (n + 1) 9 x) ∧ r''' = [] := h
  obtain ⟨m, rfl⟩ := typed_strs hx
  refine ⟨⟨bs s, b, BitVec.ofInt 64 u, m⟩, ?_, by simpa [strs] using hl⟩
  simp only [Nd.enc, vs, ofB_bs, uv, List.cons_append, List.nil_append]
  rw [← wf_u64 hu]
theorem typed_nodes {n : Nat} {l : List (List AV)} (h : ∀ x ∈ l, Typed tab (n + 3) 44 x) : ∃ m : List Nd, l = nds m ∧ ∀ nd ∈ m, nd.deps.length ≤ maxLen := by
  induction l with
  | nil => exact ⟨[], rfl, by simp⟩
  | cons x l ih =>
    obtain ⟨m, rfl, hm⟩ := ih fun y hy => h y (by simp [hy])
    obtain ⟨nd, rfl, hn⟩ := typed_node (h x (by simp))
    exact ⟨nd :: m, rfl, by
      intro y hy
      rw [List.mem_cons] at hy
      rcases hy with rfl | hy
      · exact hn
      · exact hm y hy⟩
theorem args_nodes {ts : List TypeId} {l : List AV} (h : Args tab 12 (53 :: ts) l) : ∃ (x : List Nd) (l' : List AV), l = .sl none 4 (nds x) :: l' ∧ x.length ≤ maxLen ∧ (∀ n ∈ x, n.deps.length ≤ maxLen) ∧ Args tab 12 ts l' := by
  obtain ⟨a, l', rfl, h1, h2⟩ := h
  obtain ⟨x, e, hl, hx⟩ : ∃ x : List (List AV), [a] = [.sl none 4 x] ∧ x.length ≤ maxLen ∧ ∀ y ∈ x, Typed tab 11 44 y := h1
  obtain ⟨m, rfl, hm⟩ := typed_nodes (n := 8) hx
  simp only [List.cons.injEq, and_true] at e
  subst e
  exact ⟨m, l', rfl, by simpa [nds] using hl, hm, h2⟩
theorem args_node {ts : List TypeId} {l : List AV} (h : Args tab 12 (44 :: ts) l) : ∃ (x : Nd) (l' : List AV), l = .agg x.enc :: l' ∧ x.deps.length ≤ maxLen ∧ Args tab 12 ts l' := by
  obtain ⟨a, l', rfl, h1, h2⟩ := h
  obtain ⟨x, rfl, hx⟩ : ∃ x, a = .agg x ∧ Typed tab 12 44 x := h1
  obtain ⟨n, rfl, hn⟩ := typed_node (n := 9) hx
  exact ⟨n, l', rfl, hn, h2⟩
end Go.Abs
end

section
/- The statement GraphChecks. -/
set_option maxRecDepth 100000
set_option linter.unusedVariables false
set_option linter.unusedSimpArgs false
namespace Go.Abs
open Go Go.Proofs
attribute [local irreducible] ibits byteAt strLt firstIdx

end Go.Abs
end

section
/- Records: their cells; the document's Same; Great. -/
set_option maxRecDepth 100000
set_option linter.unusedVariables false
set_option linter.unusedSimpArgs false
namespace Go.Abs
open Go Go.Proofs Dig
attribute [local irreducible] ibits byteAt strLt firstIdx

structure Dp where
  name : B
  hash : U
  order : Bool
  deriving DecidableEq
def Dp.enc (d : Dp) : List AV := [vs d.name, uv d.hash, .val (.bool d.order)]
def dpsA (l : List Dp) : List (List AV) := l.map Dp.enc
theorem dpsA_length (l : List Dp) : (dpsA l).length = l.length := by simp [dpsA]
structure Rc where
  kind : Int
  target : B
  rule : U
  deps : List Dp
  out : U
  wen : U
  tag : B
  deriving DecidableEq
def Rc.enc (r : Rc) : List AV := [vi r.kind, vs r.target, uv r.rule, .sl none 3 (dpsA r.deps), uv r.out, uv r.wen, vs r.tag]
def recs (l : List Rc) : List (List AV) := l.map Rc.enc
theorem recs_length (l : List Rc) : (recs l).length = l.length := by simp [recs]

theorem Same8_calls (a b : Rc) (ha : a.deps.length < 1000000) {R} (h : ∀ p, p = decide (a = b) → R (.val (.bool p)) []) : ACalls Try.prog 27 [.agg a.enc, .agg b.enc] [] R := by
  refine acalls_of_xwp (an := an27) tab_ok Try.func27 ?_
  have hsa := dpsA_length a.deps
  have hsb := dpsA_length b.deps
  have no : a ≠ b → R (.val (.bool false)) [] := fun e => h false (decide_eq_false e).symm
  (conv => whnf)
  refine br_intro (fun g1 => ?_) (fun g1 => ?_)
  · (conv => whnf)
    exact no (by rintro rfl; simp at g1)
  (conv => whnf)
  refine br_intro (fun g2 => ?_) (fun g2 => ?_)
  · (conv => whnf)
    exact no (by rintro rfl; simp at g2)
  (conv => whnf)
  refine br_intro (fun g3 => ?_) (fun g3 => ?_)
  · (conv => whnf)
    exact no (by rintro rfl; simp at g3)
  (conv => whnf)
  refine br_intro (fun g4 => ?_) (fun g4 => ?_)
  · (conv => whnf)
    exact no (by rintro rfl; simp at g4)
  (conv => whnf)
  refine br_intro (fun g5 => ?_) (fun g5 => ?_)
  · (conv => whnf)
    exact no (by rintro rfl; simp at g5)
  (conv => whnf)
  refine br_intro (fun g6 => ?_) (fun g6 => ?_)
  · (conv => whnf)
    exact no (by rintro rfl; simp at g6)
  (conv => whnf)
  refine br_intro (fun g7 => ?_) (fun g7 => ?_)
  · (conv => whnf)
    exact no (by rintro rfl; simp at g7)
  have g7 : a.deps.length = b.deps.length := by rw [hsa, hsb] at g7; simp at g7; omega
  (conv => whnf)
  refine LoopP.ind1 (fun (i : Nat) => [(5, vi i)]) (fun _ => []) (fun i => a.deps.length - i) (fun i => i ≤ a.deps.length ∧ a.deps.take i = b.deps.take i) 0 rfl ⟨by omega, by simp⟩ ?_
  rintro i ⟨h0, h1⟩ IH
  (conv => whnf)
  refine br_intro (fun hc => ?_) (fun hc => ?_)
  · have hc := lt_of_decE hsa hc
    have hcb : i < b.deps.length := by omega
    have nox : a.deps[i] ≠ b.deps[i] → R (.val (.bool false)) [] := fun e => no fun hab => by subst hab; exact e rfl
    (conv => whnf); (repeat ((with_reducible refine must_intro ?_ ?_); exact decide_eq_true (by omega); (conv => whnf)))
    refine idxK_map_intro (show (i : Int).toNat < a.deps.length by simpa using hc) ?_
    rw [show a.deps[(i : Int).toNat]'(by simpa using hc) = a.deps[i] from by congr 1]
    (conv => whnf); (repeat ((with_reducible refine must_intro ?_ ?_); exact decide_eq_true (by omega); (conv => whnf)))
    refine idxK_map_intro (show (i : Int).toNat < b.deps.length by simpa using hcb) ?_
    rw [show b.deps[(i : Int).toNat]'(by simpa using hcb) = b.deps[i] from by congr 1]
    (conv => whnf)
    refine br_intro (fun e1 => ?_) (fun e1 => ?_)
    · (conv => whnf)
      exact nox (fun e => by rw [e] at e1; simp at e1)
    (conv => whnf); (repeat ((with_reducible refine must_intro ?_ ?_); exact decide_eq_true (by omega); (conv => whnf)))
    refine idxK_map_intro (show (i : Int).toNat < a.deps.length by simpa using hc) ?_
    rw [show a.deps[(i : Int).toNat]'(by simpa using hc) = a.deps[i] from by congr 1]
    (conv => whnf); (repeat ((with_reducible refine must_intro ?_ ?_); exact decide_eq_true (by omega); (conv => whnf)))
    refine idxK_map_intro (show (i : Int).toNat < b.deps.length by simpa using hcb) ?_
    rw [show b.deps[(i : Int).toNat]'(by simpa using hcb) = b.deps[i] from by congr 1]
    (conv => whnf)
    refine br_intro (fun e2 => ?_) (fun e2 => ?_)
    · (conv => whnf)
      exact nox (fun e => by rw [e] at e2; simp at e2)
    (conv => whnf); (repeat ((with_reducible refine must_intro ?_ ?_); exact decide_eq_true (by omega); (conv => whnf)))
    refine idxK_map_intro (show (i : Int).toNat < a.deps.length by simpa using hc) ?_
    rw [show a.deps[(i : Int).toNat]'(by simpa using hc) = a.deps[i] from by congr 1]
    (conv => whnf); (repeat ((with_reducible refine must_intro ?_ ?_); exact decide_eq_true (by omega); (conv => whnf)))
    refine idxK_map_intro (show (i : Int).toNat < b.deps.length by simpa using hcb) ?_
    rw [show b.deps[(i : Int).toNat]'(by simpa using hcb) = b.deps[i] from by congr 1]
    (conv => whnf)
    refine br_intro (fun e3 => ?_) (fun e3 => ?_)
    · (conv => whnf)
      exact nox (fun e => by rw [e] at e3; simp at e3)
    have ee : a.deps[i] = b.deps[i] := by
      have q1 : a.deps[i].name = b.deps[i].name := by simpa [ofB_eq] using e1
      have q2 : a.deps[i].hash = b.deps[i].hash := by
        have : (a.deps[i].hash.toNat : Int) = b.deps[i].hash.toNat := by simpa using e2
        exact BitVec.eq_of_toNat_eq (by omega)
      have q3 : a.deps[i].order = b.deps[i].order := by simpa using e3
      cases hx : a.deps[i]; cases hy : b.deps[i]
      rw [hx, hy] at q1 q2 q3
      simp at q1 q2 q3
      simp [q1, q2, q3]
    (conv => whnf)
    rw [i64_nat (by omega)]
    refine IH (i + 1) ⟨by omega, ?_⟩ (by omega)
    rw [List.take_succ_eq_append_getElem hc, List.take_succ_eq_append_getElem hcb, h1, ee]
  · have hc := ge_of_decE hsa hc
    rw [List.take_of_length_le hc, List.take_of_length_le (by omega)] at h1
    (conv => whnf)
    refine h true (decide_eq_true ?_).symm
    have uq : ∀ {x y : U}, (!((x.toNat : Int) == y.toNat)) = false → x = y := fun {x y} h => by
      have : (x.toNat : Int) = y.toNat := by simpa using h
      exact BitVec.eq_of_toNat_eq (by omega)
    have q1 : a.kind = b.kind := by simpa using g1
    have q2 : a.target = b.target := by simpa [ofB_eq] using g2
    have q3 : a.rule = b.rule := by
      have : (a.rule.toNat : Int) = b.rule.toNat := by simpa using g3
      exact BitVec.eq_of_toNat_eq (by omega)
    have q4 : a.out = b.out := by
      have : (a.out.toNat : Int) = b.out.toNat := by simpa using g4
      exact BitVec.eq_of_toNat_eq (by omega)
    have q5 : a.wen = b.wen := by
      have : (a.wen.toNat : Int) = b.wen.toNat := by simpa using g5
      exact BitVec.eq_of_toNat_eq (by omega)
    have q6 : a.tag = b.tag := by simpa [ofB_eq] using g6
    cases a; cases b
    simp_all

theorem Great8_calls (r : Rc) (hr : r.deps.length ≤ maxLen) {R} (h : ∀ b : Bool, (b = false → r.deps.length ≤ 60 ∧ r.target.length ≤ 300 ∧ r.tag.length ≤ 300 ∧ ∀ d ∈ r.deps, d.name.length ≤ 300) → R (.val (.bool b)) []) :
    ACalls Try.prog 20 [.agg r.enc] [] R := by
  refine acalls_of_xwp (an := an20) tab_ok Try.func20 ?_
  have hsl := dpsA_length r.deps
  have hmx : maxLen ≤ 9223372036854775807 := by decide
  have yes : R (.val (.bool true)) [] := h true (fun e => by cases e)
  (conv => whnf)
  refine LoopP.ind1 (fun (i : Nat) => [(8, vi i)]) (fun _ => []) (fun i => r.deps.length - i) (fun i => i ≤ r.deps.length ∧ ∀ d ∈ r.deps.take i, d.name.length ≤ 300) 0 rfl ⟨by omega, by simp⟩ ?_
  rintro i ⟨h0, hdo⟩ IH
  (conv => whnf)
  refine br_intro (fun hc => ?_) (fun hc => ?_)
  · have hc := lt_of_decE hsl hc
    (conv => whnf); (repeat ((with_reducible refine must_intro ?_ ?_); exact decide_eq_true (by omega); (conv => whnf)))
    refine idxK_map_intro (show (i : Int).toNat < r.deps.length by simpa using hc) ?_
    rw [show r.deps[(i : Int).toNat]'(by simpa using hc) = r.deps[i] from by congr 1]
    have hsn := size_ofB r.deps[i].name
    (conv => whnf)
    rw [hsn]
    refine br_intro (fun g => ?_) (fun g => ?_)
    · (conv => whnf)
      exact yes
    have g : r.deps[i].name.length ≤ 300 := by simp at g; omega
    (conv => whnf)
    rw [wrap_i64 (by omega) (by omega), show ((i : Int) + 1) = ((i + 1 : Nat) : Int) by omega]
    refine IH (i + 1) ⟨by omega, fun d hd => ?_⟩ (by omega)
    rw [List.take_succ_eq_append_getElem hc, List.mem_append, List.mem_singleton] at hd
    rcases hd with hd | rfl
    · exact hdo d hd
    · exact g
  · have hc := ge_of_decE hsl hc
    rw [List.take_of_length_le hc] at hdo
    have hst := size_ofB r.target
    have hsg := size_ofB r.tag
    (conv => whnf)
    rw [hsl]
    refine br_intro (fun g1 => ?_) (fun g1 => ?_)
    · (conv => whnf)
      exact yes
    have g1 : r.deps.length ≤ 60 := by simp at g1; omega
    (conv => whnf)
    rw [hst]
    refine br_intro (fun g2 => ?_) (fun g2 => ?_)
    · (conv => whnf)
      exact yes
    have g2 : r.target.length ≤ 300 := by simp at g2; omega
    (conv => whnf)
    rw [hsg]
    refine h _ fun e => ⟨g1, g2, ?_, hdo⟩
    simp at e
    omega

theorem Great10_calls (l : List Rc) (hl : l.length ≤ maxLen) (hn : ∀ r ∈ l, r.deps.length ≤ maxLen) {R} (h : ∀ b : Bool, (b = false → l.length ≤ 30 ∧ ∀ r ∈ l, r.deps.length ≤ 60 ∧ r.target.length ≤ 300 ∧ r.tag.length ≤ 300 ∧ ∀ d ∈ r.deps, d.name.length ≤ 300) → R (.val (.bool b)) []) :
    ACalls Try.prog 13 [.sl none 7 (recs l)] [] R := by
  refine acalls_of_xwp (an := an13) tab_ok Try.func13 ?_
  have hsl := recs_length l
  have hmx : maxLen ≤ 9223372036854775807 := by decide
  have yes : R (.val (.bool true)) [] := h true (fun e => by cases e)
  (conv => whnf)
  refine LoopP.ind1 (fun (i : Nat) => [(7, vi i)]) (fun _ => []) (fun i => l.length - i) (fun i => i ≤ l.length ∧ ∀ r ∈ l.take i, r.deps.length ≤ 60 ∧ r.target.length ≤ 300 ∧ r.tag.length ≤ 300 ∧ ∀ d ∈ r.deps, d.name.length ≤ 300) 0 rfl ⟨by omega, by simp⟩ ?_
  rintro i ⟨h0, hdo⟩ IH
  (conv => whnf)
  refine br_intro (fun hc => ?_) (fun hc => ?_)
  · have hc := lt_of_decE hsl hc
    (conv => whnf); (repeat ((with_reducible refine must_intro ?_ ?_); exact decide_eq_true (by omega); (conv => whnf)))
    refine idxK_map_intro (show (i : Int).toNat < l.length by simpa using hc) ?_
    rw [show l[(i : Int).toNat]'(by simpa using hc) = l[i] from by congr 1]
    (conv => whnf)
    refine Great8_calls l[i] (hn _ (List.getElem_mem hc)) fun b hb => ?_
    (conv => whnf)
    refine br_intro (fun g => ?_) (fun g => ?_)
    · (conv => whnf)
      exact yes
    (conv => whnf)
    rw [wrap_i64 (by omega) (by omega), show ((i : Int) + 1) = ((i + 1 : Nat) : Int) by omega]
    refine IH (i + 1) ⟨by omega, fun d hd => ?_⟩ (by omega)
    rw [List.take_succ_eq_append_getElem hc, List.mem_append, List.mem_singleton] at hd
    rcases hd with hd | rfl
    · exact hdo d hd
    · exact hb g
  · have hc := ge_of_decE hsl hc
    rw [List.take_of_length_le hc] at hdo
    (conv => whnf)
    rw [hsl]
    refine h _ fun e => ⟨?_, hdo⟩
    simp at e
    omega

theorem typed_dep {n : Nat} {x : List AV} (h : Typed tab (n + 3) 35 x) : ∃ d : Dp, x = d.enc := by
  obtain ⟨a1, r1, rfl, ⟨s, rfl, hs⟩, a2, r2, rfl, ⟨u, rfl, hu⟩, a3, r3, rfl, ⟨b, rfl⟩, rfl⟩ : ∃ a r, x = a ++ r ∧ (∃ s : ByteArray, a = [.val (.string s)] ∧ s.size ≤ maxLen) ∧
      ∃ a r', r = a ++ r' ∧ (∃ y, a = [.val (.int .u64 y)] ∧ (Lit.int .u64 y).wf = true) ∧ ∃ a r'', r' = a ++ r'' ∧ (∃ b, a = [.val (.bool b)]) ∧ r'' = [] := h
  refine ⟨⟨bs s, BitVec.ofInt 64 u, b⟩, ?_⟩
  simp only [Dp.enc, vs, ofB_bs, uv, List.cons_append, List.nil_append]
  rw [← wf_u64 hu]
theorem typed_deps {n : Nat} {l : List (List AV)} (h : ∀ x ∈ l, Typed tab (n + 3) 35 x) : ∃ m : List Dp, l = dpsA m := by
  induction l with
  | nil => exact ⟨[], rfl⟩
  | cons x l ih =>
    obtain ⟨m, rfl⟩ := ih fun y hy => h y (by simp [hy])
    obtain ⟨d, rfl⟩ := typed_dep (h x (by simp))
    exact ⟨d :: m, rfl⟩
theorem typed_rec {n : Nat} {x : List AV} (h : Typed tab (n + 6) 29 x) : ∃ r : Rc, x = r.enc ∧ r.deps.length ≤ maxLen ∧ (Lit.int .i64 r.kind).wf = true := by
  obtain ⟨a0, r0, rfl, ⟨k, rfl, hk⟩, a1, r1, rfl, ⟨s, rfl, hs⟩, a2, r2, rfl, ⟨u, rfl, hu⟩, a3, r3, rfl, ⟨l, rfl, hl, hx⟩, a4, r4, rfl, ⟨o, rfl, ho⟩, a5, r5, rfl, ⟨w, rfl, hw⟩, a6, r6, rfl, ⟨t, rfl, ht⟩, rfl⟩ :
      ∃ a r, x = a ++ r ∧ (∃ y, a = [.val (.int .i64 y)] ∧ (Lit.int .i64 y).wf = true) ∧ ∃ a r', r = a ++ r' ∧ (∃ s : ByteArray, a = [.val (.string s)] ∧ s.size ≤ maxLen) ∧
      ∃ a r'', r' = a ++ r'' ∧ (∃ y, a = [.val (.int .u64 y)] ∧ (Lit.int .u64 y).wf = true) ∧
      ∃ a r3, r'' = a ++ r3 ∧ (∃ l : List (List AV), a = [.sl none 3 l] ∧ l.length ≤ maxLen ∧ ∀ x ∈ l, Typed tab (n + 4) 35 x) ∧
      ∃ a r4, r3 = a ++ r4 ∧ (∃ y, a = [.val (.int .u64 y)] ∧ (Lit.int .u64 y).wf = true) ∧
      ∃ a r5, r4 = a ++ r5 ∧ (∃ y, a = [.val (.int .u64 y)] ∧ (Lit.int .u64 y).wf = true) ∧
      ∃ a r6, r5 = a ++ r6 ∧ (∃ s : ByteArray, a = [.val (.string s)] ∧ s.size ≤ maxLen) ∧ r6 = [] := h
  obtain ⟨m, rfl⟩ := typed_deps (n := n + 1) hx
  refine ⟨⟨k, bs s, BitVec.ofInt 64 u, m, BitVec.ofInt 64 o, BitVec.ofInt 64 w, bs t⟩, ?_, by simpa [dpsA] using hl, hk⟩
  simp only [Rc.enc, vs, vi, ofB_bs, uv, List.cons_append, List.nil_append]
  rw [← wf_u64 hu, ← wf_u64 ho, ← wf_u64 hw]
theorem typed_recs {n : Nat} {l : List (List AV)} (h : ∀ x ∈ l, Typed tab (n + 6) 29 x) : ∃ m : List Rc, l = recs m ∧ ∀ r ∈ m, r.deps.length ≤ maxLen := by
  induction l with
  | nil => exact ⟨[], rfl, by simp⟩
  | cons x l ih =>
    obtain ⟨m, rfl, hm⟩ := ih fun y hy => h y (by simp [hy])
    obtain ⟨r, rfl, hr, _⟩ := typed_rec (h x (by simp))
    exact ⟨r :: m, rfl, by
      intro y hy
      rw [List.mem_cons] at hy
      rcases hy with rfl | hy
      · exact hr
      · exact hm y hy⟩
theorem args_recs {ts : List TypeId} {l : List AV} (h : Args tab 12 (22 :: ts) l) : ∃ (x : List Rc) (l' : List AV), l = .sl none 7 (recs x) :: l' ∧ x.length ≤ maxLen ∧ (∀ r ∈ x, r.deps.length ≤ maxLen) ∧ Args tab 12 ts l' := by
  obtain ⟨a, l', rfl, h1, h2⟩ := h
  obtain ⟨x, e, hl, hx⟩ : ∃ x : List (List AV), [a] = [.sl none 7 x] ∧ x.length ≤ maxLen ∧ ∀ y ∈ x, Typed tab 11 29 y := h1
  obtain ⟨m, rfl, hm⟩ := typed_recs (n := 5) hx
  simp only [List.cons.injEq, and_true] at e
  subst e
  exact ⟨m, l', rfl, by simpa [recs] using hl, hm, h2⟩
end Go.Abs
end

section
/- dirty.Trace, Hashes, and the document's. -/
set_option maxRecDepth 100000
set_option linter.unusedVariables false
set_option linter.unusedSimpArgs false
namespace Go.Abs
open Go Go.Proofs Dig
attribute [local irreducible] ibits byteAt strLt firstIdx

theorem nums_len (l : List U) : (nums l).length = l.length := by simp [nums]
def depsOf : List B → List U → List Dp
  | n :: ns, h :: hs => ⟨n, h, false⟩ :: depsOf ns hs
  | _, _ => []
theorem depsOf_length {ns : List B} {hs : List U} (h : hs.length = ns.length) : (depsOf ns hs).length = ns.length := by
  induction ns generalizing hs with
  | nil => rfl
  | cons n ns ih =>
    cases hs with
    | nil => simp at h
    | cons x hs => simp [depsOf, ih (by simpa using h)]
theorem depsOf_take {ns : List B} {hs : List U} (h : hs.length = ns.length) {i : Nat} (hi : i < ns.length) :
    depsOf (ns.take (i + 1)) (hs.take (i + 1)) = depsOf (ns.take i) (hs.take i) ++ [⟨ns[i], hs[i], false⟩] := by
  induction ns generalizing hs i with
  | nil => simp at hi
  | cons n ns ih =>
    cases hs with
    | nil => simp at h
    | cons x hs =>
      cases i with
      | zero => simp [depsOf]
      | succ i => simp [depsOf, ih (hs := hs) (i := i) (by simpa using h) (by simpa using hi)]
def zeroR : Rc := ⟨0, [], 0, [], 0, 0, []⟩
def traceBad (n : Nd) (hs : List U) : Bool := n.source || decide (hs.length ≠ n.deps.length)
def traceP (n : Nd) (hs : List U) (c w : U) : Rc := if traceBad n hs = true then zeroR else ⟨1, n.name, n.rule, depsOf n.deps hs, dig c, w, []⟩
def traceE (n : Nd) (hs : List U) : Int := if traceBad n hs = true then 1 else 0
theorem le_zeroR : leL [.val (.int .i64 0), .val (.string ⟨#[]⟩), .val (.int .u64 0), .val (.slice none 0 0), .val (.int .u64 0), .val (.int .u64 0), .val (.string ⟨#[]⟩)] zeroR.enc :=
  leL.cons (.refl _) (leL.cons (.refl _) (leL.cons (.refl _) (leL.cons (le_nil 3) (leL.refl _))))

theorem Trace_calls (n : Nd) (hn : n.deps.length < 1000000) (hs : List U) (c w : U) {R} (h : ∀ r e, r = traceP n hs c w → e = traceE n hs → R (.tup [.agg r.enc, vi e]) []) :
    ACalls Try.prog 32 [.agg n.enc, .sl none 1 (nums hs), uv c, uv w] [] R := by
  refine ACalls.res ?_
  refine acalls_of_xwp (an := an32) tab_ok Try.func32 ?_
  have hsd := strs_length n.deps
  have hsh := nums_len hs
  have bad : traceBad n hs = true → ∃ r', AV.le (.tup [.agg [.val (.int .i64 0), .val (.string ⟨#[]⟩), .val (.int .u64 0), .val (.slice none 0 0), .val (.int .u64 0), .val (.int .u64 0), .val (.string ⟨#[]⟩)], vi 1]) r' ∧ (∀ m ∈ r'.names, m ∈ (AV.tup [.agg [.val (.int .i64 0), .val (.string ⟨#[]⟩), .val (.int .u64 0), .val (.slice none 0 0), .val (.int .u64 0), .val (.int .u64 0), .val (.string ⟨#[]⟩)], vi 1]).names) ∧ R r' [] := fun hb =>
    res_le (le_tup (leL.cons (le_agg le_zeroR) (leL.refl _))) rfl (h zeroR 1 (by rw [traceP, if_pos hb]) (by rw [traceE, if_pos hb]))
  (conv => whnf)
  refine br_intro (fun g1 => ?_) (fun g1 => ?_)
  · (conv => whnf)
    exact bad (by rw [traceBad, g1]; rfl)
  (conv => whnf)
  rw [hsh, hsd]
  refine br_intro (fun g2 => ?_) (fun g2 => ?_)
  · (conv => whnf)
    exact bad (by rw [traceBad, g1, Bool.false_or]; simp at g2; simp; omega)
  have g2 : hs.length = n.deps.length := by simp at g2; omega
  have hbad : traceBad n hs = false := by rw [traceBad, g1, Bool.false_or]; simp [g2]
  (conv => whnf)
  refine Of_calls c fun d hd => ?_
  (conv => whnf)
  refine LoopP.step ?_
  (conv => whnf)
  have hn0 : ∀ {i : Nat}, i < hs.length → i < n.deps.length := fun hi => by omega
  have done : ∀ ds, ds = depsOf n.deps hs → R (.tup [.agg [vi 1, vs n.name, uv n.rule, .sl none 3 (dpsA ds), uv d, uv w, vs []], vi 0]) [] := fun ds hds =>
    h ⟨1, n.name, n.rule, ds, d, w, []⟩ 0 (by rw [traceP, hbad, hds, hd]; rfl) (by rw [traceE, hbad]; rfl)
  refine br_intro (fun hc => ?_) (fun hc => ?_)
  · have hc : 0 < hs.length := lt_of_decE (i := 0) hsh hc
    have hc' := hn0 hc
    (conv => whnf); (repeat ((with_reducible refine must_intro ?_ ?_); exact decide_eq_true (by omega); (conv => whnf)))
    refine idxK_map_intro (show (0 : Int).toNat < hs.length by simpa using hc) ?_
    rw [show hs[(0 : Int).toNat]'(by simpa using hc) = hs[0] from by congr 1]
    (conv => whnf); (repeat ((with_reducible refine must_intro ?_ ?_); exact decide_eq_true (by omega); (conv => whnf)))
    refine idxK_map_intro (show (0 : Int).toNat < n.deps.length by simpa using hc') ?_
    rw [show n.deps[(0 : Int).toNat]'(by simpa using hc') = n.deps[0] from by congr 1]
    (conv => whnf)
    refine ⟨(show 1 * (32 + 1) ≤ 140737488355328 by decide), ?_⟩
    (conv => whnf)
    refine LoopP.ind2 (fun (i : Nat) (ds : List Dp) => [(34, vi i)])
      (fun i ds => [(nameOf 8, .cells 29 [.val (.int .i64 0), .val (.string ⟨#[]⟩), .val (.int .u64 0), .val (.slice none 0 0), .val (.int .u64 0), .val (.int .u64 0), .val (.string ⟨#[]⟩)]),
        (nameOf 10, .cells 29 [vi 1, vs n.name, uv n.rule, .sl (some (nameOf 49)) 3 (dpsA ds), uv d, uv w, vs []]), (nameOf 49, .row 35 3 ds.length)])
      (fun i _ => hs.length - i) (fun i ds => i ≤ hs.length ∧ ds = depsOf (n.deps.take i) (hs.take i)) 1 [⟨n.deps[0], hs[0], false⟩] rfl ⟨by omega, ?_⟩ ?_
    · rw [depsOf_take g2 hc']; rfl
    rintro i ds ⟨h0, hds⟩ IH
    have hdl := dpsA_length ds
    have hdi : ds.length = i := by rw [hds, depsOf_length (by simp; omega)]; simp; omega
    (conv => whnf)
    refine br_intro (fun hc => ?_) (fun hc => ?_)
    · have hc := lt_of_decE hsh hc
      have hc' := hn0 hc
      (conv => whnf); (repeat ((with_reducible refine must_intro ?_ ?_); exact decide_eq_true (by omega); (conv => whnf)))
      refine idxK_map_intro (show (i : Int).toNat < hs.length by simpa using hc) ?_
      rw [show hs[(i : Int).toNat]'(by simpa using hc) = hs[i] from by congr 1]
      (conv => whnf); (repeat ((with_reducible refine must_intro ?_ ?_); exact decide_eq_true (by omega); (conv => whnf)))
      refine idxK_map_intro (show (i : Int).toNat < n.deps.length by simpa using hc') ?_
      rw [show n.deps[(i : Int).toNat]'(by simpa using hc') = n.deps[i] from by congr 1]
      (conv => whnf)
      refine ⟨hdl.symm, (by rw [hdl]; show (ds.length + 1) * (32 + 1) ≤ _; omega), ?_⟩
      (conv => whnf)
      have e1 : dpsA ds ++ [[AV.val (Value.string (ofB n.deps[i])), AV.val (Value.int IntKind.u64 (hs[i].toNat : Int)), AV.val (Value.bool false)]] = dpsA (ds ++ [⟨n.deps[i], hs[i], false⟩]) := by simp [dpsA, Dp.enc, vs, uv]
      have e2 : (dpsA ds).length + [[AV.val (Value.string (ofB n.deps[i])), AV.val (Value.int IntKind.u64 (hs[i].toNat : Int)), AV.val (Value.bool false)]].length = (ds ++ [(⟨n.deps[i], hs[i], false⟩ : Dp)]).length := by simp [hdl]
      rw [e1, e2, i64_nat (by omega)]
      refine IH (i + 1) (ds ++ [⟨n.deps[i], hs[i], false⟩]) ⟨by omega, ?_⟩ (by omega)
      rw [depsOf_take g2 hc', hds]
    · have hc := ge_of_decE hsh hc
      rw [List.take_of_length_le (by omega), List.take_of_length_le hc] at hds
      (conv => whnf)
      refine res_same ?_
      exact done ds hds
  · have hc : hs.length ≤ 0 := ge_of_decE (i := 0) hsh hc
    have e1 : hs = [] := List.eq_nil_of_length_eq_zero (by omega)
    have e2 : n.deps = [] := List.eq_nil_of_length_eq_zero (by omega)
    (conv => whnf)
    refine res_le (le_tup (leL.cons (le_agg (leL.cons (.refl _) (leL.cons (.refl _) (leL.cons (.refl _) (leL.cons (le_nil 3) (leL.refl _)))))) (leL.refl _))) rfl (done [] ?_)
    rw [e1, e2]; rfl
end Go.Abs
end

section
/- slices.Clone of deps, record.Clone; slices.Backward's closure (records): its contract as an iterator. -/
set_option maxRecDepth 100000
set_option maxHeartbeats 2000000
set_option linter.unusedVariables false
set_option linter.unusedSimpArgs false
namespace Go.Abs
open Go Go.Proofs Go.RowKit
attribute [local go_sem] Oper.semAt_some

theorem CloneD_calls (l : List Dp) (hl : l.length < 1000000) {R} (h : R (.sl none 3 (dpsA l)) []) : ACalls Try.prog 80 [.sl none 3 (dpsA l)] [] R := by
  refine ACalls.res ?_
  refine acalls_of_xwp (an := an80) tab_ok Try.func80 ?_
  have hsl := dpsA_length l
  (conv => whnf)
  intro b hb
  refine br_intro (fun g => ?_) (fun g => ?_)
  · have e := hb g
    rw [e] at h
    (conv => whnf)
    exact res_le (le_nil 3) rfl h
  · (conv => whnf)
    refine ⟨rfl, (by show (0 + (dpsA l).length) * (32 + 1) ≤ _; omega), ?_⟩
    (conv => whnf)
    refine res_same ?_
    exact h
theorem Clone_calls (r : Rc) (hl : r.deps.length < 1000000) {R} (h : R (.agg r.enc) []) : ACalls Try.prog 54 [.agg r.enc] [] R := by
  refine acalls_of_xwp (an := an54) tab_ok Try.func54 ?_
  (conv => whnf)
  refine CloneD_calls r.deps hl ?_
  (conv => whnf)
  exact h

def backsR (l : List Rc) : List (List AV) := l.zipIdx.reverse.map fun p => [.val (.int .i64 p.2), .agg p.1.enc]
theorem Rc.enc_ok (r : Rc) : okCells r.enc = true := rfl

theorem back_iterR (l : List Rc) (hl : l.length < 1000000) : AIter Try.prog 79 [.cptr [.sl none 7 (recs l)] 0] (backsR l) := by
  refine ⟨fun args w => run_callFunc (by kernel_rfl), fun G w lb hk hr => ?_⟩
  simp only [RepL, Rep, RepC] at hr
  obtain ⟨_, _, rfl, ⟨b, o, rfl, ⟨⟨v, hv, ⟨A, c, rfl, hc, hE⟩, _⟩, _⟩, _⟩, rfl⟩ := hr
  have hval : ∀ i : Nat, ∃ vs : List Value, ∀ s, l[i]? = some s → RepL ⟨G.K, fun _ => none⟩ s.enc vs ∧ ∃ b o, A = some ⟨b, o, none⟩ ∧ ∀ j v, vs[j]? = some v → G.K b (o + i * 7 + j) = some v := by
    intro i
    cases hs : l[i]? with
    | none => exact ⟨[], fun s h => by cases h⟩
    | some s =>
      obtain ⟨b', o', hA, _, _, hC⟩ := hE.get (i := i) (e := s.enc) (by rw [recs, List.getElem?_map, hs]; rfl)
      obtain ⟨vs, h1, h2⟩ := hC.vals
      refine ⟨vs, fun s' h => ?_⟩
      cases h
      refine ⟨RepL.nameless (G := G) (G' := ⟨G.K, fun _ => none⟩) (fun _ _ _ h => h) _ _ rfl h1, b', o', hA, fun j v hj => ?_⟩
      have := h2 j v hj
      simpa using this
  obtain ⟨f, hf⟩ := Classical.skolem.1 hval
  refine ⟨l.zipIdx.reverse.map fun p => #[.int .i64 p.2, .agg (f p.2).toArray], by simp [backsR], ?_, ?_⟩
  · intro i x e hx he
    unfold backsR at hx
    rw [List.getElem?_map, Option.map_eq_some_iff] at hx he
    obtain ⟨p, hp, rfl⟩ := hx
    obtain ⟨p', hp', rfl⟩ := he
    rw [hp] at hp'
    cases hp'
    have hm : p ∈ l.zipIdx := by rw [← List.mem_reverse]; exact List.mem_of_getElem? hp
    have hg : l[p.2]? = some p.1 := List.mk_mem_zipIdx_iff_getElem?.1 hm
    have := (hf p.2 p.1 hg).1
    simp only [RepL, Rep]
    exact ⟨_, _, rfl, rfl, _, _, rfl, ⟨_, rfl, this⟩, rfl⟩
  · intro lp n J Jx hY hJ h0
    rw [show FW none = Fence.wide from rfl] at hY ⊢
    refine callsIn_of_wp Try.func79 rfl trivial ?_ rfl
    simp only [Try.ntmps79, List.size_toArray, List.length_cons, List.length_nil, Nat.reduceAdd, Nat.reduceSub, Array.replicate_succ, Array.replicate_zero, List.push_toArray, List.append_toArray, List.nil_append, List.cons_append, Nat.add_zero]
    have hb := hJ 0 w h0 _ _ _ hv
    have hlen : (recs l).length = l.length := recs_length l
    rw [hlen] at hb hv hc
    have hNb : (l.length : Int) < 1000000 := by omega
    clear hl
    gi_wp2
    gi_loopw [3] (fun i wr => ∃ k : Nat, k ≤ l.length ∧ i = .int .i64 ((l.length : Int) - 1 - k) ∧ J k wr) (fun i _ => (Go.RowKit.intOf i + 1).toNat)
    case atStart => exact ⟨0, Nat.zero_le _, by simp, h0⟩
    case round =>
      obtain ⟨k, hk', rfl, hJs⟩ := hrel
      by_cases hlt : k < l.length
      · obtain ⟨i, hi⟩ : ∃ i : Nat, i + k + 1 = l.length := ⟨l.length - 1 - k, by omega⟩
        have hil : i < l.length := by omega
        have ei : (l.length : Int) - 1 - k = (i : Int) := by omega
        rw [ei]
        clear ei
        obtain ⟨s, hs⟩ : ∃ s, l[i]? = some s := ⟨l[i], List.getElem?_eq_getElem hil⟩
        have hb' := hJ k wr hJs _ _ _ hv
        obtain ⟨hR1, b', o', hA, hK⟩ := hf i s hs
        subst hA
        have hes : (l.zipIdx.reverse.map fun p => (#[.int .i64 p.2, .agg (f p.2).toArray] : Array Value))[k]? = some #[.int .i64 i, .agg (f i).toArray] := by
          have hk : k < l.zipIdx.length := by simp; omega
          rw [List.getElem?_map, List.getElem?_reverse hk]
          have e : l.zipIdx.length - 1 - k = i := by simp; omega
          rw [e, List.getElem?_zipIdx, hs]
          simp
        generalize hfi : f i = vs at hR1 hK hes
        have hvl : vs.length = 7 := by rw [hR1.length]; rfl
        obtain ⟨v0, v1, v2, v3, v4, v5, v6, rfl⟩ : ∃ v0 v1 v2 v3 v4 v5 v6, vs = [v0, v1, v2, v3, v4, v5, v6] := by
          match vs, hvl with
          | [v0, v1, v2, v3, v4, v5, v6], _ => exact ⟨_, _, _, _, _, _, _, rfl⟩
        have d0 := hJ k wr hJs _ _ _ (hK 0 v0 rfl)
        have d1 := hJ k wr hJs _ _ _ (hK 1 v1 rfl)
        have d2 := hJ k wr hJs _ _ _ (hK 2 v2 rfl)
        have d3 := hJ k wr hJs _ _ _ (hK 3 v3 rfl)
        have d4 := hJ k wr hJs _ _ _ (hK 4 v4 rfl)
        have d5 := hJ k wr hJs _ _ _ (hK 5 v5 rfl)
        have d6 := hJ k wr hJs _ _ _ (hK 6 v6 rfl)
        simp only [Nat.add_zero] at d0
        obtain ⟨fn, tmps, assign, body, hy, hR⟩ := hY (n - 1) k #[.int .i64 i, .agg #[v0, v1, v2, v3, v4, v5, v6]] wr hes hJs
        have hi0 : (0 : Int) ≤ i := by omega
        clear hY hJ h0 hE hb hf hval hR1 hK
        gi_wp2
        refine ⟨fun h => by simp [Fence.wide] at h, hR.mono ?_⟩
        rintro e W3 (⟨rfl, hJ3⟩ | ⟨rfl, hJx3⟩)
        · clear hR hy
          gi_wp2
          go_roundw
          case rel => exact ⟨k + 1, by omega, by congr 1 <;> (try push_cast) <;> omega, hJ3⟩
          case measure => first | (simp [Go.RowKit.intOf]; done) | (simp [Go.RowKit.intOf]; omega)
        · clear hR hy
          gi_wp2
          refine bodyPost_ret (results_none rfl _ _ _) rfl ?_
          exact ⟨⟨_, rfl⟩, .inr ⟨_, hJx3⟩⟩
      · have ek : k = l.length := by omega
        have e1 : (l.length : Int) - 1 - k = -1 := by omega
        rw [e1]
        have hJe : J l.length wr := ek ▸ hJs
        clear e1 ek hJs hlt hk' hY h0 hE hb hf hval
        gi_wp2
        go_end0
        refine ⟨⟨_, rfl⟩, .inl ?_⟩
        simpa using hJe
end Go.Abs
end

section
/- What is found of a target (fold.Find), and the document's. -/
set_option maxRecDepth 100000
set_option linter.unusedVariables false
set_option linter.unusedSimpArgs false
namespace Go.Abs
open Go Go.Proofs Dig
attribute [local irreducible] ibits byteAt strLt firstIdx

def isOf (t : B) (r : Rc) : Bool := decide (r.kind = 1) && decide (r.target = t)
def findP (l : List Rc) (t : B) : Option Rc := l.reverse.find? (isOf t)
def findR (l : List Rc) (t : B) : Rc := (findP l t).getD zeroR

theorem BackwardR (l : List (List AV)) {R} (h : R (.fn (.func 79) [] [.cptr [.sl none 7 l] 0]) []) :
    ACalls Try.prog 53 [.sl none 7 l] [] R := by
  refine acalls_of_xwp (an := an53) tab_ok Try.func53 ?_
  (conv => whnf)
  exact h
theorem backsR_get {l : List Rc} {i : Nat} {x : List AV} (h : (backsR l)[i]? = some x) : ∃ s k, l.reverse[i]? = some s ∧ x = [.val (.int .i64 k), .agg s.enc] := by
  unfold backsR at h
  rw [List.getElem?_map, Option.map_eq_some_iff] at h
  obtain ⟨p, hp, rfl⟩ := h
  have h1 : (l.zipIdx.reverse.map (·.1))[i]? = some p.1 := by rw [List.getElem?_map, hp]; rfl
  rw [List.map_reverse, List.zipIdx_map_fst] at h1
  exact ⟨p.1, p.2, h1, rfl⟩
theorem backsR_length (l : List Rc) : (backsR l).length = l.length := by simp [backsR]
theorem find?_at {α : Type} {l : List α} {f : α → Bool} {i : Nat} {s : α} (h0 : ∀ j x, j < i → l[j]? = some x → f x = false) (h1 : l[i]? = some s) (h2 : f s = true) : l.find? f = some s := by
  induction l generalizing i with
  | nil => simp at h1
  | cons a l ih =>
    cases i with
    | zero => simp at h1; subst h1; simp [h2]
    | succ i =>
      have : f a = false := h0 0 a (by omega) rfl
      simp only [List.find?_cons, this]
      exact ih (i := i) (fun j x hj hx => h0 (j + 1) x (by omega) (by simpa using hx)) (by simpa using h1)
theorem find?_no {α : Type} {l : List α} {f : α → Bool} (h0 : ∀ j x, j < l.length → l[j]? = some x → f x = false) : l.find? f = none := by
  rw [List.find?_eq_none]
  intro x hx
  obtain ⟨j, hj, rfl⟩ := List.getElem_of_mem hx
  simp [h0 j _ hj (List.getElem?_eq_getElem hj)]

theorem Find_calls (l : List Rc) (hl : l.length < 1000000) (hd : ∀ r ∈ l, r.deps.length < 1000000) (t : B) {R} (h : R (.tup [.agg (findR l t).enc, .val (.bool (findP l t).isSome)]) []) :
    ACalls Try.prog 26 [.sl none 7 (recs l), vs t] [] R := by
  refine ACalls.res ?_
  refine acalls_of_xwp (an := an26) tab_ok Try.func26 ?_
  (conv => whnf)
  refine BackwardR _ ?_
  (conv => whnf)
  refine ⟨backsR l, back_iterR l hl, ?_, ?_⟩
  · intro x hx
    simp only [backsR, List.mem_map] at hx
    obtain ⟨p, _, rfl⟩ := hx
    rfl
  refine ⟨fun i s => s = _ ∧ ∀ j x, j < i → l.reverse[j]? = some x → isOf t x = false, ⟨rfl, fun j x hj => absurd hj (Nat.not_lt_zero _)⟩, ?_, ?_⟩
  · rintro i x s hx ⟨rfl, hno⟩
    obtain ⟨s, k, hs, rfl⟩ := backsR_get hx
    have hsl : s.deps.length < 1000000 := hd s (by rw [← List.mem_reverse]; exact List.mem_of_getElem? hs)
    have next : isOf t s = false → ∀ j x, j < i + 1 → l.reverse[j]? = some x → isOf t x = false := by
      intro hb j x hj hxj
      rcases Nat.lt_or_ge j i with hji | hji
      · exact hno j x hji hxj
      · have : j = i := by omega
        subst this
        rw [hs] at hxj
        cases hxj
        exact hb
    (conv => whnf)
    refine br_intro (fun hb => ?_) (fun hb => ?_)
    · have hb : s.kind = 1 := by simpa using hb
      (conv => whnf)
      refine br_intro (fun hc => ?_) (fun hc => ?_)
      · have hc : s.target = t := ofB_inj (of_decide_eq_true hc)
        have hf : findP l t = some s := find?_at hno hs (by simp [isOf, hb, hc])
        have hr : findR l t = s := by rw [findR, hf]; rfl
        rw [hr, hf] at h
        (conv => whnf)
        refine Clone_calls s hsl ?_
        (conv => whnf)
        refine res_same ?_
        exact h
      · have hc : ¬ s.target = t := fun e => of_decide_eq_false hc (by rw [e])
        (conv => whnf)
        exact ⟨rfl, next (by simp [isOf, hc])⟩
    · have hb : ¬ s.kind = 1 := by simpa using hb
      (conv => whnf)
      exact ⟨rfl, next (by simp [isOf, hb])⟩
  · rintro s ⟨rfl, hno⟩
    have hf : findP l t = none := find?_no (fun j x hj hx => hno j x (by rw [backsR_length]; simpa using hj) hx)
    have hr : findR l t = zeroR := by rw [findR, hf]; rfl
    rw [hr, hf] at h
    (conv => whnf)
    exact res_le (le_tup (leL.cons (le_agg le_zeroR) (leL.refl _))) rfl h

theorem docFind_calls (l : List Rc) (hl : l.length < 1000000) (t : B) {R} (h : R (.tup [.agg (findR l t).enc, .val (.bool (findP l t).isSome)]) []) :
    ACalls Try.prog 28 [.sl none 7 (recs l), vs t] [] R := by
  refine ACalls.res ?_
  refine acalls_of_xwp (an := an28) tab_ok Try.func28 ?_
  have hsl := recs_length l
  (conv => whnf)
  rw [hsl, wrap_i64 (by omega) (by omega), show (l.length : Int) - 1 = (l.length : Int) - 1 - ((0 : Nat) : Int) by omega]
  refine LoopP.ind1 (fun (k : Nat) => [(6, vi ((l.length : Int) - 1 - k))]) (fun _ => [(nameOf 4, .cells 29 [.val (.int .i64 0), .val (.string ⟨#[]⟩), .val (.int .u64 0), .val (.slice none 0 0), .val (.int .u64 0), .val (.int .u64 0), .val (.string ⟨#[]⟩)])]) (fun k => l.length - k)
    (fun k => k ≤ l.length ∧ ∀ j x, j < k → l.reverse[j]? = some x → isOf t x = false) 0 rfl ⟨by omega, fun j x hj => absurd hj (Nat.not_lt_zero _)⟩ ?_
  rintro k ⟨h0, hno⟩ IH
  by_cases hk : k < l.length
  · obtain ⟨i, hi⟩ : ∃ i : Nat, i + k + 1 = l.length := ⟨l.length - 1 - k, by omega⟩
    have hil : i < l.length := by omega
    have hs : l.reverse[k]? = some l[i] := by
      rw [List.getElem?_reverse hk, show l.length - 1 - k = i by omega, List.getElem?_eq_getElem hil]
    have next : isOf t l[i] = false → ∀ j x, j < k + 1 → l.reverse[j]? = some x → isOf t x = false := by
      intro hb j x hj hxj
      rcases Nat.lt_or_ge j k with hji | hji
      · exact hno j x hji hxj
      · have : j = k := by omega
        subst this
        rw [hs] at hxj
        cases hxj
        exact hb
    have again : IntKind.i64.wrap ((i : Int) - 1) = (l.length : Int) - 1 - ((k + 1 : Nat) : Int) := by
      rw [wrap_i64 (by omega) (by omega)]; omega
    rw [show (l.length : Int) - 1 - k = (i : Int) by omega]
    (conv => whnf); (repeat ((with_reducible refine must_intro ?_ ?_); exact decide_eq_true (by omega); (conv => whnf)))
    refine idxK_map_intro (show (i : Int).toNat < l.length by simpa using hil) ?_
    rw [show l[(i : Int).toNat]'(by simpa using hil) = l[i] from by congr 1]
    (conv => whnf)
    refine br_intro (fun hb => ?_) (fun hb => ?_)
    · have hb : l[i].kind = 1 := by simpa using hb
      (conv => whnf); (repeat ((with_reducible refine must_intro ?_ ?_); exact decide_eq_true (by omega); (conv => whnf)))
      refine idxK_map_intro (show (i : Int).toNat < l.length by simpa using hil) ?_
      rw [show l[(i : Int).toNat]'(by simpa using hil) = l[i] from by congr 1]
      (conv => whnf)
      refine br_intro (fun hc => ?_) (fun hc => ?_)
      · have hc : l[i].target = t := ofB_inj (of_decide_eq_true hc)
        have hf : findP l t = some l[i] := find?_at hno hs (by simp [isOf, hb, hc])
        have hr : findR l t = l[i] := by rw [findR, hf]; rfl
        rw [hr, hf] at h
        (conv => whnf); (repeat ((with_reducible refine must_intro ?_ ?_); exact decide_eq_true (by omega); (conv => whnf)))
        refine idxK_map_intro (show (i : Int).toNat < l.length by simpa using hil) ?_
        rw [show l[(i : Int).toNat]'(by simpa using hil) = l[i] from by congr 1]
        (conv => whnf)
        refine res_same ?_
        exact h
      · have hc : ¬ l[i].target = t := fun e => of_decide_eq_false hc (by rw [e])
        (conv => whnf)
        rw [again]
        exact IH (k + 1) ⟨by omega, next (by simp [isOf, hc])⟩ (by omega)
    · have hb : ¬ l[i].kind = 1 := by simpa using hb
      (conv => whnf)
      rw [again]
      exact IH (k + 1) ⟨by omega, next (by simp [isOf, hb])⟩ (by omega)
  · have ek : k = l.length := by omega
    have hf : findP l t = none := find?_no (fun j x hj hx => hno j x (by simpa [ek] using hj) hx)
    have hr : findR l t = zeroR := by rw [findR, hf]; rfl
    rw [hr, hf] at h
    rw [show (l.length : Int) - 1 - k = -1 by omega]
    (conv => whnf)
    exact res_le (le_tup (leL.cons (le_agg le_zeroR) (leL.refl _))) rfl h
theorem findR_deps {l : List Rc} (hd : ∀ r ∈ l, r.deps.length < 1000000) (t : B) : (findR l t).deps.length < 1000000 := by
  unfold findR findP
  cases h : l.reverse.find? (isOf t) with
  | none => decide
  | some r => exact hd r (by rw [← List.mem_reverse]; exact List.mem_of_find?_eq_some h)
end Go.Abs
end
