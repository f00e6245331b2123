/- Several texts of this claim, one behind the other: D5, E1, SH, H1, D1, D2, C2, E2, E3, E4, E5, E6, E7, F7, G1, G2, G3, H2, H3, H4, H5. -/
import Derived.Test.YtnifkinpogopkaaB9
import Derived.Test.YtnifkinpogopkaaAT
import Derived.Test.YtnifkinpogopkaaAN
import Derived.Shelf.Small.Bits
import Derived.Shelf.Strconv.Itoa0
import Derived.Shelf.Sort.Plain
import Derived.Shelf.Slices.In.SortNone
import Derived.Test.YtnifkinpogopkaaProg
import Derived.Sort.OwnSorted
import Derived.Test.YtnifkinpogopkaaC1
import Derived.Shelf.Abstract
import Derived.WalkKit
import Derived.OwnWalkIn
import Derived.TacticsInMore
import Derived.LoopNIn
import Derived.LoopIn
import Derived.Sort.Walk0

section
/- Words for texts: a text is a row of bytes. -/
set_option maxRecDepth 100000
set_option linter.unusedVariables false
set_option linter.unusedSimpArgs false
namespace Go.Abs
open Go Go.Proofs

abbrev B := List UInt8
def ofB (l : B) : ByteArray := ⟨l.toArray⟩
def bs (s : ByteArray) : B := s.data.toList
theorem bs_ofB (l : B) : bs (ofB l) = l := by simp [bs, ofB]
theorem ofB_bs (s : ByteArray) : ofB (bs s) = s := by simp [bs, ofB]
theorem bs_inj {s t : ByteArray} (h : bs s = bs t) : s = t := by rw [← ofB_bs s, h, ofB_bs]
theorem ofB_inj {l m : B} (h : ofB l = ofB m) : l = m := by rw [← bs_ofB l, h, bs_ofB]
theorem ofB_eq {l m : B} : ofB l = ofB m ↔ l = m := ⟨ofB_inj, fun h => by rw [h]⟩
theorem bs_append (s t : ByteArray) : bs (s ++ t) = bs s ++ bs t := by simp [bs]
theorem ofB_append (l m : B) : ofB l ++ ofB m = ofB (l ++ m) := bs_inj (by rw [bs_append, bs_ofB, bs_ofB, bs_ofB])
theorem size_bs (s : ByteArray) : s.size = (bs s).length := by simp [bs]
theorem size_ofB (l : B) : (ofB l).size = l.length := by rw [size_bs, bs_ofB]
theorem bs_extract (s : ByteArray) (a b : Nat) : bs (s.extract a b) = ((bs s).take b).drop a := by
  simp [bs, ByteArray.data_extract, List.drop_take]
theorem ofB_extract (l : B) (a b : Nat) : (ofB l).extract a b = ofB ((l.take b).drop a) := bs_inj (by rw [bs_extract, bs_ofB, bs_ofB])
theorem byteAt_ofB (l : B) {i : Nat} (h : i < l.length) : byteAt (ofB l) i = ((l[i]).toNat : Int) := by
  have hs : i < (ofB l).size := by rw [size_ofB]; exact h
  unfold byteAt
  rw [dif_pos hs]
  rfl
theorem strOfNums_ofB (l : B) : strOfNums (l.map fun b => (b.toNat : Int)) = ofB l := bs_inj (by
  rw [bs_ofB]
  show (strOfNums _).data.toList = _
  rw [strOfNums_data, List.map_map]
  conv => rhs; rw [← List.map_id l]
  refine List.map_congr_left fun b _ => ?_
  simp)
theorem u8_back (b : UInt8) : ((b.toNat : Int)).toNat.toUInt8 = b := by simp
theorem u8_inj {a b : UInt8} : ((a.toNat : Int) = (b.toNat : Int)) ↔ a = b := ⟨fun h => UInt8.toNat_inj.1 (by omega), fun h => by rw [h]⟩

/-! ### hexadecimal digits -/
def signsB : B := [48, 49, 50, 51, 52, 53, 54, 55, 56, 57, 97, 98, 99, 100, 101, 102]
def hexc (d : Nat) : UInt8 := if d < 10 then UInt8.ofNat (48 + d) else UInt8.ofNat (87 + d)
def hexv (c : UInt8) : Option Nat := if 48 ≤ c.toNat ∧ c.toNat ≤ 57 then some (c.toNat - 48) else if 97 ≤ c.toNat ∧ c.toNat ≤ 102 then some (c.toNat - 87) else none
def hexi (c : UInt8) : Int := match hexv c with | some d => d | none => -1
theorem idx_signs0 : (List.range 256).all (fun n => decide (firstIdx (ofB signsB) (UInt8.ofNat n) = hexi (UInt8.ofNat n))) = true := by decide +kernel
theorem idx_signs (c : UInt8) : firstIdx (ofB signsB) c = hexi c := by
  have h := List.all_eq_true.1 idx_signs0 c.toNat (List.mem_range.2 c.toNat_lt)
  simpa using h
theorem at_signs0 : (List.range 16).all (fun d => decide (byteAt (ofB signsB) d = ((hexc d).toNat : Int))) = true := by decide +kernel
theorem at_signs {d : Nat} (h : d < 16) : byteAt (ofB signsB) d = ((hexc d).toNat : Int) := by
  have h := List.all_eq_true.1 at_signs0 d (List.mem_range.2 h)
  simpa using h
theorem hexv_hexc0 : (List.range 16).all (fun d => decide (hexv (hexc d) = some d)) = true := by decide +kernel
theorem hexv_hexc {d : Nat} (h : d < 16) : hexv (hexc d) = some d := by
  have h := List.all_eq_true.1 hexv_hexc0 d (List.mem_range.2 h)
  simpa using h
theorem hexc_hexv {c : UInt8} {d : Nat} (h : hexv c = some d) : hexc d = c ∧ d < 16 := by
  have key : (List.range 256).all (fun n => match hexv (UInt8.ofNat n) with | some d => decide (hexc d = UInt8.ofNat n ∧ d < 16) | none => true) = true := by decide +kernel
  have h1 := List.all_eq_true.1 key c.toNat (List.mem_range.2 c.toNat_lt)
  rw [show UInt8.ofNat c.toNat = c by simp, h] at h1
  simpa using h1

theorem and15 {x : Int} (h0 : 0 ≤ x) (h1 : x < 18446744073709551616) : ibits .and .u64 x 15 = x % 16 := by
  obtain ⟨n, rfl⟩ := Int.eq_ofNat_of_zero_le h0
  have hn : n < 18446744073709551616 := by omega
  have e1 : BitVec.ofInt IntKind.u64.bits (n : Int) = BitVec.ofNat 64 n := by
    show BitVec.ofInt 64 (n : Int) = _
    simp
  have e2 : BitVec.ofInt IntKind.u64.bits 15 = BitVec.ofNat 64 15 := rfl
  simp only [ibits]
  rw [e1, e2, wrap_u64]
  have : ((BitVec.ofNat 64 n &&& BitVec.ofNat 64 15 : BitVec 64)).toNat = n % 16 := by
    rw [BitVec.toNat_and, BitVec.toNat_ofNat, BitVec.toNat_ofNat, Nat.mod_eq_of_lt (show n < 2 ^ 64 by simpa using hn), show 15 % 2 ^ 64 = 2 ^ 4 - 1 from rfl, Nat.and_two_pow_sub_one_eq_mod]
  show (((BitVec.ofNat 64 n &&& BitVec.ofNat 64 15 : BitVec 64).toNat : Int)) % _ = _
  rw [this]
  omega
theorem fdiv_nat (n k : Nat) : ((n : Int)).fdiv (2 ^ k) = ((n / 2 ^ k : Nat) : Int) := by
  rw [Int.fdiv_eq_ediv_of_nonneg _ (by exact Int.le_of_lt (Int.pow_pos (by omega)))]
  simp
theorem and15_of (h : U) (e : Nat) : ibits .and .u64 ((h.toNat : Int).fdiv (2 ^ e)) 15 = ((h.toNat / 2 ^ e % 16 : Nat) : Int) := by
  rw [fdiv_nat, and15 (Int.natCast_nonneg _) (by have := h.isLt; have := Nat.div_le_self h.toNat (2 ^ e); omega)]
  omega

/-- The last 'k' digits. -/
def hexL (n : Nat) : Nat → B
  | 0 => []
  | k + 1 => hexc (n / 16 ^ k % 16) :: hexL n k
theorem hexL_length (n : Nat) : ∀ k, (hexL n k).length = k := by
  intro k
  induction k with
  | zero => rfl
  | succ k ih => simp [hexL, ih]
def hexB (h : U) : B := hexL h.toNat 16
/-- What digits tell: on from a number. -/
def readL : B → Nat → Option Nat
  | [], n => some n
  | c :: l, n => match hexv c with
    | some d => readL l (16 * n + d)
    | none => none
def readB (s : B) : Option U := if s.length = 16 then (readL s 0).map (BitVec.ofNat 64) else none
theorem readL_lt : ∀ (s : B) (n k m : Nat), readL s n = some m → n < 16 ^ k → m < 16 ^ (k + s.length) := by
  intro s
  induction s with
  | nil => intro n k m h hn; simp only [readL, Option.some.injEq] at h; subst h; simpa using hn
  | cons c s ih =>
    intro n k m h hn
    simp only [readL] at h
    split at h
    · rename_i d hd
      have := (hexc_hexv hd).2
      have := ih (16 * n + d) (k + 1) m h (by rw [Nat.pow_succ]; omega)
      rw [List.length_cons, show k + (s.length + 1) = k + 1 + s.length by omega]; exact this
    · cases h
theorem readL_hexL (n : Nat) : ∀ (k m : Nat), readL (hexL n k) m = some (16 ^ k * m + n % 16 ^ k) := by
  intro k
  induction k with
  | zero => intro m; simp [readL, hexL, Nat.mod_one]
  | succ k ih =>
    intro m
    simp only [readL, hexL]
    rw [hexv_hexc (Nat.mod_lt _ (by omega))]
    simp only
    rw [ih]
    congr 1
    have e : n % 16 ^ (k + 1) = n % 16 ^ k + 16 ^ k * (n / 16 ^ k % 16) := by rw [Nat.pow_succ, Nat.mod_mul]
    rw [e, Nat.pow_succ, Nat.mul_add, ← Nat.mul_assoc]
    omega
theorem hexL_readL : ∀ (s : B) (n m : Nat), readL s n = some m → hexL m s.length = s ∧ m / 16 ^ s.length = n := by
  intro s
  induction s with
  | nil => intro n m h; simp only [readL, Option.some.injEq] at h; subst h; simp [hexL]
  | cons c s ih =>
    intro n m h
    simp only [readL] at h
    split at h
    · rename_i d hd
      obtain ⟨h1, h2⟩ := hexc_hexv hd
      obtain ⟨h3, h4⟩ := ih _ _ h
      refine ⟨?_, ?_⟩
      · rw [List.length_cons, hexL, h3, h4, show (16 * n + d) % 16 = d by omega, h1]
      · rw [List.length_cons, Nat.pow_succ, ← Nat.div_div_eq_div_mul, h4]; omega
    · cases h
theorem readB_hexB (h : U) : readB (hexB h) = some h := by
  unfold readB hexB
  rw [if_pos (hexL_length _ _), readL_hexL]
  simp only [Option.map_some, Option.some.injEq]
  apply BitVec.eq_of_toNat_eq
  have := h.isLt
  simp
  omega
theorem hexB_readB {s : B} {h : U} (e : readB s = some h) : hexB h = s := by
  unfold readB at e
  split at e
  · rename_i hl
    obtain ⟨m, h1, rfl⟩ := Option.map_eq_some_iff.1 e
    have h2 := readL_lt s 0 0 m h1 (by simp)
    rw [hl] at h2
    have h3 := (hexL_readL s 0 m h1).1
    rw [hl] at h3
    unfold hexB
    rw [BitVec.toNat_ofNat, Nat.mod_eq_of_lt (by simpa using h2), h3]
  · cases e
end Go.Abs
end

section
/- Tables of texts (intern): the functions. -/
set_option maxRecDepth 100000
set_option linter.unusedVariables false
set_option linter.unusedSimpArgs false
namespace Go.Abs
open Go Go.Proofs
attribute [local irreducible] ibits byteAt strLt firstIdx

def vs (s : B) : AV := .val (.string (ofB s))
def vi (i : Int) : AV := .val (.int .i64 i)
def strs (l : List B) : List (List AV) := l.map fun s => [vs s]
theorem strs_length (l : List B) : (strs l).length = l.length := by simp [strs]
theorem strs_append (l m : List B) : strs (l ++ m) = strs l ++ strs m := by simp [strs]

/-! ### maps of texts, by the order in which they came -/
def tblFrom : List B → Nat → List (ByteArray × AV)
  | [], _ => []
  | s :: l, i => (ofB s, vi i) :: tblFrom l (i + 1)
theorem tblFrom_append (l : List B) (s : B) : ∀ i, tblFrom (l ++ [s]) i = tblFrom l i ++ [(ofB s, vi (i + l.length))] := by
  induction l with
  | nil => intro i; simp [tblFrom]
  | cons a l ih => intro i; simp [tblFrom, ih, Int.add_assoc]; congr 2; omega
theorem mapFind_none {l : List B} {s : B} (h : s ∉ l) : ∀ i, mapFind (tblFrom l i) (ofB s) = none := by
  induction l with
  | nil => intro i; rfl
  | cons a l ih =>
    intro i
    simp only [List.mem_cons, not_or] at h
    simp only [tblFrom, mapFind]
    rw [if_neg (fun e => h.1 (ofB_inj e).symm)]
    exact ih h.2 _
theorem mapFind_some {l : List B} {s : B} (h : s ∈ l) : ∀ i, ∃ j : Int, mapFind (tblFrom l i) (ofB s) = some (vi j) := by
  induction l with
  | nil => cases h
  | cons a l ih =>
    intro i
    simp only [tblFrom, mapFind]
    by_cases e : a = s
    · subst e; rw [if_pos rfl]; exact ⟨_, rfl⟩
    · rw [if_neg (fun e' => e (ofB_inj e'))]
      exact ih (by simpa [Ne.symm e, eq_comm] using h) _
theorem mapPut_new {l : List B} {s : B} {v : AV} (h : s ∉ l) : ∀ i, mapPut (tblFrom l i) (ofB s) v = tblFrom l i ++ [(ofB s, v)] := by
  induction l with
  | nil => intro i; rfl
  | cons a l ih =>
    intro i
    simp only [List.mem_cons, not_or] at h
    simp only [tblFrom, mapPut]
    rw [if_neg (fun e => h.1 (ofB_inj e).symm), ih h.2]
    rfl

/-- A table in memory: fresh, or with texts. -/
def tblF : AObj := .cells 170 [.val (.slice none 0 0), .val (.map none)]
def tblO (n m : Nat) (l : List B) : AObj := .cells 170 [.sl (some n) 1 (strs l), .mapv m]
def tblR (l : List B) : AObj := .row 9 1 l.length
def tblM (l : List B) : AObj := .map (tblFrom l 0)
def tblP (l : List B) (s : B) : List B := if s ∈ l then l else l ++ [s]

theorem bytes_str : (tab.ti 9).bytes = 16 := rfl
theorem put_new (s : B) {R} (h : R (.tup [vi 0, .val (.bool true)]) [tblO 1 2 [s], tblR [s], tblM [s]]) :
    ACalls Try.prog 128 [.ptr 0 0, vs s] [tblF] R := by
  refine acalls_of_xwp (an := an128) tab_ok Try.func128 ?_
  (conv => whnf)
  refine ⟨(by rw [bytes_str]; decide : 1 * ((tab.ti 9).bytes + 1) ≤ 140737488355328), ?_⟩
  (conv => whnf)
  exact h

theorem put_old (l : List B) (s : B) (hs : s ∈ l) {R} (h : ∀ j, R (.tup [vi j, .val (.bool false)]) [tblO 1 2 l, tblR l, tblM l]) :
    ACalls Try.prog 128 [.ptr 0 0, vs s] [tblO 1 2 l, tblR l, tblM l] R := by
  refine acalls_of_xwp (an := an128) tab_ok Try.func128 ?_
  obtain ⟨j, hj⟩ := mapFind_some hs 0
  (conv => whnf)
  rw [hj]
  (conv => whnf)
  exact h j

theorem put_more (l : List B) (s : B) (hl : l.length < 1000000) (hs : s ∉ l) {R} (h : R (.tup [vi l.length, .val (.bool true)]) [tblO 1 2 (l ++ [s]), tblR (l ++ [s]), tblM (l ++ [s])]) :
    ACalls Try.prog 128 [.ptr 0 0, vs s] [tblO 1 2 l, tblR l, tblM l] R := by
  refine acalls_of_xwp (an := an128) tab_ok Try.func128 ?_
  (conv => whnf)
  rw [mapFind_none hs]
  (conv => whnf)
  refine ⟨(strs_length l).symm, ?_, ?_⟩
  · rw [strs_length, bytes_str]; simp; omega
  (conv => whnf)
  have e1 : (strs l ++ [[AV.val (Value.string (ofB s))]]) = strs (l ++ [s]) := (strs_append l [s]).symm
  have e2 : IntKind.i64.wrap (((strs (l ++ [s])).length : Int) - 1) = (l.length : Int) := by
    rw [strs_length, wrap_i64 (by rw [List.length_append]; simp <;> omega) (by rw [List.length_append]; simp <;> omega)]; simp
  have e3 : (strs l).length + [[AV.val (Value.string (ofB s))]].length = (l ++ [s]).length := by simp [strs_length]
  rw [mapPut_new hs, e3, e1, e2, strs_length]
  unfold tblM at h
  rw [tblFrom_append, show (((0 : Nat) : Int) + (l.length : Int)) = l.length by omega] at h
  exact h

/-- Put, whatever there is: tables of texts, each once. -/
theorem tblP_some {l : List B} {s : B} (h : s ∈ l) : tblP l s = l := by simp [tblP, h]
theorem tblP_none {l : List B} {s : B} (h : s ∉ l) : tblP l s = l ++ [s] := by simp [tblP, h]

theorem ID_new (s : B) {R} (h : R (.tup [uv 0, .val (.bool true)]) [tblO 1 2 [s], tblR [s], tblM [s]]) :
    ACalls Try.prog 100 [.ptr 0 0, vs s] [tblF] R := by
  refine acalls_of_xwp (an := an100) tab_ok Try.func100 ?_
  (conv => whnf)
  refine put_new s ?_
  (conv => whnf)
  exact h
theorem ID_old (l : List B) (s : B) (hs : s ∈ l) {R} (h : ∀ j : Int, R (.tup [.val (.int .u64 j), .val (.bool false)]) [tblO 1 2 l, tblR l, tblM l]) :
    ACalls Try.prog 100 [.ptr 0 0, vs s] [tblO 1 2 l, tblR l, tblM l] R := by
  refine acalls_of_xwp (an := an100) tab_ok Try.func100 ?_
  (conv => whnf)
  refine put_old l s hs fun j => ?_
  (conv => whnf)
  exact h _
theorem ID_more (l : List B) (s : B) (hl : l.length < 1000000) (hs : s ∉ l) {R} (h : ∀ j : Int, R (.tup [.val (.int .u64 j), .val (.bool true)]) [tblO 1 2 (l ++ [s]), tblR (l ++ [s]), tblM (l ++ [s])]) :
    ACalls Try.prog 100 [.ptr 0 0, vs s] [tblO 1 2 l, tblR l, tblM l] R := by
  refine acalls_of_xwp (an := an100) tab_ok Try.func100 ?_
  (conv => whnf)
  refine put_more l s hl hs ?_
  (conv => whnf)
  exact h _
theorem Len_old (l : List B) {R} (h : R (vi l.length) [tblO 1 2 l, tblR l, tblM l]) :
    ACalls Try.prog 129 [.ptr 0 0] [tblO 1 2 l, tblR l, tblM l] R := by
  refine acalls_of_xwp (an := an129) tab_ok Try.func129 ?_
  (conv => whnf)
  rw [strs_length]
  exact h

/-- A table, whichever. -/
def tblS (l : List B) : List AObj := match l with | [] => [tblF] | _ => [tblO 1 2 l, tblR l, tblM l]
theorem New_nil {R} (h : R (.ptr 0 0) [tblF]) : ACalls Try.prog 99 [.val (.slice none 0 0)] [] R := by
  refine acalls_of_xwp (an := an99) tab_ok Try.func99 ?_
  (conv => whnf)
  refine LoopP.step ?_
  (conv => whnf)
  exact h
def tblN (l : List B) : List B := l.foldl tblP []
theorem New_calls (a : B) (l : List B) (hl : l.length < 100000) {R} (h : ∀ m, m = tblN (a :: l) → R (.ptr 0 0) [tblO 1 2 m, tblR m, tblM m]) : ACalls Try.prog 99 [.sl none 1 (strs (a :: l))] [] R := by
  refine acalls_of_xwp (an := an99) tab_ok Try.func99 ?_
  (conv => whnf)
  have hsl : (strs (a :: l)).length = l.length + 1 := by rw [strs_length]; rfl
  refine LoopP.step ?_
  (conv => whnf)
  refine br_true (by rw [hsl]; simp <;> omega) ?_
  (conv => whnf)
  refine put_new a ?_
  (conv => whnf)
  refine LoopP.ind2 (fun (i : Nat) (m : List B) => [(10, vi i)]) (fun i m => [(nameOf 7, tblO (freshN 18 0) (freshN 18 1) m), (freshN 18 0, tblR m), (freshN 18 1, tblM m)]) (fun i _ => l.length + 1 - i)
    (fun i m => 1 ≤ i ∧ i ≤ l.length + 1 ∧ m.length ≤ i ∧ (l.drop (i - 1)).foldl tblP m = tblN (a :: l)) 1 [a] rfl ⟨by omega, by omega, by simp, by simp [tblN, tblP]⟩ ?_
  rintro i m ⟨h0, h1, h2, h3⟩ IH
  (conv => whnf)
  refine br_intro (fun hc => ?_) (fun hc => ?_)
  · have hc : i < l.length + 1 := by rw [hsl] at hc; simp at hc; omega
    have hi : i < (a :: l).length := by simpa using hc
    (conv => whnf)
    refine idxK_map_intro (show (i : Int).toNat < (a :: l).length by simpa using hc) ?_
    obtain ⟨s, hs⟩ : ∃ s, s = (a :: l)[(i : Int).toNat]'(by simpa using hc) := ⟨_, rfl⟩
    rw [← hs]
    have hd : l.drop (i - 1) = s :: l.drop i := by
      rw [List.drop_eq_getElem_cons (show i - 1 < l.length by omega), show i - 1 + 1 = i by omega, hs]
      congr 1
      obtain ⟨j, rfl⟩ : ∃ j, i = j + 1 := ⟨i - 1, by omega⟩
      simp
    rw [hd, List.foldl_cons] at h3
    (conv => whnf)
    by_cases hm : s ∈ m
    · refine put_old m s hm fun j => ?_
      rw [tblP_some hm] at h3
      (conv => whnf)
      rw [wrap_i64 (by omega) (by omega)]
      exact IH (i + 1) m ⟨by omega, by omega, by omega, by simpa using h3⟩ (by omega)
    · refine put_more m s (by omega) hm ?_
      rw [tblP_none hm] at h3
      (conv => whnf)
      rw [wrap_i64 (by omega) (by omega)]
      exact IH (i + 1) (m ++ [s]) ⟨by omega, by omega, by simp; omega, by simpa using h3⟩ (by omega)
  · have hc : i = l.length + 1 := by rw [hsl] at hc; simp at hc; omega
    subst hc
    rw [Nat.add_sub_cancel, List.drop_length] at h3
    (conv => whnf)
    exact h m h3
end Go.Abs
end

section
/-
  DERIVED: THE SHELF's CONTRACTS AT THIS DUMP, IN PLAIN WORDS (tools/lay-plain.mjs out of 'TryShelf.lean', which tools/lay-shelf.mjs wrote): THE SAME DECLARATIONS UNDER THE SAME NAMES: 'import', 'namespace', 'open', 'def', 'theorem' AND NOTHING ELSE: no command of the shelf's: FOR A HAND-IN. Each laying: the table of numbers ('.._ren') and one theorem, a field a fact of the dump's own or the kernel's comparison; each contract: ONE APPLICATION.
-/
namespace Go.Proofs
open Go.Shelf
def Try.lays128_ren : Go.Shelf.Ren := ⟨fun | 128 => 120 | n => n, fun | 51 => 164 | 3 => 3 | 4 => 4 | 46 => 129 | 5 => 5 | 9 => 9 | n => n, fun | n => n⟩
theorem Try.lays128 : Go.Proofs.Lays.n128 Try.prog Try.lays128_ren := {
  mixed := by kernel_rfl
  f128 := Try.func120.trans (congrArg some (by kernel_rfl))
  t3 := Try.underlying3
  a3 := Try.isAgg3
  z3 := Try.sizeOf3
  v3 := Try.zeroValue3
  t4 := Try.underlying4
  a4 := Try.isAgg4
  z4 := Try.sizeOf4
  v4 := Try.zeroValue4
  t5 := Try.underlying5
  a5 := Try.isAgg5
  z5 := Try.sizeOf5
  v5 := Try.zeroValue5
  t9 := Try.underlying9
  a9 := Try.isAgg9
  z9 := Try.sizeOf9
  v9 := Try.zeroValue9
  t46 := Try.underlying129
  a46 := Try.isAgg129
  z46 := Try.sizeOf129
  v46 := Try.zeroValue129
  t51 := Try.underlying164
  a51 := Try.isAgg164
  z51 := Try.sizeOf164
  v51 := Try.zeroValue164 }
/-- bits.Len32: "Len32 returns the minimum number of bits required to represent x; the result is 0 for x == 0.": IT RETURNS 'Lib.bitLen x'; the world is as it was. ('h0', 'h1': x is a uint32.) (LAID: no walk: one application.) -/
theorem Try.bits_Len32 (x : Int) (w : World) (h0 : 0 ≤ x) (h1 : x ≤ 4294967295) :
    Calls Try.prog 120 #[.int .u32 x] w fun e w' => e = .returned (.int .i64 (Lib.bitLen x.toNat)) ∧ w' = w := Any.bits_Len32 Try.lays128 x w h0 h1
def Try.lays125_ren : Go.Shelf.Ren := ⟨fun | 125 => 91 | 128 => 120 | 129 => 121 | n => n, fun | 46 => 129 | 3 => 3 | 51 => 164 | 53 => 26 | 4 => 4 | 5 => 5 | 9 => 9 | n => n, fun | n => n⟩
theorem Try.lays125 : Go.Proofs.Lays.n125 Try.prog Try.lays125_ren := {
  mixed := by kernel_rfl
  f125 := Try.func91.trans (congrArg some (by kernel_rfl))
  f128 := Try.func120.trans (congrArg some (by kernel_rfl))
  f129 := Try.func121.trans (congrArg some (by kernel_rfl))
  t3 := Try.underlying3
  a3 := Try.isAgg3
  z3 := Try.sizeOf3
  v3 := Try.zeroValue3
  t4 := Try.underlying4
  a4 := Try.isAgg4
  z4 := Try.sizeOf4
  v4 := Try.zeroValue4
  t5 := Try.underlying5
  a5 := Try.isAgg5
  z5 := Try.sizeOf5
  v5 := Try.zeroValue5
  t9 := Try.underlying9
  a9 := Try.isAgg9
  z9 := Try.sizeOf9
  v9 := Try.zeroValue9
  t46 := Try.underlying129
  a46 := Try.isAgg129
  z46 := Try.sizeOf129
  v46 := Try.zeroValue129
  t51 := Try.underlying164
  a51 := Try.isAgg164
  z51 := Try.sizeOf164
  v51 := Try.zeroValue164
  t53 := Try.underlying26
  a53 := Try.isAgg26
  z53 := Try.sizeOf26
  v53 := Try.zeroValue26 }
/-- bits.Len: "Len returns the minimum number of bits required to represent x; the result is 0 for x == 0.": IT RETURNS 'Lib.bitLen x'; the world is as it was. (A uint has 64 bits in the model.) ITS CALLEE bits.Len64 IS MET BY ITS OWN CONTRACT OFF THE SHELF (lay that first). (LAID: no walk: one application.) -/
theorem Try.bits_Len (x : Int) (w : World) (h0 : 0 ≤ x) (h1 : x ≤ 18446744073709551615) :
    Calls Try.prog 91 #[.int .u64 x] w fun e w' => e = .returned (.int .i64 (Lib.bitLen x.toNat)) ∧ w' = w := Any.bits_Len Try.lays125 x w h0 h1
def Try.lays129_ren : Go.Shelf.Ren := ⟨fun | 129 => 121 | n => n, fun | 53 => 26 | 3 => 3 | 4 => 4 | 46 => 129 | 5 => 5 | 9 => 9 | n => n, fun | n => n⟩
theorem Try.lays129 : Go.Proofs.Lays.n129 Try.prog Try.lays129_ren := {
  mixed := by kernel_rfl
  f129 := Try.func121.trans (congrArg some (by kernel_rfl))
  t3 := Try.underlying3
  a3 := Try.isAgg3
  z3 := Try.sizeOf3
  v3 := Try.zeroValue3
  t4 := Try.underlying4
  a4 := Try.isAgg4
  z4 := Try.sizeOf4
  v4 := Try.zeroValue4
  t5 := Try.underlying5
  a5 := Try.isAgg5
  z5 := Try.sizeOf5
  v5 := Try.zeroValue5
  t9 := Try.underlying9
  a9 := Try.isAgg9
  z9 := Try.sizeOf9
  v9 := Try.zeroValue9
  t46 := Try.underlying129
  a46 := Try.isAgg129
  z46 := Try.sizeOf129
  v46 := Try.zeroValue129
  t53 := Try.underlying26
  a53 := Try.isAgg26
  z53 := Try.sizeOf26
  v53 := Try.zeroValue26 }
/-- bits.Len64: "Len64 returns the minimum number of bits required to represent x; the result is 0 for x == 0.": IT RETURNS 'Lib.bitLen x'; the world is as it was. ('h0', 'h1': x is a uint64.) (LAID: no walk: one application.) -/
theorem Try.bits_Len64 (x : Int) (w : World) (h0 : 0 ≤ x) (h1 : x ≤ 18446744073709551615) :
    Calls Try.prog 121 #[.int .u64 x] w fun e w' => e = .returned (.int .i64 (Lib.bitLen x.toNat)) ∧ w' = w := Any.bits_Len64 Try.lays129 x w h0 h1
def Try.lays190_ren : Go.Shelf.Ren := ⟨fun | 190 => 59 | 125 => 91 | 258 => 90 | 128 => 120 | 129 => 121 | 302 => 111 | 303 => 112 | 304 => 113 | 305 => 114 | 306 => 115 | 307 => 116 | 308 => 117 | 309 => 118 | 310 => 119 | 333 => 131 | 329 => 132 | 330 => 133 | 334 => 134 | 335 => 135 | 336 => 136 | 344 => 137 | n => n, fun | 31 => 42 | 9 => 9 | 3 => 3 | 46 => 129 | 0 => 0 | 51 => 164 | 53 => 26 | 4 => 4 | 183 => 158 | 182 => 157 | 131 => 148 | 5 => 5 | 218 => 174 | 222 => 178 | 228 => 181 | 229 => 182 | n => n, fun | n => n⟩
theorem Try.lays190 : Go.Proofs.Lays.n190 Try.prog Try.lays190_ren := {
  mixed := by kernel_rfl
  f125 := Try.func91.trans (congrArg some (by kernel_rfl))
  f128 := Try.func120.trans (congrArg some (by kernel_rfl))
  f129 := Try.func121.trans (congrArg some (by kernel_rfl))
  f190 := Try.func59.trans (congrArg some (by kernel_rfl))
  f258 := Try.func90.trans (congrArg some (by kernel_rfl))
  f302 := Try.func111.trans (congrArg some (by kernel_rfl))
  f303 := Try.func112.trans (congrArg some (by kernel_rfl))
  f304 := Try.func113.trans (congrArg some (by kernel_rfl))
  f305 := Try.func114.trans (congrArg some (by kernel_rfl))
  f306 := Try.func115.trans (congrArg some (by kernel_rfl))
  f307 := Try.func116.trans (congrArg some (by kernel_rfl))
  f308 := Try.func117.trans (congrArg some (by kernel_rfl))
  f309 := Try.func118.trans (congrArg some (by kernel_rfl))
  f310 := Try.func119.trans (congrArg some (by kernel_rfl))
  f329 := Try.func132.trans (congrArg some (by kernel_rfl))
  f330 := Try.func133.trans (congrArg some (by kernel_rfl))
  f333 := Try.func131.trans (congrArg some (by kernel_rfl))
  f334 := Try.func134.trans (congrArg some (by kernel_rfl))
  f335 := Try.func135.trans (congrArg some (by kernel_rfl))
  f336 := Try.func136.trans (congrArg some (by kernel_rfl))
  f344 := Try.func137.trans (congrArg some (by kernel_rfl))
  t0 := Try.underlying0
  a0 := Try.isAgg0
  z0 := Try.sizeOf0
  v0 := Try.zeroValue0
  t3 := Try.underlying3
  a3 := Try.isAgg3
  z3 := Try.sizeOf3
  v3 := Try.zeroValue3
  t4 := Try.underlying4
  a4 := Try.isAgg4
  z4 := Try.sizeOf4
  v4 := Try.zeroValue4
  t5 := Try.underlying5
  a5 := Try.isAgg5
  z5 := Try.sizeOf5
  v5 := Try.zeroValue5
  t9 := Try.underlying9
  a9 := Try.isAgg9
  z9 := Try.sizeOf9
  v9 := Try.zeroValue9
  t31 := Try.underlying42
  a31 := Try.isAgg42
  z31 := Try.sizeOf42
  v31 := Try.zeroValue42
  t46 := Try.underlying129
  a46 := Try.isAgg129
  z46 := Try.sizeOf129
  v46 := Try.zeroValue129
  t51 := Try.underlying164
  a51 := Try.isAgg164
  z51 := Try.sizeOf164
  v51 := Try.zeroValue164
  t53 := Try.underlying26
  a53 := Try.isAgg26
  z53 := Try.sizeOf26
  v53 := Try.zeroValue26
  t131 := Try.underlying148
  a131 := Try.isAgg148
  z131 := Try.sizeOf148
  v131 := Try.zeroValue148
  t182 := Try.underlying157
  a182 := Try.isAgg157
  z182 := Try.sizeOf157
  v182 := Try.zeroValue157
  t183 := Try.underlying158
  a183 := Try.isAgg158
  z183 := Try.sizeOf158
  v183 := Try.zeroValue158
  t218 := Try.underlying174
  a218 := Try.isAgg174
  z218 := Try.sizeOf174
  v218 := Try.zeroValue174
  t222 := Try.underlying178
  a222 := Try.isAgg178
  z222 := Try.sizeOf178
  v222 := Try.zeroValue178
  t228 := Try.underlying181
  a228 := Try.isAgg181
  z228 := Try.sizeOf181
  v228 := Try.zeroValue181
  t229 := Try.underlying182
  a229 := Try.isAgg182
  z229 := Try.sizeOf182
  v229 := Try.zeroValue182 }
open Go.Sort Go.RowKit in
theorem Try.slices_Sort_string (blk off cap : Nat) (ss : List (List UInt8)) (w : World) (hH : Holds encStr w blk off ss.toArray) (hblk : blk < w.heap.size) (hsz : ss.length < 4611686018427387904) :
    Calls Try.prog 59 #[.slice (some ⟨blk, off, none⟩) ss.length cap] w fun e w' =>
      e = .returned (.tuple #[]) ∧ ∃ n os, w' = grow (putRow encStr (Sort.ahead w n) blk off (ss.mergeSort fun x y => decide (x ≤ y)).toArray) os := Any.slices_Sort_string Try.lays190 blk off cap ss w hH hblk hsz
open Go.RowKit Go.Sort in
/-- .. and plain. (LAID: no walk: one application.) -/
theorem Try.slices_Sort_string_none (p : Option Addr) (cap : Nat) (w : World) :
    Calls Try.prog 59 #[.slice p 0 cap] w fun e w' => e = .returned (.tuple #[]) ∧ w' = w := Any.slices_Sort_string_none Try.lays190 p cap w
end Go.Proofs
end

section
/- slices.Sort of texts: the kit's contract, told of a row whose elements may change. -/
set_option maxRecDepth 100000
set_option linter.unusedVariables false
set_option linter.unusedSimpArgs false
namespace Go.Abs
open Go Go.Proofs Go.Sort

def entryS (G : Gh) (w : World) : Entry := ⟨G, w, fun b => ∃ n, G.at n b, True⟩
theorem invS {G : Gh} {os : List AObj} {w : World} (hW : WR G (numbered 0 os) w) : Inv (entryS G w) ⟨[], numbered 0 os⟩ G { tmps := #[], defers := [] } w :=
  ⟨by simp [RepL], Marks.nil _ _ _, hW, Gh.le.refl _, ⟨rfl, rfl, rfl, Nat.le_refl _, fun _ _ _ => rfl, fun _ _ _ _ => rfl⟩, fun n b hb => .inl ⟨n, hb⟩⟩
theorem packS {P : Program} {f : FuncId} {args : List AV} {os : List AObj} {R : AV → List AObj → Prop}
    (h : ∀ (G : Gh) (w : World) (vals : List Value), WR G (numbered 0 os) w → RepL G args vals → Calls P f vals.toArray w fun e w' => ∃ (v : Value) (r : AV) (os' : List AObj) (G' : Gh), e = .returned v ∧ R r os' ∧ Rep G' r v ∧
      Inv (entryS G w) ⟨[], numbered 0 os'⟩ G' { tmps := #[], defers := [] } w' ∧ (∀ (i : Nat) (o : AObj), os'[i]? = some o → ∀ m ∈ objNames o, m < os'.length) ∧ ∀ m ∈ r.names, m < os'.length) : ACalls P f args os R :=
  ⟨fun G w vals hW hA => (h G w vals hW hA).mono fun e w' ⟨v, r, os', G', h1, h2, h3, h4, h5, h6⟩ => ⟨v, r, os', G', h1, h2, h3, h4.wr, h4.le, h4.ext, h4.newb, h5, h6⟩⟩

def sortB (l : List B) : List B := l.mergeSort fun x y => decide (x ≤ y)
theorem strs_flat (G : Gh) (l : List B) (vs : List Value) : RepL G (strs l).flatten vs ↔ vs = l.map encStr := by
  induction l generalizing vs with
  | nil => simp [strs, RepL]
  | cons s l ih =>
    simp only [strs, List.map_cons, List.flatten_cons, List.cons_append, List.nil_append, RepL, Rep]
    constructor
    · rintro ⟨v, us, rfl, h, h2⟩
      have := (ih us).1 h2
      simp only [vs] at h
      rw [this, h]
      rfl
    · rintro rfl
      exact ⟨_, _, rfl, rfl, (ih _).2 rfl⟩

theorem Sort_calls (l : List B) (hl : l.length < 1000000) {R} (h : R (.tup []) [.vec 9 1 (strs (sortB l))]) :
    ACalls Try.prog 59 [.slv 0 1 l.length] [.vec 9 1 (strs l)] R := by
  refine packS fun G w vals hW hA => ?_
  have hI := invS hW
  obtain ⟨u, xs, e1, e2, e3, e4, e5⟩ := hW.obj 0 (.vec 9 1 (strs l)) rfl
  have hsl := strs_length l
  have hx : xs = l.map encStr := (strs_flat G l xs).1 e3
  subst hx
  simp only [RepL, Rep] at hA
  obtain ⟨_, _, rfl, ⟨_, u', top, q1, q2, q3⟩, rfl⟩ := hA
  rw [e1] at q1
  injection q1 with q1
  injection q1 with q1 q1'
  subst q1 q1'
  have hv := q3 hsl.symm
  subst hv
  have hsort : (sortB l).length = l.length := by simp [sortB]
  have hsls := strs_length (sortB l)
  have hok : ∀ e ∈ strs (sortB l), e.length = 1 ∧ okCells e = true := fun e he => by
    obtain ⟨s, _, rfl⟩ := List.mem_map.1 he
    exact ⟨rfl, rfl⟩
  rw [hsl] at e2 e1
  rcases e2.2 with ⟨rfl, hz⟩ | ⟨g, cap, cur, rfl, hbase, hgb, r1, r2, r3, r4⟩
  · have hnil : l = [] := List.eq_nil_of_length_eq_zero hz
    subst hnil
    refine (Try.slices_Sort_string_none none 0 w).mono ?_
    rintro e w' ⟨rfl, rfl⟩
    refine ⟨_, .tup [], _, G, rfl, h, by simp only [Rep]; exact ⟨[], rfl, by simp [RepL]⟩, ?_, ?_, by simp [AV.names, namesL]⟩
    · have : sortB ([] : List B) = [] := by simp [sortB]
      rw [this]
      exact hI
    · intro i o ho m hm
      cases i with
      | zero => simp at ho; subst ho; simp [objNames] at hm
      | succ i => simp at ho
  · have hH := holds_of_block (w := w) (ss := l) hgb (by simpa using r4)
    have hglt : g < w.heap.size := (Array.getElem?_eq_some_iff.1 hgb).1
    refine (Try.slices_Sort_string g 0 cap l w hH hglt (by omega)).mono ?_
    rintro e w' ⟨rfl, n, os, rfl⟩
    have hown := ownsRow_sorted (n := n) (os := os) (ss := l) (ts := sortB l) hsort hbase hgb r1 r2 (by simpa using r3)
    have hgr := grownBy_sorted (w := w) (g := g) (n := n) (os := os) (sortB l).toArray
    have hat : ∀ b, G.at 0 b ↔ b = g := fun b => by
      constructor
      · rintro (h1 | ⟨u1, t1, h1, h2⟩)
        · rw [e1] at h1; cases h1
        · rw [e1] at h1; cases h1; simp [Value.ownBlock] at h2; exact h2.symm
      · rintro rfl; exact .inr ⟨_, _, e1, rfl⟩
    have heq : (⟨G.K, addOb G.ob 0 (.rowv (.slice (some ⟨g, 0, none⟩) l.length cap) l.length)⟩ : Gh) = G := by
      cases G with
      | mk K ob =>
        congr 1
        funext m
        by_cases hm : m = 0
        · subst hm; simp [addOb]; exact e1.symm
        · simp [addOb, hm]
    have hI' := hI.setObj (w' := grow (putRow encStr (Sort.ahead w n) g 0 (sortB l).toArray) os) (n := 0) (o := .vec 9 1 (strs l)) (o' := .vec 9 1 (strs (sortB l))) (objs' := numbered 0 [.vec 9 1 (strs (sortB l))]) (g := .rowv (.slice (some ⟨g, 0, none⟩) l.length cap) l.length) (K' := G.K)
      rfl hgr.os hgr.tape hgr.output hgr.size (fun b hb hnat => hgr.block b hb (fun e => hnat ((hat b).2 (by injection e)))) (fun _ _ _ _ => rfl)
      (by rw [heq]; exact Gh.le.refl G)
      (fun b o v hb ev => by
        rcases hb with hb | hb
        · have := hI.wr.kltb ev; omega
        · rw [(hat b).1 hb, e5 g rfl o] at ev; cases ev)
      (fun m => by
        by_cases hm : m = 0
        · subst hm; rfl
        · simp only [hm, if_false]
          have : Nat.beq 0 m = false := by
            cases m with
            | zero => exact absurd rfl hm
            | succ m => rfl
          simp [numbered, objGet, this])
      (by
        rw [heq]
        refine ⟨_, (sortB l).map encStr, by rw [hsls, hsort]; exact e1, by rw [hsls, hsort]; exact hown, (strs_flat _ _ _).2 rfl, hok, fun g' hg' o => ?_⟩
        simp [Value.ownBlock] at hg'
        subst hg'
        exact e5 _ rfl o)
      (fun b hb => by rw [heq] at hb; exact .inr hb)
    rw [heq] at hI'
    refine ⟨_, .tup [], _, G, rfl, h, by simp only [Rep]; exact ⟨[], rfl, by simp [RepL]⟩, hI', ?_, by simp [AV.names, namesL]⟩
    intro i o ho m hm
    cases i with
    | zero => simp at ho; subst ho; simp [objNames] at hm
    | succ i => simp at ho
end Go.Abs
end

section
/- The digest's functions, and the document's. -/
set_option maxRecDepth 100000
set_option linter.unusedVariables false
set_option linter.unusedSimpArgs false
namespace Go.Abs
open Go Go.Proofs

/-! ### the plain functions -/
namespace Dig
def plus : U := 0x9e3779b97f4a7c15#64
def first : U := 0xbf58476d1ce4e5b9#64
def other : U := 0x94d049bb133111eb#64
def down (k : Nat) (x : U) : U := x ^^^ (x >>> k)
def dig (n : U) : U := down 31 (down 27 (down 30 (n + plus) * first) * other)
def up (k : Nat) (h : U) : U := h ^^^ ((h ^^^ (h >>> k)) >>> k)
def back (n : U) : U := let b0 := n; let s := fun b : U => b * (2 - n * b); s (s (s (s (s (s b0)))))
def dBack (h : U) : U := up 30 (up 27 (up 31 h * back other) * back first) - plus
def fold (n : U) (l : List U) : U := l.foldl (fun h x => dig (h ^^^ x)) (dig n)

theorem up_down (k : Nat) (hk : 22 ≤ k) (x : U) : up k (down k x) = x := by
  unfold up down
  have h1 : ∀ a b : U, (a ^^^ b) >>> k = (a >>> k) ^^^ (b >>> k) := fun a b => BitVec.ushiftRight_xor_distrib a b k
  have h0 : x >>> k >>> k >>> k = 0#64 := by
    rw [← BitVec.shiftRight_add, ← BitVec.shiftRight_add]
    exact BitVec.ushiftRight_eq_zero (by omega)
  simp only [h1, h0]
  apply BitVec.eq_of_getLsbD_eq
  intro i hi
  simp only [BitVec.getLsbD_xor]
  cases x.getLsbD i <;> cases (x >>> k).getLsbD i <;> cases (x >>> k >>> k).getLsbD i <;> simp
theorem back_first (x : U) : x * first * back first = x := by
  rw [BitVec.mul_assoc]
  have : first * back first = 1#64 := by decide +kernel
  rw [this, BitVec.mul_one]
theorem back_other (x : U) : x * other * back other = x := by
  rw [BitVec.mul_assoc]
  have : other * back other = 1#64 := by decide +kernel
  rw [this, BitVec.mul_one]
theorem first_back (x : U) : x * back first * first = x := by
  rw [BitVec.mul_assoc]
  have : back first * first = 1#64 := by decide +kernel
  rw [this, BitVec.mul_one]
theorem other_back (x : U) : x * back other * other = x := by
  rw [BitVec.mul_assoc]
  have : back other * other = 1#64 := by decide +kernel
  rw [this, BitVec.mul_one]
theorem down_up (k : Nat) (hk : 22 ≤ k) (x : U) : down k (up k x) = x := by
  unfold up down
  have h1 : ∀ a b : U, (a ^^^ b) >>> k = (a >>> k) ^^^ (b >>> k) := fun a b => BitVec.ushiftRight_xor_distrib a b k
  have h0 : x >>> k >>> k >>> k = 0#64 := by
    rw [← BitVec.shiftRight_add, ← BitVec.shiftRight_add]
    exact BitVec.ushiftRight_eq_zero (by omega)
  simp only [h1, h0]
  apply BitVec.eq_of_getLsbD_eq
  intro i hi
  simp only [BitVec.getLsbD_xor]
  cases x.getLsbD i <;> cases (x >>> k).getLsbD i <;> cases (x >>> k >>> k).getLsbD i <;> simp
theorem dBack_dOf (n : U) : dBack (dig n) = n := by
  unfold dBack dig
  rw [up_down 31 (by omega), back_other, up_down 27 (by omega), back_first, up_down 30 (by omega), BitVec.add_sub_cancel]
theorem dOf_dBack (n : U) : dig (dBack n) = n := by
  unfold dBack dig
  rw [BitVec.sub_add_cancel, down_up 30 (by omega), first_back, down_up 27 (by omega), other_back, down_up 31 (by omega)]
theorem dOf_inj {a b : U} (h : dig a = dig b) : a = b := by rw [← dBack_dOf a, h, dBack_dOf]
end Dig
open Dig

/-! ### the steps -/
theorem down_calls (b : Int) {R} (h : R (.fn (.func 107) [] [.cptr [.val (.int .u64 b)] 0]) []) : ACalls Try.prog 84 [.val (.int .u64 b)] [] R := by
  refine acalls_of_xwp (an := an84) tab_ok Try.func84 ?_
  conv => whnf
  exact h
theorem times_calls (b : Int) {R} (h : R (.fn (.func 108) [] [.cptr [.val (.int .u64 b)] 0]) []) : ACalls Try.prog 85 [.val (.int .u64 b)] [] R := by
  refine acalls_of_xwp (an := an85) tab_ok Try.func85 ?_
  conv => whnf
  exact h
/-- A function value that does what a plain function does. -/
def Does (e : List AV) (g : U → U) : Prop := ∃ f cs, e = [.fn (.func f) [] [.cptr cs 0]] ∧ tab.fn f = true ∧ ∀ x R, R (uv (g x)) [] → ACalls Try.prog f [uv x, .cptr cs 0] [] R

theorem u_shr' (x : U) (k : Nat) (hk : k ≤ 64) : ((x.toNat : Int)).fdiv (2 ^ min ((k : Int)).toNat IntKind.u64.bits) = ((x >>> k).toNat : Int) := by
  have : min ((k : Int)).toNat IntKind.u64.bits = k := by
    show min ((k : Int)).toNat 64 = k
    simp; omega
  rw [this, u_shr]

theorem down_does (k : Nat) (hk : k ≤ 64) : Does [.fn (.func 107) [] [.cptr [.val (.int .u64 k)] 0]] (down k) := by
  refine ⟨_, _, rfl, rfl, fun x R h => ?_⟩
  refine acalls_of_xwp (an := an107) tab_ok Try.func107 ?_
  conv => whnf
  rw [u_shr' x k hk, u_xor]
  exact h
theorem times_does (n : U) : Does [.fn (.func 108) [] [.cptr [uv n] 0]] (· * n) := by
  refine ⟨_, _, rfl, rfl, fun x R h => ?_⟩
  refine acalls_of_xwp (an := an108) tab_ok Try.func108 ?_
  conv => whnf
  rw [u_mul]
  exact h
end Go.Abs
end

section
/- The digest's functions, and the document's, on. -/
set_option maxRecDepth 100000
set_option linter.unusedVariables false
set_option linter.unusedSimpArgs false
namespace Go.Abs
open Go Go.Proofs Dig
attribute [local irreducible] ibits byteAt strLt

theorem idx_some {α : Type} {l : List α} {i : Int} (h0 : 0 ≤ i) (h1 : i < (l.length : Int)) : i.toNat < l.length := by omega

theorem run_calls (x : U) (l : List (List AV)) (gs : List (U → U)) (hl : l.length = gs.length) (hlen : l.length < 1000) (hd : ∀ i (h : i < l.length), Does l[i] (gs[i]'(by omega))) (own : Option Nm) {R} (h : R (uv (gs.foldl (fun h g => g h) x)) []) :
    ACalls Try.prog 83 [uv x, .sl none 1 l] [] R := by
  refine acalls_of_xwp (an := an83) tab_ok Try.func83 ?_
  conv => whnf
  refine LoopP.ind (α := Int × Int) (fun p => [(0, .val (.int .u64 p.2)), (9, .val (.int .i64 p.1))]) (fun _ => []) (fun p => l.length - p.1.toNat)
    (fun p => 0 ≤ p.1 ∧ p.1 ≤ l.length ∧ ∃ y : U, p.2 = (y.toNat : Int) ∧ (gs.drop p.1.toNat).foldl (fun h g => g h) y = gs.foldl (fun h g => g h) x) (0, (x.toNat : Int)) rfl ⟨by simp, by simp, x, rfl, by simp⟩ ?_
  rintro ⟨i, yy⟩ ⟨h0, h1, y, rfl, hy⟩ IH
  simp only at h0 h1 hy IH
  conv => whnf
  refine br_intro (fun hc => ?_) (fun hc => ?_)
  · have hc : i < (l.length : Int) := by simpa using hc
    conv => whnf
    refine must_intro (by simpa using h0) ?_
    refine idxK_intro (idx_some h0 hc) ?_
    obtain ⟨f, cs, e1, e2, e3⟩ := hd i.toNat (idx_some h0 hc)
    rw [e1]
    conv => whnf
    refine must_intro e2 ?_
    refine e3 y _ ?_
    conv => whnf
    rw [wrap_i64 (by omega) (by omega)]
    refine IH (i + 1, _) ⟨?_, ?_, _, rfl, ?_⟩ ?_
    · simp only; omega
    · simp only; omega
    · simp only
      rw [← hy, show (i + 1).toNat = i.toNat + 1 by omega, List.drop_eq_getElem_cons (show i.toNat < gs.length by omega), List.foldl_cons]
    · simp only; omega
  · have hc : i = (l.length : Int) := by simp at hc; omega
    conv => whnf
    have : gs.drop i.toNat = [] := List.drop_eq_nil_of_le (by omega)
    rw [this] at hy
    simp only [List.foldl_nil] at hy
    rw [hy]
    exact h

theorem Of_calls (n : U) {R} (h : ∀ d, d = dig n → R (uv d) []) : ACalls Try.prog 57 [uv n] [] R := by
  refine acalls_of_xwp (an := an57) tab_ok Try.func57 ?_
  conv => whnf
  refine down_calls _ ?_
  conv => whnf
  refine times_calls _ ?_
  conv => whnf
  refine down_calls _ ?_
  conv => whnf
  refine times_calls _ ?_
  conv => whnf
  refine down_calls _ ?_
  conv => whnf
  rw [show (11400714819323198485 : Int) = (plus.toNat : Int) from rfl, u_add]
  refine run_calls _ _ [down 30, (· * first), down 27, (· * other), down 31] rfl (by simp) (fun i hi => ?_) none ?_
  · match i, hi with
    | 0, _ => exact down_does 30 (by omega)
    | 1, _ => exact times_does first
    | 2, _ => exact down_does 27 (by omega)
    | 3, _ => exact times_does other
    | 4, _ => exact down_does 31 (by omega)
  · conv => whnf
    exact h _ rfl

/-- Numbers, read out of a slice. -/
def nums (l : List U) : List (List AV) := l.map fun x => [uv x]

theorem Fold_calls (n : U) (l : List U) (hl : l.length ≤ 1000000) {X : List (List AV)} (hX : X = nums l) {R} (h : ∀ d, d = fold n l → R (uv d) []) : ACalls Try.prog 106 [uv n, .sl none 1 X] [] R := by
  subst hX
  refine acalls_of_xwp (an := an106) tab_ok Try.func106 ?_
  have hnl : (nums l).length = l.length := by simp [nums]
  conv => whnf
  refine Of_calls n fun d0 hd0 => ?_
  conv => whnf
  refine LoopP.ind (α := Int × U) (fun p => [(5, uv p.2), (12, .val (.int .i64 p.1))]) (fun _ => []) (fun p => l.length - p.1.toNat)
    (fun p => 0 ≤ p.1 ∧ p.1 ≤ l.length ∧ (l.drop p.1.toNat).foldl (fun h x => dig (h ^^^ x)) p.2 = fold n l) (0, d0) rfl ⟨by simp, by simp, by simp [fold, hd0]⟩ ?_
  rintro ⟨i, y⟩ ⟨h0, h1, hy⟩ IH
  simp only at h0 h1 hy IH
  conv => whnf
  refine br_intro (fun hc => ?_) (fun hc => ?_)
  · have hc : i < (l.length : Int) := by simpa [hnl] using hc
    conv => whnf
    refine must_intro (by simpa using h0) ?_
    refine idxK_map_intro (idx_some h0 hc) ?_
    conv => whnf
    rw [u_xor]
    refine Of_calls _ fun d hd => ?_
    conv => whnf
    rw [wrap_i64 (by omega) (by omega)]
    refine IH (i + 1, _) ⟨?_, ?_, ?_⟩ ?_
    · simp only; omega
    · simp only; omega
    · show List.foldl _ _ (List.drop (i + 1).toNat l) = _
      rw [← hy, show (i + 1).toNat = i.toNat + 1 by omega, List.drop_eq_getElem_cons (idx_some h0 hc), List.foldl_cons, ← hd]
    · simp only; omega
  · have hc : i = (l.length : Int) := by simp [hnl] at hc; omega
    conv => whnf
    rw [List.drop_eq_nil_of_le (by omega)] at hy
    simp only [List.foldl_nil] at hy
    exact h _ hy

/-! ### the document's -/
theorem u_div (x : U) (k : Nat) (hk : k < 63) {c : Int} (hc : c = 2 ^ k) : IntKind.u64.wrap ((x.toNat : Int).tdiv c) = ((x >>> k).toNat : Int) := by
  subst hc
  rw [wrap_u64]
  have h1 : (x.toNat : Int).tdiv (2 ^ k) = ((x >>> k).toNat : Int) := by
    rw [BitVec.toNat_ushiftRight, Nat.shiftRight_eq_div_pow]
    rw [Int.tdiv_eq_ediv_of_nonneg (by omega)]
    simp
  rw [h1]
  have := (x >>> k).isLt
  omega

theorem refOf_calls (n : U) {R} (h : ∀ d, d = dig n → R (uv d) []) : ACalls Try.prog 104 [uv n] [] R := by
  refine acalls_of_xwp (an := an104) tab_ok Try.func104 ?_
  conv => whnf
  rw [show (11400714819323198485 : Int) = (plus.toNat : Int) from rfl, show (13787848793156543929 : Int) = (first.toNat : Int) from rfl, show (10723151780598845931 : Int) = (other.toNat : Int) from rfl]
  have e30 := fun x => u_div x 30 (by omega) (c := 1073741824) rfl
  have e27 := fun x => u_div x 27 (by omega) (c := 134217728) rfl
  have e31 := fun x => u_div x 31 (by omega) (c := 2147483648) rfl
  rw [u_add, e30, u_xor, u_mul, e27, u_xor, u_mul, e31, u_xor]
  exact h _ rfl

theorem refFold_calls (n : U) (l : List U) (hl : l.length ≤ 1000000) {X : List (List AV)} (hX : X = nums l) {R} (h : ∀ d, d = fold n l → R (uv d) []) : ACalls Try.prog 74 [uv n, .sl none 1 X] [] R := by
  subst hX
  refine acalls_of_xwp (an := an74) tab_ok Try.func74 ?_
  have hnl : (nums l).length = l.length := by simp [nums]
  conv => whnf
  refine refOf_calls n fun d0 hd0 => ?_
  conv => whnf
  refine LoopP.ind (α := Int × U) (fun p => [(5, uv p.2), (6, .val (.int .i64 p.1))]) (fun _ => []) (fun p => l.length - p.1.toNat)
    (fun p => 0 ≤ p.1 ∧ p.1 ≤ l.length ∧ (l.drop p.1.toNat).foldl (fun h x => dig (h ^^^ x)) p.2 = fold n l) (0, d0) rfl ⟨by simp, by simp, by simp [fold, hd0]⟩ ?_
  rintro ⟨i, y⟩ ⟨h0, h1, hy⟩ IH
  simp only at h0 h1 hy IH
  conv => whnf
  refine br_intro (fun hc => ?_) (fun hc => ?_)
  · have hc : i < (l.length : Int) := by simpa [hnl] using hc
    conv => whnf
    refine must_intro (by simpa using h0) ?_
    refine idxK_map_intro (idx_some h0 hc) ?_
    conv => whnf
    rw [u_xor]
    refine refOf_calls _ fun d hd => ?_
    conv => whnf
    rw [wrap_i64 (by omega) (by omega)]
    refine IH (i + 1, _) ⟨?_, ?_, ?_⟩ ?_
    · simp only; omega
    · simp only; omega
    · show List.foldl _ _ (List.drop (i + 1).toNat l) = _
      rw [← hy, show (i + 1).toNat = i.toNat + 1 by omega, List.drop_eq_getElem_cons (idx_some h0 hc), List.foldl_cons, ← hd]
    · simp only; omega
  · have hc : i = (l.length : Int) := by simp [hnl] at hc; omega
    conv => whnf
    rw [List.drop_eq_nil_of_le (by omega)] at hy
    simp only [List.foldl_nil] at hy
    exact h _ hy
end Go.Abs
end

section
/- Arguments that are numbers. -/
set_option maxRecDepth 100000
set_option linter.unusedVariables false
set_option linter.unusedSimpArgs false
namespace Go.Abs
open Go Go.Proofs Dig
theorem args_u64 {ts : List TypeId} {l : List AV} (h : Args tab 12 (26 :: ts) l) : ∃ (x : U) (l' : List AV), l = uv x :: l' ∧ Args tab 12 ts l' := by
  obtain ⟨a, l', rfl, h1, h2⟩ := h
  obtain ⟨x, e, hx⟩ : ∃ x, [a] = [.val (.int .u64 x)] ∧ (Lit.int .u64 x).wf = true := h1
  simp only [Lit.wf, Bool.and_eq_true, decide_eq_true_eq] at hx
  have e1 : IntKind.u64.min = 0 := rfl
  have e2 : IntKind.u64.max = 18446744073709551615 := rfl
  rw [e1, e2] at hx
  refine ⟨BitVec.ofInt 64 x, l', ?_, h2⟩
  simp only [List.cons.injEq, and_true] at e ⊢
  rw [e]
  show _ = AV.val (.int .u64 _)
  congr 2
  exact u_of (by omega) (by omega)
theorem args_nil {l : List AV} (h : Args tab 12 [] l) : l = [] := h
theorem wf_u64 {x : Int} (h : (Lit.int .u64 x).wf = true) : x = ((BitVec.ofInt 64 x : U).toNat : Int) := by
  simp only [Lit.wf, Bool.and_eq_true, decide_eq_true_eq] at h
  have e1 : IntKind.u64.min = 0 := rfl
  have e2 : IntKind.u64.max = 18446744073709551615 := rfl
  rw [e1, e2] at h
  exact u_of (by omega) (by omega)
theorem typed_nums {l : List (List AV)} (h : ∀ x ∈ l, ∃ y, x = [.val (.int .u64 y)] ∧ (Lit.int .u64 y).wf = true) : ∃ ns : List U, l = nums ns := by
  induction l with
  | nil => exact ⟨[], rfl⟩
  | cons x l ih =>
    obtain ⟨ns, rfl⟩ := ih fun y hy => h y (by simp [hy])
    obtain ⟨y, rfl, hy⟩ := h x (by simp)
    exact ⟨BitVec.ofInt 64 y :: ns, by simp only [nums, List.map_cons, uv]; rw [← wf_u64 hy]⟩
theorem args_nums {ts : List TypeId} {l : List AV} (h : Args tab 12 (45 :: ts) l) : ∃ (x : List U) (l' : List AV), l = .sl none 1 (nums x) :: l' ∧ x.length ≤ maxLen ∧ Args tab 12 ts l' := by
  obtain ⟨a, l', rfl, h1, h2⟩ := h
  obtain ⟨x, e, hl, hx⟩ : ∃ x : List (List AV), [a] = [.sl none 1 x] ∧ x.length ≤ maxLen ∧ ∀ y ∈ x, Typed tab 11 26 y := h1
  obtain ⟨ns, rfl⟩ := typed_nums (l := x) hx
  simp only [List.cons.injEq, and_true] at e
  subst e
  exact ⟨ns, l', rfl, by simpa [nums] using hl, h2⟩
theorem args_u8 {ts : List TypeId} {l : List AV} (h : Args tab 12 (5 :: ts) l) : ∃ (x : Int) (l' : List AV), l = .val (.int .u8 x) :: l' ∧ (0 ≤ x ∧ x ≤ 255) ∧ Args tab 12 ts l' := by
  obtain ⟨a, l', rfl, h1, h2⟩ := h
  obtain ⟨x, e, hx⟩ : ∃ x, [a] = [.val (.int .u8 x)] ∧ (Lit.int .u8 x).wf = true := h1
  simp only [Lit.wf, Bool.and_eq_true, decide_eq_true_eq] at hx
  have e1 : IntKind.u8.min = 0 := rfl
  have e2 : IntKind.u8.max = 255 := rfl
  rw [e1, e2] at hx
  simp only [List.cons.injEq, and_true] at e
  exact ⟨x, l', by rw [e], hx, h2⟩
end Go.Abs
end

section
/- Graphs: nodes; what is wrong with one by itself. -/
set_option maxRecDepth 100000
set_option linter.unusedVariables false
set_option linter.unusedSimpArgs false
namespace Go.Abs
open Go Go.Proofs
attribute [local irreducible] ibits byteAt strLt firstIdx

structure Nd where
  name : B
  source : Bool
  rule : U
  deps : List B
def Nd.enc (n : Nd) : List AV := [vs n.name, .val (.bool n.source), uv n.rule, .sl none 1 (strs n.deps)]
def nds (l : List Nd) : List (List AV) := l.map Nd.enc
theorem nds_length (l : List Nd) : (nds l).length = l.length := by simp [nds]
def ints (l : List Nat) : List (List AV) := l.map fun (i : Nat) => [vi (i : Int)]
theorem ints_length (l : List Nat) : (ints l).length = l.length := by simp [ints]

/-! ### names -/
def nameOk (s : B) : Bool := decide (1 ≤ s.length) && decide (s.length ≤ 64)
theorem Name_calls (s : B) {R} (h : R (.val (.bool (nameOk s))) []) : ACalls Try.prog 123 [vs s] [] R := by
  refine acalls_of_xwp (an := an123) tab_ok Try.func123 ?_
  have hsz : (ofB s).size = s.length := size_ofB s
  (conv => whnf)
  rw [hsz]
  refine br_intro (fun hc => ?_) (fun hc => ?_)
  · (conv => whnf)
    have : nameOk s = decide ((s.length : Int) ≤ 64) := by
      unfold nameOk
      rw [hsz] at *
      have hc : 1 ≤ s.length := by simp at hc; omega
      simp [hc]
      omega
    rw [hsz, ← this]
    exact h
  · (conv => whnf)
    have : nameOk s = false := by
      have hc : s.length = 0 := by simp at hc; omega
      simp [nameOk, hc]
    rw [this] at h
    exact h
theorem refName_calls (s : B) {R} (h : R (.val (.bool (nameOk s))) []) : ACalls Try.prog 122 [vs s] [] R := by
  refine acalls_of_xwp (an := an122) tab_ok Try.func122 ?_
  have hsz : (ofB s).size = s.length := size_ofB s
  (conv => whnf)
  refine br_intro (fun hc => ?_) (fun hc => ?_)
  · have hc : s ≠ [] := by
      rintro rfl
      simp at hc
      exact hc rfl
    have hl : 1 ≤ s.length := by cases s with | nil => exact absurd rfl hc | cons a s => simp
    (conv => whnf)
    have : nameOk s = decide ((s.length : Int) < 65) := by
      unfold nameOk
      simp [hl]
      omega
    rw [hsz, ← this]
    exact h
  · have hc : s = [] := by
      simp at hc
      have : ofB s = ofB [] := hc
      exact ofB_inj this
    subst hc
    (conv => whnf)
    exact h

/-! ### places -/
def placeOf : List B → B → Option Nat
  | [], _ => none
  | a :: l, s => if a = s then some 0 else (placeOf l s).map (· + 1)
def placeI (l : List B) (s : B) : Int := match placeOf l s with | some i => i | none => -1
theorem placeOf_none {l : List B} {s : B} : placeOf l s = none ↔ s ∉ l := by
  induction l with
  | nil => simp [placeOf]
  | cons a l ih =>
    simp only [placeOf]
    by_cases h : a = s
    · simp [h]
    · rw [if_neg h]
      simp only [Option.map_eq_none_iff, ih, List.mem_cons, not_or]
      exact ⟨fun h' => ⟨fun e => h e.symm, h'⟩, fun h' => h'.2⟩
theorem placeOf_some {l : List B} {s : B} {i : Nat} (h : placeOf l s = some i) : l[i]? = some s ∧ ∀ j, j < i → l[j]? ≠ some s := by
  induction l generalizing i with
  | nil => simp [placeOf] at h
  | cons a l ih =>
    simp only [placeOf] at h
    by_cases e : a = s
    · rw [if_pos e] at h
      cases h
      subst e
      exact ⟨rfl, fun j hj => by omega⟩
    · rw [if_neg e] at h
      obtain ⟨k, hk, rfl⟩ := Option.map_eq_some_iff.1 h
      obtain ⟨h1, h2⟩ := ih hk
      refine ⟨by simpa using h1, fun j hj => ?_⟩
      cases j with
      | zero => simpa using e
      | succ j => simpa using h2 j (by omega)
theorem placeI_neg {l : List B} {s : B} : placeI l s < 0 ↔ s ∉ l := by
  rw [← placeOf_none]
  unfold placeI
  cases placeOf l s with
  | none => simp
  | some i => simp
theorem placeOf_of {l : List B} {s : B} {i : Nat} (h : l[i]? = some s) (h' : ∀ j, j < i → l[j]? ≠ some s) : placeOf l s = some i := by
  cases e : placeOf l s with
  | none => exact absurd (List.mem_of_getElem? h) (placeOf_none.1 e)
  | some k =>
    obtain ⟨h1, h2⟩ := placeOf_some e
    rcases Nat.lt_trichotomy i k with hl | rfl | hl
    · exact absurd h (h2 _ hl)
    · rfl
    · exact absurd h1 (h' _ hl)

theorem i64_nat {i : Nat} (h : i < 1000000000) : IntKind.i64.wrap ((i : Int) + 1) = ((i + 1 : Nat) : Int) := wrap_i64 (by omega) (by omega)
theorem lt_of_dec {i n : Nat} (h : decide ((i : Int) < (n : Int)) = true) : i < n := by simpa using h
theorem ge_of_dec {i n : Nat} (h : decide ((i : Int) < (n : Int)) = false) : n ≤ i := by simp at h; omega

theorem lt_of_decE {i n m : Nat} (e : m = n) (h : decide ((i : Int) < (m : Int)) = true) : i < n := by subst e; simpa using h
theorem ge_of_decE {i n m : Nat} (e : m = n) (h : decide ((i : Int) < (m : Int)) = false) : n ≤ i := by subst e; simp at h; omega

theorem Place_calls (l : List B) (s : B) (hl : l.length < 1000000) {X : List (List AV)} (hX : X = strs l) {R} (h : ∀ p, p = placeI l s → R (vi p) []) : ACalls Try.prog 47 [.sl none 1 X, vs s] [] R := by
  subst hX
  refine acalls_of_xwp (an := an47) tab_ok Try.func47 ?_
  have hsl := strs_length l
  (conv => whnf)
  refine LoopP.ind1 (fun (i : Nat) => [(5, vi i)]) (fun _ => []) (fun i => l.length - i) (fun i => i ≤ l.length ∧ ∀ j, j < i → l[j]? ≠ some s) 0 rfl ⟨by omega, fun j hj => by omega⟩ ?_
  rintro i ⟨h0, h1⟩ IH
  (conv => whnf)
  rw [hsl]
  refine br_intro (fun hc => ?_) (fun hc => ?_)
  · have hc := lt_of_dec hc
    (conv => whnf); (repeat ((with_reducible refine must_intro ?_ ?_); exact decide_eq_true (by omega); (conv => whnf)))
    refine idxK_map_intro (show (i : Int).toNat < l.length by simpa using hc) ?_
    rw [show l[(i : Int).toNat]'(by simpa using hc) = l[i] from by congr 1]
    (conv => whnf)
    refine br_intro (fun he => ?_) (fun he => ?_)
    · have he : l[i] = s := by simpa [ofB_eq] using he
      (conv => whnf)
      refine h _ ?_
      rw [placeI, placeOf_of (i := i) (by rw [List.getElem?_eq_getElem hc, he]) h1]
    · have he : l[i] ≠ s := by simpa [ofB_eq] using he
      (conv => whnf)
      rw [i64_nat (by omega)]
      refine IH (i + 1) ⟨by omega, fun j hj => ?_⟩ (by omega)
      rcases Nat.lt_or_ge j i with hlt | hge
      · exact h1 j hlt
      · obtain rfl : j = i := by omega
        rw [List.getElem?_eq_getElem hc]
        simpa using he
  · have hc := ge_of_dec hc
    (conv => whnf)
    refine h (-1) ?_
    have : s ∉ l := by
      intro hm
      obtain ⟨j, hj, e⟩ := List.getElem_of_mem hm
      exact h1 j (by omega) (by rw [List.getElem?_eq_getElem hj, e])
    rw [placeI, placeOf_none.2 this]

theorem nPlace_calls (l : List Nd) (s : B) (hl : l.length < 1000000) {X : List (List AV)} (hX : X = nds l) {R} (h : ∀ p, p = placeI (l.map (·.name)) s → R (vi p) []) : ACalls Try.prog 62 [.sl none 4 X, vs s] [] R := by
  subst hX
  refine acalls_of_xwp (an := an62) tab_ok Try.func62 ?_
  have hsl := nds_length l
  (conv => whnf)
  refine LoopP.ind1 (fun (i : Nat) => [(5, vi i)]) (fun _ => []) (fun i => l.length - i) (fun i => i ≤ l.length ∧ ∀ j, j < i → (l.map (·.name))[j]? ≠ some s) 0 rfl ⟨by omega, fun j hj => by omega⟩ ?_
  rintro i ⟨h0, h1⟩ IH
  (conv => whnf)
  rw [hsl]
  refine br_intro (fun hc => ?_) (fun hc => ?_)
  · have hc := lt_of_dec hc
    (conv => whnf); (repeat ((with_reducible refine must_intro ?_ ?_); exact decide_eq_true (by omega); (conv => whnf)))
    refine idxK_map_intro (show (i : Int).toNat < l.length by simpa using hc) ?_
    rw [show l[(i : Int).toNat]'(by simpa using hc) = l[i] from by congr 1]
    (conv => whnf)
    refine br_intro (fun he => ?_) (fun he => ?_)
    · have he : l[i].name = s := by simpa [ofB_eq] using he
      (conv => whnf)
      refine h _ ?_
      rw [placeI, placeOf_of (i := i) (by rw [List.getElem?_map, List.getElem?_eq_getElem hc]; simp [he]) h1]
    · have he : l[i].name ≠ s := by simpa [ofB_eq] using he
      (conv => whnf)
      rw [i64_nat (by omega)]
      refine IH (i + 1) ⟨by omega, fun j hj => ?_⟩ (by omega)
      rcases Nat.lt_or_ge j i with hlt | hge
      · exact h1 j hlt
      · obtain rfl : j = i := by omega
        rw [List.getElem?_map, List.getElem?_eq_getElem hc]
        simpa using he
  · have hc := ge_of_dec hc
    (conv => whnf)
    refine h (-1) ?_
    have : s ∉ l.map (·.name) := by
      intro hm
      obtain ⟨j, hj, e⟩ := List.getElem_of_mem hm
      exact h1 j (by simp at hj; omega) (by rw [List.getElem?_eq_getElem hj, e])
    rw [placeI, placeOf_none.2 this]

theorem in_calls (l : List Nat) (x : Int) (hl : l.length < 1000000) {X : List (List AV)} (hX : X = ints l) {R} (h : ∀ b, b = decide (∃ i ∈ l, (i : Int) = x) → R (.val (.bool b)) []) : ACalls Try.prog 93 [.sl none 1 X, vi x] [] R := by
  subst hX
  refine acalls_of_xwp (an := an93) tab_ok Try.func93 ?_
  have hsl := ints_length l
  (conv => whnf)
  refine LoopP.ind1 (fun (i : Nat) => [(5, vi i)]) (fun _ => []) (fun i => l.length - i) (fun i => i ≤ l.length ∧ ∀ j (hj : j < l.length), j < i → ((l[j] : Nat) : Int) ≠ x) 0 rfl ⟨by omega, fun j hj hlt => by omega⟩ ?_
  rintro i ⟨h0, h1⟩ IH
  (conv => whnf)
  rw [hsl]
  refine br_intro (fun hc => ?_) (fun hc => ?_)
  · have hc := lt_of_dec hc
    (conv => whnf); (repeat ((with_reducible refine must_intro ?_ ?_); exact decide_eq_true (by omega); (conv => whnf)))
    refine idxK_map_intro (show (i : Int).toNat < l.length by simpa using hc) ?_
    rw [show l[(i : Int).toNat]'(by simpa using hc) = l[i] from by congr 1]
    (conv => whnf)
    refine br_intro (fun he => ?_) (fun he => ?_)
    · have he : ((l[i] : Nat) : Int) = x := by simpa using he
      (conv => whnf)
      exact h true (decide_eq_true ⟨l[i], List.getElem_mem hc, he⟩).symm
    · have he : ((l[i] : Nat) : Int) ≠ x := by simpa using he
      (conv => whnf)
      rw [i64_nat (by omega)]
      refine IH (i + 1) ⟨by omega, fun j hj hlt => ?_⟩ (by omega)
      rcases Nat.lt_or_ge j i with hlt | hge
      · exact h1 j hj hlt
      · obtain rfl : j = i := by omega
        exact he
  · have hc := ge_of_dec hc
    (conv => whnf)
    refine h false (decide_eq_false ?_).symm
    rintro ⟨a, ha, e⟩
    obtain ⟨j, hj, rfl⟩ := List.getElem_of_mem ha
    exact h1 j hj (by omega) e

/-! ### which text stands ahead -/
def ltB (a b : B) : Bool := Op.bytesLess a b
theorem strLt_ofB (a b : B) : strLt (ofB a) (ofB b) = ltB a b := by
  unfold strLt ltB
  rw [ByteArray.toList_eq, ByteArray.toList_eq]
  show Op.bytesLess (bs (ofB a)) (bs (ofB b)) = _
  rw [bs_ofB, bs_ofB]
theorem ltB_drop {a b : B} : ∀ {i : Nat}, (∀ j, j < i → a[j]? = b[j]?) → i ≤ a.length → i ≤ b.length → ltB (a.drop i) (b.drop i) = ltB a b := by
  intro i
  induction i generalizing a b with
  | zero => intro _ _ _; simp
  | succ i ih =>
    intro h ha hb
    cases a with
    | nil => simp at ha
    | cons x a =>
      cases b with
      | nil => simp at hb
      | cons y b =>
        have h0 : x = y := by simpa using h 0 (by omega)
        subst h0
        simp only [List.drop_succ_cons]
        rw [ih (fun j hj => by simpa using h (j + 1) (by omega)) (by simpa using ha) (by simpa using hb)]
        simp [ltB, Op.bytesLess]
theorem u8_lt {a b : UInt8} : decide (((a.toNat : Nat) : Int) < ((b.toNat : Nat) : Int)) = decide (a < b) := by
  apply decide_eq_decide.2
  rw [UInt8.lt_iff_toNat_lt]
  omega

theorem Less_calls (a b : B) (ha : a.length < 1000000) (hb : b.length < 1000000) {R} (h : ∀ p, p = ltB a b → R (.val (.bool p)) []) : ACalls Try.prog 52 [vs a, vs b] [] R := by
  refine acalls_of_xwp (an := an52) tab_ok Try.func52 ?_
  have hsa := size_ofB a
  have hsb := size_ofB b
  (conv => whnf)
  refine LoopP.ind1 (fun (i : Nat) => [(5, vi i)]) (fun _ => []) (fun i => a.length - i) (fun i => i ≤ a.length ∧ i ≤ b.length ∧ ∀ j, j < i → a[j]? = b[j]?) 0 rfl ⟨by omega, by omega, fun j hj => by omega⟩ ?_
  rintro i ⟨h0, h0', h1⟩ IH
  have hend : (a.length ≤ i ∨ b.length ≤ i) → ltB a b = decide ((a.length : Int) < (b.length : Int)) := by
    intro hc
    rw [← ltB_drop h1 h0 h0']
    rcases hc with hc | hc
    · rw [List.drop_eq_nil_of_le hc]
      cases hd : b.drop i with
      | nil =>
        have := List.drop_eq_nil_iff.1 hd
        simp [ltB, Op.bytesLess]; omega
      | cons y l =>
        have : i < b.length := by
          rcases Nat.lt_or_ge i b.length with h | h
          · exact h
          · rw [List.drop_eq_nil_of_le h] at hd; cases hd
        simp [ltB, Op.bytesLess]; omega
    · rw [List.drop_eq_nil_of_le hc]
      have : ltB (a.drop i) [] = false := by cases a.drop i <;> rfl
      rw [this]
      simp; omega
  (conv => whnf)
  rw [hsa]
  refine br_intro (fun hc => ?_) (fun hc => ?_)
  · have hc := lt_of_dec hc
    (conv => whnf)
    rw [hsb]
    refine br_intro (fun hc' => ?_) (fun hc' => ?_)
    · have hc' := lt_of_dec hc'
      have ea : byteAt (ofB a) (i : Int).toNat = ((a[i]).toNat : Int) := by rw [Int.toNat_natCast, byteAt_ofB a hc]
      have eb : byteAt (ofB b) (i : Int).toNat = ((b[i]).toNat : Int) := by rw [Int.toNat_natCast, byteAt_ofB b hc']
      (conv => whnf); (repeat ((with_reducible refine must_intro ?_ ?_); exact decide_eq_true (by omega); (conv => whnf)))
      rw [ea, eb]
      refine br_intro (fun he => ?_) (fun he => ?_)
      · have he : a[i] ≠ b[i] := by
          intro e
          rw [e] at he
          simp at he
        (conv => whnf); (repeat ((with_reducible refine must_intro ?_ ?_); exact decide_eq_true (by omega); (conv => whnf)))
        rw [ea, eb, u8_lt]
        refine h _ ?_
        rw [← ltB_drop h1 h0 h0', List.drop_eq_getElem_cons hc, List.drop_eq_getElem_cons hc']
        simp [ltB, Op.bytesLess, he]
      · have he : a[i] = b[i] := by
          simp at he
          exact u8_inj.1 he
        (conv => whnf)
        rw [i64_nat (by omega)]
        refine IH (i + 1) ⟨by omega, by omega, fun j hj => ?_⟩ (by omega)
        rcases Nat.lt_or_ge j i with hlt | hge
        · exact h1 j hlt
        · obtain rfl : j = i := by omega
          rw [List.getElem?_eq_getElem hc, List.getElem?_eq_getElem hc', he]
    · have hc' := ge_of_dec hc'
      (conv => whnf)
      rw [hsa, hsb]
      exact h _ (hend (.inr hc')).symm
  · have hc := ge_of_dec hc
    (conv => whnf)
    rw [hsa, hsb]
    exact h _ (hend (.inl hc)).symm
end Go.Abs
end

section
/- Graphs: what is wrong with a node by itself; places. -/
set_option maxRecDepth 100000
set_option linter.unusedVariables false
set_option linter.unusedSimpArgs false
namespace Go.Abs
open Go Go.Proofs
attribute [local irreducible] ibits byteAt strLt firstIdx

theorem tblP_foldl : ∀ (l m : List B), (l.foldl tblP m).length ≤ m.length + l.length ∧ ((l.foldl tblP m).length = m.length + l.length ↔ l.Nodup ∧ ∀ x ∈ l, x ∉ m) := by
  intro l
  induction l with
  | nil => intro m; simp
  | cons a l ih =>
    intro m
    rw [List.foldl_cons]
    obtain ⟨h1, h2⟩ := ih (tblP m a)
    by_cases ha : a ∈ m
    · rw [tblP_some ha] at h1 h2 ⊢
      refine ⟨by simp; omega, ⟨fun h => by simp at h; omega, fun h => absurd ha (h.2 a (by simp))⟩⟩
    · rw [tblP_none ha] at h1 h2 ⊢
      simp only [List.length_append, List.length_cons, List.length_nil] at h1 h2 ⊢
      refine ⟨by omega, ?_⟩
      rw [show (List.foldl tblP (m ++ [a]) l).length = m.length + (l.length + 1) ↔ (List.foldl tblP (m ++ [a]) l).length = m.length + (0 + 1) + l.length by omega, h2]
      simp only [List.nodup_cons, List.mem_append, List.mem_cons, List.not_mem_nil, or_false, not_or]
      constructor
      · rintro ⟨g1, g2⟩
        exact ⟨⟨fun h => (g2 a h).2 rfl, g1⟩, fun x hx => by
          rcases hx with rfl | hx
          · exact ha
          · exact (g2 x hx).1⟩
      · rintro ⟨⟨g1, g2⟩, g3⟩
        exact ⟨g2, fun x hx => ⟨g3 x (.inr hx), fun e => g1 (e ▸ hx)⟩⟩
theorem tblN_len (l : List B) : ((tblN l).length : Int) = l.length ↔ l.Nodup := by
  have := (tblP_foldl l []).2
  unfold tblN
  rw [show (((List.foldl tblP [] l).length : Nat) : Int) = ((l.length : Nat) : Int) ↔ (List.foldl tblP [] l).length = ([] : List B).length + l.length by simp; omega, this]
  simp

def oneBad (n : Nd) : Bool := !nameOk n.name || (n.source && (decide (0 < n.deps.length) || !decide (n.rule = 0)))
def oneP (n : Nd) : Int := if oneBad n = true then 1 else if ¬ (n.name :: n.deps).Nodup then 1 else if 16 < n.deps.length then 5 else 0

theorem one_calls (n : Nd) (hn : n.deps.length < 10000) {R} (h : ∀ e, e = oneP n → R (vi e) []) : ACalls Try.prog 101 [.agg n.enc] [] R := by
  refine acalls_of_xwp (an := an101) tab_ok Try.func101 ?_
  have hsl := strs_length n.deps
  have bad : oneBad n = true → R (vi 1) [] := fun hb => h 1 (by simp [oneP, hb])
  have len : (strs n.deps).length = n.deps.length := strs_length _
  (conv => whnf)
  refine Name_calls n.name ?_
  (conv => whnf)
  refine br_intro (fun h1 => ?_) (fun h1 => ?_)
  · (conv => whnf)
    exact bad (by simp at h1; simp [oneBad, h1])
  have h1 : nameOk n.name = true := by simpa using h1
  have rest : oneBad n = false → (∀ m, m = tblN (n.name :: n.deps) → ((m.length : Int) = n.deps.length + 1 ↔ (n.name :: n.deps).Nodup)) := fun hb m hm => by
    subst hm
    have := tblN_len (n.name :: n.deps)
    rw [List.length_cons] at this
    push_cast at this
    exact this
  (conv => whnf)
  refine br_intro (fun h2 => ?_) (fun h2 => ?_)
  · (conv => whnf)
    refine br_intro (fun h3 => ?_) (fun h3 => ?_)
    · (conv => whnf)
      refine bad ?_
      have h3 : 0 < n.deps.length := by rw [len] at h3; simp at h3; omega
      simp [oneBad, h2, h3]
    · (conv => whnf)
      have h3 : n.deps.length = 0 := by rw [len] at h3; simpa using h3
      refine br_intro (fun h4 => ?_) (fun h4 => ?_)
      · (conv => whnf)
        refine bad ?_
        have h4 : ¬ n.rule = 0 := by
          rintro e
          rw [e] at h4
          simp at h4
        unfold oneBad
        rw [h1, h2, decide_eq_false h4]
        simp
      · (conv => whnf)
        have h4 : n.rule = 0 := by
          have : ((n.rule.toNat : Nat) : Int) = ((0 : U).toNat : Int) := by simpa using h4
          exact u_inj.1 this
        have hb : oneBad n = false := by
          unfold oneBad
          rw [h1, h2, h3, h4]
          simp
        refine ⟨rfl, (show (1 + (strs n.deps).length) * ((tab.ti 9).bytes + 1) ≤ 140737488355328 by rw [len, bytes_str]; omega), ?_⟩
        (conv => whnf)
        refine New_calls n.name n.deps (by omega) fun m hm => ?_
        have hm' := rest hb m hm
        (conv => whnf)
        refine Len_old m ?_
        (conv => whnf)
        have fin : ∀ p : Bool, p = decide (¬ (n.name :: n.deps).Nodup) → oneP n = (if p = true then 1 else if 16 < n.deps.length then 5 else 0) := by
          rintro p rfl
          unfold oneP
          rw [if_neg (by rw [hb]; simp)]
          by_cases hd : (n.name :: n.deps).Nodup
          · have hdd : decide (¬ (n.name :: n.deps).Nodup) = false := decide_eq_false (not_not_intro hd)
            rw [if_neg (not_not_intro hd)]
            simp only [hdd, Bool.false_eq_true, if_false]
          · rw [if_pos hd, if_pos (decide_eq_true hd)]
        rw [len, wrap_i64 (by omega) (by omega)]
        refine br_intro (fun g1 => ?_) (fun g1 => ?_)
        · (conv => whnf)
          refine h 1 ?_
          rw [fin true]
          · simp
          · symm
            apply decide_eq_true
            rw [← hm']
            intro e
            rw [e] at g1
            simp at g1
        · have g1 : (n.name :: n.deps).Nodup := by
            rw [← hm']
            simpa using g1
          have fin := fin false (by simp only [g1, not_true, decide_false])
          (conv => whnf)
          rw [len]
          refine br_intro (fun g2 => ?_) (fun g2 => ?_)
          · (conv => whnf)
            refine h 5 ?_
            rw [fin]
            have : 16 < n.deps.length := by simp at g2; omega
            simp [this]
          · (conv => whnf)
            refine h 0 ?_
            rw [fin]
            have : ¬ 16 < n.deps.length := by simp at g2; omega
            simp [this]
  · (conv => whnf)
    have hb : oneBad n = false := by
      unfold oneBad
      rw [h1, h2]
      simp
    refine ⟨rfl, (show (1 + (strs n.deps).length) * ((tab.ti 9).bytes + 1) ≤ 140737488355328 by rw [len, bytes_str]; omega), ?_⟩
    (conv => whnf)
    refine New_calls n.name n.deps (by omega) fun m hm => ?_
    have hm' := rest hb m hm
    (conv => whnf)
    refine Len_old m ?_
    (conv => whnf)
    have fin : ∀ p : Bool, p = decide (¬ (n.name :: n.deps).Nodup) → oneP n = (if p = true then 1 else if 16 < n.deps.length then 5 else 0) := by
      rintro p rfl
      unfold oneP
      rw [if_neg (by rw [hb]; simp)]
      by_cases hd : (n.name :: n.deps).Nodup
      · have hdd : decide (¬ (n.name :: n.deps).Nodup) = false := decide_eq_false (not_not_intro hd)
        rw [if_neg (not_not_intro hd)]
        simp only [hdd, Bool.false_eq_true, if_false]
      · rw [if_pos hd, if_pos (decide_eq_true hd)]
    rw [len, wrap_i64 (by omega) (by omega)]
    refine br_intro (fun g1 => ?_) (fun g1 => ?_)
    · (conv => whnf)
      refine h 1 ?_
      rw [fin true]
      · simp
      · symm
        apply decide_eq_true
        rw [← hm']
        intro e
        rw [e] at g1
        simp at g1
    · have g1 : (n.name :: n.deps).Nodup := by
        rw [← hm']
        simpa using g1
      have fin := fin false (by simp only [g1, not_true, decide_false])
      (conv => whnf)
      rw [len]
      refine br_intro (fun g2 => ?_) (fun g2 => ?_)
      · (conv => whnf)
        refine h 5 ?_
        rw [fin]
        have : 16 < n.deps.length := by simp at g2; omega
        simp [this]
      · (conv => whnf)
        refine h 0 ?_
        rw [fin]
        have : ¬ 16 < n.deps.length := by simp at g2; omega
        simp [this]

theorem nodup_take {a : B} {l : List B} {i : Nat} (hi : i < l.length) : (a :: l.take (i + 1)).Nodup ↔ (a :: l.take i).Nodup ∧ l[i] ≠ a ∧ l[i] ∉ l.take i := by
  rw [List.take_succ_eq_append_getElem hi]
  simp only [List.nodup_cons, List.mem_append, List.mem_singleton, not_or, List.nodup_append, List.nodup_nil, and_true, List.not_mem_nil, not_false_eq_true]
  constructor
  · rintro ⟨⟨h1, h2⟩, h3, h4, h5⟩
    exact ⟨⟨h1, h3⟩, fun e => h2 e.symm, fun hm => h5 _ hm _ rfl rfl⟩
  · rintro ⟨⟨h1, h3⟩, h2, h5⟩
    exact ⟨⟨h1, fun e => h2 e.symm⟩, h3, trivial, fun x hx y hy e => h5 (by rw [← hy, ← e]; exact hx)⟩

theorem refOne_calls (n : Nd) (hn : n.deps.length < 10000) {R} (h : ∀ e, e = oneP n → R (vi e) []) : ACalls Try.prog 92 [.agg n.enc] [] R := by
  refine acalls_of_xwp (an := an92) tab_ok Try.func92 ?_
  have bad : oneBad n = true → R (vi 1) [] := fun hb => h 1 (by simp [oneP, hb])
  have len : (strs n.deps).length = n.deps.length := strs_length _
  (conv => whnf)
  refine refName_calls n.name ?_
  (conv => whnf)
  refine br_intro (fun h1 => ?_) (fun h1 => ?_)
  · (conv => whnf)
    exact bad (by simp at h1; simp [oneBad, h1])
  have h1 : nameOk n.name = true := by simpa using h1
  (conv => whnf)
  refine br_intro (fun h2 => ?_) (fun h2 => ?_)
  · (conv => whnf)
    refine br_intro (fun h3 => ?_) (fun h3 => ?_)
    · (conv => whnf)
      refine bad ?_
      have h3 : 0 < n.deps.length := by rw [len] at h3; simp at h3; omega
      simp [oneBad, h2, h3]
    · (conv => whnf)
      have h3 : n.deps.length = 0 := by rw [len] at h3; simpa using h3
      refine br_intro (fun h4 => ?_) (fun h4 => ?_)
      · (conv => whnf)
        refine bad ?_
        have h4 : ¬ n.rule = 0 := by
          rintro e
          rw [e] at h4
          simp at h4
        unfold oneBad
        rw [h1, h2, decide_eq_false h4]
        simp
      · (conv => whnf)
        have h4 : n.rule = 0 := by
          have : ((n.rule.toNat : Nat) : Int) = ((0 : U).toNat : Int) := by simpa using h4
          exact u_inj.1 this
        have hb : oneBad n = false := by
          unfold oneBad
          rw [h1, h2, h3, h4]
          simp
        refine LoopP.ind1 (fun (i : Nat) => [(3, vi i)]) (fun _ => []) (fun i => n.deps.length - i) (fun i => i ≤ n.deps.length ∧ (n.name :: n.deps.take i).Nodup) 0 rfl ⟨by omega, by simp⟩ ?_
        rintro i ⟨h0, hd⟩ IH
        (conv => whnf)
        refine br_intro (fun hc => ?_) (fun hc => ?_)
        · have hc := lt_of_decE len hc
          have dup : ¬ (n.name :: n.deps.take (i + 1)).Nodup → R (vi 1) [] := by
            intro hn
            refine h 1 ?_
            have : ¬ (n.name :: n.deps).Nodup := by
              intro hd'
              apply hn
              have : (n.name :: n.deps.take (i + 1)).Sublist (n.name :: n.deps) := List.Sublist.cons_cons _ (List.take_sublist _ _)
              exact hd'.sublist this
            unfold oneP
            rw [if_neg (by rw [hb]; simp), if_pos this]
          (conv => whnf); (repeat ((with_reducible refine must_intro ?_ ?_); exact decide_eq_true (by omega); (conv => whnf)))
          refine idxK_map_intro (show (i : Int).toNat < n.deps.length by simpa using hc) ?_
          rw [show n.deps[(i : Int).toNat]'(by simpa using hc) = n.deps[i] from by congr 1]
          (conv => whnf)
          refine br_intro (fun he => ?_) (fun he => ?_)
          · have he : n.deps[i] = n.name := by simpa [ofB_eq] using he
            (conv => whnf)
            exact dup (by rw [nodup_take hc]; intro hh; exact hh.2.1 he)
          · have he : n.deps[i] ≠ n.name := by simpa [ofB_eq] using he
            (conv => whnf); (repeat ((with_reducible refine must_intro ?_ ?_); exact decide_eq_true (by omega); (conv => whnf)))
            refine idxK_map_intro (show (i : Int).toNat < n.deps.length by simpa using hc) ?_
            rw [show n.deps[(i : Int).toNat]'(by simpa using hc) = n.deps[i] from by congr 1]
            (conv => whnf)
            refine Place_calls (n.deps.take i) n.deps[i] (by simp; omega) (by simp [strs, List.map_take]) fun p hp => ?_
            (conv => whnf)
            refine br_intro (fun hg => ?_) (fun hg => ?_)
            · have hg : n.deps[i] ∈ n.deps.take i := by
                have : 0 ≤ p := by simpa using hg
                rw [hp] at this
                exact Classical.byContradiction fun e => by have := placeI_neg.2 e; omega
              (conv => whnf)
              exact dup (by rw [nodup_take hc]; intro hh; exact hh.2.2 hg)
            · have hg : n.deps[i] ∉ n.deps.take i := by
                have : p < 0 := by simpa using hg
                rw [hp] at this
                exact placeI_neg.1 this
              (conv => whnf)
              rw [i64_nat (by omega)]
              exact IH (i + 1) ⟨by omega, (nodup_take hc).2 ⟨hd, he, hg⟩⟩ (by omega)
        · have hc := ge_of_decE len hc
          rw [List.take_of_length_le hc] at hd
          have fin : oneP n = (if 16 < n.deps.length then 5 else 0) := by
            unfold oneP
            rw [if_neg (by rw [hb]; simp), if_neg (not_not_intro hd)]
          (conv => whnf)
          rw [len]
          refine br_intro (fun g2 => ?_) (fun g2 => ?_)
          · (conv => whnf)
            refine h 5 ?_
            rw [fin]
            have : 16 < n.deps.length := by simp at g2; omega
            simp [this]
          · (conv => whnf)
            refine h 0 ?_
            rw [fin]
            have : ¬ 16 < n.deps.length := by simp at g2; omega
            simp [this]
  · (conv => whnf)
    have hb : oneBad n = false := by
      unfold oneBad
      rw [h1, h2]
      simp
    refine LoopP.ind1 (fun (i : Nat) => [(3, vi i)]) (fun _ => []) (fun i => n.deps.length - i) (fun i => i ≤ n.deps.length ∧ (n.name :: n.deps.take i).Nodup) 0 rfl ⟨by omega, by simp⟩ ?_
    rintro i ⟨h0, hd⟩ IH
    (conv => whnf)
    refine br_intro (fun hc => ?_) (fun hc => ?_)
    · have hc := lt_of_decE len hc
      have dup : ¬ (n.name :: n.deps.take (i + 1)).Nodup → R (vi 1) [] := by
        intro hn
        refine h 1 ?_
        have : ¬ (n.name :: n.deps).Nodup := by
          intro hd'
          apply hn
          have : (n.name :: n.deps.take (i + 1)).Sublist (n.name :: n.deps) := List.Sublist.cons_cons _ (List.take_sublist _ _)
          exact hd'.sublist this
        unfold oneP
        rw [if_neg (by rw [hb]; simp), if_pos this]
      (conv => whnf); (repeat ((with_reducible refine must_intro ?_ ?_); exact decide_eq_true (by omega); (conv => whnf)))
      refine idxK_map_intro (show (i : Int).toNat < n.deps.length by simpa using hc) ?_
      rw [show n.deps[(i : Int).toNat]'(by simpa using hc) = n.deps[i] from by congr 1]
      (conv => whnf)
      refine br_intro (fun he => ?_) (fun he => ?_)
      · have he : n.deps[i] = n.name := by simpa [ofB_eq] using he
        (conv => whnf)
        exact dup (by rw [nodup_take hc]; intro hh; exact hh.2.1 he)
      · have he : n.deps[i] ≠ n.name := by simpa [ofB_eq] using he
        (conv => whnf); (repeat ((with_reducible refine must_intro ?_ ?_); exact decide_eq_true (by omega); (conv => whnf)))
        refine idxK_map_intro (show (i : Int).toNat < n.deps.length by simpa using hc) ?_
        rw [show n.deps[(i : Int).toNat]'(by simpa using hc) = n.deps[i] from by congr 1]
        (conv => whnf)
        refine Place_calls (n.deps.take i) n.deps[i] (by simp; omega) (by simp [strs, List.map_take]) fun p hp => ?_
        (conv => whnf)
        refine br_intro (fun hg => ?_) (fun hg => ?_)
        · have hg : n.deps[i] ∈ n.deps.take i := by
            have : 0 ≤ p := by simpa using hg
            rw [hp] at this
            exact Classical.byContradiction fun e => by have := placeI_neg.2 e; omega
          (conv => whnf)
          exact dup (by rw [nodup_take hc]; intro hh; exact hh.2.2 hg)
        · have hg : n.deps[i] ∉ n.deps.take i := by
            have : p < 0 := by simpa using hg
            rw [hp] at this
            exact placeI_neg.1 this
          (conv => whnf)
          rw [i64_nat (by omega)]
          exact IH (i + 1) ⟨by omega, (nodup_take hc).2 ⟨hd, he, hg⟩⟩ (by omega)
    · have hc := ge_of_decE len hc
      rw [List.take_of_length_le hc] at hd
      have fin : oneP n = (if 16 < n.deps.length then 5 else 0) := by
        unfold oneP
        rw [if_neg (by rw [hb]; simp), if_neg (not_not_intro hd)]
      (conv => whnf)
      rw [len]
      refine br_intro (fun g2 => ?_) (fun g2 => ?_)
      · (conv => whnf)
        refine h 5 ?_
        rw [fin]
        have : 16 < n.deps.length := by simp at g2; omega
        simp [this]
      · (conv => whnf)
        refine h 0 ?_
        rw [fin]
        have : ¬ 16 < n.deps.length := by simp at g2; omega
        simp [this]

/-! ### maps of texts, whatever stands in them -/
def KeyMap (Pv : AV → Prop) (es : List (ByteArray × AV)) (S : B → Prop) : Prop := ∀ s, (S s → ∃ v, mapFind es (ofB s) = some v ∧ Pv v) ∧ (¬ S s → mapFind es (ofB s) = none)
theorem mapFind_put (es : List (ByteArray × AV)) (k k' : ByteArray) (v : AV) : mapFind (mapPut es k v) k' = if k = k' then some v else mapFind es k' := by
  induction es with
  | nil => simp [mapPut, mapFind]
  | cons e es ih =>
    obtain ⟨s, u⟩ := e
    simp only [mapPut]
    by_cases h : s = k
    · subst h
      rw [if_pos rfl]
      simp only [mapFind]
      split <;> simp_all
    · rw [if_neg h]
      simp only [mapFind, ih]
      by_cases h1 : s = k'
      · subst h1
        rw [if_pos rfl, if_neg (Ne.symm h), if_pos rfl]
      · rw [if_neg h1, if_neg h1]
theorem KeyMap.nil (Pv : AV → Prop) : KeyMap Pv [] fun _ => False := fun s => ⟨fun h => h.elim, fun _ => rfl⟩
theorem KeyMap.put {Pv : AV → Prop} {es : List (ByteArray × AV)} {S S' : B → Prop} (h : KeyMap Pv es S) (k : B) {v : AV} (hv : Pv v) (hS : ∀ s, S' s ↔ S s ∨ s = k) : KeyMap Pv (mapPut es (ofB k) v) S' := by
  intro s
  rw [mapFind_put]
  by_cases e : k = s
  · subst e
    rw [if_pos rfl]
    exact ⟨fun _ => ⟨v, rfl, hv⟩, fun hn => absurd ((hS k).2 (.inr rfl)) hn⟩
  · rw [if_neg (fun e' => e (ofB_inj e'))]
    refine ⟨fun hs => (h s).1 (((hS s).1 hs).resolve_right (fun e' => e e'.symm)), fun hs => (h s).2 fun hs' => hs ((hS s).2 (.inl hs'))⟩

theorem places_calls (l : List Nd) (hl : l.length < 1000000) {R} (h : ∀ es, KeyMap (fun v => ∃ j, v = vi j) es (fun s => s ∈ l.map (·.name)) → R (.mapv 0) [.map es]) : ACalls Try.prog 102 [.sl none 4 (nds l)] [] R := by
  refine acalls_of_xwp (an := an102) tab_ok Try.func102 ?_
  have hsl := nds_length l
  (conv => whnf)
  refine LoopP.ind2 (fun (i : Nat) (es : List (ByteArray × AV)) => [(9, vi i)]) (fun _ es => [(nameOf 6, .map es)]) (fun i _ => l.length - i) (fun i es => i ≤ l.length ∧ KeyMap (fun v => ∃ j, v = vi j) es (fun s => s ∈ (l.take i).map (·.name))) 0 [] rfl ⟨by omega, by simpa using KeyMap.nil _⟩ ?_
  rintro i es ⟨h0, h1⟩ IH
  (conv => whnf)
  refine br_intro (fun hc => ?_) (fun hc => ?_)
  · have hc := lt_of_decE hsl hc
    (conv => whnf); (repeat ((with_reducible refine must_intro ?_ ?_); exact decide_eq_true (by omega); (conv => whnf)))
    refine idxK_map_intro (show (i : Int).toNat < l.length by simpa using hc) ?_
    rw [show l[(i : Int).toNat]'(by simpa using hc) = l[i] from by congr 1]
    (conv => whnf)
    rw [i64_nat (by omega)]
    refine IH (i + 1) (mapPut es (ofB l[i].name) (vi i)) ⟨by omega, ?_⟩ (by omega)
    refine h1.put l[i].name ⟨_, rfl⟩ fun s => ?_
    rw [List.take_succ_eq_append_getElem hc]
    simp only [List.map_append, List.map_cons, List.map_nil, List.mem_append, List.mem_singleton]
  · have hc := ge_of_decE hsl hc
    (conv => whnf)
    refine h es ?_
    rwa [List.take_of_length_le hc] at h1
end Go.Abs
end

section
/- Graphs: the order. -/
set_option maxRecDepth 100000
set_option linter.unusedVariables false
set_option linter.unusedSimpArgs false
namespace Go.Abs
open Go Go.Proofs
attribute [local irreducible] ibits byteAt strLt firstIdx

/-- The name of a place. -/
def nm (l : List Nd) (i : Nat) : B := ((l[i]?).map (·.name)).getD []
theorem nm_eq {l : List Nd} {i : Nat} (h : i < l.length) : nm l i = l[i].name := by simp [nm, List.getElem?_eq_getElem h]
def dps (l : List Nd) (i : Nat) : List B := ((l[i]?).map (·.deps)).getD []
theorem dps_eq {l : List Nd} {i : Nat} (h : i < l.length) : dps l i = l[i].deps := by simp [dps, List.getElem?_eq_getElem h]
def ready (l : List Nd) (D : List B) (i : Nat) : Bool := decide (nm l i ∉ D) && decide (∀ d ∈ dps l i, d ∈ D)
def bstep (l : List Nd) (D : List B) (best : Option Nat) (i : Nat) : Option Nat :=
  if ready l D i = true ∧ (∀ b, best = some b → ltB (nm l i) (nm l b) = true) then some i else best
def best (l : List Nd) (D : List B) (k : Nat) : Option Nat := (List.range k).foldl (bstep l D) none
theorem best_succ (l : List Nd) (D : List B) (k : Nat) : best l D (k + 1) = bstep l D (best l D k) k := by simp [best, List.range_succ]
theorem best_some {l : List Nd} {D : List B} : ∀ {k b : Nat}, best l D k = some b → b < k ∧ ready l D b = true := by
  intro k
  induction k with
  | zero => intro b h; simp [best] at h
  | succ k ih =>
    intro b h
    rw [best_succ] at h
    unfold bstep at h
    split at h
    · rename_i hc
      simp only [Option.some.injEq] at h
      subst h
      exact ⟨by omega, hc.1⟩
    · have := ih h
      exact ⟨by omega, this.2⟩
def bestI (o : Option Nat) : Int := match o with | none => -1 | some b => b
def rowFrom (l : List Nd) : Nat → List Nat → List Nat
  | 0, out => out
  | k + 1, out => match best l (out.map (nm l)) l.length with
    | none => out
    | some b => rowFrom l k (out ++ [b])
def rowP (l : List Nd) : List Nat := rowFrom l l.length []

/-! ### closures over what is done -/
abbrev isT (v : AV) : Prop := v = .val (.bool true)
theorem rowf_calls (s : B) (D : List B) (es : List (ByteArray × AV)) (hk : KeyMap isT es (· ∈ D)) {R} (h : R (.val (.bool (decide (s ∉ D)))) [.cells 77 [.mapv 1], .map es]) :
    ACalls Try.prog 103 [vs s, .ptr 0 0] [.cells 77 [.mapv 1], .map es] R := by
  refine acalls_of_xwp (an := an103) tab_ok Try.func103 ?_
  by_cases hs : s ∈ D
  · obtain ⟨v, h1, rfl⟩ := (hk s).1 hs
    (conv => whnf)
    rw [h1]
    rw [decide_eq_false (not_not_intro hs)] at h
    (conv => whnf)
    exact h
  · have h1 := (hk s).2 hs
    (conv => whnf)
    rw [h1]
    rw [decide_eq_true hs] at h
    (conv => whnf)
    exact h

theorem rowIdx_calls (l : List B) (hl : l.length < 1000000) (D : List B) (es : List (ByteArray × AV)) (hk : KeyMap isT es (· ∈ D)) {R} (h : ∀ p : Int, (0 ≤ p ↔ ∃ d ∈ l, d ∉ D) → R (vi p) [.cells 77 [.mapv 1], .map es]) :
    ACalls Try.prog 96 [.sl none 1 (strs l), .fn (.func 103) [] [.ptr 0 0]] [.cells 77 [.mapv 1], .map es] R := by
  refine acalls_of_xwp (an := an96) tab_ok Try.func96 ?_
  have hsl := strs_length l
  (conv => whnf)
  refine LoopP.ind1 (fun (i : Nat) => [(8, vi i)]) (fun _ => [(0, .cells 77 [.mapv 1]), (1, .map es)]) (fun i => l.length - i) (fun i => i ≤ l.length ∧ ∀ d ∈ l.take i, d ∈ D) 0 rfl ⟨by omega, by simp⟩ ?_
  rintro i ⟨h0, h1⟩ IH
  (conv => whnf)
  refine br_intro (fun hc => ?_) (fun hc => ?_)
  · have hc := lt_of_decE hsl hc
    (conv => whnf); (repeat ((with_reducible refine must_intro ?_ ?_); exact decide_eq_true (by omega); (conv => whnf)))
    refine idxK_map_intro (show (i : Int).toNat < l.length by simpa using hc) ?_
    rw [show l[(i : Int).toNat]'(by simpa using hc) = l[i] from by congr 1]
    (conv => whnf)
    refine rowf_calls l[i] D es hk ?_
    (conv => whnf)
    refine br_intro (fun he => ?_) (fun he => ?_)
    · have he : l[i] ∉ D := of_decide_eq_true he
      (conv => whnf)
      exact h _ ⟨fun _ => ⟨_, List.getElem_mem hc, he⟩, fun _ => by omega⟩
    · have he : l[i] ∈ D := by simpa using he
      (conv => whnf)
      rw [i64_nat (by omega)]
      refine IH (i + 1) ⟨by omega, fun d hd => ?_⟩ (by omega)
      rw [List.take_succ_eq_append_getElem hc, List.mem_append, List.mem_singleton] at hd
      rcases hd with hd | rfl
      · exact h1 d hd
      · exact he
  · have hc := ge_of_decE hsl hc
    rw [List.take_of_length_le hc] at h1
    (conv => whnf)
    exact h (-1) ⟨fun hh => by omega, fun ⟨d, hd, hn⟩ => absurd (h1 d hd) hn⟩

theorem rowAny_calls (l : List B) (hl : l.length < 1000000) (D : List B) (es : List (ByteArray × AV)) (hk : KeyMap isT es (· ∈ D)) {R} (h : ∀ b, b = decide (∃ d ∈ l, d ∉ D) → R (.val (.bool b)) [.cells 77 [.mapv 1], .map es]) :
    ACalls Try.prog 66 [.sl none 1 (strs l), .fn (.func 103) [] [.ptr 0 0]] [.cells 77 [.mapv 1], .map es] R := by
  refine acalls_of_xwp (an := an66) tab_ok Try.func66 ?_
  (conv => whnf)
  refine rowIdx_calls l hl D es hk fun p hp => ?_
  (conv => whnf)
  refine h _ ?_
  exact decide_eq_decide.2 hp

def small (l : List Nd) : Prop := l.length < 100000 ∧ ∀ n ∈ l, n.deps.length < 10000 ∧ n.name.length < 10000 ∧ ∀ d ∈ n.deps, d.length < 10000

theorem row_calls (l : List Nd) (hl : small l) {R} (h : ∀ r, r = rowP l → R (.sl none 1 (ints r)) []) : ACalls Try.prog 72 [.sl none 4 (nds l)] [] R := by
  refine acalls_of_xwp (an := an72) tab_ok Try.func72 ?_
  obtain ⟨hlen, hsm⟩ := hl
  have hsl := nds_length l
  (conv => whnf)
  refine LoopP.ind2 (fun (out : List Nat) (es : List (ByteArray × AV)) => [(4, .sl (some (nameOf 4)) 1 (ints out)), (12, vi out.length)]) (fun out es => [(nameOf 3, .cells 77 [.mapv (nameOf 9)]), (nameOf 4, .row 3 1 out.length), (nameOf 9, .map es)])
    (fun out _ => l.length - out.length) (fun out es => out.length ≤ l.length ∧ rowFrom l (l.length - out.length) out = rowP l ∧ KeyMap isT es (· ∈ out.map (nm l)) ∧ ∀ b ∈ out, b < l.length) [] [] rfl ⟨by simp, rfl, by simpa using KeyMap.nil _, by simp⟩ ?_
  rintro out es ⟨h0, h1, hk, hb⟩ IH
  have hol := ints_length out
  (conv => whnf)
  refine br_intro (fun hc => ?_) (fun hc => ?_)
  · have hc := lt_of_decE hsl hc
    (conv => whnf)
    refine LoopP.ind1 (fun (k : Nat) => [(5, vi (bestI (best l (out.map (nm l)) k))), (16, vi k)]) (fun _ => [(nameOf 3, .cells 77 [.mapv (nameOf 9)]), (nameOf 4, .row 3 1 out.length), (nameOf 9, .map es)]) (fun k => l.length - k) (fun k => k ≤ l.length) 0 rfl (by omega) ?_
    rintro k hk0 IH2
    (conv => whnf)
    refine br_intro (fun hc2 => ?_) (fun hc2 => ?_)
    · have hc2 := lt_of_decE hsl hc2
      (conv => whnf); (repeat ((with_reducible refine must_intro ?_ ?_); exact decide_eq_true (by omega); (conv => whnf)))
      refine idxK_map_intro (show (k : Int).toNat < l.length by simpa using hc2) ?_
      rw [show l[(k : Int).toNat]'(by simpa using hc2) = l[k] from by congr 1]
      (conv => whnf)
      have same : ready l (out.map (nm l)) k = false → bestI (best l (out.map (nm l)) k) = bestI (best l (out.map (nm l)) (k + 1)) := by
        intro hr
        rw [best_succ]
        unfold bstep
        rw [if_neg (by rw [hr]; simp)]
      by_cases hs : l[k].name ∈ out.map (nm l)
      · obtain ⟨v, e1, rfl⟩ := (hk _).1 hs
        have hr : ready l (out.map (nm l)) k = false := by
          unfold ready
          rw [nm_eq hc2, decide_eq_false (not_not_intro hs), Bool.false_and]
        rw [e1, same hr]
        (conv => whnf)
        rw [i64_nat (by omega)]
        exact IH2 (k + 1) (by omega) (by omega)
      · rw [(hk _).2 hs]
        (conv => whnf)
        refine rowAny_calls l[k].deps (by have := (hsm _ (List.getElem_mem hc2)).1; omega) (out.map (nm l)) es hk fun b hbq => ?_
        (conv => whnf)
        refine br_intro (fun hb1 => ?_) (fun hb1 => ?_)
        · have hb1 : b = false := by simpa using hb1
          have hr : ready l (out.map (nm l)) k = true := by
            unfold ready
            rw [nm_eq hc2, dps_eq hc2, decide_eq_true hs, Bool.true_and]
            apply decide_eq_true
            intro d hd
            rw [hb1] at hbq
            have := of_decide_eq_false hbq.symm
            exact Classical.byContradiction fun hn => this ⟨d, hd, hn⟩
          cases hbk : best l (out.map (nm l)) k with
          | none =>
            have e2 : best l (out.map (nm l)) (k + 1) = some k := by
              rw [best_succ, hbk]
              unfold bstep
              rw [if_pos ⟨hr, fun b hb => by cases hb⟩]
            (conv => whnf)
            rw [i64_nat (by omega)]
            have := IH2 (k + 1) (by omega) (by omega)
            rw [e2] at this
            exact this
          | some b0 =>
            obtain ⟨g1, g2⟩ := best_some hbk
            have g1 : b0 < l.length := by omega
            rw [show bestI (some b0) = (b0 : Int) from rfl]
            (conv => whnf); (repeat ((with_reducible refine must_intro ?_ ?_); exact decide_eq_true (by omega); (conv => whnf)))
            refine idxK_map_intro (show (b0 : Int).toNat < l.length by simpa using g1) ?_
            rw [show l[(b0 : Int).toNat]'(by simpa using g1) = l[b0] from by congr 1]
            (conv => whnf)
            rw [strLt_ofB]
            refine br_intro (fun hlt => ?_) (fun hlt => ?_)
            · have e2 : best l (out.map (nm l)) (k + 1) = some k := by
                rw [best_succ, hbk]
                unfold bstep
                rw [if_pos ⟨hr, fun b hb => by cases hb; rw [nm_eq hc2, nm_eq g1]; exact hlt⟩]
              (conv => whnf)
              rw [i64_nat (by omega)]
              have := IH2 (k + 1) (by omega) (by omega)
              rw [e2] at this
              exact this
            · have e2 : best l (out.map (nm l)) (k + 1) = some b0 := by
                rw [best_succ, hbk]
                unfold bstep
                rw [if_neg (fun hh => by have := hh.2 b0 rfl; rw [nm_eq hc2, nm_eq g1, hlt] at this; cases this)]
              (conv => whnf)
              rw [i64_nat (by omega)]
              have := IH2 (k + 1) (by omega) (by omega)
              rw [e2] at this
              exact this
        · have hb1 : b = true := by simpa using hb1
          have hr : ready l (out.map (nm l)) k = false := by
            unfold ready
            rw [dps_eq hc2, Bool.and_eq_false_iff]
            right
            apply decide_eq_false
            intro hall
            rw [hb1] at hbq
            obtain ⟨d, hd, hn⟩ := of_decide_eq_true hbq.symm
            exact hn (hall d hd)
          rw [same hr]
          (conv => whnf)
          rw [i64_nat (by omega)]
          exact IH2 (k + 1) (by omega) (by omega)
    · have hc2 := ge_of_decE hsl hc2
      obtain rfl : k = l.length := by omega
      obtain ⟨j, hj⟩ : ∃ j, l.length - out.length = j + 1 := ⟨l.length - out.length - 1, by omega⟩
      rw [hj, rowFrom] at h1
      cases hbk : best l (out.map (nm l)) l.length with
      | none =>
        rw [hbk] at h1
        (conv => whnf)
        exact h _ h1
      | some b =>
        rw [hbk] at h1
        obtain ⟨g1, g2⟩ := best_some hbk
        rw [show bestI (some b) = (b : Int) from rfl]
        (conv => whnf); (repeat ((with_reducible refine must_intro ?_ ?_); exact decide_eq_true (by omega); (conv => whnf)))
        refine idxK_map_intro (show (b : Int).toNat < l.length by simpa using g1) ?_
        rw [show l[(b : Int).toNat]'(by simpa using g1) = l[b] from by congr 1]
        (conv => whnf)
        refine ⟨hol.symm, ?_, ?_⟩
        · rw [hol]
          show (out.length + 1) * (8 + 1) ≤ _
          omega
        (conv => whnf)
        have e1 : ints out ++ [[AV.val (Value.int IntKind.i64 (b : Int))]] = ints (out ++ [b]) := by simp [ints, vi]
        have e2 : (ints out).length + [[AV.val (Value.int IntKind.i64 (b : Int))]].length = (out ++ [b]).length := by simp [hol]
        rw [e1, e2, i64_nat (by omega), show out.length + 1 = (out ++ [b]).length by simp]
        refine IH (out ++ [b]) (mapPut es (ofB l[b].name) (.val (.bool true))) ⟨by simp; omega, ?_, ?_, ?_⟩ (by simp; omega)
        · rw [← h1]
          congr 1
          simp; omega
        · refine hk.put l[b].name rfl fun s => ?_
          simp only [List.map_append, List.map_cons, List.map_nil, List.mem_append, List.mem_singleton, nm_eq g1]
        · intro x hx
          rw [List.mem_append, List.mem_singleton] at hx
          rcases hx with hx | rfl
          · exact hb x hx
          · exact g1
  · have hc := ge_of_decE hsl hc
    (conv => whnf)
    refine h out ?_
    rw [show l.length - out.length = 0 by omega] at h1
    exact h1
end Go.Abs
end

section
/- Graphs: the document's order. -/
set_option maxRecDepth 100000
set_option linter.unusedVariables false
set_option linter.unusedSimpArgs false
namespace Go.Abs
open Go Go.Proofs
attribute [local irreducible] ibits byteAt strLt firstIdx

theorem nm_inj {l : List Nd} (hd : (l.map (·.name)).Nodup) {i j : Nat} (hi : i < l.length) (hj : j < l.length) (h : nm l i = nm l j) : i = j := by
  rw [nm_eq hi, nm_eq hj] at h
  have h1 : (l.map (·.name))[i]'(by simpa using hi) = (l.map (·.name))[j]'(by simpa using hj) := by simpa using h
  exact (List.getElem_inj hd).1 h1
theorem mem_out {l : List Nd} (hd : (l.map (·.name)).Nodup) {out : List Nat} (hb : ∀ b ∈ out, b < l.length) {i : Nat} (hi : i < l.length) : i ∈ out ↔ l[i].name ∈ out.map (nm l) := by
  rw [List.mem_map]
  constructor
  · exact fun h => ⟨i, h, nm_eq hi⟩
  · rintro ⟨j, hj, e⟩
    rw [← nm_eq hi] at e
    rw [← nm_inj hd (hb j hj) hi e]
    exact hj
/-- Stands the place of a name among the places that are out? -/
theorem place_out {l : List Nd} (hd : (l.map (·.name)).Nodup) {out : List Nat} (hb : ∀ b ∈ out, b < l.length) (d : B) : (∃ i ∈ out, (i : Int) = placeI (l.map (·.name)) d) ↔ d ∈ out.map (nm l) := by
  unfold placeI
  cases e : placeOf (l.map (·.name)) d with
  | none =>
    simp only
    refine ⟨fun ⟨i, _, hi⟩ => by omega, fun h => ?_⟩
    obtain ⟨j, hj, e'⟩ := List.mem_map.1 h
    rw [nm_eq (hb j hj)] at e'
    exact absurd (List.mem_map.2 ⟨_, List.getElem_mem (hb j hj), e'⟩) (placeOf_none.1 e)
  | some p =>
    simp only
    obtain ⟨h1, h2⟩ := placeOf_some e
    have hp : p < l.length := by
      have := (List.getElem?_eq_some_iff.1 h1).1
      simpa using this
    have hn : l[p].name = d := by
      rw [List.getElem?_map, List.getElem?_eq_getElem hp] at h1
      simpa using h1
    rw [← hn, ← mem_out hd hb hp]
    exact ⟨fun ⟨i, hi, e⟩ => by have : i = p := by omega
                                rwa [← this], fun h => ⟨p, h, rfl⟩⟩

theorem refRow_calls (l : List Nd) (hl : small l) (hd : (l.map (·.name)).Nodup) {R} (h : ∀ r, r = rowP l → R (.sl none 1 (ints r)) []) : ACalls Try.prog 61 [.sl none 4 (nds l)] [] R := by
  refine acalls_of_xwp (an := an61) tab_ok Try.func61 ?_
  obtain ⟨hlen, hsm⟩ := hl
  have hsl := nds_length l
  (conv => whnf)
  refine LoopP.ind1 (fun (out : List Nat) => [(3, .sl (some (nameOf 8)) 1 (ints out))]) (fun out => [(nameOf 8, .row 3 1 out.length)])
    (fun out => l.length - out.length) (fun out => out.length ≤ l.length ∧ rowFrom l (l.length - out.length) out = rowP l ∧ out.Nodup ∧ ∀ b ∈ out, b < l.length) [] rfl ⟨by simp, rfl, by simp, by simp⟩ ?_
  rintro out ⟨h0, h1, hnd, hb⟩ IH
  have hol := ints_length out
  (conv => whnf)
  refine LoopP.ind1 (fun (k : Nat) => [(4, vi (bestI (best l (out.map (nm l)) k))), (5, vi k)]) (fun _ => [(nameOf 8, .row 3 1 out.length)]) (fun k => l.length - k) (fun k => k ≤ l.length) 0 rfl (by omega) ?_
  rintro k hk0 IH2
  (conv => whnf)
  refine br_intro (fun hc2 => ?_) (fun hc2 => ?_)
  · have hc2 := lt_of_decE hsl hc2
    have hsl2 := strs_length l[k].deps
    obtain ⟨hs1, hs2, hs3⟩ := hsm _ (List.getElem_mem hc2)
    (conv => whnf)
    refine in_calls out k (by omega) rfl fun b hbq => ?_
    have hbq : b = decide (l[k].name ∈ out.map (nm l)) := by
      rw [hbq]
      apply decide_eq_decide.2
      rw [← mem_out hd hb hc2]
      exact ⟨fun ⟨i, hi, e⟩ => by have : i = k := by omega
                                  rwa [← this], fun h => ⟨k, h, rfl⟩⟩
    (conv => whnf)
    refine LoopP.ind2 (fun (j : Nat) (r : Bool) => [(6, .val (.bool r)), (7, vi j)]) (fun _ _ => [(nameOf 8, .row 3 1 out.length)]) (fun j _ => l[k].deps.length - j)
      (fun j r => j ≤ l[k].deps.length ∧ (r = true ↔ (l[k].name ∉ out.map (nm l) ∧ ∀ d ∈ l[k].deps.take j, d ∈ out.map (nm l)))) 0 (!b) rfl ⟨by omega, by rw [hbq]; simp⟩ ?_
    rintro j r ⟨hj0, hr⟩ IH3
    (conv => whnf); (repeat ((with_reducible refine must_intro ?_ ?_); exact decide_eq_true (by omega); (conv => whnf)))
    refine idxK_map_intro (show (k : Int).toNat < l.length by simpa using hc2) ?_
    rw [show l[(k : Int).toNat]'(by simpa using hc2) = l[k] from by congr 1]
    (conv => whnf)
    refine br_intro (fun hc3 => ?_) (fun hc3 => ?_)
    · have hc3 := lt_of_decE hsl2 hc3
      have hr' : ∀ r' : Bool, (r' = true ↔ (r = true ∧ l[k].deps[j] ∈ out.map (nm l))) → (r' = true ↔ (l[k].name ∉ out.map (nm l) ∧ ∀ d ∈ l[k].deps.take (j + 1), d ∈ out.map (nm l))) := by
        intro r' e
        rw [e, hr, List.take_succ_eq_append_getElem hc3]
        constructor
        · rintro ⟨⟨g1, g2⟩, g3⟩
          refine ⟨g1, fun d hd => ?_⟩
          rw [List.mem_append, List.mem_singleton] at hd
          rcases hd with hd | rfl
          · exact g2 d hd
          · exact g3
        · rintro ⟨g1, g2⟩
          exact ⟨⟨g1, fun d hd => g2 d (List.mem_append_left _ hd)⟩, g2 _ (List.mem_append_right _ (by simp))⟩
      (conv => whnf)
      refine br_intro (fun hc4 => ?_) (fun hc4 => ?_)
      · (conv => whnf); (repeat ((with_reducible refine must_intro ?_ ?_); exact decide_eq_true (by omega); (conv => whnf)))
        refine idxK_map_intro (show (k : Int).toNat < l.length by simpa using hc2) ?_
        rw [show l[(k : Int).toNat]'(by simpa using hc2) = l[k] from by congr 1]
        (conv => whnf); (repeat ((with_reducible refine must_intro ?_ ?_); exact decide_eq_true (by omega); (conv => whnf)))
        refine idxK_map_intro (show (j : Int).toNat < l[k].deps.length by simpa using hc3) ?_
        rw [show l[k].deps[(j : Int).toNat]'(by simpa using hc3) = l[k].deps[j] from by congr 1]
        (conv => whnf)
        refine nPlace_calls l l[k].deps[j] (by omega) rfl fun p hp => ?_
        (conv => whnf)
        refine in_calls out p (by omega) rfl fun b' hb' => ?_
        (conv => whnf)
        rw [i64_nat (by omega)]
        refine IH3 (j + 1) b' ⟨by omega, hr' b' ?_⟩ (by omega)
        rw [hb', decide_eq_true_iff, hp, place_out hd hb]
        exact ⟨fun h => ⟨hc4, h⟩, fun h => h.2⟩
      · (conv => whnf)
        rw [i64_nat (by omega)]
        refine IH3 (j + 1) false ⟨by omega, hr' false ?_⟩ (by omega)
        have hc4 : r = false := hc4
        rw [hc4]
        simp
    · have hc3 := ge_of_decE hsl2 hc3
      rw [List.take_of_length_le hc3] at hr
      have hrr : ready l (out.map (nm l)) k = r := by
        unfold ready
        rw [nm_eq hc2, dps_eq hc2, Bool.eq_iff_iff, Bool.and_eq_true, decide_eq_true_iff, decide_eq_true_iff, hr]
      (conv => whnf)
      refine br_intro (fun hc4 => ?_) (fun hc4 => ?_)
      · have hr2 : ready l (out.map (nm l)) k = true := hrr.trans hc4
        cases hbk : best l (out.map (nm l)) k with
        | none =>
          have e2 : best l (out.map (nm l)) (k + 1) = some k := by
            rw [best_succ, hbk]
            unfold bstep
            rw [if_pos ⟨hr2, fun b hb => by cases hb⟩]
          (conv => whnf)
          rw [i64_nat (by omega)]
          have := IH2 (k + 1) (by omega) (by omega)
          rw [e2] at this
          exact this
        | some b0 =>
          obtain ⟨g1, g2⟩ := best_some hbk
          have g1 : b0 < l.length := by omega
          rw [show bestI (some b0) = (b0 : Int) from rfl]
          (conv => whnf); (repeat ((with_reducible refine must_intro ?_ ?_); exact decide_eq_true (by omega); (conv => whnf)))
          refine idxK_map_intro (show (k : Int).toNat < l.length by simpa using hc2) ?_
          rw [show l[(k : Int).toNat]'(by simpa using hc2) = l[k] from by congr 1]
          (conv => whnf); (repeat ((with_reducible refine must_intro ?_ ?_); exact decide_eq_true (by omega); (conv => whnf)))
          refine idxK_map_intro (show (b0 : Int).toNat < l.length by simpa using g1) ?_
          rw [show l[(b0 : Int).toNat]'(by simpa using g1) = l[b0] from by congr 1]
          (conv => whnf)
          refine Less_calls l[k].name l[b0].name (by omega) (by have := (hsm _ (List.getElem_mem g1)).2.1; omega) fun p hp => ?_
          (conv => whnf)
          refine br_intro (fun hlt => ?_) (fun hlt => ?_)
          · have hlt : p = true := hlt
            have e2 : best l (out.map (nm l)) (k + 1) = some k := by
              rw [best_succ, hbk]
              unfold bstep
              rw [if_pos ⟨hr2, fun b hb => by cases hb; rw [nm_eq hc2, nm_eq g1, ← hp]; exact hlt⟩]
            (conv => whnf)
            rw [i64_nat (by omega)]
            have := IH2 (k + 1) (by omega) (by omega)
            rw [e2] at this
            exact this
          · have hlt : p = false := hlt
            have e2 : best l (out.map (nm l)) (k + 1) = some b0 := by
              rw [best_succ, hbk]
              unfold bstep
              rw [if_neg (fun hh => by have := hh.2 b0 rfl; rw [nm_eq hc2, nm_eq g1, ← hp, hlt] at this; cases this)]
            (conv => whnf)
            rw [i64_nat (by omega)]
            have := IH2 (k + 1) (by omega) (by omega)
            rw [e2] at this
            exact this
      · have hr2 : ready l (out.map (nm l)) k = false := hrr.trans hc4
        have e2 : best l (out.map (nm l)) (k + 1) = best l (out.map (nm l)) k := by
          rw [best_succ]
          unfold bstep
          rw [if_neg (by rw [hr2]; simp)]
        (conv => whnf)
        rw [i64_nat (by omega)]
        have := IH2 (k + 1) (by omega) (by omega)
        rw [e2] at this
        exact this
  · have hc2 := ge_of_decE hsl hc2
    obtain rfl : k = l.length := by omega
    cases hbk : best l (out.map (nm l)) l.length with
    | none =>
      have hr : rowFrom l (l.length - out.length) out = out := by
        cases l.length - out.length with
        | zero => rfl
        | succ j => rw [rowFrom, hbk]
      (conv => whnf)
      exact h _ (hr.symm.trans h1)
    | some b =>
      obtain ⟨g1, g2⟩ := best_some hbk
      have hbn : b ∉ out := by
        unfold ready at g2
        rw [Bool.and_eq_true, decide_eq_true_iff, nm_eq g1] at g2
        intro hm
        exact g2.1 ((mem_out hd hb g1).1 hm)
      have hlt : out.length < l.length := by
        have hnd' : (b :: out).Nodup := List.nodup_cons.2 ⟨hbn, hnd⟩
        have hsub : (b :: out) ⊆ List.range l.length := by
          intro x hx
          rw [List.mem_cons] at hx
          rcases hx with rfl | hx
          · exact List.mem_range.2 g1
          · exact List.mem_range.2 (hb x hx)
        have := hnd'.length_le_of_subset hsub
        rw [List.length_range, List.length_cons] at this
        omega
      obtain ⟨j, hj⟩ : ∃ j, l.length - out.length = j + 1 := ⟨l.length - out.length - 1, by omega⟩
      rw [hj, rowFrom, hbk] at h1
      rw [show bestI (some b) = (b : Int) from rfl]
      (conv => whnf)
      refine ⟨hol.symm, ?_, ?_⟩
      · rw [hol]
        show (out.length + 1) * (8 + 1) ≤ _
        omega
      (conv => whnf)
      have e1 : ints out ++ [[AV.val (Value.int IntKind.i64 (b : Int))]] = ints (out ++ [b]) := by simp [ints, vi]
      have e2 : (ints out).length + [[AV.val (Value.int IntKind.i64 (b : Int))]].length = (out ++ [b]).length := by simp [hol]
      rw [e1, e2]
      refine IH (out ++ [b]) ⟨by simp; omega, ?_, ?_, ?_⟩ (by simp; omega)
      · rw [← h1]
        congr 1
        simp; omega
      · rw [List.nodup_append]
        exact ⟨hnd, by simp, fun x hx y hy e => hbn (by rw [List.mem_singleton] at hy; rw [← hy, ← e]; exact hx)⟩
      · intro x hx
        rw [List.mem_append, List.mem_singleton] at hx
        rcases hx with hx | rfl
        · exact hb x hx
        · exact g1
end Go.Abs
end

section
/- Graphs: what is wrong with nodes. -/
set_option maxRecDepth 100000
set_option linter.unusedVariables false
set_option linter.unusedSimpArgs false
namespace Go.Abs
open Go Go.Proofs
attribute [local irreducible] ibits byteAt strLt firstIdx

/-- What is wrong with nodes, one by one. -/
def chk1 : List Nd → List B → Int
  | [], _ => 0
  | n :: r, seen => if n.name ∈ seen then 1 else if oneP n ≠ 0 then oneP n else chk1 r (seen ++ [n.name])
def depsOk (l : List Nd) : Bool := l.all fun n => n.deps.all fun d => decide (d ∈ l.map (·.name))
def checkP (l : List Nd) : Int := if 64 < l.length then 5 else if chk1 l [] ≠ 0 then chk1 l [] else if depsOk l = false then 6 else if (rowP l).length < l.length then 9 else 0
theorem chk1_nodup : ∀ (l : List Nd) (seen : List B), chk1 l seen = 0 → (l.map (·.name)).Nodup ∧ ∀ n ∈ l, n.name ∉ seen := by
  intro l
  induction l with
  | nil => intro seen _; simp
  | cons n r ih =>
    intro seen h
    unfold chk1 at h
    split at h
    · cases h
    · rename_i hn
      split at h
      · rename_i h0; exact absurd h h0
      · obtain ⟨h1, h2⟩ := ih _ h
        refine ⟨?_, fun m hm => ?_⟩
        · rw [List.map_cons, List.nodup_cons]
          refine ⟨fun hm => ?_, h1⟩
          obtain ⟨m, hm, e⟩ := List.mem_map.1 hm
          exact h2 m hm (by rw [e]; simp)
        · rw [List.mem_cons] at hm
          rcases hm with rfl | hm
          · exact hn
          · exact fun hs => h2 m hm (by simp [hs])
/-- On from a place. -/
theorem chk1_drop {l : List Nd} {i : Nat} (hi : i < l.length) (seen : List B) : chk1 (l.drop i) seen = if l[i].name ∈ seen then 1 else if oneP l[i] ≠ 0 then oneP l[i] else chk1 (l.drop (i + 1)) (seen ++ [l[i].name]) := by
  rw [List.drop_eq_getElem_cons hi, chk1]
def names (l : List Nd) : List B := l.map (·.name)
theorem names_take {l : List Nd} {i : Nat} (hi : i < l.length) : names (l.take (i + 1)) = names (l.take i) ++ [l[i].name] := by
  unfold names
  rw [List.take_succ_eq_append_getElem hi, List.map_append]
  rfl

theorem depsOk_false {l : List Nd} {i j : Nat} (hi : i < l.length) (hj : j < l[i].deps.length) (h : l[i].deps[j] ∉ names l) : depsOk l = false := by
  unfold depsOk
  apply Bool.eq_false_iff.2
  intro hall
  have := List.all_eq_true.1 (List.all_eq_true.1 hall _ (List.getElem_mem hi)) _ (List.getElem_mem hj)
  exact h (of_decide_eq_true this)
theorem depsOk_true {l : List Nd} (h : ∀ n ∈ l, ∀ d ∈ n.deps, d ∈ names l) : depsOk l = true := by
  unfold depsOk
  rw [List.all_eq_true]
  intro n hn
  rw [List.all_eq_true]
  intro d hd
  exact decide_eq_true (h n hn d hd)


theorem Check_calls (l : List Nd) (hl : small l) {R} (h : ∀ e, e = checkP l → R (vi e) []) : ACalls Try.prog 71 [.sl none 4 (nds l)] [] R := by
  refine acalls_of_xwp (an := an71) tab_ok Try.func71 ?_
  have hl' := hl
  obtain ⟨hlen, hsm⟩ := hl
  have hsl := nds_length l
  (conv => whnf)
  refine br_intro (fun hc => ?_) (fun hc => ?_)
  · (conv => whnf)
    refine h 5 ?_
    have : 64 < l.length := by rw [hsl] at hc; simp at hc; omega
    simp [checkP, this]
  have h64 : ¬ 64 < l.length := by rw [hsl] at hc; simp at hc; omega
  have bad1 : ∀ e, e ≠ 0 → chk1 l [] = e → R (vi e) [] := fun e hb he => h _ (by unfold checkP; rw [if_neg h64, if_pos (by rw [he]; exact hb), he])
  (conv => whnf)
  refine New_nil ?_
  (conv => whnf)
  refine LoopP.step ?_
  (conv => whnf)
  refine br_intro (fun hc => ?_) (fun hc => ?_)
  · have hc : 0 < l.length := lt_of_decE (i := 0) hsl hc
    obtain ⟨hs1, hs2, hs3⟩ := hsm _ (List.getElem_mem hc)
    have hd0 := chk1_drop hc []
    rw [List.drop_zero, if_neg (by simp)] at hd0
    (conv => whnf); (repeat ((with_reducible refine must_intro ?_ ?_); exact decide_eq_true (by omega); (conv => whnf)))
    refine idxK_map_intro (show (0 : Int).toNat < l.length by simpa using hc) ?_
    rw [show l[(0 : Int).toNat]'(by simpa using hc) = l[0] from by congr 1]
    (conv => whnf)
    refine ID_new l[0].name ?_
    (conv => whnf)
    refine one_calls l[0] (by omega) fun e he => ?_
    (conv => whnf)
    refine br_intro (fun g => ?_) (fun g => ?_)
    · have g : e ≠ 0 := by simpa using g
      (conv => whnf)
      exact bad1 e g (by rw [hd0, ← he, if_pos g])
    · have g : e = 0 := by simpa using g
      rw [← he, if_neg (by rw [g]; simp)] at hd0
      have e0 : names (l.take 1) = [l[0].name] := names_take (i := 0) hc
      (conv => whnf)
      refine LoopP.ind1 (fun (i : Nat) => [(22, vi i)]) (fun i => [(freshN 19 0, tblO (freshN 30 0) (freshN 30 1) (names (l.take i))), (freshN 30 0, tblR (names (l.take i))), (freshN 30 1, tblM (names (l.take i)))]) (fun i => l.length - i) (fun i => i ≤ l.length ∧ chk1 (l.drop i) (names (l.take i)) = chk1 l []) 1 ?_ ⟨by omega, ?_⟩ ?_
      · rw [e0]; rfl
      · rw [e0]; exact hd0.symm
      rintro i ⟨h0, hch⟩ IH
      have hnl : (names (l.take i)).length ≤ l.length := by simp [names]; omega
      (conv => whnf)
      refine br_intro (fun hc => ?_) (fun hc => ?_)
      · have hc := lt_of_decE hsl hc
        obtain ⟨hs1, hs2, hs3⟩ := hsm _ (List.getElem_mem hc)
        rw [chk1_drop hc] at hch
        (conv => whnf); (repeat ((with_reducible refine must_intro ?_ ?_); exact decide_eq_true (by omega); (conv => whnf)))
        refine idxK_map_intro (show (i : Int).toNat < l.length by simpa using hc) ?_
        rw [show l[(i : Int).toNat]'(by simpa using hc) = l[i] from by congr 1]
        (conv => whnf)
        by_cases hm : l[i].name ∈ names (l.take i)
        · rw [if_pos hm] at hch
          refine ID_old _ _ hm fun j => ?_
          (conv => whnf)
          exact bad1 1 (by omega) hch.symm
        · rw [if_neg hm] at hch
          refine ID_more _ _ (by omega) hm fun j => ?_
          (conv => whnf)
          refine one_calls l[i] (by omega) fun e he => ?_
          rw [← he] at hch
          (conv => whnf)
          refine br_intro (fun g => ?_) (fun g => ?_)
          · have g : e ≠ 0 := by simpa using g
            rw [if_pos g] at hch
            (conv => whnf)
            exact bad1 e g hch.symm
          · have g : e = 0 := by simpa using g
            rw [if_neg (by rw [g]; simp), ← names_take hc] at hch
            (conv => whnf)
            rw [i64_nat (by omega), ← names_take hc]
            exact IH (i + 1) ⟨by omega, hch⟩ (by omega)
      · have hc := ge_of_decE hsl hc
        rw [List.drop_eq_nil_of_le hc, chk1] at hch
        have hchk := hch.symm
        (conv => whnf)
        refine places_calls l (by omega) fun es hes => ?_
        (conv => whnf)
        refine LoopP.ind1 (fun (i : Nat) => [(45, vi i)]) (fun _ => [(freshN 42 0, .map es)]) (fun i => l.length - i) (fun i => i ≤ l.length ∧ ∀ n ∈ l.take i, ∀ d ∈ n.deps, d ∈ names l) 0 rfl ⟨by omega, by simp⟩ ?_
        rintro i ⟨h0, hdo⟩ IH
        (conv => whnf)
        refine br_intro (fun hc => ?_) (fun hc => ?_)
        · have hc := lt_of_decE hsl hc
          have hsl3 := strs_length l[i].deps
          obtain ⟨hs1, hs2, hs3⟩ := hsm _ (List.getElem_mem hc)
          (conv => whnf); (repeat ((with_reducible refine must_intro ?_ ?_); exact decide_eq_true (by omega); (conv => whnf)))
          refine idxK_map_intro (show (i : Int).toNat < l.length by simpa using hc) ?_
          rw [show l[(i : Int).toNat]'(by simpa using hc) = l[i] from by congr 1]
          (conv => whnf)
          refine LoopP.ind1 (fun (j : Nat) => [(52, vi j)]) (fun _ => [(freshN 42 0, .map es)]) (fun j => l[i].deps.length - j) (fun j => j ≤ l[i].deps.length ∧ ∀ d ∈ l[i].deps.take j, d ∈ names l) 0 rfl ⟨by omega, by simp⟩ ?_
          rintro j ⟨hj0, hjo⟩ IH2
          (conv => whnf)
          refine br_intro (fun hc2 => ?_) (fun hc2 => ?_)
          · have hc2 := lt_of_decE hsl3 hc2
            (conv => whnf); (repeat ((with_reducible refine must_intro ?_ ?_); exact decide_eq_true (by omega); (conv => whnf)))
            refine idxK_map_intro (show (j : Int).toNat < l[i].deps.length by simpa using hc2) ?_
            rw [show l[i].deps[(j : Int).toNat]'(by simpa using hc2) = l[i].deps[j] from by congr 1]
            (conv => whnf)
            by_cases hm : l[i].deps[j] ∈ names l
            · obtain ⟨v, e1, x, rfl⟩ := (hes _).1 hm
              rw [e1]
              (conv => whnf)
              rw [i64_nat (by omega)]
              refine IH2 (j + 1) ⟨by omega, fun d hd => ?_⟩ (by omega)
              rw [List.take_succ_eq_append_getElem hc2, List.mem_append, List.mem_singleton] at hd
              rcases hd with hd | rfl
              · exact hjo d hd
              · exact hm
            · rw [(hes _).2 hm]
              (conv => whnf)
              refine h 6 ?_
              unfold checkP
              rw [if_neg h64, if_neg (by rw [hchk]; simp), if_pos (depsOk_false hc hc2 hm)]
          · have hc2 := ge_of_decE hsl3 hc2
            rw [List.take_of_length_le hc2] at hjo
            (conv => whnf)
            rw [i64_nat (by omega)]
            refine IH (i + 1) ⟨by omega, fun n hn => ?_⟩ (by omega)
            rw [List.take_succ_eq_append_getElem hc, List.mem_append, List.mem_singleton] at hn
            rcases hn with hn | rfl
            · exact hdo n hn
            · exact hjo
        · have hc := ge_of_decE hsl hc
          rw [List.take_of_length_le hc] at hdo
          (conv => whnf)
          refine row_calls l hl' fun r hr => ?_
          have hrl := ints_length r
          have fin : checkP l = if r.length < l.length then 9 else 0 := by
            unfold checkP
            rw [if_neg h64, if_neg (by rw [hchk]; simp), if_neg (by rw [depsOk_true hdo]; simp), hr]
          (conv => whnf)
          rw [hrl, hsl]
          refine br_intro (fun g2 => ?_) (fun g2 => ?_)
          · (conv => whnf)
            exact h 9 (by rw [fin, if_pos (lt_of_dec g2)])
          · (conv => whnf)
            exact h 0 (by rw [fin, if_neg (by have := ge_of_dec g2; omega)])
  · have hc : l.length ≤ 0 := ge_of_decE (i := 0) hsl hc
    have hnil : l = [] := List.eq_nil_of_length_eq_zero (by omega)
    have hchk : chk1 l [] = 0 := by rw [hnil]; rfl
    (conv => whnf)
    refine places_calls l (by omega) fun es hes => ?_
    (conv => whnf)
    refine LoopP.ind1 (fun (i : Nat) => [(45, vi i)]) (fun _ => [(freshN 42 0, .map es)]) (fun i => l.length - i) (fun i => i ≤ l.length ∧ ∀ n ∈ l.take i, ∀ d ∈ n.deps, d ∈ names l) 0 rfl ⟨by omega, by simp⟩ ?_
    rintro i ⟨h0, hdo⟩ IH
    (conv => whnf)
    refine br_intro (fun hc => ?_) (fun hc => ?_)
    · have hc := lt_of_decE hsl hc
      have hsl3 := strs_length l[i].deps
      obtain ⟨hs1, hs2, hs3⟩ := hsm _ (List.getElem_mem hc)
      (conv => whnf); (repeat ((with_reducible refine must_intro ?_ ?_); exact decide_eq_true (by omega); (conv => whnf)))
      refine idxK_map_intro (show (i : Int).toNat < l.length by simpa using hc) ?_
      rw [show l[(i : Int).toNat]'(by simpa using hc) = l[i] from by congr 1]
      (conv => whnf)
      refine LoopP.ind1 (fun (j : Nat) => [(52, vi j)]) (fun _ => [(freshN 42 0, .map es)]) (fun j => l[i].deps.length - j) (fun j => j ≤ l[i].deps.length ∧ ∀ d ∈ l[i].deps.take j, d ∈ names l) 0 rfl ⟨by omega, by simp⟩ ?_
      rintro j ⟨hj0, hjo⟩ IH2
      (conv => whnf)
      refine br_intro (fun hc2 => ?_) (fun hc2 => ?_)
      · have hc2 := lt_of_decE hsl3 hc2
        (conv => whnf); (repeat ((with_reducible refine must_intro ?_ ?_); exact decide_eq_true (by omega); (conv => whnf)))
        refine idxK_map_intro (show (j : Int).toNat < l[i].deps.length by simpa using hc2) ?_
        rw [show l[i].deps[(j : Int).toNat]'(by simpa using hc2) = l[i].deps[j] from by congr 1]
        (conv => whnf)
        by_cases hm : l[i].deps[j] ∈ names l
        · obtain ⟨v, e1, x, rfl⟩ := (hes _).1 hm
          rw [e1]
          (conv => whnf)
          rw [i64_nat (by omega)]
          refine IH2 (j + 1) ⟨by omega, fun d hd => ?_⟩ (by omega)
          rw [List.take_succ_eq_append_getElem hc2, List.mem_append, List.mem_singleton] at hd
          rcases hd with hd | rfl
          · exact hjo d hd
          · exact hm
        · rw [(hes _).2 hm]
          (conv => whnf)
          refine h 6 ?_
          unfold checkP
          rw [if_neg h64, if_neg (by rw [hchk]; simp), if_pos (depsOk_false hc hc2 hm)]
      · have hc2 := ge_of_decE hsl3 hc2
        rw [List.take_of_length_le hc2] at hjo
        (conv => whnf)
        rw [i64_nat (by omega)]
        refine IH (i + 1) ⟨by omega, fun n hn => ?_⟩ (by omega)
        rw [List.take_succ_eq_append_getElem hc, List.mem_append, List.mem_singleton] at hn
        rcases hn with hn | rfl
        · exact hdo n hn
        · exact hjo
    · have hc := ge_of_decE hsl hc
      rw [List.take_of_length_le hc] at hdo
      (conv => whnf)
      refine row_calls l hl' fun r hr => ?_
      have hrl := ints_length r
      have fin : checkP l = if r.length < l.length then 9 else 0 := by
        unfold checkP
        rw [if_neg h64, if_neg (by rw [hchk]; simp), if_neg (by rw [depsOk_true hdo]; simp), hr]
      (conv => whnf)
      rw [hrl, hsl]
      refine br_intro (fun g2 => ?_) (fun g2 => ?_)
      · (conv => whnf)
        exact h 9 (by rw [fin, if_pos (lt_of_dec g2)])
      · (conv => whnf)
        exact h 0 (by rw [fin, if_neg (by have := ge_of_dec g2; omega)])
end Go.Abs
end

section
/- The statement GraphChecks: the document's check, the order, the statement. -/
set_option maxRecDepth 100000
set_option linter.unusedVariables false
set_option linter.unusedSimpArgs false
namespace Go.Abs
open Go Go.Proofs
attribute [local irreducible] ibits byteAt strLt firstIdx

theorem refCheck_calls (l : List Nd) (hl : small l) {R} (h : ∀ e, e = checkP l → R (vi e) []) : ACalls Try.prog 60 [.sl none 4 (nds l)] [] R := by
  refine acalls_of_xwp (an := an60) tab_ok Try.func60 ?_
  have hl' := hl
  obtain ⟨hlen, hsm⟩ := hl
  have hsl := nds_length l
  (conv => whnf)
  refine br_intro (fun hc => ?_) (fun hc => ?_)
  · (conv => whnf)
    refine h 5 ?_
    have : 64 < l.length := by rw [hsl] at hc; simp at hc; omega
    simp [checkP, this]
  have h64 : ¬ 64 < l.length := by rw [hsl] at hc; simp at hc; omega
  have bad1 : ∀ e, e ≠ 0 → chk1 l [] = e → R (vi e) [] := fun e hb he => h _ (by unfold checkP; rw [if_neg h64, if_pos (by rw [he]; exact hb), he])
  (conv => whnf)
  refine LoopP.ind1 (fun (i : Nat) => [(3, vi i)]) (fun i => []) (fun i => l.length - i) (fun i => i ≤ l.length ∧ chk1 (l.drop i) (names (l.take i)) = chk1 l []) 0 rfl ⟨by omega, by simp [names]⟩ ?_
  rintro i ⟨h0, hch⟩ IH
  (conv => whnf)
  refine br_intro (fun hc => ?_) (fun hc => ?_)
  · have hc := lt_of_decE hsl hc
    obtain ⟨hs1, hs2, hs3⟩ := hsm _ (List.getElem_mem hc)
    rw [chk1_drop hc] at hch
    (conv => whnf); (repeat ((with_reducible refine must_intro ?_ ?_); exact decide_eq_true (by omega); (conv => whnf)))
    refine idxK_map_intro (show (i : Int).toNat < l.length by simpa using hc) ?_
    rw [show l[(i : Int).toNat]'(by simpa using hc) = l[i] from by congr 1]
    (conv => whnf)
    refine nPlace_calls (l.take i) l[i].name (by simp; omega) (by simp [nds, List.map_take]) fun p hp => ?_
    have hp : p = placeI (names (l.take i)) l[i].name := hp
    (conv => whnf)
    refine br_intro (fun hg => ?_) (fun hg => ?_)
    · have hm : l[i].name ∈ names (l.take i) := by
        have : 0 ≤ p := by simpa using hg
        rw [hp] at this
        exact Classical.byContradiction fun e => by have := placeI_neg.2 e; omega
      rw [if_pos hm] at hch
      (conv => whnf)
      exact bad1 1 (by omega) hch.symm
    · have hm : l[i].name ∉ names (l.take i) := by
        have : p < 0 := by simpa using hg
        rw [hp] at this
        exact placeI_neg.1 this
      rw [if_neg hm] at hch
      (conv => whnf); (repeat ((with_reducible refine must_intro ?_ ?_); exact decide_eq_true (by omega); (conv => whnf)))
      refine idxK_map_intro (show (i : Int).toNat < l.length by simpa using hc) ?_
      rw [show l[(i : Int).toNat]'(by simpa using hc) = l[i] from by congr 1]
      (conv => whnf)
      refine refOne_calls l[i] (by omega) fun e he => ?_
      rw [← he] at hch
      (conv => whnf)
      refine br_intro (fun g => ?_) (fun g => ?_)
      · have g : e ≠ 0 := by simpa using g
        rw [if_pos g] at hch
        (conv => whnf)
        exact bad1 e g hch.symm
      · have g : e = 0 := by simpa using g
        rw [if_neg (by rw [g]; simp), ← names_take hc] at hch
        (conv => whnf)
        rw [i64_nat (by omega)]
        exact IH (i + 1) ⟨by omega, hch⟩ (by omega)
  · have hc := ge_of_decE hsl hc
    rw [List.drop_eq_nil_of_le hc, chk1] at hch
    have hchk := hch.symm
    clear IH
    (conv => whnf)
    refine LoopP.ind1 (fun (i : Nat) => [(5, vi i)]) (fun _ => []) (fun i => l.length - i) (fun i => i ≤ l.length ∧ ∀ n ∈ l.take i, ∀ d ∈ n.deps, d ∈ names l) 0 rfl ⟨by omega, by simp⟩ ?_
    rintro i ⟨h0, hdo⟩ IH
    (conv => whnf)
    refine br_intro (fun hc => ?_) (fun hc => ?_)
    · have hc := lt_of_decE hsl hc
      have hsl3 := strs_length l[i].deps
      obtain ⟨hs1, hs2, hs3⟩ := hsm _ (List.getElem_mem hc)
      (conv => whnf)
      refine LoopP.ind1 (fun (j : Nat) => [(6, vi j)]) (fun _ => []) (fun j => l[i].deps.length - j) (fun j => j ≤ l[i].deps.length ∧ ∀ d ∈ l[i].deps.take j, d ∈ names l) 0 rfl ⟨by omega, by simp⟩ ?_
      rintro j ⟨hj0, hjo⟩ IH2
      (conv => whnf); (repeat ((with_reducible refine must_intro ?_ ?_); exact decide_eq_true (by omega); (conv => whnf)))
      refine idxK_map_intro (show (i : Int).toNat < l.length by simpa using hc) ?_
      rw [show l[(i : Int).toNat]'(by simpa using hc) = l[i] from by congr 1]
      (conv => whnf)
      refine br_intro (fun hc2 => ?_) (fun hc2 => ?_)
      · have hc2 := lt_of_decE hsl3 hc2
        (conv => whnf); (repeat ((with_reducible refine must_intro ?_ ?_); exact decide_eq_true (by omega); (conv => whnf)))
        refine idxK_map_intro (show (i : Int).toNat < l.length by simpa using hc) ?_
        rw [show l[(i : Int).toNat]'(by simpa using hc) = l[i] from by congr 1]
        (conv => whnf); (repeat ((with_reducible refine must_intro ?_ ?_); exact decide_eq_true (by omega); (conv => whnf)))
        refine idxK_map_intro (show (j : Int).toNat < l[i].deps.length by simpa using hc2) ?_
        rw [show l[i].deps[(j : Int).toNat]'(by simpa using hc2) = l[i].deps[j] from by congr 1]
        (conv => whnf)
        refine nPlace_calls l l[i].deps[j] (by omega) rfl fun p hp => ?_
        have hp : p = placeI (names l) l[i].deps[j] := hp
        (conv => whnf)
        refine br_intro (fun hg => ?_) (fun hg => ?_)
        · have hm : l[i].deps[j] ∉ names l := by
            have : p < 0 := by simpa using hg
            rw [hp] at this
            exact placeI_neg.1 this
          (conv => whnf)
          refine h 6 ?_
          unfold checkP
          rw [if_neg h64, if_neg (by rw [hchk]; simp), if_pos (depsOk_false hc hc2 hm)]
        · have hm : l[i].deps[j] ∈ names l := by
            have : 0 ≤ p := by simpa using hg
            rw [hp] at this
            exact Classical.byContradiction fun e => by have := placeI_neg.2 e; omega
          (conv => whnf)
          rw [i64_nat (by omega)]
          refine IH2 (j + 1) ⟨by omega, fun d hd => ?_⟩ (by omega)
          rw [List.take_succ_eq_append_getElem hc2, List.mem_append, List.mem_singleton] at hd
          rcases hd with hd | rfl
          · exact hjo d hd
          · exact hm
      · have hc2 := ge_of_decE hsl3 hc2
        rw [List.take_of_length_le hc2] at hjo
        (conv => whnf)
        rw [i64_nat (by omega)]
        refine IH (i + 1) ⟨by omega, fun n hn => ?_⟩ (by omega)
        rw [List.take_succ_eq_append_getElem hc, List.mem_append, List.mem_singleton] at hn
        rcases hn with hn | rfl
        · exact hdo n hn
        · exact hjo
    · have hc := ge_of_decE hsl hc
      rw [List.take_of_length_le hc] at hdo
      (conv => whnf)
      refine refRow_calls l hl' (chk1_nodup l [] hchk).1 fun r hr => ?_
      have hrl := ints_length r
      have fin : checkP l = if r.length < l.length then 9 else 0 := by
        unfold checkP
        rw [if_neg h64, if_neg (by rw [hchk]; simp), if_neg (by rw [depsOk_true hdo]; simp), hr]
      (conv => whnf)
      rw [hrl, hsl]
      refine br_intro (fun g2 => ?_) (fun g2 => ?_)
      · (conv => whnf)
        exact h 9 (by rw [fin, if_pos (lt_of_dec g2)])
      · (conv => whnf)
        exact h 0 (by rw [fin, if_neg (by have := ge_of_dec g2; omega)])

/-- The order, or none. -/
def orderP (l : List Nd) : List Nat := if checkP l = 0 then rowP l else []
theorem Order_calls (l : List Nd) (hl : small l) {R} (h : ∀ o e, o = orderP l → e = checkP l → R (.tup [.sl none 1 (ints o), vi e]) []) : ACalls Try.prog 43 [.sl none 4 (nds l)] [] R := by
  refine ACalls.res ?_
  refine acalls_of_xwp (an := an43) tab_ok Try.func43 ?_
  (conv => whnf)
  refine Check_calls l hl fun e he => ?_
  (conv => whnf)
  refine br_intro (fun g => ?_) (fun g => ?_)
  · have g : e ≠ 0 := by simpa using g
    (conv => whnf)
    refine res_le (le_tup (leL.cons (le_nil 1) (leL.cons (.refl _) leL.nil))) rfl (h [] e ?_ he)
    unfold orderP
    rw [← he, if_neg g]
  · have g : e = 0 := by simpa using g
    (conv => whnf)
    refine row_calls l hl fun r hr => ?_
    (conv => whnf)
    refine res_same ?_
    have := h r 0 (by unfold orderP; rw [← he, if_pos g, hr]) (by rw [← he, g])
    exact this

theorem Same_calls (a b : List Nat) (ha : a.length < 1000000) {R} (h : ∀ p, p = decide (a = b) → R (.val (.bool p)) []) : ACalls Try.prog 65 [.sl none 1 (ints a), .sl none 1 (ints b)] [] R := by
  refine acalls_of_xwp (an := an65) tab_ok Try.func65 ?_
  have hsa := ints_length a
  have hsb := ints_length b
  (conv => whnf)
  rw [hsa, hsb]
  refine br_intro (fun hc => ?_) (fun hc => ?_)
  · (conv => whnf)
    refine h false (decide_eq_false ?_).symm
    rintro rfl
    simp at hc
  have hlen : a.length = b.length := by simp at hc; omega
  (conv => whnf)
  refine LoopP.ind1 (fun (i : Nat) => [(5, vi i)]) (fun _ => []) (fun i => a.length - i) (fun i => i ≤ a.length ∧ a.take i = b.take i) 0 rfl ⟨by omega, by simp⟩ ?_
  rintro i ⟨h0, h1⟩ IH
  (conv => whnf)
  refine br_intro (fun hc => ?_) (fun hc => ?_)
  · have hc := lt_of_decE hsa hc
    have hcb : i < b.length := by omega
    (conv => whnf); (repeat ((with_reducible refine must_intro ?_ ?_); exact decide_eq_true (by omega); (conv => whnf)))
    refine idxK_map_intro (show (i : Int).toNat < a.length by simpa using hc) ?_
    rw [show a[(i : Int).toNat]'(by simpa using hc) = a[i] from by congr 1]
    (conv => whnf); (repeat ((with_reducible refine must_intro ?_ ?_); exact decide_eq_true (by omega); (conv => whnf)))
    refine idxK_map_intro (show (i : Int).toNat < b.length by simpa using hcb) ?_
    rw [show b[(i : Int).toNat]'(by simpa using hcb) = b[i] from by congr 1]
    (conv => whnf)
    refine br_intro (fun he => ?_) (fun he => ?_)
    · have he : ¬ ((a[i] : Nat) : Int) = ((b[i] : Nat) : Int) := by simpa using he
      have he : a[i] ≠ b[i] := fun e => he (by rw [e])
      (conv => whnf)
      refine h false (decide_eq_false ?_).symm
      rintro rfl
      exact he rfl
    · have he : ((a[i] : Nat) : Int) = ((b[i] : Nat) : Int) := by simpa using he
      have he : a[i] = b[i] := by omega
      (conv => whnf)
      rw [i64_nat (by omega)]
      refine IH (i + 1) ⟨by omega, ?_⟩ (by omega)
      rw [List.take_succ_eq_append_getElem hc, List.take_succ_eq_append_getElem hcb, h1, he]
  · have hc := ge_of_decE hsa hc
    rw [List.take_of_length_le hc, List.take_of_length_le (by omega)] at h1
    (conv => whnf)
    exact h true (decide_eq_true h1).symm

def fixNd : List Nd := [⟨[98], false, 0, [[97]]⟩, ⟨[97], true, 0, []⟩]
theorem fix_order : orderP fixNd = [1, 0] := by decide +kernel
theorem fix_check : checkP fixNd = 0 := by decide +kernel
theorem fix_small : small fixNd := by
  refine ⟨by decide, ?_⟩
  simp [fixNd]
theorem gfixed_calls {R} (h : R (.val (.bool true)) []) : ACalls Try.prog 40 [] [] R := by
  refine acalls_of_xwp (an := an40) tab_ok Try.func40 ?_
  (conv => whnf)
  refine ACalls.args ?_ (Order_calls fixNd fix_small fun o e ho he => ?_)
  · refine leL.cons (le_sl _ _ (leE.cons (leL.refl _) rfl (leE.cons ?_ rfl leE.nil))) leL.nil
    exact leL.cons (.refl _) (leL.cons (.refl _) (leL.cons (.refl _) (leL.cons (le_nil 1) leL.nil)))
  rw [fix_order] at ho
  rw [fix_check] at he
  subst ho he
  (conv => whnf)
  refine Same_calls [1, 0] [1, 0] (by simp) fun p hp => ?_
  have hp : p = true := by rw [hp]; decide
  subst hp
  (conv => whnf)
  exact h

/-- What is not too great is small. -/
theorem Great_calls (l : List Nd) (hl : l.length ≤ maxLen) (hn : ∀ n ∈ l, n.deps.length ≤ maxLen) {R} (h : ∀ b : Bool, (b = false → l.length ≤ 80 ∧ ∀ n ∈ l, n.deps.length ≤ 30 ∧ n.name.length ≤ 100 ∧ ∀ d ∈ n.deps, d.length ≤ 100) → R (.val (.bool b)) []) :
    ACalls Try.prog 34 [.sl none 4 (nds l)] [] R := by
  refine acalls_of_xwp (an := an34) tab_ok Try.func34 ?_
  have hsl := nds_length l
  have yes : R (.val (.bool true)) [] := h true (fun e => by cases e)
  (conv => whnf)
  refine LoopP.ind1 (fun (i : Nat) => [(9, vi i)]) (fun _ => []) (fun i => l.length - i) (fun i => i ≤ l.length ∧ ∀ n ∈ l.take i, n.deps.length ≤ 30 ∧ n.name.length ≤ 100 ∧ ∀ d ∈ n.deps, d.length ≤ 100) 0 rfl ⟨by omega, by simp⟩ ?_
  rintro i ⟨h0, hdo⟩ IH
  (conv => whnf)
  refine br_intro (fun hc => ?_) (fun hc => ?_)
  · have hc := lt_of_decE hsl hc
    have hsl3 := strs_length l[i].deps
    have hm := hn _ (List.getElem_mem hc)
    have hmx : maxLen ≤ 9223372036854775807 := by decide
    (conv => whnf); (repeat ((with_reducible refine must_intro ?_ ?_); exact decide_eq_true (by omega); (conv => whnf)))
    refine idxK_map_intro (show (i : Int).toNat < l.length by simpa using hc) ?_
    rw [show l[(i : Int).toNat]'(by simpa using hc) = l[i] from by congr 1]
    (conv => whnf)
    rw [hsl3]
    refine br_intro (fun g1 => ?_) (fun g1 => ?_)
    · (conv => whnf)
      exact yes
    have g1 : l[i].deps.length ≤ 30 := by simp at g1; omega
    have hsn := size_ofB l[i].name
    (conv => whnf)
    rw [hsn]
    refine br_intro (fun g2 => ?_) (fun g2 => ?_)
    · (conv => whnf)
      exact yes
    have g2 : l[i].name.length ≤ 100 := by simp at g2; omega
    (conv => whnf)
    refine LoopP.ind1 (fun (j : Nat) => [(26, vi j)]) (fun _ => []) (fun j => l[i].deps.length - j) (fun j => j ≤ l[i].deps.length ∧ ∀ d ∈ l[i].deps.take j, d.length ≤ 100) 0 rfl ⟨by omega, by simp⟩ ?_
    rintro j ⟨hj0, hjo⟩ IH2
    (conv => whnf)
    refine br_intro (fun hc2 => ?_) (fun hc2 => ?_)
    · have hc2 := lt_of_decE hsl3 hc2
      (conv => whnf); (repeat ((with_reducible refine must_intro ?_ ?_); exact decide_eq_true (by omega); (conv => whnf)))
      refine idxK_map_intro (show (j : Int).toNat < l[i].deps.length by simpa using hc2) ?_
      rw [show l[i].deps[(j : Int).toNat]'(by simpa using hc2) = l[i].deps[j] from by congr 1]
      have hsd := size_ofB l[i].deps[j]
      (conv => whnf)
      rw [hsd]
      refine br_intro (fun g3 => ?_) (fun g3 => ?_)
      · (conv => whnf)
        exact yes
      have g3 : l[i].deps[j].length ≤ 100 := by simp at g3; omega
      (conv => whnf)
      rw [i64_nat (by omega)]
      refine IH2 (j + 1) ⟨by omega, fun d hd => ?_⟩ (by omega)
      rw [List.take_succ_eq_append_getElem hc2, List.mem_append, List.mem_singleton] at hd
      rcases hd with hd | rfl
      · exact hjo d hd
      · exact g3
    · have hc2 := ge_of_decE hsl3 hc2
      rw [List.take_of_length_le hc2] at hjo
      (conv => whnf)
      rw [wrap_i64 (by omega) (by omega), show ((i : Int) + 1) = ((i + 1 : Nat) : Int) by omega]
      refine IH (i + 1) ⟨by omega, fun n hn => ?_⟩ (by omega)
      rw [List.take_succ_eq_append_getElem hc, List.mem_append, List.mem_singleton] at hn
      rcases hn with hn | rfl
      · exact hdo n hn
      · exact ⟨g1, g2, hjo⟩
  · have hc := ge_of_decE hsl hc
    rw [List.take_of_length_le hc] at hdo
    (conv => whnf)
    rw [hsl]
    refine h _ fun e => ⟨?_, hdo⟩
    simp at e
    omega

theorem typed_strs {n : Nat} {l : List (List AV)} (h : ∀ x ∈ l, Typed tab (n + 1) 9 x) : ∃ m : List B, l = strs m := by
  induction l with
  | nil => exact ⟨[], rfl⟩
  | cons x l ih =>
    obtain ⟨m, rfl⟩ := ih fun y hy => h y (by simp [hy])
    obtain ⟨s, rfl, hs⟩ : ∃ s : ByteArray, x = [.val (.string s)] ∧ s.size ≤ maxLen := h x (by simp)
    exact ⟨bs s :: m, by simp only [strs, List.map_cons, vs, ofB_bs]⟩
theorem typed_node {n : Nat} {x : List AV} (h : Typed tab (n + 3) 44 x) : ∃ nd : Nd, x = nd.enc ∧ nd.deps.length ≤ maxLen := by
  obtain ⟨a1, r1, rfl, ⟨s, rfl, hs⟩, a2, r2, rfl, ⟨b, rfl⟩, a3, r3, rfl, ⟨u, rfl, hu⟩, a4, r4, rfl, ⟨l, rfl, hl, hx⟩, rfl⟩ : ∃ a r, x = a ++ r ∧ (∃ s : ByteArray, a = [.val (.string s)] ∧ s.size ≤ maxLen) ∧
      ∃ a r', r = a ++ r' ∧ (∃ b, a = [.val (.bool b)]) ∧ ∃ a r'', r' = a ++ r'' ∧ (∃ y, a = [.val (.int .u64 y)] ∧ (Lit.int .u64 y).wf = true) ∧
      ∃ a r''', r'' = a ++ r''' ∧ (∃ l : List (List AV), a = [.sl none 1 l] ∧ l.length ≤ maxLen ∧ ∀ x ∈ l, Typed tab (n + 1) 9 x) ∧ r''' = [] := h
  obtain ⟨m, rfl⟩ := typed_strs hx
  refine ⟨⟨bs s, b, BitVec.ofInt 64 u, m⟩, ?_, by simpa [strs] using hl⟩
  simp only [Nd.enc, vs, ofB_bs, uv, List.cons_append, List.nil_append]
  rw [← wf_u64 hu]
theorem typed_nodes {n : Nat} {l : List (List AV)} (h : ∀ x ∈ l, Typed tab (n + 3) 44 x) : ∃ m : List Nd, l = nds m ∧ ∀ nd ∈ m, nd.deps.length ≤ maxLen := by
  induction l with
  | nil => exact ⟨[], rfl, by simp⟩
  | cons x l ih =>
    obtain ⟨m, rfl, hm⟩ := ih fun y hy => h y (by simp [hy])
    obtain ⟨nd, rfl, hn⟩ := typed_node (h x (by simp))
    exact ⟨nd :: m, rfl, by
      intro y hy
      rw [List.mem_cons] at hy
      rcases hy with rfl | hy
      · exact hn
      · exact hm y hy⟩
theorem args_nodes {ts : List TypeId} {l : List AV} (h : Args tab 12 (53 :: ts) l) : ∃ (x : List Nd) (l' : List AV), l = .sl none 4 (nds x) :: l' ∧ x.length ≤ maxLen ∧ (∀ n ∈ x, n.deps.length ≤ maxLen) ∧ Args tab 12 ts l' := by
  obtain ⟨a, l', rfl, h1, h2⟩ := h
  obtain ⟨x, e, hl, hx⟩ : ∃ x : List (List AV), [a] = [.sl none 4 x] ∧ x.length ≤ maxLen ∧ ∀ y ∈ x, Typed tab 11 44 y := h1
  obtain ⟨m, rfl, hm⟩ := typed_nodes (n := 8) hx
  simp only [List.cons.injEq, and_true] at e
  subst e
  exact ⟨m, l', rfl, by simpa [nds] using hl, hm, h2⟩
theorem args_node {ts : List TypeId} {l : List AV} (h : Args tab 12 (44 :: ts) l) : ∃ (x : Nd) (l' : List AV), l = .agg x.enc :: l' ∧ x.deps.length ≤ maxLen ∧ Args tab 12 ts l' := by
  obtain ⟨a, l', rfl, h1, h2⟩ := h
  obtain ⟨x, rfl, hx⟩ : ∃ x, a = .agg x ∧ Typed tab 12 44 x := h1
  obtain ⟨n, rfl, hn⟩ := typed_node (n := 9) hx
  exact ⟨n, l', rfl, hn, h2⟩
end Go.Abs
end

section
/- Records: their cells; the document's Same; Great. -/
set_option maxRecDepth 100000
set_option linter.unusedVariables false
set_option linter.unusedSimpArgs false
namespace Go.Abs
open Go Go.Proofs Dig
attribute [local irreducible] ibits byteAt strLt firstIdx

structure Dp where
  name : B
  hash : U
  order : Bool
  deriving DecidableEq
def Dp.enc (d : Dp) : List AV := [vs d.name, uv d.hash, .val (.bool d.order)]
def dpsA (l : List Dp) : List (List AV) := l.map Dp.enc
theorem dpsA_length (l : List Dp) : (dpsA l).length = l.length := by simp [dpsA]
structure Rc where
  kind : Int
  target : B
  rule : U
  deps : List Dp
  out : U
  wen : U
  tag : B
  deriving DecidableEq
def Rc.enc (r : Rc) : List AV := [vi r.kind, vs r.target, uv r.rule, .sl none 3 (dpsA r.deps), uv r.out, uv r.wen, vs r.tag]
def recs (l : List Rc) : List (List AV) := l.map Rc.enc
theorem recs_length (l : List Rc) : (recs l).length = l.length := by simp [recs]

theorem Same8_calls (a b : Rc) (ha : a.deps.length < 1000000) {R} (h : ∀ p, p = decide (a = b) → R (.val (.bool p)) []) : ACalls Try.prog 27 [.agg a.enc, .agg b.enc] [] R := by
  refine acalls_of_xwp (an := an27) tab_ok Try.func27 ?_
  have hsa := dpsA_length a.deps
  have hsb := dpsA_length b.deps
  have no : a ≠ b → R (.val (.bool false)) [] := fun e => h false (decide_eq_false e).symm
  (conv => whnf)
  refine br_intro (fun g1 => ?_) (fun g1 => ?_)
  · (conv => whnf)
    exact no (by rintro rfl; simp at g1)
  (conv => whnf)
  refine br_intro (fun g2 => ?_) (fun g2 => ?_)
  · (conv => whnf)
    exact no (by rintro rfl; simp at g2)
  (conv => whnf)
  refine br_intro (fun g3 => ?_) (fun g3 => ?_)
  · (conv => whnf)
    exact no (by rintro rfl; simp at g3)
  (conv => whnf)
  refine br_intro (fun g4 => ?_) (fun g4 => ?_)
  · (conv => whnf)
    exact no (by rintro rfl; simp at g4)
  (conv => whnf)
  refine br_intro (fun g5 => ?_) (fun g5 => ?_)
  · (conv => whnf)
    exact no (by rintro rfl; simp at g5)
  (conv => whnf)
  refine br_intro (fun g6 => ?_) (fun g6 => ?_)
  · (conv => whnf)
    exact no (by rintro rfl; simp at g6)
  (conv => whnf)
  refine br_intro (fun g7 => ?_) (fun g7 => ?_)
  · (conv => whnf)
    exact no (by rintro rfl; simp at g7)
  have g7 : a.deps.length = b.deps.length := by rw [hsa, hsb] at g7; simp at g7; omega
  (conv => whnf)
  refine LoopP.ind1 (fun (i : Nat) => [(5, vi i)]) (fun _ => []) (fun i => a.deps.length - i) (fun i => i ≤ a.deps.length ∧ a.deps.take i = b.deps.take i) 0 rfl ⟨by omega, by simp⟩ ?_
  rintro i ⟨h0, h1⟩ IH
  (conv => whnf)
  refine br_intro (fun hc => ?_) (fun hc => ?_)
  · have hc := lt_of_decE hsa hc
    have hcb : i < b.deps.length := by omega
    have nox : a.deps[i] ≠ b.deps[i] → R (.val (.bool false)) [] := fun e => no fun hab => by subst hab; exact e rfl
    (conv => whnf); (repeat ((with_reducible refine must_intro ?_ ?_); exact decide_eq_true (by omega); (conv => whnf)))
    refine idxK_map_intro (show (i : Int).toNat < a.deps.length by simpa using hc) ?_
    rw [show a.deps[(i : Int).toNat]'(by simpa using hc) = a.deps[i] from by congr 1]
    (conv => whnf); (repeat ((with_reducible refine must_intro ?_ ?_); exact decide_eq_true (by omega); (conv => whnf)))
    refine idxK_map_intro (show (i : Int).toNat < b.deps.length by simpa using hcb) ?_
    rw [show b.deps[(i : Int).toNat]'(by simpa using hcb) = b.deps[i] from by congr 1]
    (conv => whnf)
    refine br_intro (fun e1 => ?_) (fun e1 => ?_)
    · (conv => whnf)
      exact nox (fun e => by rw [e] at e1; simp at e1)
    (conv => whnf); (repeat ((with_reducible refine must_intro ?_ ?_); exact decide_eq_true (by omega); (conv => whnf)))
    refine idxK_map_intro (show (i : Int).toNat < a.deps.length by simpa using hc) ?_
    rw [show a.deps[(i : Int).toNat]'(by simpa using hc) = a.deps[i] from by congr 1]
    (conv => whnf); (repeat ((with_reducible refine must_intro ?_ ?_); exact decide_eq_true (by omega); (conv => whnf)))
    refine idxK_map_intro (show (i : Int).toNat < b.deps.length by simpa using hcb) ?_
    rw [show b.deps[(i : Int).toNat]'(by simpa using hcb) = b.deps[i] from by congr 1]
    (conv => whnf)
    refine br_intro (fun e2 => ?_) (fun e2 => ?_)
    · (conv => whnf)
      exact nox (fun e => by rw [e] at e2; simp at e2)
    (conv => whnf); (repeat ((with_reducible refine must_intro ?_ ?_); exact decide_eq_true (by omega); (conv => whnf)))
    refine idxK_map_intro (show (i : Int).toNat < a.deps.length by simpa using hc) ?_
    rw [show a.deps[(i : Int).toNat]'(by simpa using hc) = a.deps[i] from by congr 1]
    (conv => whnf); (repeat ((with_reducible refine must_intro ?_ ?_); exact decide_eq_true (by omega); (conv => whnf)))
    refine idxK_map_intro (show (i : Int).toNat < b.deps.length by simpa using hcb) ?_
    rw [show b.deps[(i : Int).toNat]'(by simpa using hcb) = b.deps[i] from by congr 1]
    (conv => whnf)
    refine br_intro (fun e3 => ?_) (fun e3 => ?_)
    · (conv => whnf)
      exact nox (fun e => by rw [e] at e3; simp at e3)
    have ee : a.deps[i] = b.deps[i] := by
      have q1 : a.deps[i].name = b.deps[i].name := by simpa [ofB_eq] using e1
      have q2 : a.deps[i].hash = b.deps[i].hash := by
        have : (a.deps[i].hash.toNat : Int) = b.deps[i].hash.toNat := by simpa using e2
        exact BitVec.eq_of_toNat_eq (by omega)
      have q3 : a.deps[i].order = b.deps[i].order := by simpa using e3
      cases hx : a.deps[i]; cases hy : b.deps[i]
      rw [hx, hy] at q1 q2 q3
      simp at q1 q2 q3
      simp [q1, q2, q3]
    (conv => whnf)
    rw [i64_nat (by omega)]
    refine IH (i + 1) ⟨by omega, ?_⟩ (by omega)
    rw [List.take_succ_eq_append_getElem hc, List.take_succ_eq_append_getElem hcb, h1, ee]
  · have hc := ge_of_decE hsa hc
    rw [List.take_of_length_le hc, List.take_of_length_le (by omega)] at h1
    (conv => whnf)
    refine h true (decide_eq_true ?_).symm
    have uq : ∀ {x y : U}, (!((x.toNat : Int) == y.toNat)) = false → x = y := fun {x y} h => by
      have : (x.toNat : Int) = y.toNat := by simpa using h
      exact BitVec.eq_of_toNat_eq (by omega)
    have q1 : a.kind = b.kind := by simpa using g1
    have q2 : a.target = b.target := by simpa [ofB_eq] using g2
    have q3 : a.rule = b.rule := by
      have : (a.rule.toNat : Int) = b.rule.toNat := by simpa using g3
      exact BitVec.eq_of_toNat_eq (by omega)
    have q4 : a.out = b.out := by
      have : (a.out.toNat : Int) = b.out.toNat := by simpa using g4
      exact BitVec.eq_of_toNat_eq (by omega)
    have q5 : a.wen = b.wen := by
      have : (a.wen.toNat : Int) = b.wen.toNat := by simpa using g5
      exact BitVec.eq_of_toNat_eq (by omega)
    have q6 : a.tag = b.tag := by simpa [ofB_eq] using g6
    cases a; cases b
    simp_all

theorem Great8_calls (r : Rc) (hr : r.deps.length ≤ maxLen) {R} (h : ∀ b : Bool, (b = false → r.deps.length ≤ 60 ∧ r.target.length ≤ 300 ∧ r.tag.length ≤ 300 ∧ ∀ d ∈ r.deps, d.name.length ≤ 300) → R (.val (.bool b)) []) :
    ACalls Try.prog 20 [.agg r.enc] [] R := by
  refine acalls_of_xwp (an := an20) tab_ok Try.func20 ?_
  have hsl := dpsA_length r.deps
  have hmx : maxLen ≤ 9223372036854775807 := by decide
  have yes : R (.val (.bool true)) [] := h true (fun e => by cases e)
  (conv => whnf)
  refine LoopP.ind1 (fun (i : Nat) => [(8, vi i)]) (fun _ => []) (fun i => r.deps.length - i) (fun i => i ≤ r.deps.length ∧ ∀ d ∈ r.deps.take i, d.name.length ≤ 300) 0 rfl ⟨by omega, by simp⟩ ?_
  rintro i ⟨h0, hdo⟩ IH
  (conv => whnf)
  refine br_intro (fun hc => ?_) (fun hc => ?_)
  · have hc := lt_of_decE hsl hc
    (conv => whnf); (repeat ((with_reducible refine must_intro ?_ ?_); exact decide_eq_true (by omega); (conv => whnf)))
    refine idxK_map_intro (show (i : Int).toNat < r.deps.length by simpa using hc) ?_
    rw [show r.deps[(i : Int).toNat]'(by simpa using hc) = r.deps[i] from by congr 1]
    have hsn := size_ofB r.deps[i].name
    (conv => whnf)
    rw [hsn]
    refine br_intro (fun g => ?_) (fun g => ?_)
    · (conv => whnf)
      exact yes
    have g : r.deps[i].name.length ≤ 300 := by simp at g; omega
    (conv => whnf)
    rw [wrap_i64 (by omega) (by omega), show ((i : Int) + 1) = ((i + 1 : Nat) : Int) by omega]
    refine IH (i + 1) ⟨by omega, fun d hd => ?_⟩ (by omega)
    rw [List.take_succ_eq_append_getElem hc, List.mem_append, List.mem_singleton] at hd
    rcases hd with hd | rfl
    · exact hdo d hd
    · exact g
  · have hc := ge_of_decE hsl hc
    rw [List.take_of_length_le hc] at hdo
    have hst := size_ofB r.target
    have hsg := size_ofB r.tag
    (conv => whnf)
    rw [hsl]
    refine br_intro (fun g1 => ?_) (fun g1 => ?_)
    · (conv => whnf)
      exact yes
    have g1 : r.deps.length ≤ 60 := by simp at g1; omega
    (conv => whnf)
    rw [hst]
    refine br_intro (fun g2 => ?_) (fun g2 => ?_)
    · (conv => whnf)
      exact yes
    have g2 : r.target.length ≤ 300 := by simp at g2; omega
    (conv => whnf)
    rw [hsg]
    refine h _ fun e => ⟨g1, g2, ?_, hdo⟩
    simp at e
    omega

theorem Great10_calls (l : List Rc) (hl : l.length ≤ maxLen) (hn : ∀ r ∈ l, r.deps.length ≤ maxLen) {R} (h : ∀ b : Bool, (b = false → l.length ≤ 30 ∧ ∀ r ∈ l, r.deps.length ≤ 60 ∧ r.target.length ≤ 300 ∧ r.tag.length ≤ 300 ∧ ∀ d ∈ r.deps, d.name.length ≤ 300) → R (.val (.bool b)) []) :
    ACalls Try.prog 13 [.sl none 7 (recs l)] [] R := by
  refine acalls_of_xwp (an := an13) tab_ok Try.func13 ?_
  have hsl := recs_length l
  have hmx : maxLen ≤ 9223372036854775807 := by decide
  have yes : R (.val (.bool true)) [] := h true (fun e => by cases e)
  (conv => whnf)
  refine LoopP.ind1 (fun (i : Nat) => [(7, vi i)]) (fun _ => []) (fun i => l.length - i) (fun i => i ≤ l.length ∧ ∀ r ∈ l.take i, r.deps.length ≤ 60 ∧ r.target.length ≤ 300 ∧ r.tag.length ≤ 300 ∧ ∀ d ∈ r.deps, d.name.length ≤ 300) 0 rfl ⟨by omega, by simp⟩ ?_
  rintro i ⟨h0, hdo⟩ IH
  (conv => whnf)
  refine br_intro (fun hc => ?_) (fun hc => ?_)
  · have hc := lt_of_decE hsl hc
    (conv => whnf); (repeat ((with_reducible refine must_intro ?_ ?_); exact decide_eq_true (by omega); (conv => whnf)))
    refine idxK_map_intro (show (i : Int).toNat < l.length by simpa using hc) ?_
    rw [show l[(i : Int).toNat]'(by simpa using hc) = l[i] from by congr 1]
    (conv => whnf)
    refine Great8_calls l[i] (hn _ (List.getElem_mem hc)) fun b hb => ?_
    (conv => whnf)
    refine br_intro (fun g => ?_) (fun g => ?_)
    · (conv => whnf)
      exact yes
    (conv => whnf)
    rw [wrap_i64 (by omega) (by omega), show ((i : Int) + 1) = ((i + 1 : Nat) : Int) by omega]
    refine IH (i + 1) ⟨by omega, fun d hd => ?_⟩ (by omega)
    rw [List.take_succ_eq_append_getElem hc, List.mem_append, List.mem_singleton] at hd
    rcases hd with hd | rfl
    · exact hdo d hd
    · exact hb g
  · have hc := ge_of_decE hsl hc
    rw [List.take_of_length_le hc] at hdo
    (conv => whnf)
    rw [hsl]
    refine h _ fun e => ⟨?_, hdo⟩
    simp at e
    omega

theorem typed_dep {n : Nat} {x : List AV} (h : Typed tab (n + 3) 35 x) : ∃ d : Dp, x = d.enc := by
  obtain ⟨a1, r1, rfl, ⟨s, rfl, hs⟩, a2, r2, rfl, ⟨u, rfl, hu⟩, a3, r3, rfl, ⟨b, rfl⟩, rfl⟩ : ∃ a r, x = a ++ r ∧ (∃ s : ByteArray, a = [.val (.string s)] ∧ s.size ≤ maxLen) ∧
      ∃ a r', r = a ++ r' ∧ (∃ y, a = [.val (.int .u64 y)] ∧ (Lit.int .u64 y).wf = true) ∧ ∃ a r'', r' = a ++ r'' ∧ (∃ b, a = [.val (.bool b)]) ∧ r'' = [] := h
  refine ⟨⟨bs s, BitVec.ofInt 64 u, b⟩, ?_⟩
  simp only [Dp.enc, vs, ofB_bs, uv, List.cons_append, List.nil_append]
  rw [← wf_u64 hu]
theorem typed_deps {n : Nat} {l : List (List AV)} (h : ∀ x ∈ l, Typed tab (n + 3) 35 x) : ∃ m : List Dp, l = dpsA m := by
  induction l with
  | nil => exact ⟨[], rfl⟩
  | cons x l ih =>
    obtain ⟨m, rfl⟩ := ih fun y hy => h y (by simp [hy])
    obtain ⟨d, rfl⟩ := typed_dep (h x (by simp))
    exact ⟨d :: m, rfl⟩
theorem typed_rec {n : Nat} {x : List AV} (h : Typed tab (n + 6) 29 x) : ∃ r : Rc, x = r.enc ∧ r.deps.length ≤ maxLen ∧ (Lit.int .i64 r.kind).wf = true := by
  obtain ⟨a0, r0, rfl, ⟨k, rfl, hk⟩, a1, r1, rfl, ⟨s, rfl, hs⟩, a2, r2, rfl, ⟨u, rfl, hu⟩, a3, r3, rfl, ⟨l, rfl, hl, hx⟩, a4, r4, rfl, ⟨o, rfl, ho⟩, a5, r5, rfl, ⟨w, rfl, hw⟩, a6, r6, rfl, ⟨t, rfl, ht⟩, rfl⟩ :
      ∃ a r, x = a ++ r ∧ (∃ y, a = [.val (.int .i64 y)] ∧ (Lit.int .i64 y).wf = true) ∧ ∃ a r', r = a ++ r' ∧ (∃ s : ByteArray, a = [.val (.string s)] ∧ s.size ≤ maxLen) ∧
      ∃ a r'', r' = a ++ r'' ∧ (∃ y, a = [.val (.int .u64 y)] ∧ (Lit.int .u64 y).wf = true) ∧
      ∃ a r3, r'' = a ++ r3 ∧ (∃ l : List (List AV), a = [.sl none 3 l] ∧ l.length ≤ maxLen ∧ ∀ x ∈ l, Typed tab (n + 4) 35 x) ∧
      ∃ a r4, r3 = a ++ r4 ∧ (∃ y, a = [.val (.int .u64 y)] ∧ (Lit.int .u64 y).wf = true) ∧
      ∃ a r5, r4 = a ++ r5 ∧ (∃ y, a = [.val (.int .u64 y)] ∧ (Lit.int .u64 y).wf = true) ∧
      ∃ a r6, r5 = a ++ r6 ∧ (∃ s : ByteArray, a = [.val (.string s)] ∧ s.size ≤ maxLen) ∧ r6 = [] := h
  obtain ⟨m, rfl⟩ := typed_deps (n := n + 1) hx
  refine ⟨⟨k, bs s, BitVec.ofInt 64 u, m, BitVec.ofInt 64 o, BitVec.ofInt 64 w, bs t⟩, ?_, by simpa [dpsA] using hl, hk⟩
  simp only [Rc.enc, vs, vi, ofB_bs, uv, List.cons_append, List.nil_append]
  rw [← wf_u64 hu, ← wf_u64 ho, ← wf_u64 hw]
theorem typed_recs {n : Nat} {l : List (List AV)} (h : ∀ x ∈ l, Typed tab (n + 6) 29 x) : ∃ m : List Rc, l = recs m ∧ ∀ r ∈ m, r.deps.length ≤ maxLen := by
  induction l with
  | nil => exact ⟨[], rfl, by simp⟩
  | cons x l ih =>
    obtain ⟨m, rfl, hm⟩ := ih fun y hy => h y (by simp [hy])
    obtain ⟨r, rfl, hr, _⟩ := typed_rec (h x (by simp))
    exact ⟨r :: m, rfl, by
      intro y hy
      rw [List.mem_cons] at hy
      rcases hy with rfl | hy
      · exact hr
      · exact hm y hy⟩
theorem args_recs {ts : List TypeId} {l : List AV} (h : Args tab 12 (22 :: ts) l) : ∃ (x : List Rc) (l' : List AV), l = .sl none 7 (recs x) :: l' ∧ x.length ≤ maxLen ∧ (∀ r ∈ x, r.deps.length ≤ maxLen) ∧ Args tab 12 ts l' := by
  obtain ⟨a, l', rfl, h1, h2⟩ := h
  obtain ⟨x, e, hl, hx⟩ : ∃ x : List (List AV), [a] = [.sl none 7 x] ∧ x.length ≤ maxLen ∧ ∀ y ∈ x, Typed tab 11 29 y := h1
  obtain ⟨m, rfl, hm⟩ := typed_recs (n := 5) hx
  simp only [List.cons.injEq, and_true] at e
  subst e
  exact ⟨m, l', rfl, by simpa [recs] using hl, hm, h2⟩
end Go.Abs
end

section
/- dirty.Trace, Hashes, and the document's. -/
set_option maxRecDepth 100000
set_option linter.unusedVariables false
set_option linter.unusedSimpArgs false
namespace Go.Abs
open Go Go.Proofs Dig
attribute [local irreducible] ibits byteAt strLt firstIdx

theorem nums_len (l : List U) : (nums l).length = l.length := by simp [nums]
def depsOf : List B → List U → List Dp
  | n :: ns, h :: hs => ⟨n, h, false⟩ :: depsOf ns hs
  | _, _ => []
theorem depsOf_length {ns : List B} {hs : List U} (h : hs.length = ns.length) : (depsOf ns hs).length = ns.length := by
  induction ns generalizing hs with
  | nil => rfl
  | cons n ns ih =>
    cases hs with
    | nil => simp at h
    | cons x hs => simp [depsOf, ih (by simpa using h)]
theorem depsOf_take {ns : List B} {hs : List U} (h : hs.length = ns.length) {i : Nat} (hi : i < ns.length) :
    depsOf (ns.take (i + 1)) (hs.take (i + 1)) = depsOf (ns.take i) (hs.take i) ++ [⟨ns[i], hs[i], false⟩] := by
  induction ns generalizing hs i with
  | nil => simp at hi
  | cons n ns ih =>
    cases hs with
    | nil => simp at h
    | cons x hs =>
      cases i with
      | zero => simp [depsOf]
      | succ i => simp [depsOf, ih (hs := hs) (i := i) (by simpa using h) (by simpa using hi)]
def zeroR : Rc := ⟨0, [], 0, [], 0, 0, []⟩
def traceBad (n : Nd) (hs : List U) : Bool := n.source || decide (hs.length ≠ n.deps.length)
def traceP (n : Nd) (hs : List U) (c w : U) : Rc := if traceBad n hs = true then zeroR else ⟨1, n.name, n.rule, depsOf n.deps hs, dig c, w, []⟩
def traceE (n : Nd) (hs : List U) : Int := if traceBad n hs = true then 1 else 0
theorem le_zeroR : leL [.val (.int .i64 0), .val (.string ⟨#[]⟩), .val (.int .u64 0), .val (.slice none 0 0), .val (.int .u64 0), .val (.int .u64 0), .val (.string ⟨#[]⟩)] zeroR.enc :=
  leL.cons (.refl _) (leL.cons (.refl _) (leL.cons (.refl _) (leL.cons (le_nil 3) (leL.refl _))))

theorem Trace_calls (n : Nd) (hn : n.deps.length < 1000000) (hs : List U) (c w : U) {R} (h : ∀ r e, r = traceP n hs c w → e = traceE n hs → R (.tup [.agg r.enc, vi e]) []) :
    ACalls Try.prog 32 [.agg n.enc, .sl none 1 (nums hs), uv c, uv w] [] R := by
  refine ACalls.res ?_
  refine acalls_of_xwp (an := an32) tab_ok Try.func32 ?_
  have hsd := strs_length n.deps
  have hsh := nums_len hs
  have bad : traceBad n hs = true → ∃ r', AV.le (.tup [.agg [.val (.int .i64 0), .val (.string ⟨#[]⟩), .val (.int .u64 0), .val (.slice none 0 0), .val (.int .u64 0), .val (.int .u64 0), .val (.string ⟨#[]⟩)], vi 1]) r' ∧ (∀ m ∈ r'.names, m ∈ (AV.tup [.agg [.val (.int .i64 0), .val (.string ⟨#[]⟩), .val (.int .u64 0), .val (.slice none 0 0), .val (.int .u64 0), .val (.int .u64 0), .val (.string ⟨#[]⟩)], vi 1]).names) ∧ R r' [] := fun hb =>
    res_le (le_tup (leL.cons (le_agg le_zeroR) (leL.refl _))) rfl (h zeroR 1 (by rw [traceP, if_pos hb]) (by rw [traceE, if_pos hb]))
  (conv => whnf)
  refine br_intro (fun g1 => ?_) (fun g1 => ?_)
  · (conv => whnf)
    exact bad (by rw [traceBad, g1]; rfl)
  (conv => whnf)
  rw [hsh, hsd]
  refine br_intro (fun g2 => ?_) (fun g2 => ?_)
  · (conv => whnf)
    exact bad (by rw [traceBad, g1, Bool.false_or]; simp at g2; simp; omega)
  have g2 : hs.length = n.deps.length := by simp at g2; omega
  have hbad : traceBad n hs = false := by rw [traceBad, g1, Bool.false_or]; simp [g2]
  (conv => whnf)
  refine Of_calls c fun d hd => ?_
  (conv => whnf)
  refine LoopP.step ?_
  (conv => whnf)
  have hn0 : ∀ {i : Nat}, i < hs.length → i < n.deps.length := fun hi => by omega
  have done : ∀ ds, ds = depsOf n.deps hs → R (.tup [.agg [vi 1, vs n.name, uv n.rule, .sl none 3 (dpsA ds), uv d, uv w, vs []], vi 0]) [] := fun ds hds =>
    h ⟨1, n.name, n.rule, ds, d, w, []⟩ 0 (by rw [traceP, hbad, hds, hd]; rfl) (by rw [traceE, hbad]; rfl)
  refine br_intro (fun hc => ?_) (fun hc => ?_)
  · have hc : 0 < hs.length := lt_of_decE (i := 0) hsh hc
    have hc' := hn0 hc
    (conv => whnf); (repeat ((with_reducible refine must_intro ?_ ?_); exact decide_eq_true (by omega); (conv => whnf)))
    refine idxK_map_intro (show (0 : Int).toNat < hs.length by simpa using hc) ?_
    rw [show hs[(0 : Int).toNat]'(by simpa using hc) = hs[0] from by congr 1]
    (conv => whnf); (repeat ((with_reducible refine must_intro ?_ ?_); exact decide_eq_true (by omega); (conv => whnf)))
    refine idxK_map_intro (show (0 : Int).toNat < n.deps.length by simpa using hc') ?_
    rw [show n.deps[(0 : Int).toNat]'(by simpa using hc') = n.deps[0] from by congr 1]
    (conv => whnf)
    refine ⟨(show 1 * (32 + 1) ≤ 140737488355328 by decide), ?_⟩
    (conv => whnf)
    refine LoopP.ind2 (fun (i : Nat) (ds : List Dp) => [(34, vi i)])
      (fun i ds => [(nameOf 8, .cells 29 [.val (.int .i64 0), .val (.string ⟨#[]⟩), .val (.int .u64 0), .val (.slice none 0 0), .val (.int .u64 0), .val (.int .u64 0), .val (.string ⟨#[]⟩)]),
        (nameOf 10, .cells 29 [vi 1, vs n.name, uv n.rule, .sl (some (nameOf 49)) 3 (dpsA ds), uv d, uv w, vs []]), (nameOf 49, .row 35 3 ds.length)])
      (fun i _ => hs.length - i) (fun i ds => i ≤ hs.length ∧ ds = depsOf (n.deps.take i) (hs.take i)) 1 [⟨n.deps[0], hs[0], false⟩] rfl ⟨by omega, ?_⟩ ?_
    · rw [depsOf_take g2 hc']; rfl
    rintro i ds ⟨h0, hds⟩ IH
    have hdl := dpsA_length ds
    have hdi : ds.length = i := by rw [hds, depsOf_length (by simp; omega)]; simp; omega
    (conv => whnf)
    refine br_intro (fun hc => ?_) (fun hc => ?_)
    · have hc := lt_of_decE hsh hc
      have hc' := hn0 hc
      (conv => whnf); (repeat ((with_reducible refine must_intro ?_ ?_); exact decide_eq_true (by omega); (conv => whnf)))
      refine idxK_map_intro (show (i : Int).toNat < hs.length by simpa using hc) ?_
      rw [show hs[(i : Int).toNat]'(by simpa using hc) = hs[i] from by congr 1]
      (conv => whnf); (repeat ((with_reducible refine must_intro ?_ ?_); exact decide_eq_true (by omega); (conv => whnf)))
      refine idxK_map_intro (show (i : Int).toNat < n.deps.length by simpa using hc') ?_
      rw [show n.deps[(i : Int).toNat]'(by simpa using hc') = n.deps[i] from by congr 1]
      (conv => whnf)
      refine ⟨hdl.symm, (by rw [hdl]; show (ds.length + 1) * (32 + 1) ≤ _; omega), ?_⟩
      (conv => whnf)
      have e1 : dpsA ds ++ [[AV.val (Value.string (ofB n.deps[i])), AV.val (Value.int IntKind.u64 (hs[i].toNat : Int)), AV.val (Value.bool false)]] = dpsA (ds ++ [⟨n.deps[i], hs[i], false⟩]) := by simp [dpsA, Dp.enc, vs, uv]
      have e2 : (dpsA ds).length + [[AV.val (Value.string (ofB n.deps[i])), AV.val (Value.int IntKind.u64 (hs[i].toNat : Int)), AV.val (Value.bool false)]].length = (ds ++ [(⟨n.deps[i], hs[i], false⟩ : Dp)]).length := by simp [hdl]
      rw [e1, e2, i64_nat (by omega)]
      refine IH (i + 1) (ds ++ [⟨n.deps[i], hs[i], false⟩]) ⟨by omega, ?_⟩ (by omega)
      rw [depsOf_take g2 hc', hds]
    · have hc := ge_of_decE hsh hc
      rw [List.take_of_length_le (by omega), List.take_of_length_le hc] at hds
      (conv => whnf)
      refine res_same ?_
      exact done ds hds
  · have hc : hs.length ≤ 0 := ge_of_decE (i := 0) hsh hc
    have e1 : hs = [] := List.eq_nil_of_length_eq_zero (by omega)
    have e2 : n.deps = [] := List.eq_nil_of_length_eq_zero (by omega)
    (conv => whnf)
    refine res_le (le_tup (leL.cons (le_agg (leL.cons (.refl _) (leL.cons (.refl _) (leL.cons (.refl _) (leL.cons (le_nil 3) (leL.refl _)))))) (leL.refl _))) rfl (done [] ?_)
    rw [e1, e2]; rfl
end Go.Abs
end

section
/- slices.Clone of deps, record.Clone; slices.Backward's closure (records): its contract as an iterator. -/
set_option maxRecDepth 100000
set_option maxHeartbeats 2000000
set_option linter.unusedVariables false
set_option linter.unusedSimpArgs false
namespace Go.Abs
open Go Go.Proofs Go.RowKit
attribute [local go_sem] Oper.semAt_some

theorem CloneD_calls (l : List Dp) (hl : l.length < 1000000) {R} (h : R (.sl none 3 (dpsA l)) []) : ACalls Try.prog 80 [.sl none 3 (dpsA l)] [] R := by
  refine ACalls.res ?_
  refine acalls_of_xwp (an := an80) tab_ok Try.func80 ?_
  have hsl := dpsA_length l
  (conv => whnf)
  intro b hb
  refine br_intro (fun g => ?_) (fun g => ?_)
  · have e := hb g
    rw [e] at h
    (conv => whnf)
    exact res_le (le_nil 3) rfl h
  · (conv => whnf)
    refine ⟨rfl, (by show (0 + (dpsA l).length) * (32 + 1) ≤ _; omega), ?_⟩
    (conv => whnf)
    refine res_same ?_
    exact h
theorem Clone_calls (r : Rc) (hl : r.deps.length < 1000000) {R} (h : R (.agg r.enc) []) : ACalls Try.prog 54 [.agg r.enc] [] R := by
  refine acalls_of_xwp (an := an54) tab_ok Try.func54 ?_
  (conv => whnf)
  refine CloneD_calls r.deps hl ?_
  (conv => whnf)
  exact h

def backsR (l : List Rc) : List (List AV) := l.zipIdx.reverse.map fun p => [.val (.int .i64 p.2), .agg p.1.enc]
theorem Rc.enc_ok (r : Rc) : okCells r.enc = true := rfl

theorem back_iterR (l : List Rc) (hl : l.length < 1000000) : AIter Try.prog 79 [.cptr [.sl none 7 (recs l)] 0] (backsR l) := by
  refine ⟨fun args w => run_callFunc (by kernel_rfl), fun G w lb hk hr => ?_⟩
  simp only [RepL, Rep, RepC] at hr
  obtain ⟨_, _, rfl, ⟨b, o, rfl, ⟨⟨v, hv, ⟨A, c, rfl, hc, hE⟩, _⟩, _⟩, _⟩, rfl⟩ := hr
  have hval : ∀ i : Nat, ∃ vs : List Value, ∀ s, l[i]? = some s → RepL ⟨G.K, fun _ => none⟩ s.enc vs ∧ ∃ b o, A = some ⟨b, o, none⟩ ∧ ∀ j v, vs[j]? = some v → G.K b (o + i * 7 + j) = some v := by
    intro i
    cases hs : l[i]? with
    | none => exact ⟨[], fun s h => by cases h⟩
    | some s =>
      obtain ⟨b', o', hA, _, _, hC⟩ := hE.get (i := i) (e := s.enc) (by rw [recs, List.getElem?_map, hs]; rfl)
      obtain ⟨vs, h1, h2⟩ := hC.vals
      refine ⟨vs, fun s' h => ?_⟩
      cases h
      refine ⟨RepL.nameless (G := G) (G' := ⟨G.K, fun _ => none⟩) (fun _ _ _ h => h) _ _ rfl h1, b', o', hA, fun j v hj => ?_⟩
      have := h2 j v hj
      simpa using this
  obtain ⟨f, hf⟩ := Classical.skolem.1 hval
  refine ⟨l.zipIdx.reverse.map fun p => #[.int .i64 p.2, .agg (f p.2).toArray], by simp [backsR], ?_, ?_⟩
  · intro i x e hx he
    unfold backsR at hx
    rw [List.getElem?_map, Option.map_eq_some_iff] at hx he
    obtain ⟨p, hp, rfl⟩ := hx
    obtain ⟨p', hp', rfl⟩ := he
    rw [hp] at hp'
    cases hp'
    have hm : p ∈ l.zipIdx := by rw [← List.mem_reverse]; exact List.mem_of_getElem? hp
    have hg : l[p.2]? = some p.1 := List.mk_mem_zipIdx_iff_getElem?.1 hm
    have := (hf p.2 p.1 hg).1
    simp only [RepL, Rep]
    exact ⟨_, _, rfl, rfl, _, _, rfl, ⟨_, rfl, this⟩, rfl⟩
  · intro lp n J Jx hY hJ h0
    rw [show FW none = Fence.wide from rfl] at hY ⊢
    refine callsIn_of_wp Try.func79 rfl trivial ?_ rfl
    simp only [Try.ntmps79, List.size_toArray, List.length_cons, List.length_nil, Nat.reduceAdd, Nat.reduceSub, Array.replicate_succ, Array.replicate_zero, List.push_toArray, List.append_toArray, List.nil_append, List.cons_append, Nat.add_zero]
    have hb := hJ 0 w h0 _ _ _ hv
    have hlen : (recs l).length = l.length := recs_length l
    rw [hlen] at hb hv hc
    have hNb : (l.length : Int) < 1000000 := by omega
    clear hl
    gi_wp2
    gi_loopw [3] (fun i wr => ∃ k : Nat, k ≤ l.length ∧ i = .int .i64 ((l.length : Int) - 1 - k) ∧ J k wr) (fun i _ => (Go.RowKit.intOf i + 1).toNat)
    case atStart => exact ⟨0, Nat.zero_le _, by simp, h0⟩
    case round =>
      obtain ⟨k, hk', rfl, hJs⟩ := hrel
      by_cases hlt : k < l.length
      · obtain ⟨i, hi⟩ : ∃ i : Nat, i + k + 1 = l.length := ⟨l.length - 1 - k, by omega⟩
        have hil : i < l.length := by omega
        have ei : (l.length : Int) - 1 - k = (i : Int) := by omega
        rw [ei]
        clear ei
        obtain ⟨s, hs⟩ : ∃ s, l[i]? = some s := ⟨l[i], List.getElem?_eq_getElem hil⟩
        have hb' := hJ k wr hJs _ _ _ hv
        obtain ⟨hR1, b', o', hA, hK⟩ := hf i s hs
        subst hA
        have hes : (l.zipIdx.reverse.map fun p => (#[.int .i64 p.2, .agg (f p.2).toArray] : Array Value))[k]? = some #[.int .i64 i, .agg (f i).toArray] := by
          have hk : k < l.zipIdx.length := by simp; omega
          rw [List.getElem?_map, List.getElem?_reverse hk]
          have e : l.zipIdx.length - 1 - k = i := by simp; omega
          rw [e, List.getElem?_zipIdx, hs]
          simp
        generalize hfi : f i = vs at hR1 hK hes
        have hvl : vs.length = 7 := by rw [hR1.length]; rfl
        obtain ⟨v0, v1, v2, v3, v4, v5, v6, rfl⟩ : ∃ v0 v1 v2 v3 v4 v5 v6, vs = [v0, v1, v2, v3, v4, v5, v6] := by
          match vs, hvl with
          | [v0, v1, v2, v3, v4, v5, v6], _ => exact ⟨_, _, _, _, _, _, _, rfl⟩
        have d0 := hJ k wr hJs _ _ _ (hK 0 v0 rfl)
        have d1 := hJ k wr hJs _ _ _ (hK 1 v1 rfl)
        have d2 := hJ k wr hJs _ _ _ (hK 2 v2 rfl)
        have d3 := hJ k wr hJs _ _ _ (hK 3 v3 rfl)
        have d4 := hJ k wr hJs _ _ _ (hK 4 v4 rfl)
        have d5 := hJ k wr hJs _ _ _ (hK 5 v5 rfl)
        have d6 := hJ k wr hJs _ _ _ (hK 6 v6 rfl)
        simp only [Nat.add_zero] at d0
        obtain ⟨fn, tmps, assign, body, hy, hR⟩ := hY (n - 1) k #[.int .i64 i, .agg #[v0, v1, v2, v3, v4, v5, v6]] wr hes hJs
        have hi0 : (0 : Int) ≤ i := by omega
        clear hY hJ h0 hE hb hf hval hR1 hK
        gi_wp2
        refine ⟨fun h => by simp [Fence.wide] at h, hR.mono ?_⟩
        rintro e W3 (⟨rfl, hJ3⟩ | ⟨rfl, hJx3⟩)
        · clear hR hy
          gi_wp2
          go_roundw
          case rel => exact ⟨k + 1, by omega, by congr 1 <;> (try push_cast) <;> omega, hJ3⟩
          case measure => first | (simp [Go.RowKit.intOf]; done) | (simp [Go.RowKit.intOf]; omega)
        · clear hR hy
          gi_wp2
          refine bodyPost_ret (results_none rfl _ _ _) rfl ?_
          exact ⟨⟨_, rfl⟩, .inr ⟨_, hJx3⟩⟩
      · have ek : k = l.length := by omega
        have e1 : (l.length : Int) - 1 - k = -1 := by omega
        rw [e1]
        have hJe : J l.length wr := ek ▸ hJs
        clear e1 ek hJs hlt hk' hY h0 hE hb hf hval
        gi_wp2
        go_end0
        refine ⟨⟨_, rfl⟩, .inl ?_⟩
        simpa using hJe
end Go.Abs
end

section
/- What is found of a target (fold.Find), and the document's. -/
set_option maxRecDepth 100000
set_option linter.unusedVariables false
set_option linter.unusedSimpArgs false
namespace Go.Abs
open Go Go.Proofs Dig
attribute [local irreducible] ibits byteAt strLt firstIdx

def isOf (t : B) (r : Rc) : Bool := decide (r.kind = 1) && decide (r.target = t)
def findP (l : List Rc) (t : B) : Option Rc := l.reverse.find? (isOf t)
def findR (l : List Rc) (t : B) : Rc := (findP l t).getD zeroR

theorem BackwardR (l : List (List AV)) {R} (h : R (.fn (.func 79) [] [.cptr [.sl none 7 l] 0]) []) :
    ACalls Try.prog 53 [.sl none 7 l] [] R := by
  refine acalls_of_xwp (an := an53) tab_ok Try.func53 ?_
  (conv => whnf)
  exact h
theorem backsR_get {l : List Rc} {i : Nat} {x : List AV} (h : (backsR l)[i]? = some x) : ∃ s k, l.reverse[i]? = some s ∧ x = [.val (.int .i64 k), .agg s.enc] := by
  unfold backsR at h
  rw [List.getElem?_map, Option.map_eq_some_iff] at h
  obtain ⟨p, hp, rfl⟩ := h
  have h1 : (l.zipIdx.reverse.map (·.1))[i]? = some p.1 := by rw [List.getElem?_map, hp]; rfl
  rw [List.map_reverse, List.zipIdx_map_fst] at h1
  exact ⟨p.1, p.2, h1, rfl⟩
theorem backsR_length (l : List Rc) : (backsR l).length = l.length := by simp [backsR]
theorem find?_at {α : Type} {l : List α} {f : α → Bool} {i : Nat} {s : α} (h0 : ∀ j x, j < i → l[j]? = some x → f x = false) (h1 : l[i]? = some s) (h2 : f s = true) : l.find? f = some s := by
  induction l generalizing i with
  | nil => simp at h1
  | cons a l ih =>
    cases i with
    | zero => simp at h1; subst h1; simp [h2]
    | succ i =>
      have : f a = false := h0 0 a (by omega) rfl
      simp only [List.find?_cons, this]
      exact ih (i := i) (fun j x hj hx => h0 (j + 1) x (by omega) (by simpa using hx)) (by simpa using h1)
theorem find?_no {α : Type} {l : List α} {f : α → Bool} (h0 : ∀ j x, j < l.length → l[j]? = some x → f x = false) : l.find? f = none := by
  rw [List.find?_eq_none]
  intro x hx
  obtain ⟨j, hj, rfl⟩ := List.getElem_of_mem hx
  simp [h0 j _ hj (List.getElem?_eq_getElem hj)]

theorem Find_calls (l : List Rc) (hl : l.length < 1000000) (hd : ∀ r ∈ l, r.deps.length < 1000000) (t : B) {R} (h : R (.tup [.agg (findR l t).enc, .val (.bool (findP l t).isSome)]) []) :
    ACalls Try.prog 26 [.sl none 7 (recs l), vs t] [] R := by
  refine ACalls.res ?_
  refine acalls_of_xwp (an := an26) tab_ok Try.func26 ?_
  (conv => whnf)
  refine BackwardR _ ?_
  (conv => whnf)
  refine ⟨backsR l, back_iterR l hl, ?_, ?_⟩
  · intro x hx
    simp only [backsR, List.mem_map] at hx
    obtain ⟨p, _, rfl⟩ := hx
    rfl
  refine ⟨fun i s => s = _ ∧ ∀ j x, j < i → l.reverse[j]? = some x → isOf t x = false, ⟨rfl, fun j x hj => absurd hj (Nat.not_lt_zero _)⟩, ?_, ?_⟩
  · rintro i x s hx ⟨rfl, hno⟩
    obtain ⟨s, k, hs, rfl⟩ := backsR_get hx
    have hsl : s.deps.length < 1000000 := hd s (by rw [← List.mem_reverse]; exact List.mem_of_getElem? hs)
    have next : isOf t s = false → ∀ j x, j < i + 1 → l.reverse[j]? = some x → isOf t x = false := by
      intro hb j x hj hxj
      rcases Nat.lt_or_ge j i with hji | hji
      · exact hno j x hji hxj
      · have : j = i := by omega
        subst this
        rw [hs] at hxj
        cases hxj
        exact hb
    (conv => whnf)
    refine br_intro (fun hb => ?_) (fun hb => ?_)
    · have hb : s.kind = 1 := by simpa using hb
      (conv => whnf)
      refine br_intro (fun hc => ?_) (fun hc => ?_)
      · have hc : s.target = t := ofB_inj (of_decide_eq_true hc)
        have hf : findP l t = some s := find?_at hno hs (by simp [isOf, hb, hc])
        have hr : findR l t = s := by rw [findR, hf]; rfl
        rw [hr, hf] at h
        (conv => whnf)
        refine Clone_calls s hsl ?_
        (conv => whnf)
        refine res_same ?_
        exact h
      · have hc : ¬ s.target = t := fun e => of_decide_eq_false hc (by rw [e])
        (conv => whnf)
        exact ⟨rfl, next (by simp [isOf, hc])⟩
    · have hb : ¬ s.kind = 1 := by simpa using hb
      (conv => whnf)
      exact ⟨rfl, next (by simp [isOf, hb])⟩
  · rintro s ⟨rfl, hno⟩
    have hf : findP l t = none := find?_no (fun j x hj hx => hno j x (by rw [backsR_length]; simpa using hj) hx)
    have hr : findR l t = zeroR := by rw [findR, hf]; rfl
    rw [hr, hf] at h
    (conv => whnf)
    exact res_le (le_tup (leL.cons (le_agg le_zeroR) (leL.refl _))) rfl h

theorem docFind_calls (l : List Rc) (hl : l.length < 1000000) (t : B) {R} (h : R (.tup [.agg (findR l t).enc, .val (.bool (findP l t).isSome)]) []) :
    ACalls Try.prog 28 [.sl none 7 (recs l), vs t] [] R := by
  refine ACalls.res ?_
  refine acalls_of_xwp (an := an28) tab_ok Try.func28 ?_
  have hsl := recs_length l
  (conv => whnf)
  rw [hsl, wrap_i64 (by omega) (by omega), show (l.length : Int) - 1 = (l.length : Int) - 1 - ((0 : Nat) : Int) by omega]
  refine LoopP.ind1 (fun (k : Nat) => [(6, vi ((l.length : Int) - 1 - k))]) (fun _ => [(nameOf 4, .cells 29 [.val (.int .i64 0), .val (.string ⟨#[]⟩), .val (.int .u64 0), .val (.slice none 0 0), .val (.int .u64 0), .val (.int .u64 0), .val (.string ⟨#[]⟩)])]) (fun k => l.length - k)
    (fun k => k ≤ l.length ∧ ∀ j x, j < k → l.reverse[j]? = some x → isOf t x = false) 0 rfl ⟨by omega, fun j x hj => absurd hj (Nat.not_lt_zero _)⟩ ?_
  rintro k ⟨h0, hno⟩ IH
  by_cases hk : k < l.length
  · obtain ⟨i, hi⟩ : ∃ i : Nat, i + k + 1 = l.length := ⟨l.length - 1 - k, by omega⟩
    have hil : i < l.length := by omega
    have hs : l.reverse[k]? = some l[i] := by
      rw [List.getElem?_reverse hk, show l.length - 1 - k = i by omega, List.getElem?_eq_getElem hil]
    have next : isOf t l[i] = false → ∀ j x, j < k + 1 → l.reverse[j]? = some x → isOf t x = false := by
      intro hb j x hj hxj
      rcases Nat.lt_or_ge j k with hji | hji
      · exact hno j x hji hxj
      · have : j = k := by omega
        subst this
        rw [hs] at hxj
        cases hxj
        exact hb
    have again : IntKind.i64.wrap ((i : Int) - 1) = (l.length : Int) - 1 - ((k + 1 : Nat) : Int) := by
      rw [wrap_i64 (by omega) (by omega)]; omega
    rw [show (l.length : Int) - 1 - k = (i : Int) by omega]
    (conv => whnf); (repeat ((with_reducible refine must_intro ?_ ?_); exact decide_eq_true (by omega); (conv => whnf)))
    refine idxK_map_intro (show (i : Int).toNat < l.length by simpa using hil) ?_
    rw [show l[(i : Int).toNat]'(by simpa using hil) = l[i] from by congr 1]
    (conv => whnf)
    refine br_intro (fun hb => ?_) (fun hb => ?_)
    · have hb : l[i].kind = 1 := by simpa using hb
      (conv => whnf); (repeat ((with_reducible refine must_intro ?_ ?_); exact decide_eq_true (by omega); (conv => whnf)))
      refine idxK_map_intro (show (i : Int).toNat < l.length by simpa using hil) ?_
      rw [show l[(i : Int).toNat]'(by simpa using hil) = l[i] from by congr 1]
      (conv => whnf)
      refine br_intro (fun hc => ?_) (fun hc => ?_)
      · have hc : l[i].target = t := ofB_inj (of_decide_eq_true hc)
        have hf : findP l t = some l[i] := find?_at hno hs (by simp [isOf, hb, hc])
        have hr : findR l t = l[i] := by rw [findR, hf]; rfl
        rw [hr, hf] at h
        (conv => whnf); (repeat ((with_reducible refine must_intro ?_ ?_); exact decide_eq_true (by omega); (conv => whnf)))
        refine idxK_map_intro (show (i : Int).toNat < l.length by simpa using hil) ?_
        rw [show l[(i : Int).toNat]'(by simpa using hil) = l[i] from by congr 1]
        (conv => whnf)
        refine res_same ?_
        exact h
      · have hc : ¬ l[i].target = t := fun e => of_decide_eq_false hc (by rw [e])
        (conv => whnf)
        rw [again]
        exact IH (k + 1) ⟨by omega, next (by simp [isOf, hc])⟩ (by omega)
    · have hb : ¬ l[i].kind = 1 := by simpa using hb
      (conv => whnf)
      rw [again]
      exact IH (k + 1) ⟨by omega, next (by simp [isOf, hb])⟩ (by omega)
  · have ek : k = l.length := by omega
    have hf : findP l t = none := find?_no (fun j x hj hx => hno j x (by simpa [ek] using hj) hx)
    have hr : findR l t = zeroR := by rw [findR, hf]; rfl
    rw [hr, hf] at h
    rw [show (l.length : Int) - 1 - k = -1 by omega]
    (conv => whnf)
    exact res_le (le_tup (leL.cons (le_agg le_zeroR) (leL.refl _))) rfl h
theorem findR_deps {l : List Rc} (hd : ∀ r ∈ l, r.deps.length < 1000000) (t : B) : (findR l t).deps.length < 1000000 := by
  unfold findR findP
  cases h : l.reverse.find? (isOf t) with
  | none => decide
  | some r => exact hd r (by rw [← List.mem_reverse]; exact List.mem_of_find?_eq_some h)
end Go.Abs
end

section
/- A map's values, in the order of its keys (fold's ordered map). -/
set_option maxRecDepth 100000
set_option linter.unusedVariables false
set_option linter.unusedSimpArgs false
namespace Go.Abs
open Go Go.Proofs Dig
attribute [local irreducible] ibits byteAt strLt firstIdx

theorem nodup_bound {l : List Nat} {n : Nat} (h : l.Nodup) (hb : ∀ x ∈ l, x < n) : l.length ≤ n := by
  have hp : l.Perm ((List.range n).filter fun x => decide (x ∈ l)) := by
    refine (List.perm_ext_iff_of_nodup h (List.nodup_range.filter _)).2 fun a => ?_
    simp
    exact fun ha => hb a ha
  rw [hp.length_eq]
  exact Nat.le_trans (List.length_filter_le _ _) (by simp)

abbrev RMap := List (B × Rc)
def rmap (mp : RMap) : List (ByteArray × AV) := mp.map fun p => (ofB p.1, .agg p.2.enc)
def keysM (mp : RMap) : List B := mp.map (·.1)
def lookM (mp : RMap) (k : B) : Option Rc := (mp.find? fun p => decide (p.1 = k)).map (·.2)
def lookZ (mp : RMap) (k : B) : Rc := (lookM mp k).getD zeroR
theorem rmap_find (mp : RMap) (k : B) : mapFind (rmap mp) (ofB k) = (lookM mp k).map fun r => .agg r.enc := by
  induction mp with
  | nil => rfl
  | cons p mp ih =>
    unfold rmap at ih ⊢
    simp only [List.map_cons, mapFind, lookM, List.find?_cons]
    by_cases h : p.1 = k
    · simp [h]
    · have : ofB p.1 ≠ ofB k := fun e => h (ofB_inj e)
      simp only [this, if_false, h, decide_false, ih]
      rfl
theorem lookM_mem {mp : RMap} {k : B} (h : k ∈ keysM mp) : ∃ r, lookM mp k = some r := by
  obtain ⟨p, hp, rfl⟩ := List.mem_map.1 h
  cases hf : mp.find? fun q => decide (q.1 = p.1) with
  | none => exact absurd (List.find?_eq_none.1 hf p hp) (by simp)
  | some q => exact ⟨q.2, by simp [lookM, hf]⟩

theorem values_calls (mp : RMap) (hm : mp.length < 1000000) {R} (h : ∀ ks, ks.Perm (keysM mp) → ks = sortB ks → R (.sl none 7 (recs (ks.map (lookZ mp)))) [.map (rmap mp)]) :
    ACalls Try.prog 50 [.mapv 0] [.map (rmap mp)] R := by
  refine acalls_of_xwp (an := an50) tab_ok Try.func50 ?_
  have hml : (rmap mp).length = mp.length := by simp [rmap]
  (conv => whnf)
  intro ms clock
  refine LoopP.ind2 (fun (seen : List Nat) (keys : List B) => [(3, .slv (nameOf 3) 1 keys.length)]) (fun seen keys => [(0, .mapc (rmap mp) ms clock), (nameOf 3, .vec 9 1 (strs keys)), (nameOf 9, .iter 0 ms clock seen)])
    (fun seen _ => mp.length - seen.length) (fun seen keys => seen.Nodup ∧ (∀ i ∈ seen, i < mp.length) ∧ keys = seen.reverse.map fun i => ((mp[i]?).map (·.1)).getD []) [] [] rfl ⟨by simp, by simp, rfl⟩ ?_
  rintro seen keys ⟨hnd, hbd, hkeys⟩ IH
  have hkl : keys.length = seen.length := by rw [hkeys]; simp
  have hsb := nodup_bound hnd hbd
  have hsk := strs_length keys
  (conv => whnf)
  refine ⟨⟨rfl, rfl⟩, fun hall => ?_, fun i e he hns => ?_⟩
  · have hperm : keys.Perm (keysM mp) := by
      have h1 : seen.Perm (List.range mp.length) := (List.perm_ext_iff_of_nodup hnd List.nodup_range).2 fun a => by
        rw [List.mem_range]
        exact ⟨hbd a, fun ha => hall a (by rw [hml]; exact ha)⟩
      have h2 : (List.range mp.length).map (fun i => ((mp[i]?).map (·.1)).getD []) = keysM mp := by
        apply List.ext_getElem
        · simp [keysM]
        · intro i h1 h2
          have hi : i < mp.length := by simpa using h1
          simp [keysM, List.getElem?_eq_getElem hi]
      rw [hkeys, ← h2]
      exact ((List.reverse_perm seen).trans h1).map _
    clear IH
    (conv => whnf)
    refine Sort_calls keys (by omega) ?_
    generalize hks : sortB keys = ks
    have hkp : ks.Perm keys := by rw [← hks]; exact List.mergeSort_perm _ _
    have hkl2 : ks.length = keys.length := hkp.length_eq
    have hks2 : ks = sortB ks := by
      rw [← hks]
      exact (List.mergeSort_of_pairwise (List.pairwise_mergeSort (fun a b c h1 h2 => by simp at h1 h2 ⊢; exact List.le_trans h1 h2) (fun a b => by simp; exact List.le_total a b) keys)).symm
    have hskk := strs_length ks
    have hbt : (tab.ti 29).bytes = 88 := rfl
    (conv => whnf)
    refine LoopP.ind2 (fun (i : Nat) (out : List Rc) => [(5, .sl (some (nameOf 5)) 7 (recs out)), (22, vi i)]) (fun i out => [(0, .map (rmap mp)), (nameOf 3, .vec 9 1 (strs ks)), (nameOf 5, .row 29 7 out.length)])
      (fun i _ => ks.length - i) (fun i out => i ≤ ks.length ∧ out = (ks.take i).map (lookZ mp)) 0 [] rfl ⟨by omega, by simp⟩ ?_
    rintro i out ⟨h0, ho⟩ IH
    have hol := recs_length out
    have hoi : out.length = i := by rw [ho]; simp; omega
    (conv => whnf)
    refine br_intro (fun hc => ?_) (fun hc => ?_)
    · have hc : i < ks.length := by simp at hc; omega
      (conv => whnf); (repeat ((with_reducible refine must_intro ?_ ?_); exact decide_eq_true (by omega); (conv => whnf)))
      refine ⟨by omega, idxK_map_intro (show (i : Int).toNat < ks.length by simpa using hc) ?_⟩
      rw [show ks[(i : Int).toNat]'(by simpa using hc) = ks[i] from by congr 1]
      obtain ⟨r, hr⟩ := lookM_mem (mp := mp) (k := ks[i]) ((hkp.trans hperm).mem_iff.1 (List.getElem_mem hc))
      have hz : lookZ mp ks[i] = r := by rw [lookZ, hr]; rfl
      have hf : mapFind (rmap mp) (ofB ks[i]) = some (.agg r.enc) := by rw [rmap_find, hr]; rfl
      (conv => whnf)
      rw [hf]
      (conv => whnf)
      refine ⟨hol.symm, (by rw [hol]; show (out.length + 1) * (88 + 1) ≤ _; omega), ?_⟩
      (conv => whnf)
      have e1 : recs (out ++ [r]) = recs out ++ [r.enc] := by simp [recs]
      have e2 : (out ++ [r]).length = (recs out).length + [r.enc].length := by simp [hol]
      have := IH (i + 1) (out ++ [r]) ⟨by omega, by rw [List.take_succ_eq_append_getElem hc, List.map_append, ho]; simp [hz]⟩ (by omega)
      rw [e1, e2] at this
      rw [i64_nat (by omega)]
      exact this
    · have hc : ks.length ≤ i := by simp at hc; omega
      rw [List.take_of_length_le hc] at ho
      (conv => whnf)
      rw [ho]
      exact h ks (hkp.trans hperm) hks2
  · obtain ⟨p, hp, rfl⟩ : ∃ p, mp[i]? = some p ∧ (ofB p.1, AV.agg p.2.enc) = e := by
      unfold rmap at he
      rw [List.getElem?_map, Option.map_eq_some_iff] at he
      exact he
    have hil : i < mp.length := (List.getElem?_eq_some_iff.1 hp).1
    (conv => whnf)
    refine ⟨⟨rfl, rfl⟩, idxK_iff.2 ⟨_, he, ?_⟩⟩
    (conv => whnf)
    refine ⟨hsk, (by rw [hsk]; show (keys.length + 1) * (16 + 1) ≤ _; omega), ?_⟩
    (conv => whnf)
    have e1 : strs keys ++ [[AV.val (Value.string (ofB p.1))]] = strs (keys ++ [p.1]) := by simp [strs, vs]
    have e2 : (strs keys).length + [[AV.val (Value.string (ofB p.1))]].length = (keys ++ [p.1]).length := by simp [hsk]
    rw [e1, e2]
    refine IH (i :: seen) (keys ++ [p.1]) ⟨List.nodup_cons.2 ⟨hns, hnd⟩, ?_, ?_⟩ (by
      have := nodup_bound (n := mp.length) (List.nodup_cons.2 ⟨hns, hnd⟩) (by
        intro x hx
        rw [List.mem_cons] at hx
        rcases hx with rfl | hx
        · exact hil
        · exact hbd x hx)
      simp at this ⊢
      omega)
    · intro x hx
      rw [List.mem_cons] at hx
      rcases hx with rfl | hx
      · exact hil
      · exact hbd x hx
    · rw [List.reverse_cons, List.map_append, ← hkeys]
      simp [hp]
end Go.Abs
end

section
/- The fold's plain law: the ordered map's values are the document's sorted list. -/
set_option linter.unusedVariables false
set_option linter.unusedSimpArgs false
namespace Go.Abs
open Go Go.Proofs

theorem ltB_eq (a b : B) : ltB a b = decide (a < b) := bytesLess_eq a b
theorem b_total {a b : B} (h : ¬ a < b) (hn : b ≠ a) : b < a := by
  refine Classical.byContradiction fun h2 => hn ?_
  exact List.le_antisymm (show b ≤ a from h) (show a ≤ b from h2)

/-! ### the document's -/
def docLoop (r : Rc) : Bool → List Rc → List Rc
  | laid, [] => if laid = true then [] else [r]
  | laid, s :: S => (if (!laid && ltB r.target s.target) = true then [r] else []) ++ ((if s.target = r.target then [] else [s]) ++ docLoop r (laid || (!laid && ltB r.target s.target)) S)
def docPut (S : List Rc) (r : Rc) : List Rc := if r.kind ≠ 1 ∧ r.kind ≠ 2 then S else docLoop r (decide (r.kind = 2)) S
def docOf (l : List Rc) : List Rc := l.foldl docPut []
abbrev Srt (S : List Rc) : Prop := S.Pairwise fun a b => a.target < b.target

theorem mem_ite1 {p : Prop} [Decidable p] {x r : Rc} : x ∈ (if p then [r] else []) ↔ p ∧ x = r := by by_cases h : p <;> simp [h]
theorem mem_ite2 {p : Prop} [Decidable p] {x r : Rc} : x ∈ (if p then [] else [r]) ↔ ¬ p ∧ x = r := by by_cases h : p <;> simp [h]
theorem docLoop_mem (r : Rc) : ∀ (S : List Rc) (laid : Bool) (x : Rc), x ∈ docLoop r laid S ↔ (laid = false ∧ x = r) ∨ (x ∈ S ∧ x.target ≠ r.target) := by
  intro S
  induction S with
  | nil => intro laid x; cases laid <;> simp [docLoop]
  | cons s S ih =>
    intro laid x
    simp only [docLoop, List.mem_append, ih, List.mem_cons, mem_ite1, mem_ite2]
    generalize hL : (!laid && ltB r.target s.target) = L
    have h1 : L = true → laid = false := by
      intro e
      rw [e] at hL
      cases laid
      · rfl
      · simp at hL
    constructor
    · rintro (⟨h, rfl⟩ | ⟨h, rfl⟩ | ⟨h, rfl⟩ | ⟨h, h'⟩)
      · exact .inl ⟨h1 h, rfl⟩
      · exact .inr ⟨.inl rfl, h⟩
      · exact .inl ⟨by cases laid <;> simp_all, rfl⟩
      · exact .inr ⟨.inr h, h'⟩
    · rintro (⟨h, rfl⟩ | ⟨rfl | h, h'⟩)
      · cases hq : L
        · exact .inr (.inr (.inl ⟨by simp [h], rfl⟩))
        · exact .inl ⟨rfl, rfl⟩
      · exact .inr (.inl ⟨h', rfl⟩)
      · exact .inr (.inr (.inr ⟨h, h'⟩))
theorem docLoop_srt (r : Rc) : ∀ (S : List Rc) (laid : Bool), Srt S → (laid = true → ∀ s ∈ S, r.target < s.target ∨ s.target = r.target ∨ s.target < r.target) → Srt (docLoop r laid S) := by
  intro S
  induction S with
  | nil => intro laid _ _; cases laid <;> simp [docLoop, Srt]
  | cons s S ih =>
    intro laid hS hl
    have hS' := List.pairwise_cons.1 hS
    have hrec : ∀ b, Srt (docLoop r b S) := fun b => ih b hS'.2 fun _ x _ => by
      by_cases h1 : r.target < x.target
      · exact .inl h1
      · by_cases h2 : x.target = r.target
        · exact .inr (.inl h2)
        · exact .inr (.inr (b_total h1 h2))
    simp only [docLoop]
    cases hL : (!laid && ltB r.target s.target)
    · simp only [Bool.or_false, Bool.false_eq_true, if_false, List.nil_append]
      by_cases hs : s.target = r.target
      · simp only [hs, if_true, List.nil_append]
        exact hrec laid
      · simp only [hs, if_false, List.cons_append, List.nil_append]
        refine List.pairwise_cons.2 ⟨fun x hx => ?_, hrec laid⟩
        rcases (docLoop_mem r S laid x).1 hx with ⟨h, rfl⟩ | ⟨h, _⟩
        · rw [h] at hL
          simp only [Bool.not_false, Bool.true_and, ltB_eq, decide_eq_false_iff_not] at hL
          exact b_total hL hs
        · exact hS'.1 x h
    · have hlt : r.target < s.target := by
        simp only [Bool.and_eq_true, ltB_eq, decide_eq_true_eq] at hL
        exact hL.2
      have hs : ¬ s.target = r.target := fun e => List.lt_irrefl _ (e ▸ hlt)
      simp only [Bool.or_true, if_true, hs, if_false, List.cons_append, List.nil_append]
      have hnr : ∀ x ∈ docLoop r true S, x ∈ S := fun x hx => by
        rcases (docLoop_mem r S true x).1 hx with ⟨h, _⟩ | ⟨h, _⟩
        · cases h
        · exact h
      refine List.pairwise_cons.2 ⟨fun x hx => ?_, List.pairwise_cons.2 ⟨fun x hx => hS'.1 x (hnr x hx), hrec true⟩⟩
      rw [List.mem_cons] at hx
      rcases hx with rfl | hx
      · exact hlt
      · exact List.lt_trans hlt (hS'.1 x (hnr x hx))
theorem docPut_srt {S : List Rc} (r : Rc) (h : Srt S) : Srt (docPut S r) := by
  unfold docPut
  split
  · exact h
  · refine docLoop_srt r S _ h fun _ x _ => ?_
    by_cases h1 : r.target < x.target
    · exact .inl h1
    · by_cases h2 : x.target = r.target
      · exact .inr (.inl h2)
      · exact .inr (.inr (b_total h1 h2))

/-! ### the map -/
def putR : RMap → B → Rc → RMap
  | [], k, r => [(k, r)]
  | p :: mp, k, r => if p.1 = k then (k, r) :: mp else p :: putR mp k r
def delR : RMap → B → RMap
  | [], _ => []
  | p :: mp, k => if p.1 = k then mp else p :: delR mp k
def putM (mp : RMap) (r : Rc) : RMap := if r.kind = 1 then putR mp r.target r else if r.kind = 2 then delR mp r.target else mp
def ofM (l : List Rc) : RMap := l.foldl putM []
theorem rmap_put (mp : RMap) (k : B) (r : Rc) : rmap (putR mp k r) = mapPut (rmap mp) (ofB k) (.agg r.enc) := by
  induction mp with
  | nil => rfl
  | cons p mp ih =>
    simp only [putR, rmap, List.map_cons, mapPut]
    by_cases h : p.1 = k
    · simp [h]
    · have : ofB p.1 ≠ ofB k := fun e => h (ofB_inj e)
      simp only [h, if_false, this, List.map_cons]
      unfold rmap at ih
      rw [ih]
theorem rmap_del (mp : RMap) (k : B) : rmap (delR mp k) = mapDel (rmap mp) (ofB k) := by
  induction mp with
  | nil => rfl
  | cons p mp ih =>
    simp only [delR, rmap, List.map_cons, mapDel]
    by_cases h : p.1 = k
    · simp [h]
    · have : ofB p.1 ≠ ofB k := fun e => h (ofB_inj e)
      simp only [h, if_false, this, List.map_cons]
      unfold rmap at ih
      rw [ih]
def MOk (mp : RMap) : Prop := (keysM mp).Nodup ∧ ∀ p ∈ mp, p.2.target = p.1
theorem putR_mem {mp : RMap} (hn : (keysM mp).Nodup) (k : B) (r : Rc) (q : B × Rc) : q ∈ putR mp k r ↔ q = (k, r) ∨ (q ∈ mp ∧ q.1 ≠ k) := by
  induction mp with
  | nil => simp [putR]
  | cons p mp ih =>
    have hn' := List.nodup_cons.1 (show (p.1 :: keysM mp).Nodup from hn)
    simp only [putR]
    by_cases h : p.1 = k
    · simp only [h, if_true, List.mem_cons]
      constructor
      · rintro (h1 | h1)
        · exact .inl h1
        · refine .inr ⟨.inr h1, fun e => hn'.1 ?_⟩
          rw [h, ← e]
          exact List.mem_map_of_mem h1
      · rintro (h1 | ⟨rfl | h1, h2⟩)
        · exact .inl h1
        · exact absurd h h2
        · exact .inr h1
    · simp only [h, if_false, List.mem_cons, ih hn'.2]
      constructor
      · rintro (rfl | h1 | ⟨h1, h2⟩)
        · exact .inr ⟨.inl rfl, h⟩
        · exact .inl h1
        · exact .inr ⟨.inr h1, h2⟩
      · rintro (h1 | ⟨rfl | h1, h2⟩)
        · exact .inr (.inl h1)
        · exact .inl rfl
        · exact .inr (.inr ⟨h1, h2⟩)
theorem delR_mem {mp : RMap} (hn : (keysM mp).Nodup) (k : B) (q : B × Rc) : q ∈ delR mp k ↔ q ∈ mp ∧ q.1 ≠ k := by
  induction mp with
  | nil => simp [delR]
  | cons p mp ih =>
    have hn' := List.nodup_cons.1 (show (p.1 :: keysM mp).Nodup from hn)
    simp only [delR]
    by_cases h : p.1 = k
    · simp only [h, if_true, List.mem_cons]
      constructor
      · intro h1
        refine ⟨.inr h1, fun e => hn'.1 ?_⟩
        rw [h, ← e]
        exact List.mem_map_of_mem h1
      · rintro ⟨rfl | h1, h2⟩
        · exact absurd h h2
        · exact h1
    · simp only [h, if_false, List.mem_cons, ih hn'.2]
      constructor
      · rintro (rfl | ⟨h1, h2⟩)
        · exact ⟨.inl rfl, h⟩
        · exact ⟨.inr h1, h2⟩
      · rintro ⟨rfl | h1, h2⟩
        · exact .inl rfl
        · exact .inr ⟨h1, h2⟩
theorem putR_nodup {mp : RMap} (hn : (keysM mp).Nodup) (k : B) (r : Rc) : (keysM (putR mp k r)).Nodup := by
  induction mp with
  | nil => simp [putR, keysM]
  | cons p mp ih =>
    have hn' := List.nodup_cons.1 (show (p.1 :: keysM mp).Nodup from hn)
    simp only [putR]
    by_cases h : p.1 = k
    · simp only [h, if_true]
      exact List.nodup_cons.2 ⟨by rw [← h]; exact hn'.1, hn'.2⟩
    · simp only [h, if_false]
      refine List.nodup_cons.2 ⟨fun hm => ?_, ih hn'.2⟩
      obtain ⟨q, hq, e⟩ := List.mem_map.1 hm
      rcases (putR_mem hn'.2 k r q).1 hq with rfl | ⟨h1, _⟩
      · exact h e.symm
      · have e : q.1 = p.1 := e
        exact hn'.1 (by rw [← e]; exact List.mem_map_of_mem h1)
theorem delR_nodup {mp : RMap} (hn : (keysM mp).Nodup) (k : B) : (keysM (delR mp k)).Nodup := by
  induction mp with
  | nil => simp [delR, keysM]
  | cons p mp ih =>
    have hn' := List.nodup_cons.1 (show (p.1 :: keysM mp).Nodup from hn)
    simp only [delR]
    by_cases h : p.1 = k
    · simp only [h, if_true]
      exact hn'.2
    · simp only [h, if_false]
      refine List.nodup_cons.2 ⟨fun hm => ?_, ih hn'.2⟩
      obtain ⟨q, hq, e⟩ := List.mem_map.1 hm
      have h1 := (delR_mem hn'.2 k q).1 hq
      have e : q.1 = p.1 := e
      exact hn'.1 (by rw [← e]; exact List.mem_map_of_mem h1.1)
theorem putM_ok {mp : RMap} (h : MOk mp) (r : Rc) : MOk (putM mp r) := by
  unfold putM
  split
  · refine ⟨putR_nodup h.1 _ _, fun p hp => ?_⟩
    rcases (putR_mem h.1 _ _ p).1 hp with rfl | ⟨h1, _⟩
    · rfl
    · exact h.2 p h1
  · split
    · exact ⟨delR_nodup h.1 _, fun p hp => h.2 p ((delR_mem h.1 _ p).1 hp).1⟩
    · exact h

/-- One and the same. -/
structure Fits (mp : RMap) (S : List Rc) : Prop where
  ok : MOk mp
  srt : Srt S
  mem : ∀ x, x ∈ S ↔ (x.target, x) ∈ mp
theorem Fits.put {mp : RMap} {S : List Rc} (h : Fits mp S) (r : Rc) : Fits (putM mp r) (docPut S r) := by
  refine ⟨putM_ok h.ok r, docPut_srt r h.srt, fun x => ?_⟩
  unfold docPut putM
  by_cases h1 : r.kind = 1
  · have hk2 : decide (r.kind = 2) = false := by rw [h1]; rfl
    rw [if_neg (by simp [h1]), if_pos h1, docLoop_mem, hk2, putR_mem h.ok.1, h.mem]
    constructor
    · rintro (⟨_, rfl⟩ | h)
      · exact .inl rfl
      · exact .inr h
    · rintro (h | h)
      · exact .inl ⟨rfl, by injection h⟩
      · exact .inr h
  · by_cases h2 : r.kind = 2
    · rw [if_neg (by simp [h2]), if_neg h1, if_pos h2, docLoop_mem, delR_mem h.ok.1, h.mem]
      simp [h2]
    · rw [if_pos ⟨h1, h2⟩, if_neg h1, if_neg h2]
      exact h.mem x
theorem fits_of (l : List Rc) : Fits (ofM l) (docOf l) := by
  have : ∀ (l : List Rc) (mp : RMap) (S : List Rc), Fits mp S → Fits (l.foldl putM mp) (l.foldl docPut S) := by
    intro l
    induction l with
    | nil => intro mp S h; exact h
    | cons r l ih => intro mp S h; exact ih _ _ (h.put r)
  exact this l [] [] ⟨⟨by simp [keysM], by simp⟩, List.Pairwise.nil, by simp⟩

theorem srt_ext : ∀ {l m : List Rc}, Srt l → Srt m → (∀ x, x ∈ l ↔ x ∈ m) → l = m := by
  intro l
  induction l with
  | nil =>
    intro m _ _ h
    cases m with
    | nil => rfl
    | cons b m => exact absurd ((h b).2 (by simp)) (by simp)
  | cons a l ih =>
    intro m hl hm h
    cases m with
    | nil => exact absurd ((h a).1 (by simp)) (by simp)
    | cons b m =>
      have hl' := List.pairwise_cons.1 hl
      have hm' := List.pairwise_cons.1 hm
      have hab : a = b := by
        rcases List.mem_cons.1 ((h a).1 (by simp)) with e | h1
        · exact e
        · rcases List.mem_cons.1 ((h b).2 (by simp)) with e | h2
          · exact e.symm
          · exact absurd (hl'.1 b h2) (List.lt_asymm (hm'.1 a h1))
      subst hab
      congr 1
      refine ih hl'.2 hm'.2 fun x => ?_
      constructor
      · intro hx
        rcases List.mem_cons.1 ((h x).1 (by simp [hx])) with rfl | h1
        · exact absurd (hl'.1 _ hx) (List.lt_irrefl _)
        · exact h1
      · intro hx
        rcases List.mem_cons.1 ((h x).2 (by simp [hx])) with rfl | h1
        · exact absurd (hm'.1 _ hx) (List.lt_irrefl _)
        · exact h1

theorem lookM_of_mem {mp : RMap} (hn : (keysM mp).Nodup) {k : B} {r : Rc} (h : (k, r) ∈ mp) : lookM mp k = some r := by
  induction mp with
  | nil => simp at h
  | cons p mp ih =>
    have hn' := List.nodup_cons.1 (show (p.1 :: keysM mp).Nodup from hn)
    unfold lookM at ih ⊢
    simp only [List.find?_cons]
    rcases List.mem_cons.1 h with rfl | h
    · simp
    · have : p.1 ≠ k := fun e => hn'.1 (by rw [e]; exact List.mem_map_of_mem (f := (·.1)) h)
      simp only [this, decide_false]
      exact ih hn'.2 h
theorem mem_of_lookM {mp : RMap} {k : B} {r : Rc} (h : lookM mp k = some r) : (k, r) ∈ mp := by
  unfold lookM at h
  rw [Option.map_eq_some_iff] at h
  obtain ⟨p, h1, rfl⟩ := h
  have h2 := List.find?_some h1
  have : p.1 = k := by simpa using h2
  rw [← this]
  exact List.mem_of_find?_eq_some h1

/-- The map's values, its keys sorted, are the document's fold. -/
theorem values_doc {mp : RMap} {S : List Rc} (h : Fits mp S) {ks : List B} (hp : ks.Perm (keysM mp)) (hs : ks = sortB ks) : ks.map (lookZ mp) = S := by
  have hz : ∀ k ∈ ks, ∃ r, (k, r) ∈ mp ∧ lookZ mp k = r := fun k hk => by
    obtain ⟨r, hr⟩ := lookM_mem (mp := mp) (k := k) (hp.mem_iff.1 hk)
    exact ⟨r, mem_of_lookM hr, by rw [lookZ, hr]; rfl⟩
  have hle : ks.Pairwise (fun a b => a ≤ b) := by
    have := List.pairwise_mergeSort (le := fun x y : B => decide (x ≤ y)) (fun a b c h1 h2 => by simp at h1 h2 ⊢; exact List.le_trans h1 h2) (fun a b => by simp; exact List.le_total a b) ks
    rw [show ks.mergeSort (fun x y => decide (x ≤ y)) = ks from hs.symm] at this
    exact this.imp fun h => of_decide_eq_true h
  have hnd : ks.Nodup := hp.nodup_iff.2 h.ok.1
  refine srt_ext ?_ h.srt fun x => ?_
  · rw [Srt, List.pairwise_map]
    refine List.Pairwise.imp_of_mem ?_ (hle.and hnd)
    rintro a b ha hb ⟨h1, h2⟩
    obtain ⟨ra, a1, a2⟩ := hz a ha
    obtain ⟨rb, b1, b2⟩ := hz b hb
    rw [a2, b2, h.ok.2 _ a1, h.ok.2 _ b1]
    refine Classical.byContradiction fun hn => h2 ?_
    exact List.le_antisymm h1 (show b ≤ a from hn)
  · rw [h.mem, List.mem_map]
    constructor
    · rintro ⟨k, hk, rfl⟩
      obtain ⟨r, h1, h2⟩ := hz k hk
      rw [h2, h.ok.2 _ h1]
      exact h1
    · intro hx
      have hk : x.target ∈ ks := hp.mem_iff.2 (List.mem_map_of_mem (f := (·.1)) hx)
      refine ⟨x.target, hk, ?_⟩
      rw [lookZ, lookM_of_mem h.ok.1 hx]; rfl
end Go.Abs
end

section
/- fold.put, fold.Of; the document's Put, Of; All. -/
set_option maxRecDepth 100000
set_option maxHeartbeats 1000000
set_option linter.unusedVariables false
set_option linter.unusedSimpArgs false
namespace Go.Abs
open Go Go.Proofs Dig
attribute [local irreducible] ibits byteAt strLt firstIdx

theorem put_calls (mp : RMap) (r : Rc) (hr : r.deps.length < 1000000) {R} (h : R (.tup []) [.map (rmap (putM mp r))]) : ACalls Try.prog 49 [.mapv 0, .agg r.enc] [.map (rmap mp)] R := by
  refine acalls_of_xwp (an := an49) tab_ok Try.func49 ?_
  (conv => whnf)
  refine br_intro (fun h1 => ?_) (fun h1 => ?_)
  · have h1 : r.kind = 1 := by simpa using h1
    rw [putM, if_pos h1, rmap_put] at h
    (conv => whnf)
    refine Clone_calls r hr ?_
    (conv => whnf)
    exact h
  have h1 : ¬ r.kind = 1 := by simpa using h1
  (conv => whnf)
  refine br_intro (fun h2 => ?_) (fun h2 => ?_)
  · have h2 : r.kind = 2 := by simpa using h2
    rw [putM, if_neg h1, if_pos h2, rmap_del] at h
    (conv => whnf)
    exact h
  · have h2 : ¬ r.kind = 2 := by simpa using h2
    rw [putM, if_neg h1, if_neg h2] at h
    (conv => whnf)
    exact h

theorem ofM_len (l : List Rc) : (ofM l).length ≤ l.length := by
  have hp : ∀ (mp : RMap) (k : B) (r : Rc), (putR mp k r).length ≤ mp.length + 1 := by
    intro mp k r
    induction mp with
    | nil => simp [putR]
    | cons p mp ih => simp only [putR]; split <;> simp; omega
  have hd : ∀ (mp : RMap) (k : B), (delR mp k).length ≤ mp.length := by
    intro mp k
    induction mp with
    | nil => simp [delR]
    | cons p mp ih => simp only [delR]; split <;> simp; omega
  have : ∀ (l : List Rc) (mp : RMap), (l.foldl putM mp).length ≤ mp.length + l.length := by
    intro l
    induction l with
    | nil => intro mp; simp
    | cons r l ih =>
      intro mp
      have h1 := ih (putM mp r)
      have h2 : (putM mp r).length ≤ mp.length + 1 := by
        unfold putM
        split
        · exact hp _ _ _
        · split
          · have := hd mp r.target; omega
          · omega
      simp only [List.foldl_cons, List.length_cons]
      omega
  simpa [ofM] using this l []

theorem Of_records (l : List Rc) (hl : l.length < 1000000) (hd : ∀ r ∈ l, r.deps.length < 1000000) {R} (h : R (.sl none 7 (recs (docOf l))) []) : ACalls Try.prog 22 [.sl none 7 (recs l)] [] R := by
  refine acalls_of_xwp (an := an22) tab_ok Try.func22 ?_
  have hsl := recs_length l
  (conv => whnf)
  refine LoopP.ind2 (fun (i : Nat) (mp : RMap) => [(9, vi i)]) (fun i mp => [(nameOf 6, .map (rmap mp))]) (fun i _ => l.length - i) (fun i mp => i ≤ l.length ∧ mp = ofM (l.take i)) 0 [] rfl ⟨by omega, rfl⟩ ?_
  rintro i mp ⟨h0, hm⟩ IH
  (conv => whnf)
  refine br_intro (fun hc => ?_) (fun hc => ?_)
  · have hc := lt_of_decE hsl hc
    (conv => whnf); (repeat ((with_reducible refine must_intro ?_ ?_); exact decide_eq_true (by omega); (conv => whnf)))
    refine idxK_map_intro (show (i : Int).toNat < l.length by simpa using hc) ?_
    rw [show l[(i : Int).toNat]'(by simpa using hc) = l[i] from by congr 1]
    (conv => whnf)
    refine put_calls mp l[i] (hd _ (List.getElem_mem hc)) ?_
    (conv => whnf)
    rw [i64_nat (by omega)]
    refine IH (i + 1) (putM mp l[i]) ⟨by omega, ?_⟩ (by omega)
    rw [List.take_succ_eq_append_getElem hc, ofM, List.foldl_append, hm]; rfl
  · have hc := ge_of_decE hsl hc
    rw [List.take_of_length_le hc] at hm
    have hml := ofM_len l
    rw [← hm] at hml
    (conv => whnf)
    refine values_calls mp (by omega) fun ks h1 h2 => ?_
    rw [values_doc (by rw [hm]; exact fits_of l) h1 h2]
    (conv => whnf)
    exact h

theorem docPut_calls (S : List Rc) (hS : S.length < 1000000) (r : Rc) (hr : r.target.length < 1000000) (hT : ∀ s ∈ S, s.target.length < 1000000) {R} (h : R (.sl none 7 (recs (docPut S r))) []) : ACalls Try.prog 48 [.sl none 7 (recs S), .agg r.enc] [] R := by
  refine acalls_of_xwp (an := an48) tab_ok Try.func48 ?_
  have hsl := recs_length S
  (conv => whnf)
  refine br_intro (fun h1 => ?_) (fun h1 => ?_)
  · have h1 : r.kind ≠ 1 := by simpa using h1
    (conv => whnf)
    refine br_intro (fun h2 => ?_) (fun h2 => ?_)
    · have h2 : r.kind ≠ 2 := by simpa using h2
      rw [docPut, if_pos ⟨h1, h2⟩] at h
      (conv => whnf)
      exact h
    · have h2 : r.kind = 2 := by simpa using h2
      have hk : ¬ (r.kind ≠ 1 ∧ r.kind ≠ 2) := fun e => e.2 h2
      have hput : docPut S r = docLoop r (r.kind == 2) S := by
        rw [docPut, if_neg hk]
        congr 1
      rw [hput] at h
      (conv => whnf)
      refine LoopP.ind3 (fun (i : Nat) (out : List Rc) (laid : Bool) => [(5, .sl (some (nameOf 17)) 7 (recs out)), (6, .val (.bool laid)), (7, vi i)]) (fun i out laid => [(nameOf 17, .row 29 7 out.length)])
        (fun i _ _ => S.length - i) (fun i out laid => i ≤ S.length ∧ out.length ≤ 2 * i ∧ out ++ docLoop r laid (S.drop i) = docLoop r (r.kind == 2) S) 0 [] (r.kind == 2) rfl ⟨by omega, by simp, by simp⟩ ?_
      rintro i out laid ⟨h0, hlen, hD⟩ IH
      have hol := recs_length out
      (conv => whnf)
      refine br_intro (fun hc => ?_) (fun hc => ?_)
      · have hc := lt_of_decE hsl hc
        have hti := hT _ (List.getElem_mem hc)
        rw [List.drop_eq_getElem_cons hc, docLoop] at hD
        cases laid
        · simp only [Bool.not_false, Bool.true_and, Bool.false_or] at hD
          (conv => whnf); (repeat ((with_reducible refine must_intro ?_ ?_); exact decide_eq_true (by omega); (conv => whnf)))
          refine idxK_map_intro (show (i : Int).toNat < S.length by simpa using hc) ?_
          rw [show S[(i : Int).toNat]'(by simpa using hc) = S[i] from by congr 1]
          (conv => whnf)
          refine Less_calls r.target S[i].target hr hti fun p hp => ?_
          rw [← hp] at hD
          (conv => whnf)
          refine br_intro (fun hb => ?_) (fun hb => ?_)
          · rw [hb] at hD
            (conv => whnf)
            refine ⟨hol.symm, (by rw [hol]; show (out.length + 1) * (88 + 1) ≤ _; omega), ?_⟩
            (conv => whnf)
            have e1 : recs out ++ [[AV.val (Value.int IntKind.i64 r.kind), AV.val (Value.string (ofB r.target)), AV.val (Value.int IntKind.u64 (r.rule.toNat : Int)), AV.sl none 3 (dpsA r.deps), AV.val (Value.int IntKind.u64 (r.out.toNat : Int)), AV.val (Value.int IntKind.u64 (r.wen.toNat : Int)), AV.val (Value.string (ofB r.tag))]] = recs (out ++ [r]) := by simp [recs, Rc.enc, vi, vs, uv]
            have e2 : (recs out).length + [[AV.val (Value.int IntKind.i64 r.kind), AV.val (Value.string (ofB r.target)), AV.val (Value.int IntKind.u64 (r.rule.toNat : Int)), AV.sl none 3 (dpsA r.deps), AV.val (Value.int IntKind.u64 (r.out.toNat : Int)), AV.val (Value.int IntKind.u64 (r.wen.toNat : Int)), AV.val (Value.string (ofB r.tag))]].length = (out ++ [r]).length := by simp [hol]
            rw [e1, e2]
            generalize hq : out ++ [r] = out2
            obtain ⟨laid2, hlaid2⟩ : ∃ l : Bool, l = true := ⟨true, rfl⟩
            have hlen2 : out2.length ≤ 2 * i + 1 := by rw [← hq]; simp; omega
            have hD2 : out2 ++ ((if S[i].target = r.target then [] else [S[i]]) ++ docLoop r laid2 (S.drop (i + 1))) = docLoop r (r.kind == 2) S := by
              rw [← hD, ← hq, hlaid2]; simp
            have hol2 := recs_length out2
            (conv => whnf); (repeat ((with_reducible refine must_intro ?_ ?_); exact decide_eq_true (by omega); (conv => whnf)))
            refine idxK_map_intro (show (i : Int).toNat < S.length by simpa using hc) ?_
            rw [show S[(i : Int).toNat]'(by simpa using hc) = S[i] from by congr 1]
            (conv => whnf)
            refine br_intro (fun hne => ?_) (fun hne => ?_)
            · have hne : ¬ S[i].target = r.target := by simpa [ofB_eq] using hne
              rw [if_neg hne] at hD2
              (conv => whnf); (repeat ((with_reducible refine must_intro ?_ ?_); exact decide_eq_true (by omega); (conv => whnf)))
              refine idxK_map_intro (show (i : Int).toNat < S.length by simpa using hc) ?_
              rw [show S[(i : Int).toNat]'(by simpa using hc) = S[i] from by congr 1]
              (conv => whnf)
              refine ⟨hol2.symm, (by rw [hol2]; show (out2.length + 1) * (88 + 1) ≤ _; omega), ?_⟩
              (conv => whnf)
              have e1 : recs (out2 ++ [S[i]]) = recs out2 ++ [S[i].enc] := by simp [recs]
              have e2 : (out2 ++ [S[i]]).length = (recs out2).length + [S[i].enc].length := by simp [hol2]
              have := IH (i + 1) (out2 ++ [S[i]]) laid2 ⟨by omega, by simp; omega, by rw [← hD2]; simp⟩ (by omega)
              rw [e1, e2] at this
              rw [i64_nat (by omega)]
              subst hlaid2
              exact this
            · have hne : S[i].target = r.target := by simpa [ofB_eq] using hne
              rw [if_pos hne] at hD2
              (conv => whnf)
              rw [i64_nat (by omega)]
              have := IH (i + 1) out2 laid2 ⟨by omega, by omega, by rw [← hD2]; simp⟩ (by omega)
              subst hlaid2
              exact this
          · rw [hb] at hD
            obtain ⟨laid2, hlaid2⟩ : ∃ l : Bool, l = false := ⟨false, rfl⟩
            obtain ⟨out2, hq⟩ : ∃ o, o = out := ⟨_, rfl⟩
            have hlen2 : out2.length ≤ 2 * i + 1 := by rw [hq]; omega
            have hD2 : out2 ++ ((if S[i].target = r.target then [] else [S[i]]) ++ docLoop r laid2 (S.drop (i + 1))) = docLoop r (r.kind == 2) S := by
              rw [← hD, hq, hlaid2]; simp
            rw [← hq]
            have hol2 := recs_length out2
            (conv => whnf); (repeat ((with_reducible refine must_intro ?_ ?_); exact decide_eq_true (by omega); (conv => whnf)))
            refine idxK_map_intro (show (i : Int).toNat < S.length by simpa using hc) ?_
            rw [show S[(i : Int).toNat]'(by simpa using hc) = S[i] from by congr 1]
            (conv => whnf)
            refine br_intro (fun hne => ?_) (fun hne => ?_)
            · have hne : ¬ S[i].target = r.target := by simpa [ofB_eq] using hne
              rw [if_neg hne] at hD2
              (conv => whnf); (repeat ((with_reducible refine must_intro ?_ ?_); exact decide_eq_true (by omega); (conv => whnf)))
              refine idxK_map_intro (show (i : Int).toNat < S.length by simpa using hc) ?_
              rw [show S[(i : Int).toNat]'(by simpa using hc) = S[i] from by congr 1]
              (conv => whnf)
              refine ⟨hol2.symm, (by rw [hol2]; show (out2.length + 1) * (88 + 1) ≤ _; omega), ?_⟩
              (conv => whnf)
              have e1 : recs (out2 ++ [S[i]]) = recs out2 ++ [S[i].enc] := by simp [recs]
              have e2 : (out2 ++ [S[i]]).length = (recs out2).length + [S[i].enc].length := by simp [hol2]
              have := IH (i + 1) (out2 ++ [S[i]]) laid2 ⟨by omega, by simp; omega, by rw [← hD2]; simp⟩ (by omega)
              rw [e1, e2] at this
              rw [i64_nat (by omega)]
              subst hlaid2
              exact this
            · have hne : S[i].target = r.target := by simpa [ofB_eq] using hne
              rw [if_pos hne] at hD2
              (conv => whnf)
              rw [i64_nat (by omega)]
              have := IH (i + 1) out2 laid2 ⟨by omega, by omega, by rw [← hD2]; simp⟩ (by omega)
              subst hlaid2
              exact this
        · simp only [Bool.not_true, Bool.false_and, Bool.or_false, Bool.false_eq_true, if_false, List.nil_append] at hD
          obtain ⟨laid2, hlaid2⟩ : ∃ l : Bool, l = true := ⟨true, rfl⟩
          obtain ⟨out2, hq⟩ : ∃ o, o = out := ⟨_, rfl⟩
          have hlen2 : out2.length ≤ 2 * i + 1 := by rw [hq]; omega
          have hD2 : out2 ++ ((if S[i].target = r.target then [] else [S[i]]) ++ docLoop r laid2 (S.drop (i + 1))) = docLoop r (r.kind == 2) S := by
            rw [← hD, hq, hlaid2]
          rw [← hq]
          have hol2 := recs_length out2
          (conv => whnf); (repeat ((with_reducible refine must_intro ?_ ?_); exact decide_eq_true (by omega); (conv => whnf)))
          refine idxK_map_intro (show (i : Int).toNat < S.length by simpa using hc) ?_
          rw [show S[(i : Int).toNat]'(by simpa using hc) = S[i] from by congr 1]
          (conv => whnf)
          refine br_intro (fun hne => ?_) (fun hne => ?_)
          · have hne : ¬ S[i].target = r.target := by simpa [ofB_eq] using hne
            rw [if_neg hne] at hD2
            (conv => whnf); (repeat ((with_reducible refine must_intro ?_ ?_); exact decide_eq_true (by omega); (conv => whnf)))
            refine idxK_map_intro (show (i : Int).toNat < S.length by simpa using hc) ?_
            rw [show S[(i : Int).toNat]'(by simpa using hc) = S[i] from by congr 1]
            (conv => whnf)
            refine ⟨hol2.symm, (by rw [hol2]; show (out2.length + 1) * (88 + 1) ≤ _; omega), ?_⟩
            (conv => whnf)
            have e1 : recs (out2 ++ [S[i]]) = recs out2 ++ [S[i].enc] := by simp [recs]
            have e2 : (out2 ++ [S[i]]).length = (recs out2).length + [S[i].enc].length := by simp [hol2]
            have := IH (i + 1) (out2 ++ [S[i]]) laid2 ⟨by omega, by simp; omega, by rw [← hD2]; simp⟩ (by omega)
            rw [e1, e2] at this
            rw [i64_nat (by omega)]
            subst hlaid2
            exact this
          · have hne : S[i].target = r.target := by simpa [ofB_eq] using hne
            rw [if_pos hne] at hD2
            (conv => whnf)
            rw [i64_nat (by omega)]
            have := IH (i + 1) out2 laid2 ⟨by omega, by omega, by rw [← hD2]; simp⟩ (by omega)
            subst hlaid2
            exact this
      · have hc := ge_of_decE hsl hc
        rw [List.drop_eq_nil_of_le hc] at hD
        cases laid
        · (conv => whnf)
          refine ⟨hol.symm, (by rw [hol]; show (out.length + 1) * (88 + 1) ≤ _; omega), ?_⟩
          (conv => whnf)
          have e1 : recs out ++ [r.enc] = recs (docLoop r (r.kind == 2) S) := by rw [← hD]; simp [recs, docLoop]
          rw [← e1] at h
          exact h
        · (conv => whnf)
          rw [show recs out = recs (docLoop r (r.kind == 2) S) by rw [← hD]; simp [docLoop]]
          exact h
  · have h1 : r.kind = 1 := by simpa using h1
    have hk : ¬ (r.kind ≠ 1 ∧ r.kind ≠ 2) := fun e => e.1 h1
    have hput : docPut S r = docLoop r (r.kind == 2) S := by
      rw [docPut, if_neg hk]
      congr 1
    rw [hput] at h
    (conv => whnf)
    refine LoopP.ind3 (fun (i : Nat) (out : List Rc) (laid : Bool) => [(5, .sl (some (nameOf 17)) 7 (recs out)), (6, .val (.bool laid)), (7, vi i)]) (fun i out laid => [(nameOf 17, .row 29 7 out.length)])
      (fun i _ _ => S.length - i) (fun i out laid => i ≤ S.length ∧ out.length ≤ 2 * i ∧ out ++ docLoop r laid (S.drop i) = docLoop r (r.kind == 2) S) 0 [] (r.kind == 2) rfl ⟨by omega, by simp, by simp⟩ ?_
    rintro i out laid ⟨h0, hlen, hD⟩ IH
    have hol := recs_length out
    (conv => whnf)
    refine br_intro (fun hc => ?_) (fun hc => ?_)
    · have hc := lt_of_decE hsl hc
      have hti := hT _ (List.getElem_mem hc)
      rw [List.drop_eq_getElem_cons hc, docLoop] at hD
      cases laid
      · simp only [Bool.not_false, Bool.true_and, Bool.false_or] at hD
        (conv => whnf); (repeat ((with_reducible refine must_intro ?_ ?_); exact decide_eq_true (by omega); (conv => whnf)))
        refine idxK_map_intro (show (i : Int).toNat < S.length by simpa using hc) ?_
        rw [show S[(i : Int).toNat]'(by simpa using hc) = S[i] from by congr 1]
        (conv => whnf)
        refine Less_calls r.target S[i].target hr hti fun p hp => ?_
        rw [← hp] at hD
        (conv => whnf)
        refine br_intro (fun hb => ?_) (fun hb => ?_)
        · rw [hb] at hD
          (conv => whnf)
          refine ⟨hol.symm, (by rw [hol]; show (out.length + 1) * (88 + 1) ≤ _; omega), ?_⟩
          (conv => whnf)
          have e1 : recs out ++ [[AV.val (Value.int IntKind.i64 r.kind), AV.val (Value.string (ofB r.target)), AV.val (Value.int IntKind.u64 (r.rule.toNat : Int)), AV.sl none 3 (dpsA r.deps), AV.val (Value.int IntKind.u64 (r.out.toNat : Int)), AV.val (Value.int IntKind.u64 (r.wen.toNat : Int)), AV.val (Value.string (ofB r.tag))]] = recs (out ++ [r]) := by simp [recs, Rc.enc, vi, vs, uv]
          have e2 : (recs out).length + [[AV.val (Value.int IntKind.i64 r.kind), AV.val (Value.string (ofB r.target)), AV.val (Value.int IntKind.u64 (r.rule.toNat : Int)), AV.sl none 3 (dpsA r.deps), AV.val (Value.int IntKind.u64 (r.out.toNat : Int)), AV.val (Value.int IntKind.u64 (r.wen.toNat : Int)), AV.val (Value.string (ofB r.tag))]].length = (out ++ [r]).length := by simp [hol]
          rw [e1, e2]
          generalize hq : out ++ [r] = out2
          obtain ⟨laid2, hlaid2⟩ : ∃ l : Bool, l = true := ⟨true, rfl⟩
          have hlen2 : out2.length ≤ 2 * i + 1 := by rw [← hq]; simp; omega
          have hD2 : out2 ++ ((if S[i].target = r.target then [] else [S[i]]) ++ docLoop r laid2 (S.drop (i + 1))) = docLoop r (r.kind == 2) S := by
            rw [← hD, ← hq, hlaid2]; simp
          have hol2 := recs_length out2
          (conv => whnf); (repeat ((with_reducible refine must_intro ?_ ?_); exact decide_eq_true (by omega); (conv => whnf)))
          refine idxK_map_intro (show (i : Int).toNat < S.length by simpa using hc) ?_
          rw [show S[(i : Int).toNat]'(by simpa using hc) = S[i] from by congr 1]
          (conv => whnf)
          refine br_intro (fun hne => ?_) (fun hne => ?_)
          · have hne : ¬ S[i].target = r.target := by simpa [ofB_eq] using hne
            rw [if_neg hne] at hD2
            (conv => whnf); (repeat ((with_reducible refine must_intro ?_ ?_); exact decide_eq_true (by omega); (conv => whnf)))
            refine idxK_map_intro (show (i : Int).toNat < S.length by simpa using hc) ?_
            rw [show S[(i : Int).toNat]'(by simpa using hc) = S[i] from by congr 1]
            (conv => whnf)
            refine ⟨hol2.symm, (by rw [hol2]; show (out2.length + 1) * (88 + 1) ≤ _; omega), ?_⟩
            (conv => whnf)
            have e1 : recs (out2 ++ [S[i]]) = recs out2 ++ [S[i].enc] := by simp [recs]
            have e2 : (out2 ++ [S[i]]).length = (recs out2).length + [S[i].enc].length := by simp [hol2]
            have := IH (i + 1) (out2 ++ [S[i]]) laid2 ⟨by omega, by simp; omega, by rw [← hD2]; simp⟩ (by omega)
            rw [e1, e2] at this
            rw [i64_nat (by omega)]
            subst hlaid2
            exact this
          · have hne : S[i].target = r.target := by simpa [ofB_eq] using hne
            rw [if_pos hne] at hD2
            (conv => whnf)
            rw [i64_nat (by omega)]
            have := IH (i + 1) out2 laid2 ⟨by omega, by omega, by rw [← hD2]; simp⟩ (by omega)
            subst hlaid2
            exact this
        · rw [hb] at hD
          obtain ⟨laid2, hlaid2⟩ : ∃ l : Bool, l = false := ⟨false, rfl⟩
          obtain ⟨out2, hq⟩ : ∃ o, o = out := ⟨_, rfl⟩
          have hlen2 : out2.length ≤ 2 * i + 1 := by rw [hq]; omega
          have hD2 : out2 ++ ((if S[i].target = r.target then [] else [S[i]]) ++ docLoop r laid2 (S.drop (i + 1))) = docLoop r (r.kind == 2) S := by
            rw [← hD, hq, hlaid2]; simp
          rw [← hq]
          have hol2 := recs_length out2
          (conv => whnf); (repeat ((with_reducible refine must_intro ?_ ?_); exact decide_eq_true (by omega); (conv => whnf)))
          refine idxK_map_intro (show (i : Int).toNat < S.length by simpa using hc) ?_
          rw [show S[(i : Int).toNat]'(by simpa using hc) = S[i] from by congr 1]
          (conv => whnf)
          refine br_intro (fun hne => ?_) (fun hne => ?_)
          · have hne : ¬ S[i].target = r.target := by simpa [ofB_eq] using hne
            rw [if_neg hne] at hD2
            (conv => whnf); (repeat ((with_reducible refine must_intro ?_ ?_); exact decide_eq_true (by omega); (conv => whnf)))
            refine idxK_map_intro (show (i : Int).toNat < S.length by simpa using hc) ?_
            rw [show S[(i : Int).toNat]'(by simpa using hc) = S[i] from by congr 1]
            (conv => whnf)
            refine ⟨hol2.symm, (by rw [hol2]; show (out2.length + 1) * (88 + 1) ≤ _; omega), ?_⟩
            (conv => whnf)
            have e1 : recs (out2 ++ [S[i]]) = recs out2 ++ [S[i].enc] := by simp [recs]
            have e2 : (out2 ++ [S[i]]).length = (recs out2).length + [S[i].enc].length := by simp [hol2]
            have := IH (i + 1) (out2 ++ [S[i]]) laid2 ⟨by omega, by simp; omega, by rw [← hD2]; simp⟩ (by omega)
            rw [e1, e2] at this
            rw [i64_nat (by omega)]
            subst hlaid2
            exact this
          · have hne : S[i].target = r.target := by simpa [ofB_eq] using hne
            rw [if_pos hne] at hD2
            (conv => whnf)
            rw [i64_nat (by omega)]
            have := IH (i + 1) out2 laid2 ⟨by omega, by omega, by rw [← hD2]; simp⟩ (by omega)
            subst hlaid2
            exact this
      · simp only [Bool.not_true, Bool.false_and, Bool.or_false, Bool.false_eq_true, if_false, List.nil_append] at hD
        obtain ⟨laid2, hlaid2⟩ : ∃ l : Bool, l = true := ⟨true, rfl⟩
        obtain ⟨out2, hq⟩ : ∃ o, o = out := ⟨_, rfl⟩
        have hlen2 : out2.length ≤ 2 * i + 1 := by rw [hq]; omega
        have hD2 : out2 ++ ((if S[i].target = r.target then [] else [S[i]]) ++ docLoop r laid2 (S.drop (i + 1))) = docLoop r (r.kind == 2) S := by
          rw [← hD, hq, hlaid2]
        rw [← hq]
        have hol2 := recs_length out2
        (conv => whnf); (repeat ((with_reducible refine must_intro ?_ ?_); exact decide_eq_true (by omega); (conv => whnf)))
        refine idxK_map_intro (show (i : Int).toNat < S.length by simpa using hc) ?_
        rw [show S[(i : Int).toNat]'(by simpa using hc) = S[i] from by congr 1]
        (conv => whnf)
        refine br_intro (fun hne => ?_) (fun hne => ?_)
        · have hne : ¬ S[i].target = r.target := by simpa [ofB_eq] using hne
          rw [if_neg hne] at hD2
          (conv => whnf); (repeat ((with_reducible refine must_intro ?_ ?_); exact decide_eq_true (by omega); (conv => whnf)))
          refine idxK_map_intro (show (i : Int).toNat < S.length by simpa using hc) ?_
          rw [show S[(i : Int).toNat]'(by simpa using hc) = S[i] from by congr 1]
          (conv => whnf)
          refine ⟨hol2.symm, (by rw [hol2]; show (out2.length + 1) * (88 + 1) ≤ _; omega), ?_⟩
          (conv => whnf)
          have e1 : recs (out2 ++ [S[i]]) = recs out2 ++ [S[i].enc] := by simp [recs]
          have e2 : (out2 ++ [S[i]]).length = (recs out2).length + [S[i].enc].length := by simp [hol2]
          have := IH (i + 1) (out2 ++ [S[i]]) laid2 ⟨by omega, by simp; omega, by rw [← hD2]; simp⟩ (by omega)
          rw [e1, e2] at this
          rw [i64_nat (by omega)]
          subst hlaid2
          exact this
        · have hne : S[i].target = r.target := by simpa [ofB_eq] using hne
          rw [if_pos hne] at hD2
          (conv => whnf)
          rw [i64_nat (by omega)]
          have := IH (i + 1) out2 laid2 ⟨by omega, by omega, by rw [← hD2]; simp⟩ (by omega)
          subst hlaid2
          exact this
    · have hc := ge_of_decE hsl hc
      rw [List.drop_eq_nil_of_le hc] at hD
      cases laid
      · (conv => whnf)
        refine ⟨hol.symm, (by rw [hol]; show (out.length + 1) * (88 + 1) ≤ _; omega), ?_⟩
        (conv => whnf)
        have e1 : recs out ++ [r.enc] = recs (docLoop r (r.kind == 2) S) := by rw [← hD]; simp [recs, docLoop]
        rw [← e1] at h
        exact h
      · (conv => whnf)
        rw [show recs out = recs (docLoop r (r.kind == 2) S) by rw [← hD]; simp [docLoop]]
        exact h
end Go.Abs
end

section
/- The document's fold, All; compact.Records, Waste. -/
set_option maxRecDepth 100000
set_option maxHeartbeats 1000000
set_option linter.unusedVariables false
set_option linter.unusedSimpArgs false
namespace Go.Abs
open Go Go.Proofs Dig
attribute [local irreducible] ibits byteAt strLt firstIdx

theorem docLoop_len (r : Rc) : ∀ (S : List Rc) (laid : Bool), (docLoop r laid S).length ≤ S.length + (if laid = true then 0 else 1) := by
  intro S
  induction S with
  | nil => intro laid; cases laid <;> simp [docLoop]
  | cons s S ih =>
    intro laid
    simp only [docLoop, List.length_append, List.length_cons]
    have := ih (laid || (!laid && ltB r.target s.target))
    have h2 : (if s.target = r.target then [] else [s]).length ≤ 1 := by split <;> simp
    cases laid <;> cases hl : ltB r.target s.target <;> simp [hl] at this ⊢ <;> omega
theorem docPut_len (S : List Rc) (r : Rc) : (docPut S r).length ≤ S.length + 1 := by
  unfold docPut
  split
  · omega
  · have := docLoop_len r S (decide (r.kind = 2))
    split at this <;> omega
theorem docPut_sub {S : List Rc} {r x : Rc} (h : x ∈ docPut S r) : (x = r ∧ r.kind = 1) ∨ x ∈ S := by
  unfold docPut at h
  split at h
  · exact .inr h
  · rename_i hk
    rcases (docLoop_mem r S _ x).1 h with ⟨h1, h2⟩ | ⟨h1, _⟩
    · refine .inl ⟨h2, ?_⟩
      have h1 : ¬ r.kind = 2 := of_decide_eq_false h1
      exact Classical.byContradiction fun e => hk ⟨e, h1⟩
    · exact .inr h1
theorem docPut_mem1 {S : List Rc} {r : Rc} (hk : r.kind = 1) (x : Rc) : x ∈ docPut S r ↔ x = r ∨ (x ∈ S ∧ x.target ≠ r.target) := by
  have hk2 : decide (r.kind = 2) = false := by rw [hk]; rfl
  rw [docPut, if_neg (by simp [hk]), docLoop_mem, hk2]
  simp
theorem docOf_snoc (l : List Rc) (r : Rc) : docOf (l ++ [r]) = docPut (docOf l) r := by simp [docOf]
theorem docFold_len : ∀ (l S : List Rc), (l.foldl docPut S).length ≤ S.length + l.length := by
  intro l
  induction l with
  | nil => intro S; simp
  | cons r l ih =>
    intro S
    have := ih (docPut S r)
    have := docPut_len S r
    simp only [List.foldl_cons, List.length_cons]
    omega
theorem docOf_len (l : List Rc) : (docOf l).length ≤ l.length := by simpa [docOf] using docFold_len l []
theorem docFold_sub : ∀ (l S : List Rc) (x : Rc), x ∈ l.foldl docPut S → (x ∈ l ∧ x.kind = 1) ∨ x ∈ S := by
  intro l
  induction l with
  | nil => intro S x h; exact .inr h
  | cons r l ih =>
    intro S x h
    rcases ih _ x h with ⟨h, hk⟩ | h
    · exact .inl ⟨by simp [h], hk⟩
    · rcases docPut_sub h with ⟨rfl, hk⟩ | h
      · exact .inl ⟨by simp, hk⟩
      · exact .inr h
theorem docOf_sub {l : List Rc} {x : Rc} (h : x ∈ docOf l) : x ∈ l ∧ x.kind = 1 := by
  rcases docFold_sub l [] x h with h | h
  · exact h
  · simp at h
theorem docOf_srt (l : List Rc) : Srt (docOf l) := (fits_of l).srt
theorem docFold_all : ∀ (l S : List Rc), (∀ x ∈ l, x.kind = 1) → (l.Pairwise fun a b => a.target ≠ b.target) → (∀ a ∈ S, ∀ b ∈ l, a.target ≠ b.target) → ∀ x, x ∈ l.foldl docPut S ↔ x ∈ S ∨ x ∈ l := by
  intro l
  induction l with
  | nil => intro S _ _ _ x; simp
  | cons r l ih =>
    intro S hk hp hd x
    have hp' := List.pairwise_cons.1 hp
    rw [List.foldl_cons, ih _ (fun y hy => hk y (by simp [hy])) hp'.2 ?_ x, docPut_mem1 (hk r (by simp)), List.mem_cons]
    · constructor
      · rintro ((h | ⟨h, _⟩) | h)
        · exact .inr (.inl h)
        · exact .inl h
        · exact .inr (.inr h)
      · rintro (h | h | h)
        · exact .inl (.inr ⟨h, hd x h r (by simp)⟩)
        · exact .inl (.inl h)
        · exact .inr h
    · intro a ha b hb
      rcases (docPut_mem1 (hk r (by simp)) a).1 ha with rfl | ⟨h, _⟩
      · exact hp'.1 b hb
      · exact hd a h b (by simp [hb])
theorem docOf_right {S : List Rc} (hs : Srt S) (hk : ∀ x ∈ S, x.kind = 1) : docOf S = S :=
  srt_ext (docOf_srt S) hs fun x => by
    rw [docOf, docFold_all S [] hk (hs.imp fun {a b} (h : a.target < b.target) (e : a.target = b.target) => List.lt_irrefl _ (e ▸ h)) (by simp) x]
    simp
theorem docOf_docOf (l : List Rc) : docOf (docOf l) = docOf l := docOf_right (docOf_srt l) fun x hx => (docOf_sub hx).2

theorem docOf_calls (l : List Rc) (hl : l.length < 1000000) (hT : ∀ s ∈ l, s.target.length < 1000000) {R} (h : R (.sl none 7 (recs (docOf l))) []) : ACalls Try.prog 17 [.sl none 7 (recs l)] [] R := by
  refine acalls_of_xwp (an := an17) tab_ok Try.func17 ?_
  have hsl := recs_length l
  (conv => whnf)
  refine LoopP.ind2 (fun (i : Nat) (S : List Rc) => [(3, .sl none 7 (recs S)), (4, vi i)]) (fun _ _ => []) (fun i _ => l.length - i) (fun i S => i ≤ l.length ∧ S = docOf (l.take i)) 0 [] rfl ⟨by omega, rfl⟩ ?_
  rintro i S ⟨h0, hS⟩ IH
  (conv => whnf)
  refine br_intro (fun hc => ?_) (fun hc => ?_)
  · have hc := lt_of_decE hsl hc
    have hSl : S.length ≤ i := by rw [hS]; have := docOf_len (l.take i); simp at this; omega
    (conv => whnf); (repeat ((with_reducible refine must_intro ?_ ?_); exact decide_eq_true (by omega); (conv => whnf)))
    refine idxK_map_intro (show (i : Int).toNat < l.length by simpa using hc) ?_
    rw [show l[(i : Int).toNat]'(by simpa using hc) = l[i] from by congr 1]
    (conv => whnf)
    refine docPut_calls S (by omega) l[i] (hT _ (List.getElem_mem hc)) (fun s hs => ?_) ?_
    · rw [hS] at hs
      exact hT s (List.mem_of_mem_take (docOf_sub hs).1)
    (conv => whnf)
    rw [i64_nat (by omega)]
    refine IH (i + 1) (docPut S l[i]) ⟨by omega, ?_⟩ (by omega)
    rw [List.take_succ_eq_append_getElem hc, docOf_snoc, hS]
  · have hc := ge_of_decE hsl hc
    rw [List.take_of_length_le hc] at hS
    rw [← hS] at h
    (conv => whnf)
    exact h

theorem All_calls (a b : List Rc) (ha : a.length < 1000000) (had : ∀ r ∈ a, r.deps.length < 1000000) {R} (h : ∀ p, p = decide (a = b) → R (.val (.bool p)) []) : ACalls Try.prog 16 [.sl none 7 (recs a), .sl none 7 (recs b)] [] R := by
  refine acalls_of_xwp (an := an16) tab_ok Try.func16 ?_
  have hsa := recs_length a
  have hsb := recs_length b
  (conv => whnf)
  rw [hsa, hsb]
  refine br_intro (fun hc => ?_) (fun hc => ?_)
  · (conv => whnf)
    refine h false (decide_eq_false ?_).symm
    rintro rfl
    simp at hc
  have hlen : a.length = b.length := by simp at hc; omega
  (conv => whnf)
  refine LoopP.ind1 (fun (i : Nat) => [(5, vi i)]) (fun _ => []) (fun i => a.length - i) (fun i => i ≤ a.length ∧ a.take i = b.take i) 0 rfl ⟨by omega, by simp⟩ ?_
  rintro i ⟨h0, h1⟩ IH
  (conv => whnf)
  refine br_intro (fun hc => ?_) (fun hc => ?_)
  · have hc := lt_of_decE hsa hc
    have hcb : i < b.length := by omega
    (conv => whnf); (repeat ((with_reducible refine must_intro ?_ ?_); exact decide_eq_true (by omega); (conv => whnf)))
    refine idxK_map_intro (show (i : Int).toNat < a.length by simpa using hc) ?_
    rw [show a[(i : Int).toNat]'(by simpa using hc) = a[i] from by congr 1]
    (conv => whnf); (repeat ((with_reducible refine must_intro ?_ ?_); exact decide_eq_true (by omega); (conv => whnf)))
    refine idxK_map_intro (show (i : Int).toNat < b.length by simpa using hcb) ?_
    rw [show b[(i : Int).toNat]'(by simpa using hcb) = b[i] from by congr 1]
    (conv => whnf)
    refine Same8_calls a[i] b[i] (had _ (List.getElem_mem hc)) fun p hp => ?_
    (conv => whnf)
    refine br_intro (fun he => ?_) (fun he => ?_)
    · have he : ¬ a[i] = b[i] := by simpa [hp] using he
      (conv => whnf)
      refine h false (decide_eq_false ?_).symm
      rintro rfl
      exact he rfl
    · have he : a[i] = b[i] := by simpa [hp] using he
      (conv => whnf)
      rw [i64_nat (by omega)]
      refine IH (i + 1) ⟨by omega, ?_⟩ (by omega)
      rw [List.take_succ_eq_append_getElem hc, List.take_succ_eq_append_getElem hcb, h1, he]
  · have hc := ge_of_decE hsa hc
    rw [List.take_of_length_le hc, List.take_of_length_le (by omega)] at h1
    (conv => whnf)
    exact h true (decide_eq_true h1).symm
end Go.Abs
end
