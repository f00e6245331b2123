/- Several texts of this claim, one behind the other: D5, E1, E8, D1, D2, C2, D6, E2, E9, M1, M4, L0, SH, M2, EA, D3, D4, D7, EB, EC, M5, M6, M3, H1, E3, E4, E5, E6, E7, F7, G1, G2. -/
import Derived.Test.YthgjcmfbfigpbaaDoorB9
import Derived.Test.YthgjcmfbfigpbaaDoorAT
import Derived.Test.YthgjcmfbfigpbaaDoorAN
import Derived.Shelf.RegionOpenPlain
import Derived.Lib.Builder
import Derived.Lib.UnsafeStr
import Derived.Lib.Strings
import Derived.Lib.Slices
import Derived.Lib.Walk
import Derived.Test.YthgjcmfbfigpbaaDoorC1
import Derived.Sort.OwnSorted
import Derived.Below
import Derived.Shelf.Strings.Builder1
import Derived.Shelf.Strings.Builder2
import Derived.Shelf.Strings.OnBuilder
import Derived.Shelf.Strconv.Itoa0
import Derived.Shelf.Strconv.Itoa1
import Derived.Shelf.LaysM
import Derived.Shelf.Strconv.Itoa2
import Derived.Shelf.Strconv.Itoa3
import Derived.Shelf.Strings.Search1
import Derived.Shelf.Strings.Search2
import Derived.Shelf.Strings.Search3
import Derived.Shelf.Strings.Shaped
import Derived.Shelf.Strings.Prefix
import Derived.Test.YthgjcmfbfigpbaaDoorProg
import Derived.Lib.Join
import Derived.Lib.SplitLaws
import Derived.Lib.ItoaWalk
import Derived.Lib.ItoaMem
import Derived.Lib.AppendIntMem
import Derived.Lib.Hide
import Derived.TacticsInMore
import Derived.Shelf.Abstract
import Derived.WalkKit
import Derived.OwnWalkIn
import Derived.LoopNIn
import Derived.LoopIn

section
/- Words for texts: a text is a row of bytes. -/
set_option maxRecDepth 100000
set_option linter.unusedVariables false
set_option linter.unusedSimpArgs false
namespace Go.Abs
open Go Go.Proofs

abbrev B := List UInt8
def ofB (l : B) : ByteArray := ⟨l.toArray⟩
def bs (s : ByteArray) : B := s.data.toList
theorem bs_ofB (l : B) : bs (ofB l) = l := by simp [bs, ofB]
theorem ofB_bs (s : ByteArray) : ofB (bs s) = s := by simp [bs, ofB]
theorem bs_inj {s t : ByteArray} (h : bs s = bs t) : s = t := by rw [← ofB_bs s, h, ofB_bs]
theorem ofB_inj {l m : B} (h : ofB l = ofB m) : l = m := by rw [← bs_ofB l, h, bs_ofB]
theorem ofB_eq {l m : B} : ofB l = ofB m ↔ l = m := ⟨ofB_inj, fun h => by rw [h]⟩
theorem bs_append (s t : ByteArray) : bs (s ++ t) = bs s ++ bs t := by simp [bs]
theorem ofB_append (l m : B) : ofB l ++ ofB m = ofB (l ++ m) := bs_inj (by rw [bs_append, bs_ofB, bs_ofB, bs_ofB])
theorem size_bs (s : ByteArray) : s.size = (bs s).length := by simp [bs]
theorem size_ofB (l : B) : (ofB l).size = l.length := by rw [size_bs, bs_ofB]
theorem bs_extract (s : ByteArray) (a b : Nat) : bs (s.extract a b) = ((bs s).take b).drop a := by
  simp [bs, ByteArray.data_extract, List.drop_take]
theorem ofB_extract (l : B) (a b : Nat) : (ofB l).extract a b = ofB ((l.take b).drop a) := bs_inj (by rw [bs_extract, bs_ofB, bs_ofB])
theorem byteAt_ofB (l : B) {i : Nat} (h : i < l.length) : byteAt (ofB l) i = ((l[i]).toNat : Int) := by
  have hs : i < (ofB l).size := by rw [size_ofB]; exact h
  unfold byteAt
  rw [dif_pos hs]
  rfl
theorem strOfNums_ofB (l : B) : strOfNums (l.map fun b => (b.toNat : Int)) = ofB l := bs_inj (by
  rw [bs_ofB]
  show (strOfNums _).data.toList = _
  rw [strOfNums_data, List.map_map]
  conv => rhs; rw [← List.map_id l]
  refine List.map_congr_left fun b _ => ?_
  simp)
theorem u8_back (b : UInt8) : ((b.toNat : Int)).toNat.toUInt8 = b := by simp
theorem u8_inj {a b : UInt8} : ((a.toNat : Int) = (b.toNat : Int)) ↔ a = b := ⟨fun h => UInt8.toNat_inj.1 (by omega), fun h => by rw [h]⟩

/-! ### hexadecimal digits -/
def signsB : B := [48, 49, 50, 51, 52, 53, 54, 55, 56, 57, 97, 98, 99, 100, 101, 102]
def hexc (d : Nat) : UInt8 := if d < 10 then UInt8.ofNat (48 + d) else UInt8.ofNat (87 + d)
def hexv (c : UInt8) : Option Nat := if 48 ≤ c.toNat ∧ c.toNat ≤ 57 then some (c.toNat - 48) else if 97 ≤ c.toNat ∧ c.toNat ≤ 102 then some (c.toNat - 87) else none
def hexi (c : UInt8) : Int := match hexv c with | some d => d | none => -1
theorem idx_signs0 : (List.range 256).all (fun n => decide (firstIdx (ofB signsB) (UInt8.ofNat n) = hexi (UInt8.ofNat n))) = true := by decide +kernel
theorem idx_signs (c : UInt8) : firstIdx (ofB signsB) c = hexi c := by
  have h := List.all_eq_true.1 idx_signs0 c.toNat (List.mem_range.2 c.toNat_lt)
  simpa using h
theorem at_signs0 : (List.range 16).all (fun d => decide (byteAt (ofB signsB) d = ((hexc d).toNat : Int))) = true := by decide +kernel
theorem at_signs {d : Nat} (h : d < 16) : byteAt (ofB signsB) d = ((hexc d).toNat : Int) := by
  have h := List.all_eq_true.1 at_signs0 d (List.mem_range.2 h)
  simpa using h
theorem hexv_hexc0 : (List.range 16).all (fun d => decide (hexv (hexc d) = some d)) = true := by decide +kernel
theorem hexv_hexc {d : Nat} (h : d < 16) : hexv (hexc d) = some d := by
  have h := List.all_eq_true.1 hexv_hexc0 d (List.mem_range.2 h)
  simpa using h
theorem hexc_hexv {c : UInt8} {d : Nat} (h : hexv c = some d) : hexc d = c ∧ d < 16 := by
  have key : (List.range 256).all (fun n => match hexv (UInt8.ofNat n) with | some d => decide (hexc d = UInt8.ofNat n ∧ d < 16) | none => true) = true := by decide +kernel
  have h1 := List.all_eq_true.1 key c.toNat (List.mem_range.2 c.toNat_lt)
  rw [show UInt8.ofNat c.toNat = c by simp, h] at h1
  simpa using h1

theorem and15 {x : Int} (h0 : 0 ≤ x) (h1 : x < 18446744073709551616) : ibits .and .u64 x 15 = x % 16 := by
  obtain ⟨n, rfl⟩ := Int.eq_ofNat_of_zero_le h0
  have hn : n < 18446744073709551616 := by omega
  have e1 : BitVec.ofInt IntKind.u64.bits (n : Int) = BitVec.ofNat 64 n := by
    show BitVec.ofInt 64 (n : Int) = _
    simp
  have e2 : BitVec.ofInt IntKind.u64.bits 15 = BitVec.ofNat 64 15 := rfl
  simp only [ibits]
  rw [e1, e2, wrap_u64]
  have : ((BitVec.ofNat 64 n &&& BitVec.ofNat 64 15 : BitVec 64)).toNat = n % 16 := by
    rw [BitVec.toNat_and, BitVec.toNat_ofNat, BitVec.toNat_ofNat, Nat.mod_eq_of_lt (show n < 2 ^ 64 by simpa using hn), show 15 % 2 ^ 64 = 2 ^ 4 - 1 from rfl, Nat.and_two_pow_sub_one_eq_mod]
  show (((BitVec.ofNat 64 n &&& BitVec.ofNat 64 15 : BitVec 64).toNat : Int)) % _ = _
  rw [this]
  omega
theorem fdiv_nat (n k : Nat) : ((n : Int)).fdiv (2 ^ k) = ((n / 2 ^ k : Nat) : Int) := by
  rw [Int.fdiv_eq_ediv_of_nonneg _ (by exact Int.le_of_lt (Int.pow_pos (by omega)))]
  simp
theorem and15_of (h : U) (e : Nat) : ibits .and .u64 ((h.toNat : Int).fdiv (2 ^ e)) 15 = ((h.toNat / 2 ^ e % 16 : Nat) : Int) := by
  rw [fdiv_nat, and15 (Int.natCast_nonneg _) (by have := h.isLt; have := Nat.div_le_self h.toNat (2 ^ e); omega)]
  omega

/-- The last 'k' digits. -/
def hexL (n : Nat) : Nat → B
  | 0 => []
  | k + 1 => hexc (n / 16 ^ k % 16) :: hexL n k
theorem hexL_length (n : Nat) : ∀ k, (hexL n k).length = k := by
  intro k
  induction k with
  | zero => rfl
  | succ k ih => simp [hexL, ih]
def hexB (h : U) : B := hexL h.toNat 16
/-- What digits tell: on from a number. -/
def readL : B → Nat → Option Nat
  | [], n => some n
  | c :: l, n => match hexv c with
    | some d => readL l (16 * n + d)
    | none => none
def readB (s : B) : Option U := if s.length = 16 then (readL s 0).map (BitVec.ofNat 64) else none
theorem readL_lt : ∀ (s : B) (n k m : Nat), readL s n = some m → n < 16 ^ k → m < 16 ^ (k + s.length) := by
  intro s
  induction s with
  | nil => intro n k m h hn; simp only [readL, Option.some.injEq] at h; subst h; simpa using hn
  | cons c s ih =>
    intro n k m h hn
    simp only [readL] at h
    split at h
    · rename_i d hd
      have := (hexc_hexv hd).2
      have := ih (16 * n + d) (k + 1) m h (by rw [Nat.pow_succ]; omega)
      rw [List.length_cons, show k + (s.length + 1) = k + 1 + s.length by omega]; exact this
    · cases h
theorem readL_hexL (n : Nat) : ∀ (k m : Nat), readL (hexL n k) m = some (16 ^ k * m + n % 16 ^ k) := by
  intro k
  induction k with
  | zero => intro m; simp [readL, hexL, Nat.mod_one]
  | succ k ih =>
    intro m
    simp only [readL, hexL]
    rw [hexv_hexc (Nat.mod_lt _ (by omega))]
    simp only
    rw [ih]
    congr 1
    have e : n % 16 ^ (k + 1) = n % 16 ^ k + 16 ^ k * (n / 16 ^ k % 16) := by rw [Nat.pow_succ, Nat.mod_mul]
    rw [e, Nat.pow_succ, Nat.mul_add, ← Nat.mul_assoc]
    omega
theorem hexL_readL : ∀ (s : B) (n m : Nat), readL s n = some m → hexL m s.length = s ∧ m / 16 ^ s.length = n := by
  intro s
  induction s with
  | nil => intro n m h; simp only [readL, Option.some.injEq] at h; subst h; simp [hexL]
  | cons c s ih =>
    intro n m h
    simp only [readL] at h
    split at h
    · rename_i d hd
      obtain ⟨h1, h2⟩ := hexc_hexv hd
      obtain ⟨h3, h4⟩ := ih _ _ h
      refine ⟨?_, ?_⟩
      · rw [List.length_cons, hexL, h3, h4, show (16 * n + d) % 16 = d by omega, h1]
      · rw [List.length_cons, Nat.pow_succ, ← Nat.div_div_eq_div_mul, h4]; omega
    · cases h
theorem readB_hexB (h : U) : readB (hexB h) = some h := by
  unfold readB hexB
  rw [if_pos (hexL_length _ _), readL_hexL]
  simp only [Option.map_some, Option.some.injEq]
  apply BitVec.eq_of_toNat_eq
  have := h.isLt
  simp
  omega
theorem hexB_readB {s : B} {h : U} (e : readB s = some h) : hexB h = s := by
  unfold readB at e
  split at e
  · rename_i hl
    obtain ⟨m, h1, rfl⟩ := Option.map_eq_some_iff.1 e
    have h2 := readL_lt s 0 0 m h1 (by simp)
    rw [hl] at h2
    have h3 := (hexL_readL s 0 m h1).1
    rw [hl] at h3
    unfold hexB
    rw [BitVec.toNat_ofNat, Nat.mod_eq_of_lt (by simpa using h2), h3]
  · cases e
end Go.Abs
end

section
/- Tables of texts (intern): the functions. -/
set_option maxRecDepth 100000
set_option linter.unusedVariables false
set_option linter.unusedSimpArgs false
namespace Go.Abs
open Go Go.Proofs
attribute [local irreducible] ibits byteAt strLt firstIdx

def vs (s : B) : AV := .val (.string (ofB s))
def vi (i : Int) : AV := .val (.int .i64 i)
def strs (l : List B) : List (List AV) := l.map fun s => [vs s]
theorem strs_length (l : List B) : (strs l).length = l.length := by simp [strs]
theorem strs_append (l m : List B) : strs (l ++ m) = strs l ++ strs m := by simp [strs]

/-! ### maps of texts, by the order in which they came -/
def tblFrom : List B → Nat → List (ByteArray × AV)
  | [], _ => []
  | s :: l, i => (ofB s, vi i) :: tblFrom l (i + 1)
theorem tblFrom_append (l : List B) (s : B) : ∀ i, tblFrom (l ++ [s]) i = tblFrom l i ++ [(ofB s, vi (i + l.length))] := by
  induction l with
  | nil => intro i; simp [tblFrom]
  | cons a l ih => intro i; simp [tblFrom, ih, Int.add_assoc]; congr 2; omega
theorem mapFind_none {l : List B} {s : B} (h : s ∉ l) : ∀ i, mapFind (tblFrom l i) (ofB s) = none := by
  induction l with
  | nil => intro i; rfl
  | cons a l ih =>
    intro i
    simp only [List.mem_cons, not_or] at h
    simp only [tblFrom, mapFind]
    rw [if_neg (fun e => h.1 (ofB_inj e).symm)]
    exact ih h.2 _
theorem mapFind_some {l : List B} {s : B} (h : s ∈ l) : ∀ i, ∃ j : Int, mapFind (tblFrom l i) (ofB s) = some (vi j) := by
  induction l with
  | nil => cases h
  | cons a l ih =>
    intro i
    simp only [tblFrom, mapFind]
    by_cases e : a = s
    · subst e; rw [if_pos rfl]; exact ⟨_, rfl⟩
    · rw [if_neg (fun e' => e (ofB_inj e'))]
      exact ih (by simpa [Ne.symm e, eq_comm] using h) _
theorem mapPut_new {l : List B} {s : B} {v : AV} (h : s ∉ l) : ∀ i, mapPut (tblFrom l i) (ofB s) v = tblFrom l i ++ [(ofB s, v)] := by
  induction l with
  | nil => intro i; rfl
  | cons a l ih =>
    intro i
    simp only [List.mem_cons, not_or] at h
    simp only [tblFrom, mapPut]
    rw [if_neg (fun e => h.1 (ofB_inj e).symm), ih h.2]
    rfl

/-- A table in memory: fresh, or with texts. -/
def tblF : AObj := .cells 98 [.val (.slice none 0 0), .val (.map none)]
def tblO (n m : Nat) (l : List B) : AObj := .cells 98 [.sl (some n) 1 (strs l), .mapv m]
def tblR (l : List B) : AObj := .row 9 1 l.length
def tblM (l : List B) : AObj := .map (tblFrom l 0)
def tblP (l : List B) (s : B) : List B := if s ∈ l then l else l ++ [s]

theorem bytes_str : (tab.ti 9).bytes = 16 := rfl
theorem put_new (s : B) {R} (h : R (.tup [vi 0, .val (.bool true)]) [tblO 1 2 [s], tblR [s], tblM [s]]) :
    ACalls Tryd.prog 60 [.ptr 0 0, vs s] [tblF] R := by
  refine acalls_of_xwp (an := an60) tab_ok Tryd.func60 ?_
  (conv => whnf)
  refine ⟨(by rw [bytes_str]; decide : 1 * ((tab.ti 9).bytes + 1) ≤ 140737488355328), ?_⟩
  (conv => whnf)
  exact h

theorem put_old (l : List B) (s : B) (hs : s ∈ l) {R} (h : ∀ j, R (.tup [vi j, .val (.bool false)]) [tblO 1 2 l, tblR l, tblM l]) :
    ACalls Tryd.prog 60 [.ptr 0 0, vs s] [tblO 1 2 l, tblR l, tblM l] R := by
  refine acalls_of_xwp (an := an60) tab_ok Tryd.func60 ?_
  obtain ⟨j, hj⟩ := mapFind_some hs 0
  (conv => whnf)
  rw [hj]
  (conv => whnf)
  exact h j

theorem put_more (l : List B) (s : B) (hl : l.length < 1000000) (hs : s ∉ l) {R} (h : R (.tup [vi l.length, .val (.bool true)]) [tblO 1 2 (l ++ [s]), tblR (l ++ [s]), tblM (l ++ [s])]) :
    ACalls Tryd.prog 60 [.ptr 0 0, vs s] [tblO 1 2 l, tblR l, tblM l] R := by
  refine acalls_of_xwp (an := an60) tab_ok Tryd.func60 ?_
  (conv => whnf)
  rw [mapFind_none hs]
  (conv => whnf)
  refine ⟨(strs_length l).symm, ?_, ?_⟩
  · rw [strs_length, bytes_str]; simp; omega
  (conv => whnf)
  have e1 : (strs l ++ [[AV.val (Value.string (ofB s))]]) = strs (l ++ [s]) := (strs_append l [s]).symm
  have e2 : IntKind.i64.wrap (((strs (l ++ [s])).length : Int) - 1) = (l.length : Int) := by
    rw [strs_length, wrap_i64 (by rw [List.length_append]; simp <;> omega) (by rw [List.length_append]; simp <;> omega)]; simp
  have e3 : (strs l).length + [[AV.val (Value.string (ofB s))]].length = (l ++ [s]).length := by simp [strs_length]
  rw [mapPut_new hs, e3, e1, e2, strs_length]
  unfold tblM at h
  rw [tblFrom_append, show (((0 : Nat) : Int) + (l.length : Int)) = l.length by omega] at h
  exact h

/-- Put, whatever there is: tables of texts, each once. -/
theorem tblP_some {l : List B} {s : B} (h : s ∈ l) : tblP l s = l := by simp [tblP, h]
theorem tblP_none {l : List B} {s : B} (h : s ∉ l) : tblP l s = l ++ [s] := by simp [tblP, h]

theorem ID_new (s : B) {R} (h : R (.tup [uv 0, .val (.bool true)]) [tblO 1 2 [s], tblR [s], tblM [s]]) :
    ACalls Tryd.prog 43 [.ptr 0 0, vs s] [tblF] R := by
  refine acalls_of_xwp (an := an43) tab_ok Tryd.func43 ?_
  (conv => whnf)
  refine put_new s ?_
  (conv => whnf)
  exact h
theorem ID_old (l : List B) (s : B) (hs : s ∈ l) {R} (h : ∀ j : Int, R (.tup [.val (.int .u64 j), .val (.bool false)]) [tblO 1 2 l, tblR l, tblM l]) :
    ACalls Tryd.prog 43 [.ptr 0 0, vs s] [tblO 1 2 l, tblR l, tblM l] R := by
  refine acalls_of_xwp (an := an43) tab_ok Tryd.func43 ?_
  (conv => whnf)
  refine put_old l s hs fun j => ?_
  (conv => whnf)
  exact h _
theorem ID_more (l : List B) (s : B) (hl : l.length < 1000000) (hs : s ∉ l) {R} (h : ∀ j : Int, R (.tup [.val (.int .u64 j), .val (.bool true)]) [tblO 1 2 (l ++ [s]), tblR (l ++ [s]), tblM (l ++ [s])]) :
    ACalls Tryd.prog 43 [.ptr 0 0, vs s] [tblO 1 2 l, tblR l, tblM l] R := by
  refine acalls_of_xwp (an := an43) tab_ok Tryd.func43 ?_
  (conv => whnf)
  refine put_more l s hl hs ?_
  (conv => whnf)
  exact h _
/-- A table, whichever (type 98). -/
def tblS (l : List B) : List AObj := match l with | [] => [tblF] | _ => [tblO 1 2 l, tblR l, tblM l]
theorem New_nil {R} (h : R (.ptr 0 0) [tblF]) : ACalls Tryd.prog 42 [.val (.slice none 0 0)] [] R := by
  refine acalls_of_xwp (an := an42) tab_ok Tryd.func42 ?_
  (conv => whnf)
  refine LoopP.step ?_
  (conv => whnf)
  exact h
def tblN (l : List B) : List B := l.foldl tblP []
theorem New_calls (a : B) (l : List B) (hl : l.length < 100000) {R} (h : ∀ m, m = tblN (a :: l) → R (.ptr 0 0) [tblO 1 2 m, tblR m, tblM m]) : ACalls Tryd.prog 42 [.sl none 1 (strs (a :: l))] [] R := by
  refine acalls_of_xwp (an := an42) tab_ok Tryd.func42 ?_
  (conv => whnf)
  have hsl : (strs (a :: l)).length = l.length + 1 := by rw [strs_length]; rfl
  refine LoopP.step ?_
  (conv => whnf)
  refine br_true (by rw [hsl]; simp <;> omega) ?_
  (conv => whnf)
  refine put_new a ?_
  (conv => whnf)
  refine LoopP.ind2 (fun (i : Nat) (m : List B) => [(10, vi i)]) (fun i m => [(nameOf 7, tblO (freshN 18 0) (freshN 18 1) m), (freshN 18 0, tblR m), (freshN 18 1, tblM m)]) (fun i _ => l.length + 1 - i)
    (fun i m => 1 ≤ i ∧ i ≤ l.length + 1 ∧ m.length ≤ i ∧ (l.drop (i - 1)).foldl tblP m = tblN (a :: l)) 1 [a] rfl ⟨by omega, by omega, by simp, by simp [tblN, tblP]⟩ ?_
  rintro i m ⟨h0, h1, h2, h3⟩ IH
  (conv => whnf)
  refine br_intro (fun hc => ?_) (fun hc => ?_)
  · have hc : i < l.length + 1 := by rw [hsl] at hc; simp at hc; omega
    have hi : i < (a :: l).length := by simpa using hc
    (conv => whnf)
    refine idxK_map_intro (show (i : Int).toNat < (a :: l).length by simpa using hc) ?_
    obtain ⟨s, hs⟩ : ∃ s, s = (a :: l)[(i : Int).toNat]'(by simpa using hc) := ⟨_, rfl⟩
    rw [← hs]
    have hd : l.drop (i - 1) = s :: l.drop i := by
      rw [List.drop_eq_getElem_cons (show i - 1 < l.length by omega), show i - 1 + 1 = i by omega, hs]
      congr 1
      obtain ⟨j, rfl⟩ : ∃ j, i = j + 1 := ⟨i - 1, by omega⟩
      simp
    rw [hd, List.foldl_cons] at h3
    (conv => whnf)
    by_cases hm : s ∈ m
    · refine put_old m s hm fun j => ?_
      rw [tblP_some hm] at h3
      (conv => whnf)
      rw [wrap_i64 (by omega) (by omega)]
      exact IH (i + 1) m ⟨by omega, by omega, by omega, by simpa using h3⟩ (by omega)
    · refine put_more m s (by omega) hm ?_
      rw [tblP_none hm] at h3
      (conv => whnf)
      rw [wrap_i64 (by omega) (by omega)]
      exact IH (i + 1) (m ++ [s]) ⟨by omega, by omega, by simp; omega, by simpa using h3⟩ (by omega)
  · have hc : i = l.length + 1 := by rw [hsl] at hc; simp at hc; omega
    subst hc
    rw [Nat.add_sub_cancel, List.drop_length] at h3
    (conv => whnf)
    exact h m h3
end Go.Abs
end

section
/- The library's strings.Builder: what its functions do in memory. -/
set_option linter.unusedVariables false
set_option linter.unusedSimpArgs false
namespace Go.Abs
open Go Go.Proofs Go.Shelf Go.RowKit

theorem sb_size : (Tryd.prog.info? 51).map (·.size) = some 2 := by kernel_rfl
theorem sb_lies : liesAt Tryd.prog Tryd.prog.depth 51 (2 / Tryd.prog.cellsOf 51) 0 51 1 = true := by kernel_rfl
theorem sb_cells : Tryd.prog.cellsOf 5 = 1 := by kernel_rfl

set_option maxHeartbeats 1000000 in
set_option maxRecDepth 100000 in
theorem copyCheck_used (b : Nat) (w : World) (h0 : w.cell? ⟨b, 0, none⟩ = some (.pointer (some ⟨b, 0, none⟩))) :
    Calls Tryd.prog 39 #[.pointer (some ⟨b, 0, none⟩)] w fun e w' => e = .returned (.tuple #[]) ∧ w' = w := by
  obtain ⟨j, hj, _⟩ := Option.map_eq_some_iff.1 sb_size
  have mixed := mixed_ok
  go_enter Tryd.func39, Tryd.ntmps39
  go_wp2
  rw [Lib.run_neq_ptr_same w _ Tryd.underlying48 hj]
  go_wp2
  go_end0
  exact ⟨rfl, rfl⟩

set_option maxHeartbeats 1000000 in
set_option maxRecDepth 100000 in
theorem copyCheck_fresh (b : Nat) (w : World) (h0 : w.cell? ⟨b, 0, none⟩ = some (.pointer none)) (hsh : w.shape? b = some (51, 2)) (hfz : w.frozen? ⟨b, 0, none⟩ = false) :
    Calls Tryd.prog 39 #[.pointer (some ⟨b, 0, none⟩)] w fun e w' => e = .returned (.tuple #[]) ∧ w' = w.setCell ⟨b, 0, none⟩ (.pointer (some ⟨b, 0, none⟩)) := by
  obtain ⟨j, hj, hjs⟩ := Option.map_eq_some_iff.1 sb_size
  have mixed := mixed_ok
  go_enter Tryd.func39, Tryd.ntmps39
  go_wp2
  rw [Lib.run_to_unsafe w ⟨b, 0, none⟩ Tryd.underlying48 Tryd.underlying88 hj (by rw [hjs]; decide) hsh (Nat.zero_lt_succ 1)]
  simp only [Result.andThen]
  rw [Oper.upon_value]
  go_wp2
  rw [run_callFunc_extern Tryd.func57 (by kernel_rfl) (by kernel_rfl) (by kernel_rfl) (e := Extern.AbiNoEscape.same) (by kernel_rfl)]
  rw [Lib.run_noEscape]
  simp only [Result.andThen]
  rw [Oper.upon_value]
  go_wp2
  rw [Lib.run_from_unsafe w ⟨b, 0, none⟩ Tryd.underlying88 Tryd.underlying48 hj hsh sb_lies]
  simp only [Result.andThen]
  rw [Oper.upon_value]
  go_wp2
  go_end0
  exact ⟨rfl, rfl⟩

set_option maxHeartbeats 1000000 in
set_option maxRecDepth 100000 in
theorem sbString_raw (b g cap : Nat) (p : Value) (cur : Array Value) (l : List UInt8) (w : World) (h0 : l ≠ []) (hbk : w.heap[b]? = some (.cells #[p, .slice (some ⟨g, 0, none⟩) l.length cap] 51 (0, 0)))
    (hg : w.heap[g]? = some (.cells cur 5 (0, 0))) (hnc : l.length ≤ cap) (hcm : cap ≤ maxLen) (hcs : cur.size = cap * 1) (htake : cur.toList.take (l.length * 1) = Lib.byteCells l) :
    Calls Tryd.prog 26 #[.pointer (some ⟨b, 0, none⟩)] w fun e w' => e = .returned (.string ⟨l.toArray⟩) ∧ ∃ w0 : World, w' = w0.freeze ⟨g, 0, none⟩ l.length ∧ w0.heap = w.heap ∧ w0.os = w.os ∧ w0.tape = w.tape ∧ w0.output = w.output := by
  have hl0 : l.length ≠ 0 := by simpa using h0
  have c1 : w.drew.cell? ⟨b, 1, none⟩ = some (.slice (some ⟨g, 0, none⟩) l.length cap) := by
    have : w.drew.heap[b]? = some (.cells #[p, .slice (some ⟨g, 0, none⟩) l.length cap] 51 (0, 0)) := hbk
    rw [Lib.cell_of_heap this]; rfl
  have hSD : (Builtin.unsafeSliceData_ #[49] 68 #[.slice (some ⟨g, 0, none⟩) l.length cap]).run Tryd.prog w.drew = .ok (.pointer (some ⟨g, 0, none⟩)) w.drew :=
    Lib.run_unsafeSliceData_row _ _ _ _ _ _ (by omega)
  have hUS : (Builtin.unsafeString_ #[68, 3] 9 #[.pointer (some ⟨g, 0, none⟩), .int .i64 l.length]).run Tryd.prog w.drew = .ok (.string ⟨l.toArray⟩) (w.drew.freeze ⟨g, 0, none⟩ l.length) := by
    refine Lib.run_unsafeString_row w.drew 68 3 9 5 Tryd.underlying68 sb_cells g cur.size (by have hg' : w.drew.heap[g]? = some (.cells cur 5 (0, 0)) := hg; simp [World.shape?, hg']) l h0 (by omega) (by unfold maxLen at hcm; omega) ?_
    intro j x hx
    have hj : j < l.length := (List.getElem?_eq_some_iff.1 hx).1
    have hcj : cur[j]? = some (.int .u8 x.toNat) := by
      have h1 : (cur.toList.take (l.length * 1))[j]? = some (.int .u8 x.toNat) := by rw [htake]; simp [Lib.byteCells, hx]
      rw [List.getElem?_take_of_lt (by omega)] at h1
      simpa using h1
    have hg' : w.drew.heap[g]? = some (.cells cur 5 (0, 0)) := hg
    rw [show Addr.add ⟨g, 0, none⟩ j = ⟨g, j, none⟩ from by rw [addr_add, Nat.zero_add], Lib.cell_of_heap hg']
    exact hcj
  have mixed := mixed_ok
  go_enter Tryd.func26, Tryd.ntmps26
  go_wp2
  go_region_o
  all_goals (go_wp2; go_ret; exact ⟨rfl, w.drew, rfl, rfl, rfl, rfl, rfl⟩)

/-! ### contracts by hand -/
def entry (G : Gh) (w : World) : Entry := ⟨G, w, fun b => ∃ n, G.at n b, True⟩
theorem inv0 {G : Gh} {os : List AObj} {w : World} (hW : WR G (numbered 0 os) w) : Inv (entry G w) ⟨[], numbered 0 os⟩ G { tmps := #[], defers := [] } w :=
  ⟨by simp [RepL], Marks.nil _ _ _, hW, Gh.le.refl _, ⟨rfl, rfl, rfl, Nat.le_refl _, fun _ _ _ => rfl, fun _ _ _ _ => rfl⟩, fun n b hb => .inl ⟨n, hb⟩⟩
theorem acalls_pack {P : Program} {f : FuncId} {args : List AV} {os : List AObj} {R : AV → List AObj → Prop}
    (h : ∀ (G : Gh) (w : World) (vals : List Value), WR G (numbered 0 os) w → RepL G args vals → Calls P f vals.toArray w fun e w' => ∃ (v : Value) (r : AV) (os' : List AObj) (G' : Gh), e = .returned v ∧ R r os' ∧ Rep G' r v ∧
      Inv (entry G w) ⟨[], numbered 0 os'⟩ G' { tmps := #[], defers := [] } w' ∧ (∀ (i : Nat) (o : AObj), os'[i]? = some o → ∀ m ∈ objNames o, m < os'.length) ∧ ∀ m ∈ r.names, m < os'.length) : ACalls P f args os R :=
  ⟨fun G w vals hW hA => (h G w vals hW hA).mono fun e w' ⟨v, r, os', G', h1, h2, h3, h4, h5, h6⟩ => ⟨v, r, os', G', h1, h2, h3, h4.wr, h4.le, h4.ext, h4.newb, h5, h6⟩⟩

def sbC (p X : AV) : AObj := .cells 51 [p, X]
def closedOs (os : List AObj) : Prop := ∀ (i : Nat) (o : AObj), os[i]? = some o → ∀ m ∈ objNames o, m < os.length
theorem addOb_same {ob : Nm → Option GO} {n : Nm} {g : GO} (h : ob n = some g) : addOb ob n g = ob := by
  funext m
  unfold addOb
  split
  · rename_i e; subst e; exact h.symm
  · rfl

theorem copyCheck_first (X : AV) (rest : List AObj) (hc : closedOs (sbC (.ptr 0 0) X :: rest)) {R} (h : R (.tup []) (sbC (.ptr 0 0) X :: rest)) :
    ACalls Tryd.prog 39 [.ptr 0 0] (sbC (.val (.pointer none)) X :: rest) R := by
  refine acalls_pack fun G w vals hW hA => ?_
  have hI := inv0 hW
  obtain ⟨b, vs, e1, e2, e3, e4⟩ := hW.obj 0 (sbC (.val (.pointer none)) X) rfl
  simp only [RepL, Rep] at e3 hA
  obtain ⟨_, _, rfl, rfl, x, _, rfl, hx, rfl⟩ := e3
  obtain ⟨_, _, rfl, ⟨b', hb', rfl⟩, rfl⟩ := hA
  rw [e1] at hb'
  cases hb'
  have hlt : b < w.heap.size := (Array.getElem?_eq_some_iff.1 e2).1
  have h0 : w.cell? ⟨b, 0, none⟩ = some (.pointer none) := by rw [Lib.cell_of_heap e2]; rfl
  have hsh : w.shape? b = some (51, 2) := by simp [World.shape?, e2]
  refine (copyCheck_fresh b w h0 hsh (Lib.frozen_of_heap e2 0)).mono ?_
  rintro e w' ⟨rfl, rfl⟩
  have hb2 : (w.setCell ⟨b, 0, none⟩ (.pointer (some ⟨b, 0, none⟩))).heap[b]? = some (.cells #[.pointer (some ⟨b, 0, none⟩), x] 51 (0, 0)) := by
    simp [World.setCell, Array.getElem?_modify, e2]
  have hsame : addOb G.ob 0 (.blk b) = G.ob := addOb_same e1
  have hI' := hI.setObj (w' := w.setCell ⟨b, 0, none⟩ (.pointer (some ⟨b, 0, none⟩))) (n := 0) (o := sbC (.val (.pointer none)) X) (o' := sbC (.ptr 0 0) X) (objs' := numbered 0 (sbC (.ptr 0 0) X :: rest)) (g := .blk b) (K' := G.K) rfl rfl rfl rfl (by simp [World.setCell])
    (fun c hc hn => Below.heap_setCell _ _ _ _ (fun e => hn (by subst e; exact .inl e1))) (fun _ _ _ _ => rfl) (by rw [hsame]; exact Gh.le.refl _)
    (fun c o v hc e => by
      rcases hc with hc | hc
      · have := hI.wr.kltb e; omega
      · rcases hc with hc | ⟨_, _, hc, _⟩
        · rw [e1] at hc; cases hc; rw [e4] at e; cases e
        · rw [e1] at hc; cases hc)
    (fun m => by
      rw [objGet_numbered0]
      show _ = if m = 0 then some (sbC (.ptr 0 0) X) else objGet (numbered 0 (sbC (.val (.pointer none)) X :: rest)) m
      rw [objGet_numbered0]
      cases m <;> simp)
    (by
      rw [hsame]
      exact ⟨b, [.pointer (some ⟨b, 0, none⟩), x], e1, hb2, by simp only [RepL, Rep]; exact ⟨_, _, rfl, ⟨b, e1, rfl⟩, _, _, rfl, hx, rfl⟩, e4⟩)
    (fun c hc => .inr (by rw [hsame] at hc; exact hc))
  rw [hsame] at hI'
  exact ⟨_, .tup [], _, G, rfl, h, by simp only [Rep]; exact ⟨[], rfl, by simp [RepL]⟩, hI', hc, by simp [AV.names, namesL]⟩

theorem copyCheck_again (X : AV) (rest : List AObj) (hc : closedOs (sbC (.ptr 0 0) X :: rest)) {R} (h : R (.tup []) (sbC (.ptr 0 0) X :: rest)) :
    ACalls Tryd.prog 39 [.ptr 0 0] (sbC (.ptr 0 0) X :: rest) R := by
  refine acalls_pack fun G w vals hW hA => ?_
  have hI := inv0 hW
  obtain ⟨b, vs, e1, e2, e3, e4⟩ := hW.obj 0 (sbC (.ptr 0 0) X) rfl
  simp only [RepL, Rep] at e3 hA
  obtain ⟨_, _, rfl, ⟨b1, hb1, rfl⟩, x, _, rfl, hx, rfl⟩ := e3
  obtain ⟨_, _, rfl, ⟨b', hb', rfl⟩, rfl⟩ := hA
  rw [e1] at hb' hb1
  cases hb'
  cases hb1
  have h0 : w.cell? ⟨b, 0, none⟩ = some (.pointer (some ⟨b, 0, none⟩)) := by rw [Lib.cell_of_heap e2]; rfl
  refine (copyCheck_used b w h0).mono ?_
  rintro e w' ⟨rfl, rfl⟩
  exact ⟨_, .tup [], _, G, rfl, h, by simp only [Rep]; exact ⟨[], rfl, by simp [RepL]⟩, hI, hc, by simp [AV.names, namesL]⟩

def byteEls (l : B) : List (List AV) := l.map fun c => [.val (.int .u8 c.toNat)]
theorem freeze_other (w : World) (g n b : Nat) (h : b ≠ g) : (w.freeze ⟨g, 0, none⟩ n).heap[b]? = w.heap[b]? := by
  unfold World.freeze
  split
  · rfl
  · simp [Array.getElem?_modify, Ne.symm h]
theorem freeze_same (w : World) (g n : Nat) (cur : Array Value) (e : TypeId) (h : w.heap[g]? = some (.cells cur e (0, 0))) : ∃ fz, (w.freeze ⟨g, 0, none⟩ n).heap[g]? = some (.cells cur e fz) := by
  unfold World.freeze
  split
  · exact ⟨_, h⟩
  · exact ⟨(0, 0 + n), by simp [Array.getElem?_modify, h]⟩
theorem freeze_size (w : World) (g n : Nat) : (w.freeze ⟨g, 0, none⟩ n).heap.size = w.heap.size := by
  unfold World.freeze
  split
  · rfl
  · simp
theorem freeze_os (w : World) (g n : Nat) : (w.freeze ⟨g, 0, none⟩ n).os = w.os ∧ (w.freeze ⟨g, 0, none⟩ n).tape = w.tape ∧ (w.freeze ⟨g, 0, none⟩ n).output = w.output := by
  unfold World.freeze
  split <;> exact ⟨rfl, rfl, rfl⟩

theorem sbString_calls (p : AV) (l : B) (h0 : l ≠ []) {R} (h : R (.val (.string (ofB l))) [sbC (.ptr 0 0) (.sl (some 1) 1 (byteEls l)), .dead]) :
    ACalls Tryd.prog 26 [.ptr 0 0] [sbC (.ptr 0 0) (.sl (some 1) 1 (byteEls l)), .row 5 1 l.length] R := by
  refine acalls_pack fun G w vals hW hA => ?_
  have hI := inv0 hW
  obtain ⟨b, vs, e1, e2, e3, e4⟩ := hW.obj 0 (sbC (.ptr 0 0) (.sl (some 1) 1 (byteEls l))) rfl
  obtain ⟨u, xs, r1, r2, r3⟩ := hW.obj 1 (.row 5 1 l.length) rfl
  simp only [RepL, Rep] at e3 hA
  obtain ⟨_, _, rfl, ⟨b1, hb1, rfl⟩, x, _, rfl, ⟨⟨A, c, hxv, hcap, hE⟩, u', top, q1, q2, q3⟩, rfl⟩ := e3
  obtain ⟨_, _, rfl, ⟨b', hb', rfl⟩, rfl⟩ := hA
  rw [e1] at hb' hb1
  cases hb'
  cases hb1
  rw [r1] at q1
  cases q1
  have hlen : (byteEls l).length = l.length := by simp [byteEls]
  have hxu : x = u := q3 hlen
  subst hxu
  rcases r2.2 with ⟨_, hz⟩ | ⟨g, cap, cur, hu, _, hg, hnc, hcm, hcs, htake⟩
  · exact absurd (List.eq_nil_of_length_eq_zero hz) h0
  subst hu
  obtain ⟨ws, v1, v2, v3, v4⟩ := hE.flat
  obtain ⟨gb, go, hA', hkv⟩ := v4 (by intro e; rw [e] at hlen; exact h0 (List.eq_nil_of_length_eq_zero hlen.symm))
  rw [hA'] at hxv
  injection hxv with hx1 _ _
  injection hx1 with hx1
  injection hx1 with hx1 hx2 _
  subst hx1 hx2
  have hflat : (byteEls l).flatten = l.map fun c => AV.val (.int .u8 c.toNat) := by
    unfold byteEls
    exact flatten_single _ _
  rw [hflat] at v1
  have hws : ws = l.map fun c => Value.int .u8 c.toNat := RepL_vmap_eq (fun c : UInt8 => Value.int .u8 c.toNat) v1
  have hxs : xs = Lib.byteCells l := by
    have hxl : xs.length = l.length := by rw [r2.1]; simp
    apply List.ext_getElem?
    intro j
    rcases Nat.lt_or_ge j l.length with hj | hj
    · have h1 := hkv j (.int .u8 l[j].toNat) (by rw [hws]; simp [List.getElem?_eq_getElem hj])
      rw [r3 g rfl, Nat.zero_add] at h1
      rw [h1]
      simp [Lib.byteCells, List.getElem?_eq_getElem hj]
    · rw [List.getElem?_eq_none (by omega), List.getElem?_eq_none (by simp [Lib.byteCells]; exact hj)]
  rw [hxs] at htake
  have hgb : g ≠ b := by
    rintro rfl
    rw [e2] at hg
    injection hg with hg
    injection hg with _ hg _
    exact absurd hg (by decide)
  refine (sbString_raw b g cap _ cur l w h0 e2 hg hnc hcm hcs htake).mono ?_
  rintro e w' ⟨rfl, w0, rfl, k1, k2, k3, k4⟩
  have hsame : addOb G.ob 1 (.rowv (.slice (some ⟨g, 0, none⟩) l.length cap) l.length) = G.ob := addOb_same r1
  have hat : G.at 1 g := .inr ⟨_, _, r1, rfl⟩
  have hsz : (w0.freeze ⟨g, 0, none⟩ l.length).heap.size = w.heap.size := by rw [freeze_size, k1]
  obtain ⟨fz, hfz⟩ := freeze_same w0 g l.length cur 5 (by rw [k1]; exact hg)
  have hI' := hI.setObj (w' := w0.freeze ⟨g, 0, none⟩ l.length) (n := 1) (o := .row 5 1 l.length) (o' := .dead) (objs' := numbered 0 [sbC (.ptr 0 0) (.sl (some 1) 1 (byteEls l)), .dead]) (g := .rowv (.slice (some ⟨g, 0, none⟩) l.length cap) l.length) (K' := G.K) rfl
    (by rw [(freeze_os _ _ _).1, k2]) (by rw [(freeze_os _ _ _).2.1, k3]) (by rw [(freeze_os _ _ _).2.2, k4]) (by rw [hsz]; exact Nat.le_refl _)
    (fun c hc hn => by rw [freeze_other _ _ _ _ (fun e => hn (by subst e; exact hat)), k1]) (fun _ _ _ _ => rfl) (by rw [hsame]; exact Gh.le.refl _)
    (fun c o v hc e => by
      rcases hc with hc | hc
      · have := hI.wr.kltb e; omega
      · have hcg : c = g := by
          rcases hc with hc | ⟨_, _, hc, hc'⟩
          · rw [r1] at hc; cases hc
          · rw [r1] at hc; cases hc; simpa [Value.ownBlock] using hc'.symm
        subst hcg
        have := hW.know _ _ _ e
        rw [Lib.cell_of_heap hg] at this
        simp only [World.cell?, hfz]
        exact this)
    (fun m => by
      rw [objGet_numbered0]
      show _ = if m = 1 then some AObj.dead else objGet (numbered 0 [sbC (.ptr 0 0) (.sl (some 1) 1 (byteEls l)), .row 5 1 l.length]) m
      rw [objGet_numbered0]
      match m with
      | 0 => rfl
      | 1 => rfl
      | m + 2 => simp)
    (by
      rw [hsame]
      refine ⟨⟨_, r1⟩, fun c hc => ?_⟩
      rcases hc with hc | ⟨_, _, hc, hc'⟩
      · rw [r1] at hc; cases hc
      · rw [r1] at hc; cases hc
        have : g = c := by simpa [Value.ownBlock] using hc'
        subst this
        rw [hsz]
        exact (Array.getElem?_eq_some_iff.1 hg).1)
    (fun c hc => .inr (by rw [hsame] at hc; exact hc))
  rw [hsame] at hI'
  refine ⟨_, _, _, G, rfl, h, by simp only [Rep]; rfl, hI', fun i o ho m hm => ?_, by simp [AV.names]⟩
  match i, ho with
  | 0, ho =>
    cases ho
    simp only [objNames, sbC, namesL, AV.names, List.append_nil, List.cons_append, List.nil_append, List.mem_cons, List.not_mem_nil, or_false] at hm
    rcases hm with rfl | rfl <;> simp
  | 1, ho => cases ho; simp [objNames] at hm
  | i + 2, ho => simp at ho
end Go.Abs
end

section
/- The digest's functions, and the document's. -/
set_option maxRecDepth 100000
set_option linter.unusedVariables false
set_option linter.unusedSimpArgs false
namespace Go.Abs
open Go Go.Proofs

/-! ### the plain functions -/
namespace Dig
def plus : U := 0x9e3779b97f4a7c15#64
def first : U := 0xbf58476d1ce4e5b9#64
def other : U := 0x94d049bb133111eb#64
def down (k : Nat) (x : U) : U := x ^^^ (x >>> k)
def dig (n : U) : U := down 31 (down 27 (down 30 (n + plus) * first) * other)
def up (k : Nat) (h : U) : U := h ^^^ ((h ^^^ (h >>> k)) >>> k)
def back (n : U) : U := let b0 := n; let s := fun b : U => b * (2 - n * b); s (s (s (s (s (s b0)))))
def dBack (h : U) : U := up 30 (up 27 (up 31 h * back other) * back first) - plus
def fold (n : U) (l : List U) : U := l.foldl (fun h x => dig (h ^^^ x)) (dig n)

theorem up_down (k : Nat) (hk : 22 ≤ k) (x : U) : up k (down k x) = x := by
  unfold up down
  have h1 : ∀ a b : U, (a ^^^ b) >>> k = (a >>> k) ^^^ (b >>> k) := fun a b => BitVec.ushiftRight_xor_distrib a b k
  have h0 : x >>> k >>> k >>> k = 0#64 := by
    rw [← BitVec.shiftRight_add, ← BitVec.shiftRight_add]
    exact BitVec.ushiftRight_eq_zero (by omega)
  simp only [h1, h0]
  apply BitVec.eq_of_getLsbD_eq
  intro i hi
  simp only [BitVec.getLsbD_xor]
  cases x.getLsbD i <;> cases (x >>> k).getLsbD i <;> cases (x >>> k >>> k).getLsbD i <;> simp
theorem back_first (x : U) : x * first * back first = x := by
  rw [BitVec.mul_assoc]
  have : first * back first = 1#64 := by decide +kernel
  rw [this, BitVec.mul_one]
theorem back_other (x : U) : x * other * back other = x := by
  rw [BitVec.mul_assoc]
  have : other * back other = 1#64 := by decide +kernel
  rw [this, BitVec.mul_one]
theorem first_back (x : U) : x * back first * first = x := by
  rw [BitVec.mul_assoc]
  have : back first * first = 1#64 := by decide +kernel
  rw [this, BitVec.mul_one]
theorem other_back (x : U) : x * back other * other = x := by
  rw [BitVec.mul_assoc]
  have : back other * other = 1#64 := by decide +kernel
  rw [this, BitVec.mul_one]
theorem down_up (k : Nat) (hk : 22 ≤ k) (x : U) : down k (up k x) = x := by
  unfold up down
  have h1 : ∀ a b : U, (a ^^^ b) >>> k = (a >>> k) ^^^ (b >>> k) := fun a b => BitVec.ushiftRight_xor_distrib a b k
  have h0 : x >>> k >>> k >>> k = 0#64 := by
    rw [← BitVec.shiftRight_add, ← BitVec.shiftRight_add]
    exact BitVec.ushiftRight_eq_zero (by omega)
  simp only [h1, h0]
  apply BitVec.eq_of_getLsbD_eq
  intro i hi
  simp only [BitVec.getLsbD_xor]
  cases x.getLsbD i <;> cases (x >>> k).getLsbD i <;> cases (x >>> k >>> k).getLsbD i <;> simp
theorem dBack_dOf (n : U) : dBack (dig n) = n := by
  unfold dBack dig
  rw [up_down 31 (by omega), back_other, up_down 27 (by omega), back_first, up_down 30 (by omega), BitVec.add_sub_cancel]
theorem dOf_dBack (n : U) : dig (dBack n) = n := by
  unfold dBack dig
  rw [BitVec.sub_add_cancel, down_up 30 (by omega), first_back, down_up 27 (by omega), other_back, down_up 31 (by omega)]
theorem dOf_inj {a b : U} (h : dig a = dig b) : a = b := by rw [← dBack_dOf a, h, dBack_dOf]
end Dig
open Dig

/-! ### the steps -/
/-- A function value that does what a plain function does. -/
def Does (e : List AV) (g : U → U) : Prop := ∃ f cs, e = [.fn (.func f) [] [.cptr cs 0]] ∧ tab.fn f = true ∧ ∀ x R, R (uv (g x)) [] → ACalls Tryd.prog f [uv x, .cptr cs 0] [] R

theorem u_shr' (x : U) (k : Nat) (hk : k ≤ 64) : ((x.toNat : Int)).fdiv (2 ^ min ((k : Int)).toNat IntKind.u64.bits) = ((x >>> k).toNat : Int) := by
  have : min ((k : Int)).toNat IntKind.u64.bits = k := by
    show min ((k : Int)).toNat 64 = k
    simp; omega
  rw [this, u_shr]

end Go.Abs
end

section
/- The digest's functions, and the document's, on. -/
set_option maxRecDepth 100000
set_option linter.unusedVariables false
set_option linter.unusedSimpArgs false
namespace Go.Abs
open Go Go.Proofs Dig
attribute [local irreducible] ibits byteAt strLt

theorem idx_some {α : Type} {l : List α} {i : Int} (h0 : 0 ≤ i) (h1 : i < (l.length : Int)) : i.toNat < l.length := by omega

/-- Numbers, read out of a slice. -/
def nums (l : List U) : List (List AV) := l.map fun x => [uv x]

/-! ### the document's -/
theorem u_div (x : U) (k : Nat) (hk : k < 63) {c : Int} (hc : c = 2 ^ k) : IntKind.u64.wrap ((x.toNat : Int).tdiv c) = ((x >>> k).toNat : Int) := by
  subst hc
  rw [wrap_u64]
  have h1 : (x.toNat : Int).tdiv (2 ^ k) = ((x >>> k).toNat : Int) := by
    rw [BitVec.toNat_ushiftRight, Nat.shiftRight_eq_div_pow]
    rw [Int.tdiv_eq_ediv_of_nonneg (by omega)]
    simp
  rw [h1]
  have := (x >>> k).isLt
  omega

end Go.Abs
end

section
/- Arguments that are numbers. -/
set_option maxRecDepth 100000
set_option linter.unusedVariables false
set_option linter.unusedSimpArgs false
namespace Go.Abs
open Go Go.Proofs Dig
theorem args_u64 {ts : List TypeId} {l : List AV} (h : Args tab 12 (22 :: ts) l) : ∃ (x : U) (l' : List AV), l = uv x :: l' ∧ Args tab 12 ts l' := by
  obtain ⟨a, l', rfl, h1, h2⟩ := h
  obtain ⟨x, e, hx⟩ : ∃ x, [a] = [.val (.int .u64 x)] ∧ (Lit.int .u64 x).wf = true := h1
  simp only [Lit.wf, Bool.and_eq_true, decide_eq_true_eq] at hx
  have e1 : IntKind.u64.min = 0 := rfl
  have e2 : IntKind.u64.max = 18446744073709551615 := rfl
  rw [e1, e2] at hx
  refine ⟨BitVec.ofInt 64 x, l', ?_, h2⟩
  simp only [List.cons.injEq, and_true] at e ⊢
  rw [e]
  show _ = AV.val (.int .u64 _)
  congr 2
  exact u_of (by omega) (by omega)
theorem args_nil {l : List AV} (h : Args tab 12 [] l) : l = [] := h
theorem wf_u64 {x : Int} (h : (Lit.int .u64 x).wf = true) : x = ((BitVec.ofInt 64 x : U).toNat : Int) := by
  simp only [Lit.wf, Bool.and_eq_true, decide_eq_true_eq] at h
  have e1 : IntKind.u64.min = 0 := rfl
  have e2 : IntKind.u64.max = 18446744073709551615 := rfl
  rw [e1, e2] at h
  exact u_of (by omega) (by omega)
theorem typed_nums {l : List (List AV)} (h : ∀ x ∈ l, ∃ y, x = [.val (.int .u64 y)] ∧ (Lit.int .u64 y).wf = true) : ∃ ns : List U, l = nums ns := by
  induction l with
  | nil => exact ⟨[], rfl⟩
  | cons x l ih =>
    obtain ⟨ns, rfl⟩ := ih fun y hy => h y (by simp [hy])
    obtain ⟨y, rfl, hy⟩ := h x (by simp)
    exact ⟨BitVec.ofInt 64 y :: ns, by simp only [nums, List.map_cons, uv]; rw [← wf_u64 hy]⟩
theorem args_u8 {ts : List TypeId} {l : List AV} (h : Args tab 12 (5 :: ts) l) : ∃ (x : Int) (l' : List AV), l = .val (.int .u8 x) :: l' ∧ (0 ≤ x ∧ x ≤ 255) ∧ Args tab 12 ts l' := by
  obtain ⟨a, l', rfl, h1, h2⟩ := h
  obtain ⟨x, e, hx⟩ : ∃ x, [a] = [.val (.int .u8 x)] ∧ (Lit.int .u8 x).wf = true := h1
  simp only [Lit.wf, Bool.and_eq_true, decide_eq_true_eq] at hx
  have e1 : IntKind.u8.min = 0 := rfl
  have e2 : IntKind.u8.max = 255 := rfl
  rw [e1, e2] at hx
  simp only [List.cons.injEq, and_true] at e
  exact ⟨x, l', by rw [e], hx, h2⟩
end Go.Abs
end

section
/- The digest's digits: the functions. -/
set_option maxRecDepth 100000
set_option linter.unusedVariables false
set_option linter.unusedSimpArgs false
namespace Go.Abs
open Go Go.Proofs Dig
attribute [local irreducible] ibits byteAt strLt firstIdx

theorem slIndexByte_calls (s : ByteArray) (c : Int) {R} (h : R (.val (.int .i64 (firstIdx s c.toNat.toUInt8))) []) : ACalls Tryd.prog 53 [.val (.string s), .val (.int .u8 c)] [] R := by
  refine acalls_of_xwp (an := an53) tab_ok Tryd.func53 ?_
  (conv => whnf)
  refine indexByte_x Tryd.func67 rfl rfl rfl rfl s c ?_
  (conv => whnf)
  exact h
theorem and15_lo (h : U) (e : Nat) : 0 ≤ ibits .and .u64 ((h.toNat : Int).fdiv (2 ^ e)) 15 := by rw [and15_of]; omega
theorem and15_hi (h : U) (e : Nat) : ibits .and .u64 ((h.toNat : Int).fdiv (2 ^ e)) 15 < 16 := by rw [and15_of]; omega
def hexN (h : U) (e : Nat) : Int := byteAt (ofB signsB) (ibits .and .u64 ((h.toNat : Int).fdiv (2 ^ e)) 15).toNat
theorem hex_at (h : U) (e : Nat) : byteAt (ofB signsB) (ibits .and .u64 ((h.toNat : Int).fdiv (2 ^ e)) 15).toNat = ((hexc (h.toNat / 2 ^ e % 16)).toNat : Int) := by
  rw [and15_of, Int.toNat_natCast, at_signs (Nat.mod_lt _ (by omega))]


theorem Hex_calls (h : U) {R} (k : ∀ d, d = ofB (hexB h) → R (.val (.string d)) []) : ACalls Tryd.prog 14 [uv h] [] R := by
  refine acalls_of_xwp (an := an14) tab_ok Tryd.func14 ?_
  (conv => whnf)
  iterate 16
    refine LoopP.step ?_
    (conv => whnf)
    refine must_intro (decide_eq_true (and15_lo _ _)) ?_
    refine must_intro (decide_eq_true (and15_hi _ _)) ?_
    (conv => whnf)
  refine LoopP.step ?_
  (conv => whnf)
  refine ⟨[hexN h 60, hexN h 56, hexN h 52, hexN h 48, hexN h 44, hexN h 40, hexN h 36, hexN h 32, hexN h 28, hexN h 24, hexN h 20, hexN h 16, hexN h 12, hexN h 8, hexN h 4, hexN h 0], rfl, rfl, ?_⟩
  (conv => whnf)
  refine k _ ?_
  rw [← strOfNums_ofB]
  congr 1
  simp only [hexN, hex_at]
  rfl

/-! ### the number of digits -/
theorem hexi_lo (c : UInt8) : hexi c < 0 ↔ hexv c = none := by
  unfold hexi
  cases hexv c with
  | none => simp
  | some d => simp
theorem shl_or {n d : Nat} (hn : n < 18446744073709551616) (hd : d < 16) : ibits .or .u64 (IntKind.u64.wrap ((n : Int) * 2 ^ min ((4 : Int)).toNat IntKind.u64.bits)) (IntKind.u64.wrap (d : Int)) = ((16 * n + d) % 18446744073709551616 : Nat) := by
  have e0 : (2 : Int) ^ min ((4 : Int)).toNat IntKind.u64.bits = 16 := rfl
  rw [e0, wrap_u64, wrap_u64]
  have e1 : ((n : Int) * 16 % 18446744073709551616) = ((n * 16 % 18446744073709551616 : Nat) : Int) := by omega
  have e2 : ((d : Int) % 18446744073709551616) = ((d : Nat) : Int) := by omega
  rw [e1, e2]
  simp only [ibits]
  have f1 : ∀ x : Nat, BitVec.ofInt IntKind.u64.bits (x : Int) = BitVec.ofNat 64 x := fun x => by
    show BitVec.ofInt 64 (x : Int) = _
    simp
  rw [f1, f1, wrap_u64]
  have f2 : (n * 16 % 18446744073709551616) = 2 ^ 4 * (n % 2 ^ 60) := by omega
  have f3 : ((BitVec.ofNat 64 (n * 16 % 18446744073709551616) ||| BitVec.ofNat 64 d : BitVec 64)).toNat = 2 ^ 4 * (n % 2 ^ 60) + d := by
    rw [BitVec.toNat_or, BitVec.toNat_ofNat, BitVec.toNat_ofNat, f2, Nat.mod_eq_of_lt (show 2 ^ 4 * (n % 2 ^ 60) < 2 ^ 64 by omega), Nat.mod_eq_of_lt (show d < 2 ^ 64 by omega), Nat.two_pow_add_eq_or_of_lt (show d < 2 ^ 4 by omega)]
  show (((BitVec.ofNat 64 (n * 16 % 18446744073709551616) ||| BitVec.ofNat 64 d : BitVec 64).toNat : Int)) % _ = _
  rw [f3]
  omega

/-- As long as there are no more than 16 digits nothing is lost. -/
def readW : B → Nat → Option Nat
  | [], n => some n
  | c :: l, n => match hexv c with
    | some d => readW l ((16 * n + d) % 18446744073709551616)
    | none => none
theorem readW_eq : ∀ (l : B) (n : Nat), readW l (n % 18446744073709551616) = (readL l n).map (· % 18446744073709551616) := by
  intro l
  induction l with
  | nil => intro n; simp [readW, readL]
  | cons c l ih =>
    intro n
    simp only [readW, readL]
    cases hexv c with
    | none => simp
    | some d =>
      simp only
      rw [← ih]
      congr 1
      omega
theorem readB_W (s : B) (h : s.length = 16) : readB s = (readW s 0).map (BitVec.ofNat 64) := by
  have := readW_eq s 0
  simp only [Nat.zero_mod] at this
  unfold readB
  rw [if_pos h, this]
  cases readL s 0 with
  | none => rfl
  | some n => simp only [Option.map_some, Option.some.injEq]; exact BitVec.eq_of_toNat_eq (by simp)
theorem readW_lt : ∀ (l : B) (n m : Nat), n < 18446744073709551616 → readW l n = some m → m < 18446744073709551616 := by
  intro l
  induction l with
  | nil => intro n m hn h; simp only [readW, Option.some.injEq] at h; omega
  | cons c l ih =>
    intro n m hn h
    simp only [readW] at h
    split at h
    · exact ih _ _ (Nat.mod_lt _ (by omega)) h
    · cases h

def vread (o : Option U) : AV := .tup [uv (o.getD 0), .val (.bool o.isSome)]
end Go.Abs
end

section
/- Graphs: nodes; what is wrong with one by itself. -/
set_option maxRecDepth 100000
set_option linter.unusedVariables false
set_option linter.unusedSimpArgs false
namespace Go.Abs
open Go Go.Proofs
attribute [local irreducible] ibits byteAt strLt firstIdx

structure Nd where
  name : B
  source : Bool
  rule : U
  deps : List B
def Nd.enc (n : Nd) : List AV := [vs n.name, .val (.bool n.source), uv n.rule, .sl none 1 (strs n.deps)]
def nds (l : List Nd) : List (List AV) := l.map Nd.enc
theorem nds_length (l : List Nd) : (nds l).length = l.length := by simp [nds]
def ints (l : List Nat) : List (List AV) := l.map fun (i : Nat) => [vi (i : Int)]
theorem ints_length (l : List Nat) : (ints l).length = l.length := by simp [ints]

/-! ### names -/
def nameOk (s : B) : Bool := decide (1 ≤ s.length) && decide (s.length ≤ 64)
theorem Name_calls (s : B) {R} (h : R (.val (.bool (nameOk s))) []) : ACalls Tryd.prog 28 [vs s] [] R := by
  refine acalls_of_xwp (an := an28) tab_ok Tryd.func28 ?_
  have hsz : (ofB s).size = s.length := size_ofB s
  (conv => whnf)
  rw [hsz]
  refine br_intro (fun hc => ?_) (fun hc => ?_)
  · (conv => whnf)
    have : nameOk s = decide ((s.length : Int) ≤ 64) := by
      unfold nameOk
      rw [hsz] at *
      have hc : 1 ≤ s.length := by simp at hc; omega
      simp [hc]
      omega
    rw [hsz, ← this]
    exact h
  · (conv => whnf)
    have : nameOk s = false := by
      have hc : s.length = 0 := by simp at hc; omega
      simp [nameOk, hc]
    rw [this] at h
    exact h
theorem refName_calls (s : B) {R} (h : R (.val (.bool (nameOk s))) []) : ACalls Tryd.prog 36 [vs s] [] R := by
  refine acalls_of_xwp (an := an36) tab_ok Tryd.func36 ?_
  have hsz : (ofB s).size = s.length := size_ofB s
  (conv => whnf)
  refine br_intro (fun hc => ?_) (fun hc => ?_)
  · have hc : s ≠ [] := by
      rintro rfl
      simp at hc
      exact hc rfl
    have hl : 1 ≤ s.length := by cases s with | nil => exact absurd rfl hc | cons a s => simp
    (conv => whnf)
    have : nameOk s = decide ((s.length : Int) < 65) := by
      unfold nameOk
      simp [hl]
      omega
    rw [hsz, ← this]
    exact h
  · have hc : s = [] := by
      simp at hc
      have : ofB s = ofB [] := hc
      exact ofB_inj this
    subst hc
    (conv => whnf)
    exact h

/-! ### places -/
def placeOf : List B → B → Option Nat
  | [], _ => none
  | a :: l, s => if a = s then some 0 else (placeOf l s).map (· + 1)
def placeI (l : List B) (s : B) : Int := match placeOf l s with | some i => i | none => -1
theorem placeOf_none {l : List B} {s : B} : placeOf l s = none ↔ s ∉ l := by
  induction l with
  | nil => simp [placeOf]
  | cons a l ih =>
    simp only [placeOf]
    by_cases h : a = s
    · simp [h]
    · rw [if_neg h]
      simp only [Option.map_eq_none_iff, ih, List.mem_cons, not_or]
      exact ⟨fun h' => ⟨fun e => h e.symm, h'⟩, fun h' => h'.2⟩
theorem placeOf_some {l : List B} {s : B} {i : Nat} (h : placeOf l s = some i) : l[i]? = some s ∧ ∀ j, j < i → l[j]? ≠ some s := by
  induction l generalizing i with
  | nil => simp [placeOf] at h
  | cons a l ih =>
    simp only [placeOf] at h
    by_cases e : a = s
    · rw [if_pos e] at h
      cases h
      subst e
      exact ⟨rfl, fun j hj => by omega⟩
    · rw [if_neg e] at h
      obtain ⟨k, hk, rfl⟩ := Option.map_eq_some_iff.1 h
      obtain ⟨h1, h2⟩ := ih hk
      refine ⟨by simpa using h1, fun j hj => ?_⟩
      cases j with
      | zero => simpa using e
      | succ j => simpa using h2 j (by omega)
theorem placeI_neg {l : List B} {s : B} : placeI l s < 0 ↔ s ∉ l := by
  rw [← placeOf_none]
  unfold placeI
  cases placeOf l s with
  | none => simp
  | some i => simp
theorem placeOf_of {l : List B} {s : B} {i : Nat} (h : l[i]? = some s) (h' : ∀ j, j < i → l[j]? ≠ some s) : placeOf l s = some i := by
  cases e : placeOf l s with
  | none => exact absurd (List.mem_of_getElem? h) (placeOf_none.1 e)
  | some k =>
    obtain ⟨h1, h2⟩ := placeOf_some e
    rcases Nat.lt_trichotomy i k with hl | rfl | hl
    · exact absurd h (h2 _ hl)
    · rfl
    · exact absurd h1 (h' _ hl)

theorem i64_nat {i : Nat} (h : i < 1000000000) : IntKind.i64.wrap ((i : Int) + 1) = ((i + 1 : Nat) : Int) := wrap_i64 (by omega) (by omega)
theorem lt_of_dec {i n : Nat} (h : decide ((i : Int) < (n : Int)) = true) : i < n := by simpa using h
theorem ge_of_dec {i n : Nat} (h : decide ((i : Int) < (n : Int)) = false) : n ≤ i := by simp at h; omega

theorem lt_of_decE {i n m : Nat} (e : m = n) (h : decide ((i : Int) < (m : Int)) = true) : i < n := by subst e; simpa using h
theorem ge_of_decE {i n m : Nat} (e : m = n) (h : decide ((i : Int) < (m : Int)) = false) : n ≤ i := by subst e; simp at h; omega

/-! ### which text stands ahead -/
def ltB (a b : B) : Bool := Op.bytesLess a b
theorem strLt_ofB (a b : B) : strLt (ofB a) (ofB b) = ltB a b := by
  unfold strLt ltB
  rw [ByteArray.toList_eq, ByteArray.toList_eq]
  show Op.bytesLess (bs (ofB a)) (bs (ofB b)) = _
  rw [bs_ofB, bs_ofB]
theorem ltB_drop {a b : B} : ∀ {i : Nat}, (∀ j, j < i → a[j]? = b[j]?) → i ≤ a.length → i ≤ b.length → ltB (a.drop i) (b.drop i) = ltB a b := by
  intro i
  induction i generalizing a b with
  | zero => intro _ _ _; simp
  | succ i ih =>
    intro h ha hb
    cases a with
    | nil => simp at ha
    | cons x a =>
      cases b with
      | nil => simp at hb
      | cons y b =>
        have h0 : x = y := by simpa using h 0 (by omega)
        subst h0
        simp only [List.drop_succ_cons]
        rw [ih (fun j hj => by simpa using h (j + 1) (by omega)) (by simpa using ha) (by simpa using hb)]
        simp [ltB, Op.bytesLess]
theorem u8_lt {a b : UInt8} : decide (((a.toNat : Nat) : Int) < ((b.toNat : Nat) : Int)) = decide (a < b) := by
  apply decide_eq_decide.2
  rw [UInt8.lt_iff_toNat_lt]
  omega

end Go.Abs
end

section
/- Words of texts (escape): what is written. -/
set_option maxRecDepth 100000
set_option linter.unusedVariables false
set_option linter.unusedSimpArgs false
namespace Go.Abs
open Go Go.Proofs
attribute [local irreducible] ibits byteAt strLt firstIdx

theorem byteEls_length (l : B) : (byteEls l).length = l.length := by simp [byteEls]
theorem byteEls_append (l m : B) : byteEls (l ++ m) = byteEls l ++ byteEls m := by simp [byteEls]
theorem bytes_u8 : (tab.ti 5).bytes = 1 := rfl
abbrev nilS : AV := .val (.slice none 0 0)
abbrev nilP : AV := .val (.pointer none)
/-- A builder in memory. -/
def sb0 : List AObj := [sbC nilP nilS]
def sb1 (l : B) : List AObj := [sbC (.ptr 0 0) (.sl (some 1) 1 (byteEls l)), .row 5 1 l.length]
theorem closed_sb0 : closedOs [sbC (.ptr 0 0) nilS] := by
  intro i o ho m hm
  match i, ho with
  | 0, ho =>
    cases ho
    simp only [objNames, sbC, namesL, AV.names, List.append_nil, List.cons_append, List.nil_append, List.mem_cons, List.not_mem_nil, or_false] at hm
    subst hm
    simp
  | i + 1, ho => simp at ho
theorem closed_sb1 (l : B) : closedOs (sb1 l) := by
  intro i o ho m hm
  match i, ho with
  | 0, ho =>
    cases ho
    simp only [objNames, sbC, namesL, AV.names, List.append_nil, List.cons_append, List.nil_append, List.mem_cons, List.not_mem_nil, or_false] at hm
    rcases hm with rfl | rfl <;> simp [sb1]
  | 1, ho => cases ho; simp [objNames] at hm
  | i + 2, ho => simp [sb1] at ho

theorem Write_first (q : B) (hq : q.length < 1000000) {R} (h : ∀ n : Int, R (.tup [vi n, .val .nilIface]) (sb1 q)) : ACalls Tryd.prog 47 [.ptr 0 0, .sl none 1 (byteEls q)] sb0 R := by
  refine acalls_of_xwp (an := an47) tab_ok Tryd.func47 ?_
  (conv => whnf)
  refine copyCheck_first nilS [] closed_sb0 ?_
  (conv => whnf)
  refine ⟨by rw [byteEls_length, bytes_u8]; omega, ?_⟩
  (conv => whnf)
  rw [byteEls_length]
  exact h _
theorem Write_again (l q : B) (hl : l.length < 100000000) (hq : q.length < 1000000) {R} (h : ∀ n : Int, R (.tup [vi n, .val .nilIface]) (sb1 (l ++ q))) : ACalls Tryd.prog 47 [.ptr 0 0, .sl none 1 (byteEls q)] (sb1 l) R := by
  refine acalls_of_xwp (an := an47) tab_ok Tryd.func47 ?_
  (conv => whnf)
  refine copyCheck_again (.sl (some 1) 1 (byteEls l)) [.row 5 1 l.length] (closed_sb1 l) ?_
  (conv => whnf)
  refine ⟨(byteEls_length l).symm, by rw [byteEls_length, byteEls_length, bytes_u8]; omega, ?_⟩
  (conv => whnf)
  rw [byteEls_length, byteEls_length, ← byteEls_append, ← List.length_append]
  exact h _
theorem WriteByte_first (c : UInt8) {R} (h : R (.val .nilIface) (sb1 [c])) : ACalls Tryd.prog 46 [.ptr 0 0, .val (.int .u8 c.toNat)] sb0 R := by
  refine acalls_of_xwp (an := an46) tab_ok Tryd.func46 ?_
  (conv => whnf)
  refine copyCheck_first nilS [] closed_sb0 ?_
  (conv => whnf)
  refine ⟨(by rw [bytes_u8]; decide : 1 * ((tab.ti 5).bytes + 1) ≤ 140737488355328), ?_⟩
  (conv => whnf)
  exact h
theorem WriteByte_again (l : B) (c : UInt8) (hl : l.length < 100000000) {R} (h : R (.val .nilIface) (sb1 (l ++ [c]))) : ACalls Tryd.prog 46 [.ptr 0 0, .val (.int .u8 c.toNat)] (sb1 l) R := by
  refine acalls_of_xwp (an := an46) tab_ok Tryd.func46 ?_
  (conv => whnf)
  refine copyCheck_again (.sl (some 1) 1 (byteEls l)) [.row 5 1 l.length] (closed_sb1 l) ?_
  (conv => whnf)
  refine ⟨(byteEls_length l).symm, by rw [byteEls_length, bytes_u8]; simp; omega, ?_⟩
  (conv => whnf)
  have e1 : byteEls l ++ [[AV.val (.int .u8 c.toNat)]] = byteEls (l ++ [c]) := (byteEls_append l [c]).symm
  have e2 : (byteEls l).length + [[AV.val (.int .u8 (c.toNat : Int))]].length = (l ++ [c]).length := by simp [byteEls_length]
  rw [e1, e2]
  exact h

/-! ### bytes as signs -/
def sgn (pr : UInt8 → Bool) (c : UInt8) : B := if pr c then [c] else [92, hexc (c.toNat / 16), hexc (c.toNat % 16)]
def signsP (pr : UInt8 → Bool) (s : B) : B := s.flatMap (sgn pr)
theorem sgn_len (pr : UInt8 → Bool) (c : UInt8) : 1 ≤ (sgn pr c).length ∧ (sgn pr c).length ≤ 3 := by unfold sgn; split <;> simp
theorem signsP_len (pr : UInt8 → Bool) (s : B) : (signsP pr s).length ≤ 3 * s.length := by
  induction s with
  | nil => simp [signsP]
  | cons a s ih =>
    have := (sgn_len pr a).2
    simp only [signsP, List.flatMap_cons, List.length_append, List.length_cons] at ih ⊢
    omega
theorem u8_hi0 : (List.range 256).all (fun n => decide ((((UInt8.ofNat n).toNat : Nat) : Int).fdiv (2 ^ min ((4 : Int)).toNat IntKind.u8.bits) = (((UInt8.ofNat n).toNat / 16 : Nat) : Int) ∧ ibits .and .u8 (((UInt8.ofNat n).toNat : Nat) : Int) 15 = (((UInt8.ofNat n).toNat % 16 : Nat) : Int))) = true := by decide +kernel
theorem u8_hi (c : UInt8) : ((c.toNat : Nat) : Int).fdiv (2 ^ min ((4 : Int)).toNat IntKind.u8.bits) = ((c.toNat / 16 : Nat) : Int) ∧ ibits .and .u8 ((c.toNat : Nat) : Int) 15 = ((c.toNat % 16 : Nat) : Int) := by
  have h := List.all_eq_true.1 u8_hi0 c.toNat (List.mem_range.2 c.toNat_lt)
  rw [show UInt8.ofNat c.toNat = c by simp] at h
  exact of_decide_eq_true h
inductive SbSt where | fresh | a | b

theorem signs_calls (g : FuncId) (hg : tab.fn g = true) (pr : UInt8 → Bool) (hpr : ∀ (c : UInt8) R, R (.val (.bool (pr c))) [] → ACalls Tryd.prog g [.val (.int .u8 c.toNat)] [] R) (s : B) (hs0 : s ≠ []) (hs : s.length < 100000) {R} (h : ∀ d, d = ofB (signsP pr s) → R (.val (.string d)) []) :
    ACalls Tryd.prog 31 [vs s, .fn (.func g) [] []] [] R := by
  refine acalls_of_xwp (an := an31) tab_ok Tryd.func31 ?_
  (conv => whnf)
  have hdat : (ofB s).data.toList = s := bs_ofB s
  rw [hdat]
  have hsl : (byteEls s).length = s.length := byteEls_length s
  refine LoopP.ind3 (fun (i : Nat) (out : B) (st : SbSt) => [(11, vi i)])
    (fun i out st => match st with
      | .fresh => [(nameOf 5, sbC nilP nilS)]
      | .a => [(nameOf 5, sbC (.ptr (nameOf 5) 0) (.sl (some (freshN 19 0)) 1 (byteEls out))), (freshN 19 0, .row 5 1 out.length)]
      | .b => [(nameOf 5, sbC (.ptr (nameOf 5) 0) (.sl (some (freshN 27 0)) 1 (byteEls out))), (freshN 27 0, .row 5 1 out.length)])
    (fun i _ _ => s.length - i) (fun i out st => i ≤ s.length ∧ out = signsP pr (s.take i) ∧ (st = .fresh → i = 0 ∧ out = [])) 0 [] .fresh rfl ⟨by omega, by simp [signsP], fun _ => ⟨rfl, rfl⟩⟩ ?_
  rintro i out st ⟨h0, h1, h2⟩ IH
  have hol : out.length ≤ 3 * i := by
    have := signsP_len pr (s.take i)
    rw [← h1, List.length_take] at this
    omega
  cases st
  all_goals
    (conv => whnf)
    refine br_intro (fun hc => ?_) (fun hc => ?_)
  · have hc := lt_of_decE hsl hc
    have hlt := (s[i]).toNat_lt
    have out1 : signsP pr (s.take (i + 1)) = out ++ sgn pr s[i] := by
      rw [h1, List.take_succ_eq_append_getElem hc]
      simp only [signsP, List.flatMap_append, List.flatMap_cons, List.flatMap_nil, List.append_nil]
    (conv => whnf); (repeat ((with_reducible refine must_intro ?_ ?_); exact decide_eq_true (by omega); (conv => whnf)))
    refine idxK_map_intro (show (i : Int).toNat < s.length by simpa using hc) ?_
    rw [show s[(i : Int).toNat]'(by simpa using hc) = s[i] from by congr 1]
    (conv => whnf)
    refine must_intro hg ?_
    refine hpr s[i] _ ?_
    (conv => whnf)
    refine br_intro (fun hp => ?_) (fun hp => ?_)
    · have hsg : sgn pr s[i] = [s[i]] := by unfold sgn; rw [if_pos hp]
      rw [hsg] at out1
      (conv => whnf)
      obtain ⟨rfl, rfl⟩ := h2 rfl
      refine WriteByte_first s[0] ?_
      (conv => whnf)
      rw [i64_nat (by omega)]
      exact IH (0 + 1) ([] ++ [s[0]]) .a ⟨by omega, out1.symm, fun e => by cases e⟩ (by omega)
    · have hsg : sgn pr s[i] = [92, hexc ((s[i]).toNat / 16), hexc ((s[i]).toNat % 16)] := by unfold sgn; rw [if_neg (by rw [hp]; simp)]
      rw [hsg] at out1
      have lo : (s[i]).toNat / 16 < 16 := by omega
      (conv => whnf)
      refine must_intro (decide_eq_true (by rw [(u8_hi s[i]).1]; omega)) ?_
      refine must_intro (decide_eq_true (by rw [(u8_hi s[i]).1]; show ((_ : Nat) : Int) < 16; omega)) ?_
      (conv => whnf)
      refine must_intro (decide_eq_true (by rw [(u8_hi s[i]).2]; omega)) ?_
      refine must_intro (decide_eq_true (by rw [(u8_hi s[i]).2]; show ((_ : Nat) : Int) < 16; omega)) ?_
      (conv => whnf)
      have k1 : byteAt { data := #[48, 49, 50, 51, 52, 53, 54, 55, 56, 57, 97, 98, 99, 100, 101, 102] } (((s[i]).toNat : Int).fdiv (2 ^ min ((4 : Int)).toNat IntKind.u8.bits)).toNat = ((hexc ((s[i]).toNat / 16)).toNat : Int) := by
        rw [(u8_hi s[i]).1, Int.toNat_natCast]
        exact at_signs lo
      have k2 : byteAt { data := #[48, 49, 50, 51, 52, 53, 54, 55, 56, 57, 97, 98, 99, 100, 101, 102] } (ibits .and .u8 ((s[i]).toNat : Int) 15).toNat = ((hexc ((s[i]).toNat % 16)).toNat : Int) := by
        rw [(u8_hi s[i]).2, Int.toNat_natCast]
        exact at_signs (by omega)
      rw [k1, k2]
      obtain ⟨rfl, rfl⟩ := h2 rfl
      refine Write_first [92, hexc ((s[0]).toNat / 16), hexc ((s[0]).toNat % 16)] (by simp) fun n => ?_
      (conv => whnf)
      rw [i64_nat (by omega)]
      exact IH (0 + 1) ([] ++ [92, hexc ((s[0]).toNat / 16), hexc ((s[0]).toNat % 16)]) .b ⟨by omega, out1.symm, fun e => by cases e⟩ (by omega)
  · have hc := ge_of_decE hsl hc
    obtain ⟨rfl, _⟩ := h2 rfl
    exact absurd (List.eq_nil_of_length_eq_zero (by omega)) hs0
  · have hc := lt_of_decE hsl hc
    have hlt := (s[i]).toNat_lt
    have out1 : signsP pr (s.take (i + 1)) = out ++ sgn pr s[i] := by
      rw [h1, List.take_succ_eq_append_getElem hc]
      simp only [signsP, List.flatMap_append, List.flatMap_cons, List.flatMap_nil, List.append_nil]
    (conv => whnf); (repeat ((with_reducible refine must_intro ?_ ?_); exact decide_eq_true (by omega); (conv => whnf)))
    refine idxK_map_intro (show (i : Int).toNat < s.length by simpa using hc) ?_
    rw [show s[(i : Int).toNat]'(by simpa using hc) = s[i] from by congr 1]
    (conv => whnf)
    refine must_intro hg ?_
    refine hpr s[i] _ ?_
    (conv => whnf)
    refine br_intro (fun hp => ?_) (fun hp => ?_)
    · have hsg : sgn pr s[i] = [s[i]] := by unfold sgn; rw [if_pos hp]
      rw [hsg] at out1
      (conv => whnf)
      refine WriteByte_again out s[i] (by omega) ?_
      (conv => whnf)
      rw [i64_nat (by omega)]
      exact IH (i + 1) (out ++ [s[i]]) .a ⟨by omega, out1.symm, fun e => by cases e⟩ (by omega)
    · have hsg : sgn pr s[i] = [92, hexc ((s[i]).toNat / 16), hexc ((s[i]).toNat % 16)] := by unfold sgn; rw [if_neg (by rw [hp]; simp)]
      rw [hsg] at out1
      have lo : (s[i]).toNat / 16 < 16 := by omega
      (conv => whnf)
      refine must_intro (decide_eq_true (by rw [(u8_hi s[i]).1]; omega)) ?_
      refine must_intro (decide_eq_true (by rw [(u8_hi s[i]).1]; show ((_ : Nat) : Int) < 16; omega)) ?_
      (conv => whnf)
      refine must_intro (decide_eq_true (by rw [(u8_hi s[i]).2]; omega)) ?_
      refine must_intro (decide_eq_true (by rw [(u8_hi s[i]).2]; show ((_ : Nat) : Int) < 16; omega)) ?_
      (conv => whnf)
      have k1 : byteAt { data := #[48, 49, 50, 51, 52, 53, 54, 55, 56, 57, 97, 98, 99, 100, 101, 102] } (((s[i]).toNat : Int).fdiv (2 ^ min ((4 : Int)).toNat IntKind.u8.bits)).toNat = ((hexc ((s[i]).toNat / 16)).toNat : Int) := by
        rw [(u8_hi s[i]).1, Int.toNat_natCast]
        exact at_signs lo
      have k2 : byteAt { data := #[48, 49, 50, 51, 52, 53, 54, 55, 56, 57, 97, 98, 99, 100, 101, 102] } (ibits .and .u8 ((s[i]).toNat : Int) 15).toNat = ((hexc ((s[i]).toNat % 16)).toNat : Int) := by
        rw [(u8_hi s[i]).2, Int.toNat_natCast]
        exact at_signs (by omega)
      rw [k1, k2]
      refine Write_again out [92, hexc ((s[i]).toNat / 16), hexc ((s[i]).toNat % 16)] (by omega) (by simp) fun n => ?_
      (conv => whnf)
      rw [i64_nat (by omega)]
      exact IH (i + 1) (out ++ [92, hexc ((s[i]).toNat / 16), hexc ((s[i]).toNat % 16)]) .a ⟨by omega, out1.symm, fun e => by cases e⟩ (by omega)
  · have hc := ge_of_decE hsl hc
    rw [List.take_of_length_le hc] at h1
    have hne : out ≠ [] := by
      rw [h1]
      cases s with
      | nil => exact absurd rfl hs0
      | cons x s =>
        intro e
        have h3 := (sgn_len pr x).1
        have h4 : sgn pr x = [] := by
          simp only [signsP, List.flatMap_cons, List.append_eq_nil_iff] at e
          exact e.1
        rw [h4] at h3
        simp at h3
    (conv => whnf)
    refine sbString_calls nilP out hne ?_
    (conv => whnf)
    exact h _ (by rw [h1])
  · have hc := lt_of_decE hsl hc
    have hlt := (s[i]).toNat_lt
    have out1 : signsP pr (s.take (i + 1)) = out ++ sgn pr s[i] := by
      rw [h1, List.take_succ_eq_append_getElem hc]
      simp only [signsP, List.flatMap_append, List.flatMap_cons, List.flatMap_nil, List.append_nil]
    (conv => whnf); (repeat ((with_reducible refine must_intro ?_ ?_); exact decide_eq_true (by omega); (conv => whnf)))
    refine idxK_map_intro (show (i : Int).toNat < s.length by simpa using hc) ?_
    rw [show s[(i : Int).toNat]'(by simpa using hc) = s[i] from by congr 1]
    (conv => whnf)
    refine must_intro hg ?_
    refine hpr s[i] _ ?_
    (conv => whnf)
    refine br_intro (fun hp => ?_) (fun hp => ?_)
    · have hsg : sgn pr s[i] = [s[i]] := by unfold sgn; rw [if_pos hp]
      rw [hsg] at out1
      (conv => whnf)
      refine WriteByte_again out s[i] (by omega) ?_
      (conv => whnf)
      rw [i64_nat (by omega)]
      exact IH (i + 1) (out ++ [s[i]]) .b ⟨by omega, out1.symm, fun e => by cases e⟩ (by omega)
    · have hsg : sgn pr s[i] = [92, hexc ((s[i]).toNat / 16), hexc ((s[i]).toNat % 16)] := by unfold sgn; rw [if_neg (by rw [hp]; simp)]
      rw [hsg] at out1
      have lo : (s[i]).toNat / 16 < 16 := by omega
      (conv => whnf)
      refine must_intro (decide_eq_true (by rw [(u8_hi s[i]).1]; omega)) ?_
      refine must_intro (decide_eq_true (by rw [(u8_hi s[i]).1]; show ((_ : Nat) : Int) < 16; omega)) ?_
      (conv => whnf)
      refine must_intro (decide_eq_true (by rw [(u8_hi s[i]).2]; omega)) ?_
      refine must_intro (decide_eq_true (by rw [(u8_hi s[i]).2]; show ((_ : Nat) : Int) < 16; omega)) ?_
      (conv => whnf)
      have k1 : byteAt { data := #[48, 49, 50, 51, 52, 53, 54, 55, 56, 57, 97, 98, 99, 100, 101, 102] } (((s[i]).toNat : Int).fdiv (2 ^ min ((4 : Int)).toNat IntKind.u8.bits)).toNat = ((hexc ((s[i]).toNat / 16)).toNat : Int) := by
        rw [(u8_hi s[i]).1, Int.toNat_natCast]
        exact at_signs lo
      have k2 : byteAt { data := #[48, 49, 50, 51, 52, 53, 54, 55, 56, 57, 97, 98, 99, 100, 101, 102] } (ibits .and .u8 ((s[i]).toNat : Int) 15).toNat = ((hexc ((s[i]).toNat % 16)).toNat : Int) := by
        rw [(u8_hi s[i]).2, Int.toNat_natCast]
        exact at_signs (by omega)
      rw [k1, k2]
      refine Write_again out [92, hexc ((s[i]).toNat / 16), hexc ((s[i]).toNat % 16)] (by omega) (by simp) fun n => ?_
      (conv => whnf)
      rw [i64_nat (by omega)]
      exact IH (i + 1) (out ++ [92, hexc ((s[i]).toNat / 16), hexc ((s[i]).toNat % 16)]) .b ⟨by omega, out1.symm, fun e => by cases e⟩ (by omega)
  · have hc := ge_of_decE hsl hc
    rw [List.take_of_length_le hc] at h1
    have hne : out ≠ [] := by
      rw [h1]
      cases s with
      | nil => exact absurd rfl hs0
      | cons x s =>
        intro e
        have h3 := (sgn_len pr x).1
        have h4 : sgn pr x = [] := by
          simp only [signsP, List.flatMap_cons, List.append_eq_nil_iff] at e
          exact e.1
        rw [h4] at h3
        simp at h3
    (conv => whnf)
    refine sbString_calls nilP out hne ?_
    (conv => whnf)
    exact h _ (by rw [h1])
end Go.Abs
end

section
/- The sum of bytes (crc): by half bytes, and bit by bit. -/
set_option maxRecDepth 100000
set_option linter.unusedVariables false
set_option linter.unusedSimpArgs false
namespace Go.Abs
open Go Go.Proofs
attribute [local irreducible] ibits byteAt strLt firstIdx

/-! ### plain -/
namespace Crc
abbrev W := BitVec 32
def poly : W := 0xedb88320#32
def s0 (c : W) : W := (c >>> 1) ^^^ (if c.getLsbD 0 then poly else 0#32)
def four (c : W) : W := s0 (s0 (s0 (s0 c)))
def half (c : W) (n : W) : W := (c >>> 4) ^^^ four ((c ^^^ n) &&& 15#32)
def ofByte (x : UInt8) : W := BitVec.ofNat 32 x.toNat
def byte (c : W) (x : UInt8) : W := half (half c (ofByte x)) (ofByte x >>> 4)
def run (c : W) (l : B) : W := l.foldl byte c
def sum (l : B) : W := ~~~ run 0xffffffff#32 l
/-- A bit comes in. -/
def bitS (c : W) (b : Bool) : W := (c >>> 1) ^^^ (if c.getLsbD 0 != b then poly else 0#32)

theorem xor4 {w : Nat} (a b c d : BitVec w) : (a ^^^ b) ^^^ (c ^^^ d) = (a ^^^ c) ^^^ (b ^^^ d) := by
  apply BitVec.eq_of_getLsbD_eq
  intro i hi
  simp only [BitVec.getLsbD_xor]
  cases a.getLsbD i <;> cases b.getLsbD i <;> cases c.getLsbD i <;> cases d.getLsbD i <;> rfl
theorem s0_xor (a b : W) : s0 (a ^^^ b) = s0 a ^^^ s0 b := by
  unfold s0
  rw [BitVec.ushiftRight_xor_distrib, BitVec.getLsbD_xor]
  have : (if (a.getLsbD 0 ^^ b.getLsbD 0) = true then poly else 0#32) = (if a.getLsbD 0 = true then poly else 0#32) ^^^ (if b.getLsbD 0 = true then poly else 0#32) := by
    cases a.getLsbD 0 <;> cases b.getLsbD 0 <;> simp
  rw [this, xor4]
theorem four_xor (a b : W) : four (a ^^^ b) = four a ^^^ four b := by unfold four; rw [s0_xor, s0_xor, s0_xor, s0_xor]
theorem s0_even {a : W} (h : a.getLsbD 0 = false) : s0 a = a >>> 1 := by unfold s0; rw [h]; simp
theorem four_hi {a : W} (h : ∀ i, i < 4 → a.getLsbD i = false) : four a = a >>> 4 := by
  unfold four
  have e1 : s0 a = a >>> 1 := s0_even (h 0 (by omega))
  have e2 : s0 (a >>> 1) = a >>> 1 >>> 1 := s0_even (by rw [BitVec.getLsbD_ushiftRight]; exact h 1 (by omega))
  have e3 : s0 (a >>> 1 >>> 1) = a >>> 1 >>> 1 >>> 1 := s0_even (by rw [BitVec.getLsbD_ushiftRight, BitVec.getLsbD_ushiftRight]; exact h 2 (by omega))
  have e4 : s0 (a >>> 1 >>> 1 >>> 1) = a >>> 1 >>> 1 >>> 1 >>> 1 := s0_even (by rw [BitVec.getLsbD_ushiftRight, BitVec.getLsbD_ushiftRight, BitVec.getLsbD_ushiftRight]; exact h 3 (by omega))
  rw [e1, e2, e3, e4]
  apply BitVec.eq_of_getLsbD_eq
  intro i hi
  simp only [BitVec.getLsbD_ushiftRight]
  congr 1
  omega
theorem split15 (c : W) : c = (c &&& ~~~ 15#32) ^^^ (c &&& 15#32) := by
  apply BitVec.eq_of_getLsbD_eq
  intro i hi
  simp only [BitVec.getLsbD_xor, BitVec.getLsbD_and, BitVec.getLsbD_not, hi, decide_true, Bool.true_and]
  cases c.getLsbD i <;> cases (15#32).getLsbD i <;> rfl
theorem bit15 (i : Nat) : (15#32).getLsbD i = decide (i < 4) := by
  by_cases h : i < 4
  · have : i = 0 ∨ i = 1 ∨ i = 2 ∨ i = 3 := by omega
    rcases this with rfl | rfl | rfl | rfl <;> rfl
  · simp only [h, decide_false]
    by_cases h2 : i < 32
    · have := (by decide +kernel : (List.range 32).all (fun i => decide (i < 4) || !((15#32).getLsbD i)) = true)
      have := List.all_eq_true.1 this i (List.mem_range.2 h2)
      simpa [h] using this
    · exact BitVec.getLsbD_of_ge _ _ (by omega)
/-- Half a byte at once: four of its bits, one by one. -/
theorem half_eq {c n : W} (hn : ∀ i, 4 ≤ i → n.getLsbD i = false) : four (c ^^^ n) = (c >>> 4) ^^^ four ((c ^^^ n) &&& 15#32) := by
  conv => lhs; rw [split15 (c ^^^ n), four_xor]
  congr 1
  rw [four_hi]
  · apply BitVec.eq_of_getLsbD_eq
    intro i hi
    have h4 : ¬ 4 + i < 4 := by omega
    have h2 := hn (4 + i) (by omega)
    rw [BitVec.getLsbD_ushiftRight, BitVec.getLsbD_ushiftRight, BitVec.getLsbD_and, BitVec.getLsbD_xor, BitVec.getLsbD_not, bit15, h2]
    by_cases h3 : 4 + i < 32
    · rw [decide_eq_true h3, decide_eq_false h4]; simp only [Bool.xor_false, Bool.not_false, Bool.and_true]
    · rw [BitVec.getLsbD_of_ge c _ (Nat.le_of_not_lt h3)]; rfl
  · intro i hi
    rw [BitVec.getLsbD_and, BitVec.getLsbD_not, bit15, decide_eq_true hi]
    simp only [Bool.not_true, Bool.and_false]
theorem bitS_eq (c n : W) (b : Bool) (hb : n.getLsbD 0 = b) : bitS c b ^^^ (n >>> 1) = s0 (c ^^^ n) := by
  unfold bitS s0
  rw [BitVec.ushiftRight_xor_distrib, BitVec.getLsbD_xor, hb]
  have : (if (c.getLsbD 0 != b) = true then poly else 0#32) = (if (c.getLsbD 0 ^^ b) = true then poly else 0#32) := by cases c.getLsbD 0 <;> cases b <;> rfl
  rw [this]
  apply BitVec.eq_of_getLsbD_eq
  intro i hi
  simp only [BitVec.getLsbD_xor]
  cases (c >>> 1).getLsbD i <;> cases (n >>> 1).getLsbD i <;> simp
/-- Four bits come in. -/
theorem four_bits (c n : W) : bitS (bitS (bitS (bitS c (n.getLsbD 0)) (n.getLsbD 1)) (n.getLsbD 2)) (n.getLsbD 3) ^^^ (n >>> 4) = four (c ^^^ n) := by
  have e1 := bitS_eq c n _ rfl
  have e2 := bitS_eq (bitS c (n.getLsbD 0)) (n >>> 1) (n.getLsbD 1) (by simp)
  have e3 := bitS_eq (bitS (bitS c (n.getLsbD 0)) (n.getLsbD 1)) (n >>> 1 >>> 1) (n.getLsbD 2) (by simp)
  have e4 := bitS_eq (bitS (bitS (bitS c (n.getLsbD 0)) (n.getLsbD 1)) (n.getLsbD 2)) (n >>> 1 >>> 1 >>> 1) (n.getLsbD 3) (by simp)
  unfold four
  rw [← e1, ← e2, ← e3, ← e4]
  rfl
theorem getLsbD_ofByte (x : UInt8) (i : Nat) (h : 8 ≤ i) : (ofByte x).getLsbD i = false := by
  unfold ofByte
  rw [BitVec.getLsbD_ofNat]
  have : x.toNat < 2 ^ i := Nat.lt_of_lt_of_le x.toNat_lt (Nat.pow_le_pow_right (by omega) h)
  simp [Nat.testBit_lt_two_pow this]
/-- The bits of a byte, one by one, from the lowest on. -/
def bits (c : W) (x : UInt8) : Nat → W
  | 0 => c
  | k + 1 => bitS (bits c x k) ((ofByte x).getLsbD k)
theorem low4 (n : W) : ∀ i, 4 ≤ i → (n &&& 15#32).getLsbD i = false := fun i hi => by
  have : ¬ i < 4 := by omega
  simp [bit15, this]
theorem four_low (c n : W) : four ((c ^^^ n) &&& 15#32) = four ((c ^^^ (n &&& 15#32)) &&& 15#32) := by
  congr 1
  apply BitVec.eq_of_getLsbD_eq
  intro i hi
  simp only [BitVec.getLsbD_and, BitVec.getLsbD_xor]
  cases (15#32).getLsbD i <;> simp
theorem half_bits (c n : W) : half c n = bitS (bitS (bitS (bitS c (n.getLsbD 0)) (n.getLsbD 1)) (n.getLsbD 2)) (n.getLsbD 3) := by
  unfold half
  rw [four_low, ← half_eq (low4 n), ← four_bits c (n &&& 15#32)]
  have e : (n &&& 15#32) >>> 4 = 0#32 := by
    apply BitVec.eq_of_getLsbD_eq
    intro i hi
    have : ¬ 4 + i < 4 := by omega
    simp [bit15, this]
  rw [e, BitVec.xor_zero]
  simp [bit15]
theorem byte_bits (c : W) (x : UInt8) : byte c x = bits c x 8 := by
  unfold byte
  rw [half_bits, half_bits]
  simp only [BitVec.getLsbD_ushiftRight]
  rfl
theorem run_append (c : W) (l m : B) : run c (l ++ m) = run (run c l) m := List.foldl_append
end Crc
open Crc

/-! ### numbers of 32 bits -/
def wv (x : Crc.W) : AV := .val (.int .u32 x.toNat)
theorem w_ofInt (x : Crc.W) : BitVec.ofInt IntKind.u32.bits (x.toNat : Int) = x := by
  show BitVec.ofInt 32 (x.toNat : Int) = x
  simp
theorem wrap_u32 {x : Int} (h0 : 0 ≤ x) (h1 : x < 4294967296) : IntKind.u32.wrap x = x := by
  show x % 4294967296 = x
  omega
theorem w_xor (x y : Crc.W) : ibits .xor .u32 (x.toNat : Int) (y.toNat : Int) = ((x ^^^ y).toNat : Int) := by
  simp only [ibits]
  rw [w_ofInt, w_ofInt]
  exact wrap_u32 (Int.natCast_nonneg _) (show (((x ^^^ y : BitVec 32).toNat : Nat) : Int) < ((4294967296 : Nat) : Int) from Int.ofNat_lt.2 (x ^^^ y : BitVec 32).isLt)
theorem w_and (x y : Crc.W) : ibits .and .u32 (x.toNat : Int) (y.toNat : Int) = ((x &&& y).toNat : Int) := by
  simp only [ibits]
  rw [w_ofInt, w_ofInt]
  exact wrap_u32 (Int.natCast_nonneg _) (show (((x &&& y : BitVec 32).toNat : Nat) : Int) < ((4294967296 : Nat) : Int) from Int.ofNat_lt.2 (x &&& y : BitVec 32).isLt)
theorem w_shr (x : Crc.W) (k : Nat) (hk : k ≤ 32) : ((x.toNat : Int)).fdiv (2 ^ min ((k : Int)).toNat IntKind.u32.bits) = ((x >>> k).toNat : Int) := by
  have : min ((k : Int)).toNat IntKind.u32.bits = k := by
    show min ((k : Int)).toNat 32 = k
    simp; omega
  rw [this, BitVec.toNat_ushiftRight, Nat.shiftRight_eq_div_pow, Int.fdiv_eq_ediv_of_nonneg _ (by exact Int.le_of_lt (Int.pow_pos (by omega)))]
  simp
end Go.Abs
end

section
/- crc.Sum, and the document's. -/
set_option maxRecDepth 100000
set_option linter.unusedVariables false
set_option linter.unusedSimpArgs false
namespace Go.Abs
open Go Go.Proofs
attribute [local irreducible] ibits byteAt strLt firstIdx

theorem lsb_and (c : Crc.W) : c &&& 1#32 = if c.getLsbD 0 then 1#32 else 0#32 := by
  apply BitVec.eq_of_getLsbD_eq
  intro i hi
  rw [BitVec.getLsbD_and]
  cases h : c.getLsbD 0 with
  | true =>
    by_cases e : i = 0
    · subst e; simp [h]
    · simp [BitVec.getLsbD_one, e]
  | false =>
    by_cases e : i = 0
    · subst e; rw [h]; rfl
    · simp [BitVec.getLsbD_one, e]
theorem s0_step (c : Crc.W) : ibits .xor .u32 ((c.toNat : Int).fdiv (2 ^ min ((1 : Nat) : Int).toNat IntKind.u32.bits)) (IntKind.u32.wrap (3988292384 * ibits .and .u32 (c.toNat : Int) 1)) = ((Crc.s0 c).toNat : Int) := by
  rw [w_shr c 1 (by omega), show (1 : Int) = ((1#32 : Crc.W).toNat : Int) from rfl, w_and, lsb_and]
  have : IntKind.u32.wrap (3988292384 * ((if c.getLsbD 0 then 1#32 else 0#32 : Crc.W).toNat : Int)) = ((if c.getLsbD 0 then Crc.poly else 0#32 : Crc.W).toNat : Int) := by
    cases c.getLsbD 0 <;> rfl
  rw [this, w_xor]
  rfl
def s0n (c : Crc.W) : Nat → Crc.W
  | 0 => c
  | k + 1 => Crc.s0 (s0n c k)
theorem four_calls (c : Crc.W) {X : AV} (hX : X = wv c) {R} (h : R (wv (Crc.four c)) []) : ACalls Tryd.prog 69 [X] [] R := by
  subst hX
  refine acalls_of_xwp (an := an69) tab_ok Tryd.func69 ?_
  (conv => whnf)
  refine LoopP.ind2 (fun (i : Nat) (x : Crc.W) => [(0, wv x), (4, vi i)]) (fun i x => []) (fun i _ => 4 - i) (fun i x => i ≤ 4 ∧ x = s0n c i) 0 c rfl ⟨by omega, rfl⟩ ?_
  rintro i x ⟨h0, hx⟩ IH
  (conv => whnf)
  refine br_intro (fun hc => ?_) (fun hc => ?_)
  · have hc : i < 4 := by simp at hc; omega
    (conv => whnf)
    have e := s0_step x
    simp only [wv] at IH
    rw [i64_nat (by omega)]
    have := IH (i + 1) (Crc.s0 x) ⟨by omega, by rw [hx]; rfl⟩ (by omega)
    rw [← e] at this
    exact this
  · have hc : i = 4 := by simp at hc; omega
    subst hc
    (conv => whnf)
    rw [hx]
    exact h

def crcT : List AV := (List.range 16).map fun i => wv (Crc.four (BitVec.ofNat 32 i))
theorem halves_calls {R} (h : R (.agg crcT) []) : ACalls Tryd.prog 59 [] [] R := by
  refine acalls_of_xwp (an := an59) tab_ok Tryd.func59 ?_
  (conv => whnf)
  refine LoopP.step ?_
  (conv => whnf)
  refine four_calls 0#32 rfl ?_
  (conv => whnf)
  refine LoopP.step ?_
  (conv => whnf)
  refine four_calls 1#32 rfl ?_
  (conv => whnf)
  refine LoopP.step ?_
  (conv => whnf)
  refine four_calls 2#32 rfl ?_
  (conv => whnf)
  refine LoopP.step ?_
  (conv => whnf)
  refine four_calls 3#32 rfl ?_
  (conv => whnf)
  refine LoopP.step ?_
  (conv => whnf)
  refine four_calls 4#32 rfl ?_
  (conv => whnf)
  refine LoopP.step ?_
  (conv => whnf)
  refine four_calls 5#32 rfl ?_
  (conv => whnf)
  refine LoopP.step ?_
  (conv => whnf)
  refine four_calls 6#32 rfl ?_
  (conv => whnf)
  refine LoopP.step ?_
  (conv => whnf)
  refine four_calls 7#32 rfl ?_
  (conv => whnf)
  refine LoopP.step ?_
  (conv => whnf)
  refine four_calls 8#32 rfl ?_
  (conv => whnf)
  refine LoopP.step ?_
  (conv => whnf)
  refine four_calls 9#32 rfl ?_
  (conv => whnf)
  refine LoopP.step ?_
  (conv => whnf)
  refine four_calls 10#32 rfl ?_
  (conv => whnf)
  refine LoopP.step ?_
  (conv => whnf)
  refine four_calls 11#32 rfl ?_
  (conv => whnf)
  refine LoopP.step ?_
  (conv => whnf)
  refine four_calls 12#32 rfl ?_
  (conv => whnf)
  refine LoopP.step ?_
  (conv => whnf)
  refine four_calls 13#32 rfl ?_
  (conv => whnf)
  refine LoopP.step ?_
  (conv => whnf)
  refine four_calls 14#32 rfl ?_
  (conv => whnf)
  refine LoopP.step ?_
  (conv => whnf)
  refine four_calls 15#32 rfl ?_
  (conv => whnf)
  refine LoopP.step ?_
  (conv => whnf)
  exact h

theorem load_at {l : List AV} {n : Nat} {a : AV} {K : AV → Prop} (h : l[n]? = some a) (hk : force a K) : (match dropL l n with | a :: _ => force a K | [] => False) := by
  rw [dropL_eq]
  obtain ⟨hl, rfl⟩ := List.getElem?_eq_some_iff.1 h
  rw [List.drop_eq_getElem_cons hl]
  exact hk

theorem crcT_at (i : Crc.W) (h : i.toNat < 16) : crcT[i.toNat]? = some (wv (Crc.four i)) := by
  unfold crcT
  rw [List.getElem?_map, List.getElem?_range h]
  simp
theorem w_byte (x : UInt8) : IntKind.u32.wrap ((x.toNat : Nat) : Int) = (((Crc.ofByte x).toNat : Nat) : Int) := by
  have := x.toNat_lt
  rw [wrap_u32 (Int.natCast_nonneg _) (by omega)]
  unfold Crc.ofByte
  rw [BitVec.toNat_ofNat, Nat.mod_eq_of_lt (by omega)]
theorem w_byte4 (x : UInt8) : IntKind.u32.wrap (((x.toNat : Nat) : Int).fdiv (2 ^ min (Int.toNat 4) IntKind.u8.bits)) = (((Crc.ofByte x >>> 4).toNat : Nat) : Int) := by
  have hx := x.toNat_lt
  have e : ((x.toNat : Nat) : Int).fdiv (2 ^ min (Int.toNat 4) IntKind.u8.bits) = ((x.toNat / 16 : Nat) : Int) := by
    show ((x.toNat : Nat) : Int).fdiv (2 ^ 4) = _
    rw [Int.fdiv_eq_ediv_of_nonneg _ (by decide)]; omega
  rw [e, wrap_u32 (Int.natCast_nonneg _) (by omega), BitVec.toNat_ushiftRight, Nat.shiftRight_eq_div_pow]
  unfold Crc.ofByte
  rw [BitVec.toNat_ofNat, Nat.mod_eq_of_lt (by omega)]
theorem and15_lt (c : Crc.W) : (c &&& 15#32).toNat < 16 := by
  rw [BitVec.toNat_and]
  exact Nat.lt_of_le_of_lt Nat.and_le_right (by decide)
theorem half_step (c n : Crc.W) : ibits .and .u32 (ibits .xor .u32 (c.toNat : Int) (n.toNat : Int)) 15 = (((c ^^^ n) &&& 15#32).toNat : Int) := by
  rw [w_xor, show (15 : Int) = ((15#32 : Crc.W).toNat : Int) from rfl, w_and]
theorem half_end (c n : Crc.W) : ibits .xor .u32 ((c.toNat : Int).fdiv (2 ^ min (Int.toNat 4) IntKind.u32.bits)) ((Crc.four ((c ^^^ n) &&& 15#32)).toNat : Int) = ((Crc.half c n).toNat : Int) := by
  have e : (c.toNat : Int).fdiv (2 ^ min (Int.toNat 4) IntKind.u32.bits) = ((c >>> 4).toNat : Int) := w_shr c 4 (by omega)
  rw [e, w_xor]; rfl
theorem w_compl (c : Crc.W) : ibits .xor .u32 4294967295 (c.toNat : Int) = ((~~~ c).toNat : Int) := by
  rw [show (4294967295 : Int) = ((0xffffffff#32 : Crc.W).toNat : Int) from rfl, w_xor]
  congr 2
theorem Sum_calls (b : B) (hb : b.length < 100000000) {R} (h : R (wv (Crc.sum b)) []) : ACalls Tryd.prog 41 [.sl none 1 [[.sl none 1 (byteEls b)]]] [] R := by
  refine acalls_of_xwp (an := an41) tab_ok Tryd.func41 ?_
  have hsl := byteEls_length b
  (conv => whnf)
  refine halves_calls ?_
  (conv => whnf)
  refine LoopP.step ?_
  (conv => whnf)
  refine LoopP.ind2 (fun (i : Nat) (c : Crc.W) => [(4, wv c), (18, vi i)]) (fun i c => [(nameOf 3, .cells 92 crcT)]) (fun i _ => b.length - i) (fun i c => i ≤ b.length ∧ c = Crc.run 0xffffffff#32 (b.take i)) 0 0xffffffff#32 rfl ⟨by omega, rfl⟩ ?_
  rintro i c ⟨h0, hc0⟩ IH
  (conv => whnf)
  refine br_intro (fun hc => ?_) (fun hc => ?_)
  · have hc := lt_of_decE hsl hc
    (conv => whnf); (repeat ((with_reducible refine must_intro ?_ ?_); exact decide_eq_true (by omega); (conv => whnf)))
    refine idxK_map_intro (show (i : Int).toNat < b.length by simpa using hc) ?_
    rw [show b[(i : Int).toNat]'(by simpa using hc) = b[i] from by congr 1]
    have IH' := IH (i + 1) (Crc.byte c b[i]) ⟨by omega, by rw [List.take_succ_eq_append_getElem hc, Crc.run_append, hc0]; rfl⟩ (by omega)
    clear IH
    generalize b[i] = x at IH' ⊢
    (conv => whnf)
    rw [w_byte, half_step]
    have hq := and15_lt (c ^^^ Crc.ofByte x)
    have hT := crcT_at _ hq
    have he := half_end c (Crc.ofByte x)
    generalize (c ^^^ Crc.ofByte x) &&& 15#32 = q at hq hT he ⊢
    refine must_intro (decide_eq_true (show ((q.toNat : Nat) : Int) < ((16 : Nat) : Int) by omega)) ?_
    (conv => whnf)
    refine load_at (a := wv (Crc.four q)) (by show crcT[0 + q.toNat * 1]? = _; rw [Nat.zero_add, Nat.mul_one]; exact hT) ?_
    (conv => whnf)
    rw [he, w_byte4, half_step]
    have hq := and15_lt (Crc.half c (Crc.ofByte x) ^^^ (Crc.ofByte x >>> 4))
    have hT := crcT_at _ hq
    have he := half_end (Crc.half c (Crc.ofByte x)) (Crc.ofByte x >>> 4)
    generalize (Crc.half c (Crc.ofByte x) ^^^ (Crc.ofByte x >>> 4)) &&& 15#32 = q2 at hq hT he ⊢
    refine must_intro (decide_eq_true (show ((q2.toNat : Nat) : Int) < ((16 : Nat) : Int) by omega)) ?_
    (conv => whnf)
    refine load_at (a := wv (Crc.four q2)) (by show crcT[0 + q2.toNat * 1]? = _; rw [Nat.zero_add, Nat.mul_one]; exact hT) ?_
    (conv => whnf)
    rw [he, i64_nat (by omega)]
    exact IH'
  · have hc := ge_of_decE hsl hc
    rw [List.take_of_length_le hc] at hc0
    (conv => whnf)
    refine LoopP.step ?_
    (conv => whnf)
    have e : ibits .xor .u32 (match IntKind.u32.signed with | true => -1 | false => IntKind.u32.max) (c.toNat : Int) = ((Crc.sum b).toNat : Int) := by
      rw [Crc.sum, ← hc0]; exact w_compl c
    refine Eq.mp ?_ h
    rw [wv, ← e]
    rfl
/-! ### the document's -/
theorem w_mod2 (c : Crc.W) : (c.toNat : Int).tmod 2 = if c.getLsbD 0 then 1 else 0 := by
  rw [Int.tmod_eq_emod_of_nonneg (Int.natCast_nonneg _)]
  have h : c.getLsbD 0 = decide (c.toNat % 2 = 1) := by
    rw [BitVec.getLsbD, Nat.testBit_zero]
  rw [h]
  by_cases e : c.toNat % 2 = 1
  · rw [decide_eq_true e]; simp; omega
  · rw [decide_eq_false e]; simp; omega
theorem w_div2 (c : Crc.W) : IntKind.u32.wrap ((c.toNat : Int).tdiv 2) = ((c >>> 1).toNat : Int) := by
  have := c.isLt
  rw [Int.tdiv_eq_ediv_of_nonneg (Int.natCast_nonneg _), wrap_u32 (by omega) (by omega), BitVec.toNat_ushiftRight, Nat.shiftRight_eq_div_pow]
  omega
theorem b_bit (x : UInt8) (k : Nat) (hk : k < 8) : (IntKind.u32.wrap (((x.toNat : Nat) : Int).fdiv (2 ^ min ((k : Nat) : Int).toNat IntKind.u8.bits))).tmod 2 = if (Crc.ofByte x).getLsbD k then 1 else 0 := by
  have hx := x.toNat_lt
  have e : ((x.toNat : Nat) : Int).fdiv (2 ^ min ((k : Nat) : Int).toNat IntKind.u8.bits) = ((x.toNat / 2 ^ k : Nat) : Int) := by
    have : min ((k : Nat) : Int).toNat IntKind.u8.bits = k := by
      show min ((k : Nat) : Int).toNat 8 = k
      rw [Int.toNat_natCast]; omega
    rw [this, Int.fdiv_eq_ediv_of_nonneg _ (by exact Int.le_of_lt (Int.pow_pos (by omega)))]
    simp
  have hlt : x.toNat / 2 ^ k < 256 := Nat.lt_of_le_of_lt (Nat.div_le_self _ _) hx
  rw [e, wrap_u32 (Int.natCast_nonneg _) (by omega), Int.tmod_eq_emod_of_nonneg (Int.natCast_nonneg _)]
  have h : (Crc.ofByte x).getLsbD k = decide (x.toNat / 2 ^ k % 2 = 1) := by
    unfold Crc.ofByte
    rw [BitVec.getLsbD_ofNat, Nat.testBit_eq_decide_div_mod_eq]
    simp; omega
  rw [h]
  generalize x.toNat / 2 ^ k = q
  by_cases e : q % 2 = 1
  · rw [decide_eq_true e]; simp; omega
  · rw [decide_eq_false e]; simp; omega
end Go.Abs
end

section
/- Contracts at the level of worlds: how they are told of abstract values. -/
set_option maxRecDepth 100000
set_option linter.unusedVariables false
set_option linter.unusedSimpArgs false
namespace Go.Abs
open Go Go.Proofs Go.Sort

def entryS (G : Gh) (w : World) : Entry := ⟨G, w, fun b => ∃ n, G.at n b, True⟩
theorem invS {G : Gh} {os : List AObj} {w : World} (hW : WR G (numbered 0 os) w) : Inv (entryS G w) ⟨[], numbered 0 os⟩ G { tmps := #[], defers := [] } w :=
  ⟨by simp [RepL], Marks.nil _ _ _, hW, Gh.le.refl _, ⟨rfl, rfl, rfl, Nat.le_refl _, fun _ _ _ => rfl, fun _ _ _ _ => rfl⟩, fun n b hb => .inl ⟨n, hb⟩⟩
theorem packS {P : Program} {f : FuncId} {args : List AV} {os : List AObj} {R : AV → List AObj → Prop}
    (h : ∀ (G : Gh) (w : World) (vals : List Value), WR G (numbered 0 os) w → RepL G args vals → Calls P f vals.toArray w fun e w' => ∃ (v : Value) (r : AV) (os' : List AObj) (G' : Gh), e = .returned v ∧ R r os' ∧ Rep G' r v ∧
      Inv (entryS G w) ⟨[], numbered 0 os'⟩ G' { tmps := #[], defers := [] } w' ∧ (∀ (i : Nat) (o : AObj), os'[i]? = some o → ∀ m ∈ objNames o, m < os'.length) ∧ ∀ m ∈ r.names, m < os'.length) : ACalls P f args os R :=
  ⟨fun G w vals hW hA => (h G w vals hW hA).mono fun e w' ⟨v, r, os', G', h1, h2, h3, h4, h5, h6⟩ => ⟨v, r, os', G', h1, h2, h3, h4.wr, h4.le, h4.ext, h4.newb, h5, h6⟩⟩

def sortB (l : List B) : List B := l.mergeSort fun x y => decide (x ≤ y)
theorem strs_flat (G : Gh) (l : List B) (vs : List Value) : RepL G (strs l).flatten vs ↔ vs = l.map encStr := by
  induction l generalizing vs with
  | nil => simp [strs, RepL]
  | cons s l ih =>
    simp only [strs, List.map_cons, List.flatten_cons, List.cons_append, List.nil_append, RepL, Rep]
    constructor
    · rintro ⟨v, us, rfl, h, h2⟩
      have := (ih us).1 h2
      simp only [vs] at h
      rw [this, h]
      rfl
    · rintro rfl
      exact ⟨_, _, rfl, rfl, (ih _).2 rfl⟩


theorem repE_strs {K : Nat → Nat → Option Value} {ob : Nm → Option GO} {g : Nat} : ∀ (ss : List B) (i : Nat), (∀ j s, ss[j]? = some s → K g (i + j) = some (encStr s)) → RepE ⟨K, ob⟩ 1 (some ⟨g, 0, none⟩) i (strs ss)
  | [], _, _ => trivial
  | s :: ss, i, h => by
    refine ⟨⟨g, 0, rfl, rfl, rfl, ⟨encStr s, by have := h 0 s rfl; simpa using this, rfl⟩, trivial⟩, repE_strs ss (i + 1) fun j s' hs => ?_⟩
    have := h (j + 1) s' (by simpa using hs)
    rw [show i + 1 + j = i + (j + 1) by omega]
    exact this

/-- A library function that answers plain values, and changes nothing that lay there. -/
theorem acalls_pure {P : Program} {f : FuncId} {args : List AV} {R : AV → List AObj → Prop}
    (h : ∀ (G : Gh) (w : World) (vals : List Value), WR G (numbered 0 []) w → RepL G args vals → ∃ (v : Value) (r : AV), R r [] ∧ r.names = [] ∧ Rep G r v ∧ Calls P f vals.toArray w fun e w' => e = .returned v ∧ Go.RowKit.Below w.heap.size w w') : ACalls P f args [] R := by
  refine packS fun G w vals hW hA => ?_
  have hI := invS hW
  obtain ⟨v, r, h1, h2, h3, h4⟩ := h G w vals hW hA
  refine h4.mono ?_
  rintro e w' ⟨rfl, hbl⟩
  obtain ⟨hI', hle⟩ := hI.grow (w' := w') (K' := G.K) hbl.os hbl.tape hbl.output hbl.size (fun b hb => hbl.block b hb) (fun _ _ _ => rfl) (fun b o v hb ev => by have := hI.wr.kltb ev; omega)
  exact ⟨_, r, [], G, rfl, h1, h3, hI', (by intro i o ho; cases ho), by rw [h2]; simp⟩
end Go.Abs
end

section
/-
  DERIVED: THE SHELF's CONTRACTS AT THIS DUMP, IN PLAIN WORDS (tools/lay-plain.mjs out of 'TrydShelf.lean', which tools/lay-shelf.mjs wrote): THE SAME DECLARATIONS UNDER THE SAME NAMES: 'import', 'namespace', 'open', 'def', 'theorem' AND NOTHING ELSE: no command of the shelf's: FOR A HAND-IN. Each laying: the table of numbers ('.._ren') and one theorem, a field a fact of the dump's own or the kernel's comparison; each contract: ONE APPLICATION.
-/
namespace Go.Proofs
open Go.Shelf
def Tryd.lays169_ren : Go.Shelf.Ren := ⟨fun | 169 => 26 | n => n, fun | 70 => 48 | 9 => 9 | 0 => 0 | 72 => 51 | 37 => 49 | 127 => 68 | 3 => 3 | 5 => 5 | n => n, fun | n => n⟩
theorem Tryd.lays169 : Go.Proofs.Lays.n169 Tryd.prog Tryd.lays169_ren := {
  mixed := by kernel_rfl
  f169 := Tryd.func26.trans (congrArg some (by kernel_rfl))
  t0 := Tryd.underlying0
  a0 := Tryd.isAgg0
  z0 := Tryd.sizeOf0
  v0 := Tryd.zeroValue0
  t3 := Tryd.underlying3
  a3 := Tryd.isAgg3
  z3 := Tryd.sizeOf3
  v3 := Tryd.zeroValue3
  t9 := Tryd.underlying9
  a9 := Tryd.isAgg9
  z9 := Tryd.sizeOf9
  v9 := Tryd.zeroValue9
  t37 := Tryd.underlying49
  a37 := Tryd.isAgg49
  z37 := Tryd.sizeOf49
  v37 := Tryd.zeroValue49
  t70 := Tryd.underlying48
  a70 := Tryd.isAgg48
  z70 := Tryd.sizeOf48
  v70 := Tryd.zeroValue48
  t72 := Tryd.underlying51
  a72 := Tryd.isAgg51
  z72 := Tryd.sizeOf51
  v72 := Tryd.zeroValue51
  t127 := Tryd.underlying68
  a127 := Tryd.isAgg68
  z127 := Tryd.sizeOf68
  v127 := Tryd.zeroValue68 }
theorem Tryd.Builder_Extra_169 : Builder.Extra Tryd.prog Tryd.lays169_ren := {
  sizeBuilder := by kernel_rfl
  liesBuilder := by kernel_rfl
  t5 := Tryd.underlying5
  a5 := Tryd.isAgg5
  z5 := Tryd.sizeOf5
  v5 := Tryd.zeroValue5
  infoByte := by kernel_rfl
  cellsByte := by kernel_rfl
  sizeByte := by kernel_rfl
  neB5 := by decide }
open Go.RowKit in
/-- (*strings.Builder).String: "String returns the accumulated string.": OF A BUILDER THAT HOLDS AT LEAST ONE BYTE. ✋ THE MODEL FREEZES THOSE BYTES IN THE BUFFER (unsafe.String): a later write INTO them ends the model's run without an answer; a later append BEHIND them goes on. The statement's order of evaluation is drawn: one draw. (LAID: no walk: one application.) -/
theorem Tryd.Builder_String (B b : Nat) (l : List UInt8) (w : World) (h : Lib.IsBuilder 51 5 B b (Lib.byteCells l) w) (h0 : l ≠ []) :
    Calls Tryd.prog 26 #[.pointer (some ⟨b, 0, none⟩)] w fun e w' => e = .returned (.string ⟨l.toArray⟩) ∧ Below B w w' := Any.Builder_String Tryd.lays169 Tryd.Builder_Extra_169 B b l w h h0
open Go.RowKit in
/-- (*strings.Builder).String OF A BUILDER THAT HOLDS NO BYTE: the empty string. (Its buffer is nil, or a row of which it has taken nothing yet; where that row has NO capacity the model lays one new block for unsafe.SliceData's 'some address'.) One draw. (LAID: no walk: one application.) -/
theorem Tryd.Builder_String_empty (B b : Nat) (w : World) (h : Lib.IsBuilder 51 5 B b [] w) (hBw : B ≤ w.heap.size) :
    Calls Tryd.prog 26 #[.pointer (some ⟨b, 0, none⟩)] w fun e w' => e = .returned (.string ⟨#[]⟩) ∧ Below B w w' := Any.Builder_String_empty Tryd.lays169 Tryd.Builder_Extra_169 B b w h hBw
open Go.RowKit in
/-- (*strings.Builder).String: "String returns the accumulated string.": WHATEVER THE BUILDER HOLDS. (LAID: no walk: one application.) -/
theorem Tryd.Builder_String_any (B b : Nat) (l : List UInt8) (w : World) (h : Lib.IsBuilder 51 5 B b (Lib.byteCells l) w) (hBw : B ≤ w.heap.size) :
    Calls Tryd.prog 26 #[.pointer (some ⟨b, 0, none⟩)] w fun e w' => e = .returned (.string ⟨l.toArray⟩) ∧ Below B w w' := Any.Builder_String_any Tryd.lays169 Tryd.Builder_Extra_169 B b l w h hBw
def Tryd.lays241_ren : Go.Shelf.Ren := ⟨fun | 241 => 66 | 277 => 72 | n => n, fun | 70 => 48 | 3 => 3 | 0 => 0 | 72 => 51 | 37 => 49 | 5 => 5 | n => n, fun | n => n⟩
theorem Tryd.lays241 : Go.Proofs.Lays.n241 Tryd.prog Tryd.lays241_ren := {
  mixed := by kernel_rfl
  f241 := Tryd.func66.trans (congrArg some (by kernel_rfl))
  f277 := Tryd.func72.trans (congrArg some (by kernel_rfl))
  t0 := Tryd.underlying0
  a0 := Tryd.isAgg0
  z0 := Tryd.sizeOf0
  v0 := Tryd.zeroValue0
  t3 := Tryd.underlying3
  a3 := Tryd.isAgg3
  z3 := Tryd.sizeOf3
  v3 := Tryd.zeroValue3
  t37 := Tryd.underlying49
  a37 := Tryd.isAgg49
  z37 := Tryd.sizeOf49
  v37 := Tryd.zeroValue49
  t70 := Tryd.underlying48
  a70 := Tryd.isAgg48
  z70 := Tryd.sizeOf48
  v70 := Tryd.zeroValue48
  t72 := Tryd.underlying51
  a72 := Tryd.isAgg51
  z72 := Tryd.sizeOf51
  v72 := Tryd.zeroValue51 }
theorem Tryd.Builder_Extra_241 : Builder.Extra Tryd.prog Tryd.lays241_ren := {
  sizeBuilder := by kernel_rfl
  liesBuilder := by kernel_rfl
  t5 := Tryd.underlying5
  a5 := Tryd.isAgg5
  z5 := Tryd.sizeOf5
  v5 := Tryd.zeroValue5
  infoByte := by kernel_rfl
  cellsByte := by kernel_rfl
  sizeByte := by kernel_rfl
  neB5 := by decide }
open Go.RowKit in
/-- (*strings.Builder).grow (no doc but "grow copies the buffer to a new, larger buffer so that there are at least n bytes of capacity beyond len(b.buf)."): AT A BUILDER WITHOUT A BUFFER: a new row of whatever bytes for its buffer, none of them its own yet. Three draws. (LAID: no walk: one application.) -/
theorem Tryd.Builder_grow_fresh (B b n : Nat) (w : World) (hB : B ≤ b) (hbk : w.heap[b]? = some (.cells #[.pointer (some ⟨b, 0, none⟩), .slice none 0 0] 51 (0, 0))) (hBw : B ≤ w.heap.size) (hn : n ≤ 281474976710656) :
    Calls Tryd.prog 66 #[.pointer (some ⟨b, 0, none⟩), .int .i64 n] w fun e w' => e = .returned (.tuple #[]) ∧ (Lib.BuilderAt 51 5 B b (.pointer (some ⟨b, 0, none⟩)) [] w' ∧ Below B w w') := Any.Builder_grow_fresh Tryd.lays241 Tryd.Builder_Extra_241 B b n w hB hbk hBw hn
def Tryd.lays165_ren : Go.Shelf.Ren := ⟨fun | 165 => 52 | 240 => 39 | 241 => 66 | 276 => 57 | 277 => 72 | n => n, fun | 70 => 48 | 3 => 3 | 0 => 0 | 4 => 4 | 9 => 9 | 20 => 20 | 72 => 51 | 37 => 49 | 164 => 88 | 5 => 5 | n => n, fun | n => n⟩
theorem Tryd.lays165 : Go.Proofs.Lays.n165 Tryd.prog Tryd.lays165_ren := {
  mixed := by kernel_rfl
  f165 := Tryd.func52.trans (congrArg some (by kernel_rfl))
  f240 := Tryd.func39.trans (congrArg some (by kernel_rfl))
  f241 := Tryd.func66.trans (congrArg some (by kernel_rfl))
  f276 := Tryd.func57.trans (congrArg some (by kernel_rfl))
  f277 := Tryd.func72.trans (congrArg some (by kernel_rfl))
  t0 := Tryd.underlying0
  a0 := Tryd.isAgg0
  z0 := Tryd.sizeOf0
  v0 := Tryd.zeroValue0
  t3 := Tryd.underlying3
  a3 := Tryd.isAgg3
  z3 := Tryd.sizeOf3
  v3 := Tryd.zeroValue3
  t4 := Tryd.underlying4
  a4 := Tryd.isAgg4
  z4 := Tryd.sizeOf4
  v4 := Tryd.zeroValue4
  t9 := Tryd.underlying9
  a9 := Tryd.isAgg9
  z9 := Tryd.sizeOf9
  v9 := Tryd.zeroValue9
  t20 := Tryd.underlying20
  a20 := Tryd.isAgg20
  z20 := Tryd.sizeOf20
  v20 := Tryd.zeroValue20
  t37 := Tryd.underlying49
  a37 := Tryd.isAgg49
  z37 := Tryd.sizeOf49
  v37 := Tryd.zeroValue49
  t70 := Tryd.underlying48
  a70 := Tryd.isAgg48
  z70 := Tryd.sizeOf48
  v70 := Tryd.zeroValue48
  t72 := Tryd.underlying51
  a72 := Tryd.isAgg51
  z72 := Tryd.sizeOf51
  v72 := Tryd.zeroValue51
  t164 := Tryd.underlying88
  a164 := Tryd.isAgg88
  z164 := Tryd.sizeOf88
  v164 := Tryd.zeroValue88 }
theorem Tryd.Builder_Extra_165 : Builder.Extra Tryd.prog Tryd.lays165_ren := {
  sizeBuilder := by kernel_rfl
  liesBuilder := by kernel_rfl
  t5 := Tryd.underlying5
  a5 := Tryd.isAgg5
  z5 := Tryd.sizeOf5
  v5 := Tryd.zeroValue5
  infoByte := by kernel_rfl
  cellsByte := by kernel_rfl
  sizeByte := by kernel_rfl
  neB5 := by decide }
open Go.RowKit in
/-- (*strings.Builder).Grow AT A BUILDER THAT HAS NOT BEEN WRITTEN ('var b strings.Builder; b.Grow(n)'): "Grow grows b's capacity, if necessary, to guarantee space for another n bytes.": it holds no byte behind it as before it. (LAID: no walk: one application.) -/
theorem Tryd.Builder_Grow_fresh (B b n : Nat) (w : World) (hB : B ≤ b) (hbk : w.heap[b]? = some (.cells #[.pointer none, .slice none 0 0] 51 (0, 0))) (hBw : B ≤ w.heap.size) (hn : n ≤ 281474976710656) :
    Calls Tryd.prog 52 #[.pointer (some ⟨b, 0, none⟩), .int .i64 n] w fun e w' => e = .returned (.tuple #[]) ∧ (Lib.BuilderAt 51 5 B b (.pointer (some ⟨b, 0, none⟩)) [] w' ∧ Below B w w') := Any.Builder_Grow_fresh Tryd.lays165 Tryd.Builder_Extra_165 B b n w hB hbk hBw hn
def Tryd.lays156_ren : Go.Shelf.Ren := ⟨fun | 156 => 35 | 165 => 52 | 166 => 23 | 169 => 26 | 240 => 39 | 241 => 66 | 276 => 57 | 277 => 72 | n => n, fun | 31 => 38 | 9 => 9 | 3 => 3 | 4 => 4 | 0 => 0 | 20 => 20 | 72 => 51 | 76 => 54 | 70 => 48 | 37 => 49 | 75 => 53 | 127 => 68 | 164 => 88 | 5 => 5 | 80 => 57 | n => n, fun | n => n⟩
theorem Tryd.lays156 : Go.Proofs.Lays.n156 Tryd.prog Tryd.lays156_ren := {
  mixed := by kernel_rfl
  f156 := Tryd.func35.trans (congrArg some (by kernel_rfl))
  f165 := Tryd.func52.trans (congrArg some (by kernel_rfl))
  f166 := Tryd.func23.trans (congrArg some (by kernel_rfl))
  f169 := Tryd.func26.trans (congrArg some (by kernel_rfl))
  f240 := Tryd.func39.trans (congrArg some (by kernel_rfl))
  f241 := Tryd.func66.trans (congrArg some (by kernel_rfl))
  f276 := Tryd.func57.trans (congrArg some (by kernel_rfl))
  f277 := Tryd.func72.trans (congrArg some (by kernel_rfl))
  t0 := Tryd.underlying0
  a0 := Tryd.isAgg0
  z0 := Tryd.sizeOf0
  v0 := Tryd.zeroValue0
  t3 := Tryd.underlying3
  a3 := Tryd.isAgg3
  z3 := Tryd.sizeOf3
  v3 := Tryd.zeroValue3
  t4 := Tryd.underlying4
  a4 := Tryd.isAgg4
  z4 := Tryd.sizeOf4
  v4 := Tryd.zeroValue4
  t9 := Tryd.underlying9
  a9 := Tryd.isAgg9
  z9 := Tryd.sizeOf9
  v9 := Tryd.zeroValue9
  t20 := Tryd.underlying20
  a20 := Tryd.isAgg20
  z20 := Tryd.sizeOf20
  v20 := Tryd.zeroValue20
  t31 := Tryd.underlying38
  a31 := Tryd.isAgg38
  z31 := Tryd.sizeOf38
  v31 := Tryd.zeroValue38
  t37 := Tryd.underlying49
  a37 := Tryd.isAgg49
  z37 := Tryd.sizeOf49
  v37 := Tryd.zeroValue49
  t70 := Tryd.underlying48
  a70 := Tryd.isAgg48
  z70 := Tryd.sizeOf48
  v70 := Tryd.zeroValue48
  t72 := Tryd.underlying51
  a72 := Tryd.isAgg51
  z72 := Tryd.sizeOf51
  v72 := Tryd.zeroValue51
  t75 := Tryd.underlying53
  a75 := Tryd.isAgg53
  z75 := Tryd.sizeOf53
  v75 := Tryd.zeroValue53
  t76 := Tryd.underlying54
  a76 := Tryd.isAgg54
  z76 := Tryd.sizeOf54
  v76 := Tryd.zeroValue54
  t127 := Tryd.underlying68
  a127 := Tryd.isAgg68
  z127 := Tryd.sizeOf68
  v127 := Tryd.zeroValue68
  t164 := Tryd.underlying88
  a164 := Tryd.isAgg88
  z164 := Tryd.sizeOf88
  v164 := Tryd.zeroValue88 }
theorem Tryd.Builder_Extra_156 : Builder.Extra Tryd.prog Tryd.lays156_ren := {
  sizeBuilder := by kernel_rfl
  liesBuilder := by kernel_rfl
  t5 := Tryd.underlying5
  a5 := Tryd.isAgg5
  z5 := Tryd.sizeOf5
  v5 := Tryd.zeroValue5
  infoByte := by kernel_rfl
  cellsByte := by kernel_rfl
  sizeByte := by kernel_rfl
  neB5 := by decide }
open Go.RowKit in
/-- No element: the empty string; the world is as it was. (Whatever the slice's address and capacity: a nil slice too.) (LAID: no walk: one application.) -/
theorem Tryd.strings_Join_none (a : Option Addr) (c : Nat) (sep : ByteArray) (w : World) :
    Calls Tryd.prog 35 #[.slice a 0 c, .string sep] w fun e w' => e = .returned (.string ⟨#[]⟩) ∧ w' = w := Any.strings_Join_none Tryd.lays156 Tryd.Builder_Extra_156 a c sep w
open Go.RowKit in
/-- strings.Join: "Join concatenates the elements of its first argument to create a single string. The separator string sep is placed between elements in the resulting string.": HOWEVER MANY ELEMENTS. Below the heap's end the world is as it was. (LAID: no walk: one application.) -/
theorem Tryd.strings_Join (bk o c : Nat) (xs : List ByteArray) (sep : ByteArray) (w : World) (hcells : ∀ (j : Nat) x, xs[j]? = some x → w.cell? ⟨bk, o + j, none⟩ = some (.string x)) (hbk : bk < w.heap.size) (hN : xs.length ≤ 140737488355328) (hcap : xs.length ≤ c) (hlen : (Lib.join (xs.map (·.data.toList)) sep.data.toList).length ≤ 140737488355328) :
    Calls Tryd.prog 35 #[.slice (some ⟨bk, o, none⟩) xs.length c, .string sep] w fun e w' => e = .returned (.string ⟨(Lib.join (xs.map (·.data.toList)) sep.data.toList).toArray⟩) ∧ Below w.heap.size w w' := Any.strings_Join Tryd.lays156 Tryd.Builder_Extra_156 bk o c xs sep w hcells hbk hN hcap hlen
def Tryd.lays129_ren : Go.Shelf.Ren := ⟨fun | 129 => 62 | n => n, fun | 53 => 22 | 3 => 3 | 4 => 4 | 46 => 79 | 5 => 5 | 9 => 9 | n => n, fun | n => n⟩
theorem Tryd.lays129 : Go.Proofs.Lays.n129 Tryd.prog Tryd.lays129_ren := {
  mixed := by kernel_rfl
  f129 := Tryd.func62.trans (congrArg some (by kernel_rfl))
  t3 := Tryd.underlying3
  a3 := Tryd.isAgg3
  z3 := Tryd.sizeOf3
  v3 := Tryd.zeroValue3
  t4 := Tryd.underlying4
  a4 := Tryd.isAgg4
  z4 := Tryd.sizeOf4
  v4 := Tryd.zeroValue4
  t5 := Tryd.underlying5
  a5 := Tryd.isAgg5
  z5 := Tryd.sizeOf5
  v5 := Tryd.zeroValue5
  t9 := Tryd.underlying9
  a9 := Tryd.isAgg9
  z9 := Tryd.sizeOf9
  v9 := Tryd.zeroValue9
  t46 := Tryd.underlying79
  a46 := Tryd.isAgg79
  z46 := Tryd.sizeOf79
  v46 := Tryd.zeroValue79
  t53 := Tryd.underlying22
  a53 := Tryd.isAgg22
  z53 := Tryd.sizeOf22
  v53 := Tryd.zeroValue22 }
/-- bits.Len64: "Len64 returns the minimum number of bits required to represent x; the result is 0 for x == 0.": IT RETURNS 'Lib.bitLen x'; the world is as it was. ('h0', 'h1': x is a uint64.) (LAID: no walk: one application.) -/
theorem Tryd.bits_Len64 (x : Int) (w : World) (h0 : 0 ≤ x) (h1 : x ≤ 18446744073709551615) :
    Calls Tryd.prog 62 #[.int .u64 x] w fun e w' => e = .returned (.int .i64 (Lib.bitLen x.toNat)) ∧ w' = w := Any.bits_Len64 Tryd.lays129 x w h0 h1
def Tryd.lays317_ren : Go.Shelf.Ren := ⟨fun | 317 => 61 | n => n, fun | 3 => 3 | 46 => 79 | n => n, fun | n => n⟩
theorem Tryd.lays317 : Go.Proofs.Lays.n317 Tryd.prog Tryd.lays317_ren := {
  mixed := by kernel_rfl
  f317 := Tryd.func61.trans (congrArg some (by kernel_rfl))
  t3 := Tryd.underlying3
  a3 := Tryd.isAgg3
  z3 := Tryd.sizeOf3
  v3 := Tryd.zeroValue3
  t46 := Tryd.underlying79
  a46 := Tryd.isAgg79
  z46 := Tryd.sizeOf79
  v46 := Tryd.zeroValue79 }
open Go.Lib in
/-- internal/strconv.log10Pow2: "log10Pow2(x) returns ⌊log₁₀ 2**x⌋ = ⌊x * log₁₀ 2⌋.": '(x * 78913) >> 18', at an x up to 64 (a length in bits). The world is as it was. (LAID: no walk: one application.) -/
theorem Tryd.internal_strconv_log10Pow2 (x : Nat) (h : x ≤ 64) (w : World) :
    Calls Tryd.prog 61 #[.int .i64 x] w fun e w' => e = .returned (.int .i64 (Lib.l10 x)) ∧ w' = w := Any.internal_strconv_log10Pow2 Tryd.lays317 x h w
def Tryd.lays318_ren : Go.Shelf.Ren := ⟨fun | 318 => 63 | n => n, fun | 3 => 3 | 4 => 4 | n => n, fun | n => n⟩
theorem Tryd.lays318 : Go.Proofs.Lays.n318 Tryd.prog Tryd.lays318_ren := {
  mixed := by kernel_rfl
  f318 := Tryd.func63.trans (congrArg some (by kernel_rfl))
  t3 := Tryd.underlying3
  a3 := Tryd.isAgg3
  z3 := Tryd.sizeOf3
  v3 := Tryd.zeroValue3
  t4 := Tryd.underlying4
  a4 := Tryd.isAgg4
  z4 := Tryd.sizeOf4
  v4 := Tryd.zeroValue4 }
open Go.Lib in
/-- internal/strconv.bool2: "bool2 converts b to an integer: 1 for true, 0 for false." The world is as it was. (LAID: no walk: one application.) -/
theorem Tryd.internal_strconv_bool2_int (b : Bool) (w : World) :
    Calls Tryd.prog 63 #[.bool b] w fun e w' => e = .returned (.int .i64 (if b then 1 else 0)) ∧ w' = w := Any.internal_strconv_bool2_int Tryd.lays318 b w
def Tryd.lays283_ren : Go.Shelf.Ren := ⟨fun | 283 => 48 | n => n, fun | 3 => 3 | 9 => 9 | 4 => 4 | n => n, fun | n => n⟩
theorem Tryd.lays283 : Go.Proofs.Lays.n283 Tryd.prog Tryd.lays283_ren := {
  mixed := by kernel_rfl
  f283 := Tryd.func48.trans (congrArg some (by kernel_rfl))
  t3 := Tryd.underlying3
  a3 := Tryd.isAgg3
  z3 := Tryd.sizeOf3
  v3 := Tryd.zeroValue3
  t4 := Tryd.underlying4
  a4 := Tryd.isAgg4
  z4 := Tryd.sizeOf4
  v4 := Tryd.zeroValue4
  t9 := Tryd.underlying9
  a9 := Tryd.isAgg9
  z9 := Tryd.sizeOf9
  v9 := Tryd.zeroValue9 }
open Go.Lib in
/-- internal/strconv.small: "small returns the string for an i with 0 <= i < nSmalls.": i's decimal numeral. The world is as it was. (LAID: no walk: one application.) -/
theorem Tryd.internal_strconv_small (i : Nat) (h : i < 100) (w : World) :
    Calls Tryd.prog 48 #[.int .i64 i] w fun e w' => e = .returned (.string ⟨(Lib.decDigits i).toArray⟩) ∧ w' = w := Any.internal_strconv_small Tryd.lays283 i h w
def Tryd.laysM284_ren : Go.Shelf.Ren := ⟨fun | 284 => 49 | 129 => 62 | 317 => 61 | 318 => 63 | n => n, fun | 53 => 22 | 3 => 3 | 212 => 102 | 0 => 0 | 4 => 4 | 46 => 79 | 5 => 5 | 9 => 9 | n => n, fun | 17 => 1 | n => n⟩
theorem Tryd.laysM284 : Go.Proofs.LaysM.n284 Tryd.prog Tryd.laysM284_ren := {
  mixed := by kernel_rfl
  f129 := Tryd.func62.trans (congrArg some (by kernel_rfl))
  f284 := Tryd.func49.trans (congrArg some (by kernel_rfl))
  f317 := Tryd.func61.trans (congrArg some (by kernel_rfl))
  f318 := Tryd.func63.trans (congrArg some (by kernel_rfl))
  t0 := Tryd.underlying0
  a0 := Tryd.isAgg0
  z0 := Tryd.sizeOf0
  v0 := Tryd.zeroValue0
  t3 := Tryd.underlying3
  a3 := Tryd.isAgg3
  z3 := Tryd.sizeOf3
  v3 := Tryd.zeroValue3
  t4 := Tryd.underlying4
  a4 := Tryd.isAgg4
  z4 := Tryd.sizeOf4
  v4 := Tryd.zeroValue4
  t5 := Tryd.underlying5
  a5 := Tryd.isAgg5
  z5 := Tryd.sizeOf5
  v5 := Tryd.zeroValue5
  t9 := Tryd.underlying9
  a9 := Tryd.isAgg9
  z9 := Tryd.sizeOf9
  v9 := Tryd.zeroValue9
  t46 := Tryd.underlying79
  a46 := Tryd.isAgg79
  z46 := Tryd.sizeOf79
  v46 := Tryd.zeroValue79
  t53 := Tryd.underlying22
  a53 := Tryd.isAgg22
  z53 := Tryd.sizeOf22
  v53 := Tryd.zeroValue22
  t212 := Tryd.underlying102
  a212 := Tryd.isAgg102
  z212 := Tryd.sizeOf102
  v212 := Tryd.zeroValue102
  g17 := by kernel_rfl
  i0 := by kernel_rfl
  i3 := by kernel_rfl
  i4 := by kernel_rfl
  i5 := by kernel_rfl
  i9 := by kernel_rfl
  i46 := by kernel_rfl
  i53 := by kernel_rfl
  i212 := by kernel_rfl
  m17 := by kernel_rfl }
open Go.Lib in
/-- internal/strconv.numDigits, at a d that is not 0: THE NUMBER OF d's DECIMAL DIGITS. The world is as it was. (LAID: no walk: one application.) -/
theorem Tryd.internal_strconv_numDigits (u : Nat) (h1 : 1 ≤ u) (h2 : u < 18446744073709551616) (w : World) (htab : Lib.TabIs Tryd.prog w "internal/strconv.uint64pow10" .u64 Lib.pow10Tab) :
    Calls Tryd.prog 49 #[.int .u64 u] w fun e w' => e = .returned (.int .i64 (Lib.nDigits u)) ∧ w' = w := Any.internal_strconv_numDigits Tryd.laysM284 u h1 h2 w htab
def Tryd.lays285_ren : Go.Shelf.Ren := ⟨fun | 285 => 50 | n => n, fun | 37 => 49 | 53 => 22 | 3 => 3 | 4 => 4 | 51 => 66 | 9 => 9 | 5 => 5 | 0 => 0 | n => n, fun | n => n⟩
theorem Tryd.lays285 : Go.Proofs.Lays.n285 Tryd.prog Tryd.lays285_ren := {
  mixed := by kernel_rfl
  f285 := Tryd.func50.trans (congrArg some (by kernel_rfl))
  t0 := Tryd.underlying0
  a0 := Tryd.isAgg0
  z0 := Tryd.sizeOf0
  v0 := Tryd.zeroValue0
  t3 := Tryd.underlying3
  a3 := Tryd.isAgg3
  z3 := Tryd.sizeOf3
  v3 := Tryd.zeroValue3
  t4 := Tryd.underlying4
  a4 := Tryd.isAgg4
  z4 := Tryd.sizeOf4
  v4 := Tryd.zeroValue4
  t5 := Tryd.underlying5
  a5 := Tryd.isAgg5
  z5 := Tryd.sizeOf5
  v5 := Tryd.zeroValue5
  t9 := Tryd.underlying9
  a9 := Tryd.isAgg9
  z9 := Tryd.sizeOf9
  v9 := Tryd.zeroValue9
  t37 := Tryd.underlying49
  a37 := Tryd.isAgg49
  z37 := Tryd.sizeOf49
  v37 := Tryd.zeroValue49
  t51 := Tryd.underlying66
  a51 := Tryd.isAgg66
  z51 := Tryd.sizeOf66
  v51 := Tryd.zeroValue66
  t53 := Tryd.underlying22
  a53 := Tryd.isAgg22
  z53 := Tryd.sizeOf22
  v53 := Tryd.zeroValue22 }
open Go.RowKit Go.Sort Go.Lib in
/-- internal/strconv.formatBase10: "formatBase10 formats the decimal representation of u into a. The caller is responsible for ensuring that a is big enough to hold u. If a is too big, leading zeros will be filled in as needed.": THE ROW HOLDS u's DIGITS ('FmtInv .. 0 ..': every place t holds 'dg u (len - 1 - t)'); all else is as it was but for the count of draws. (LAID: no walk: one application.) -/
theorem Tryd.internal_strconv_formatBase10 (blk off cap : Nat) (u : Nat) (d : Array UInt8) (w : World) (hH : Holds (fun (b : UInt8) => Value.int .u8 (b.toNat : Int)) w blk off d) (hu : u < 10 ^ d.size) (hu64 : u < 18446744073709551616) (hsz : d.size < 4611686018427387904) :
    Calls Tryd.prog 50 #[.slice (some ⟨blk, off, none⟩) d.size cap, .int .u64 u] w fun e w' =>
      e = .returned (.tuple #[]) ∧ ∃ (n v' : Nat) (dk : Array UInt8), w' = (putRow (fun (b : UInt8) => Value.int .u8 (b.toNat : Int)) w blk off dk).drewN n ∧ FmtInv d.size u 0 v' dk := Any.internal_strconv_formatBase10 Tryd.lays285 blk off cap u d w hH hu hu64 hsz
def Tryd.laysM246_ren : Go.Shelf.Ren := ⟨fun | 246 => 58 | 283 => 48 | 284 => 49 | 285 => 50 | 286 => 51 | 129 => 62 | 317 => 61 | 318 => 63 | 319 => 64 | 320 => 65 | 337 => 70 | 338 => 71 | n => n, fun | 2 => 2 | 3 => 3 | 9 => 9 | 4 => 4 | 171 => 80 | 0 => 0 | 53 => 22 | 37 => 49 | 5 => 5 | 173 => 83 | 212 => 102 | 51 => 66 | 20 => 20 | 213 => 103 | 46 => 79 | 232 => 112 | 233 => 113 | n => n, fun | 17 => 1 | 18 => 2 | 19 => 3 | n => n⟩
theorem Tryd.laysM246 : Go.Proofs.LaysM.n246 Tryd.prog Tryd.laysM246_ren := {
  mixed := by kernel_rfl
  f129 := Tryd.func62.trans (congrArg some (by kernel_rfl))
  f246 := Tryd.func58.trans (congrArg some (by kernel_rfl))
  f283 := Tryd.func48.trans (congrArg some (by kernel_rfl))
  f284 := Tryd.func49.trans (congrArg some (by kernel_rfl))
  f285 := Tryd.func50.trans (congrArg some (by kernel_rfl))
  f286 := Tryd.func51.trans (congrArg some (by kernel_rfl))
  f317 := Tryd.func61.trans (congrArg some (by kernel_rfl))
  f318 := Tryd.func63.trans (congrArg some (by kernel_rfl))
  f319 := Tryd.func64.trans (congrArg some (by kernel_rfl))
  f320 := Tryd.func65.trans (congrArg some (by kernel_rfl))
  f337 := Tryd.func70.trans (congrArg some (by kernel_rfl))
  f338 := Tryd.func71.trans (congrArg some (by kernel_rfl))
  t0 := Tryd.underlying0
  a0 := Tryd.isAgg0
  z0 := Tryd.sizeOf0
  v0 := Tryd.zeroValue0
  t2 := Tryd.underlying2
  a2 := Tryd.isAgg2
  z2 := Tryd.sizeOf2
  v2 := Tryd.zeroValue2
  t3 := Tryd.underlying3
  a3 := Tryd.isAgg3
  z3 := Tryd.sizeOf3
  v3 := Tryd.zeroValue3
  t4 := Tryd.underlying4
  a4 := Tryd.isAgg4
  z4 := Tryd.sizeOf4
  v4 := Tryd.zeroValue4
  t5 := Tryd.underlying5
  a5 := Tryd.isAgg5
  z5 := Tryd.sizeOf5
  v5 := Tryd.zeroValue5
  t9 := Tryd.underlying9
  a9 := Tryd.isAgg9
  z9 := Tryd.sizeOf9
  v9 := Tryd.zeroValue9
  t20 := Tryd.underlying20
  a20 := Tryd.isAgg20
  z20 := Tryd.sizeOf20
  v20 := Tryd.zeroValue20
  t37 := Tryd.underlying49
  a37 := Tryd.isAgg49
  z37 := Tryd.sizeOf49
  v37 := Tryd.zeroValue49
  t46 := Tryd.underlying79
  a46 := Tryd.isAgg79
  z46 := Tryd.sizeOf79
  v46 := Tryd.zeroValue79
  t51 := Tryd.underlying66
  a51 := Tryd.isAgg66
  z51 := Tryd.sizeOf66
  v51 := Tryd.zeroValue66
  t53 := Tryd.underlying22
  a53 := Tryd.isAgg22
  z53 := Tryd.sizeOf22
  v53 := Tryd.zeroValue22
  t171 := Tryd.underlying80
  a171 := Tryd.isAgg80
  z171 := Tryd.sizeOf80
  v171 := Tryd.zeroValue80
  t173 := Tryd.underlying83
  a173 := Tryd.isAgg83
  z173 := Tryd.sizeOf83
  v173 := Tryd.zeroValue83
  t212 := Tryd.underlying102
  a212 := Tryd.isAgg102
  z212 := Tryd.sizeOf102
  v212 := Tryd.zeroValue102
  t213 := Tryd.underlying103
  a213 := Tryd.isAgg103
  z213 := Tryd.sizeOf103
  t232 := Tryd.underlying112
  a232 := Tryd.isAgg112
  z232 := Tryd.sizeOf112
  v232 := Tryd.zeroValue112
  t233 := Tryd.underlying113
  a233 := Tryd.isAgg113
  z233 := Tryd.sizeOf113
  v233 := Tryd.zeroValue113
  g17 := by kernel_rfl
  g18 := by kernel_rfl
  g19 := by kernel_rfl
  i0 := by kernel_rfl
  i2 := by kernel_rfl
  i3 := by kernel_rfl
  i4 := by kernel_rfl
  i5 := by kernel_rfl
  i9 := by kernel_rfl
  i20 := by kernel_rfl
  i37 := by kernel_rfl
  i46 := by kernel_rfl
  i51 := by kernel_rfl
  i53 := by kernel_rfl
  i171 := by kernel_rfl
  i173 := by kernel_rfl
  i212 := by kernel_rfl
  i232 := by kernel_rfl
  i233 := by kernel_rfl
  m17 := by kernel_rfl
  m18 := by kernel_rfl
  m19 := by kernel_rfl }
open Go.RowKit Go.Sort Go.Lib in
/-- internal/strconv.FormatInt: "FormatInt returns the string representation of i in the given base": AT BASE 10: i's decimal numeral, for every int64. The world behind the call: the world before it, new blocks behind the heap, draws. (LAID: no walk: one application.) -/
theorem Tryd.internal_strconv_FormatInt_10 (n : Int) (h0 : -9223372036854775808 ≤ n) (h1 : n ≤ 9223372036854775807) (w : World) (htab : Lib.TabIs Tryd.prog w "internal/strconv.uint64pow10" .u64 Lib.pow10Tab) :
    Calls Tryd.prog 58 #[.int .i64 n, .int .i64 10] w fun e w' => e = .returned (.string ⟨(Lib.itoa n).toArray⟩) ∧ ∃ k os, w' = grow (w.drewN k) os := Any.internal_strconv_FormatInt_10 Tryd.laysM246 n h0 h1 w htab
def Tryd.lays246_ren : Go.Shelf.Ren := ⟨fun | 246 => 58 | 283 => 48 | 284 => 49 | 285 => 50 | 286 => 51 | 129 => 62 | 317 => 61 | 318 => 63 | 319 => 64 | 320 => 65 | 337 => 70 | 338 => 71 | n => n, fun | 2 => 2 | 3 => 3 | 9 => 9 | 4 => 4 | 171 => 80 | 0 => 0 | 53 => 22 | 37 => 49 | 5 => 5 | 173 => 83 | 212 => 102 | 51 => 66 | 20 => 20 | 213 => 103 | 46 => 79 | 232 => 112 | 233 => 113 | n => n, fun | 17 => 1 | 18 => 2 | 19 => 3 | n => n⟩
theorem Tryd.lays246 : Go.Proofs.Lays.n246 Tryd.prog Tryd.lays246_ren := {
  mixed := by kernel_rfl
  f129 := Tryd.func62.trans (congrArg some (by kernel_rfl))
  f246 := Tryd.func58.trans (congrArg some (by kernel_rfl))
  f283 := Tryd.func48.trans (congrArg some (by kernel_rfl))
  f284 := Tryd.func49.trans (congrArg some (by kernel_rfl))
  f285 := Tryd.func50.trans (congrArg some (by kernel_rfl))
  f286 := Tryd.func51.trans (congrArg some (by kernel_rfl))
  f317 := Tryd.func61.trans (congrArg some (by kernel_rfl))
  f318 := Tryd.func63.trans (congrArg some (by kernel_rfl))
  f319 := Tryd.func64.trans (congrArg some (by kernel_rfl))
  f320 := Tryd.func65.trans (congrArg some (by kernel_rfl))
  f337 := Tryd.func70.trans (congrArg some (by kernel_rfl))
  f338 := Tryd.func71.trans (congrArg some (by kernel_rfl))
  t0 := Tryd.underlying0
  a0 := Tryd.isAgg0
  z0 := Tryd.sizeOf0
  v0 := Tryd.zeroValue0
  t2 := Tryd.underlying2
  a2 := Tryd.isAgg2
  z2 := Tryd.sizeOf2
  v2 := Tryd.zeroValue2
  t3 := Tryd.underlying3
  a3 := Tryd.isAgg3
  z3 := Tryd.sizeOf3
  v3 := Tryd.zeroValue3
  t4 := Tryd.underlying4
  a4 := Tryd.isAgg4
  z4 := Tryd.sizeOf4
  v4 := Tryd.zeroValue4
  t5 := Tryd.underlying5
  a5 := Tryd.isAgg5
  z5 := Tryd.sizeOf5
  v5 := Tryd.zeroValue5
  t9 := Tryd.underlying9
  a9 := Tryd.isAgg9
  z9 := Tryd.sizeOf9
  v9 := Tryd.zeroValue9
  t20 := Tryd.underlying20
  a20 := Tryd.isAgg20
  z20 := Tryd.sizeOf20
  v20 := Tryd.zeroValue20
  t37 := Tryd.underlying49
  a37 := Tryd.isAgg49
  z37 := Tryd.sizeOf49
  v37 := Tryd.zeroValue49
  t46 := Tryd.underlying79
  a46 := Tryd.isAgg79
  z46 := Tryd.sizeOf79
  v46 := Tryd.zeroValue79
  t51 := Tryd.underlying66
  a51 := Tryd.isAgg66
  z51 := Tryd.sizeOf66
  v51 := Tryd.zeroValue66
  t53 := Tryd.underlying22
  a53 := Tryd.isAgg22
  z53 := Tryd.sizeOf22
  v53 := Tryd.zeroValue22
  t171 := Tryd.underlying80
  a171 := Tryd.isAgg80
  z171 := Tryd.sizeOf80
  v171 := Tryd.zeroValue80
  t173 := Tryd.underlying83
  a173 := Tryd.isAgg83
  z173 := Tryd.sizeOf83
  v173 := Tryd.zeroValue83
  t212 := Tryd.underlying102
  a212 := Tryd.isAgg102
  z212 := Tryd.sizeOf102
  v212 := Tryd.zeroValue102
  t213 := Tryd.underlying103
  a213 := Tryd.isAgg103
  z213 := Tryd.sizeOf103
  t232 := Tryd.underlying112
  a232 := Tryd.isAgg112
  z232 := Tryd.sizeOf112
  v232 := Tryd.zeroValue112
  t233 := Tryd.underlying113
  a233 := Tryd.isAgg113
  z233 := Tryd.sizeOf113
  v233 := Tryd.zeroValue113
  g17 := by kernel_rfl
  g18 := by kernel_rfl
  g19 := by kernel_rfl }
open Go.RowKit Go.Sort Go.Lib in
/-- THE ROAD WITHOUT THE TABLE: 0 <= i < 100: two constants are read, nothing is laid: no premise on the world, and the world is as it was. (LAID: no walk: one application.) -/
theorem Tryd.internal_strconv_FormatInt_10_small (i : Nat) (hi : i < 100) (w : World) :
    Calls Tryd.prog 58 #[.int .i64 i, .int .i64 10] w fun e w' => e = .returned (.string ⟨(Lib.decDigits i).toArray⟩) ∧ w' = w := Any.internal_strconv_FormatInt_10_small Tryd.lays246 i hi w
def Tryd.laysM243_ren : Go.Shelf.Ren := ⟨fun | 243 => 40 | 246 => 58 | 283 => 48 | 284 => 49 | 285 => 50 | 286 => 51 | 129 => 62 | 317 => 61 | 318 => 63 | 319 => 64 | 320 => 65 | 337 => 70 | 338 => 71 | n => n, fun | 3 => 3 | 9 => 9 | 2 => 2 | 4 => 4 | 171 => 80 | 0 => 0 | 53 => 22 | 37 => 49 | 5 => 5 | 173 => 83 | 212 => 102 | 51 => 66 | 20 => 20 | 213 => 103 | 46 => 79 | 232 => 112 | 233 => 113 | n => n, fun | 17 => 1 | 18 => 2 | 19 => 3 | n => n⟩
theorem Tryd.laysM243 : Go.Proofs.LaysM.n243 Tryd.prog Tryd.laysM243_ren := {
  mixed := by kernel_rfl
  f129 := Tryd.func62.trans (congrArg some (by kernel_rfl))
  f243 := Tryd.func40.trans (congrArg some (by kernel_rfl))
  f246 := Tryd.func58.trans (congrArg some (by kernel_rfl))
  f283 := Tryd.func48.trans (congrArg some (by kernel_rfl))
  f284 := Tryd.func49.trans (congrArg some (by kernel_rfl))
  f285 := Tryd.func50.trans (congrArg some (by kernel_rfl))
  f286 := Tryd.func51.trans (congrArg some (by kernel_rfl))
  f317 := Tryd.func61.trans (congrArg some (by kernel_rfl))
  f318 := Tryd.func63.trans (congrArg some (by kernel_rfl))
  f319 := Tryd.func64.trans (congrArg some (by kernel_rfl))
  f320 := Tryd.func65.trans (congrArg some (by kernel_rfl))
  f337 := Tryd.func70.trans (congrArg some (by kernel_rfl))
  f338 := Tryd.func71.trans (congrArg some (by kernel_rfl))
  t0 := Tryd.underlying0
  a0 := Tryd.isAgg0
  z0 := Tryd.sizeOf0
  v0 := Tryd.zeroValue0
  t2 := Tryd.underlying2
  a2 := Tryd.isAgg2
  z2 := Tryd.sizeOf2
  v2 := Tryd.zeroValue2
  t3 := Tryd.underlying3
  a3 := Tryd.isAgg3
  z3 := Tryd.sizeOf3
  v3 := Tryd.zeroValue3
  t4 := Tryd.underlying4
  a4 := Tryd.isAgg4
  z4 := Tryd.sizeOf4
  v4 := Tryd.zeroValue4
  t5 := Tryd.underlying5
  a5 := Tryd.isAgg5
  z5 := Tryd.sizeOf5
  v5 := Tryd.zeroValue5
  t9 := Tryd.underlying9
  a9 := Tryd.isAgg9
  z9 := Tryd.sizeOf9
  v9 := Tryd.zeroValue9
  t20 := Tryd.underlying20
  a20 := Tryd.isAgg20
  z20 := Tryd.sizeOf20
  v20 := Tryd.zeroValue20
  t37 := Tryd.underlying49
  a37 := Tryd.isAgg49
  z37 := Tryd.sizeOf49
  v37 := Tryd.zeroValue49
  t46 := Tryd.underlying79
  a46 := Tryd.isAgg79
  z46 := Tryd.sizeOf79
  v46 := Tryd.zeroValue79
  t51 := Tryd.underlying66
  a51 := Tryd.isAgg66
  z51 := Tryd.sizeOf66
  v51 := Tryd.zeroValue66
  t53 := Tryd.underlying22
  a53 := Tryd.isAgg22
  z53 := Tryd.sizeOf22
  v53 := Tryd.zeroValue22
  t171 := Tryd.underlying80
  a171 := Tryd.isAgg80
  z171 := Tryd.sizeOf80
  v171 := Tryd.zeroValue80
  t173 := Tryd.underlying83
  a173 := Tryd.isAgg83
  z173 := Tryd.sizeOf83
  v173 := Tryd.zeroValue83
  t212 := Tryd.underlying102
  a212 := Tryd.isAgg102
  z212 := Tryd.sizeOf102
  v212 := Tryd.zeroValue102
  t213 := Tryd.underlying103
  a213 := Tryd.isAgg103
  z213 := Tryd.sizeOf103
  t232 := Tryd.underlying112
  a232 := Tryd.isAgg112
  z232 := Tryd.sizeOf112
  v232 := Tryd.zeroValue112
  t233 := Tryd.underlying113
  a233 := Tryd.isAgg113
  z233 := Tryd.sizeOf113
  v233 := Tryd.zeroValue113
  g17 := by kernel_rfl
  g18 := by kernel_rfl
  g19 := by kernel_rfl
  i0 := by kernel_rfl
  i2 := by kernel_rfl
  i3 := by kernel_rfl
  i4 := by kernel_rfl
  i5 := by kernel_rfl
  i9 := by kernel_rfl
  i20 := by kernel_rfl
  i37 := by kernel_rfl
  i46 := by kernel_rfl
  i51 := by kernel_rfl
  i53 := by kernel_rfl
  i171 := by kernel_rfl
  i173 := by kernel_rfl
  i212 := by kernel_rfl
  i232 := by kernel_rfl
  i233 := by kernel_rfl
  m17 := by kernel_rfl
  m18 := by kernel_rfl
  m19 := by kernel_rfl }
open Go.RowKit Go.Sort Go.Lib in
/-- internal/strconv.Itoa: "Itoa is equivalent to FormatInt(int64(i), 10).": i's decimal numeral, for every int. (LAID: no walk: one application.) -/
theorem Tryd.internal_strconv_Itoa (n : Int) (h0 : -9223372036854775808 ≤ n) (h1 : n ≤ 9223372036854775807) (w : World) (htab : Lib.TabIs Tryd.prog w "internal/strconv.uint64pow10" .u64 Lib.pow10Tab) :
    Calls Tryd.prog 40 #[.int .i64 n] w fun e w' => e = .returned (.string ⟨(Lib.itoa n).toArray⟩) ∧ ∃ k os, w' = grow (w.drewN k) os := Any.internal_strconv_Itoa Tryd.laysM243 n h0 h1 w htab
def Tryd.lays243_ren : Go.Shelf.Ren := ⟨fun | 243 => 40 | 246 => 58 | 283 => 48 | 284 => 49 | 285 => 50 | 286 => 51 | 129 => 62 | 317 => 61 | 318 => 63 | 319 => 64 | 320 => 65 | 337 => 70 | 338 => 71 | n => n, fun | 3 => 3 | 9 => 9 | 2 => 2 | 4 => 4 | 171 => 80 | 0 => 0 | 53 => 22 | 37 => 49 | 5 => 5 | 173 => 83 | 212 => 102 | 51 => 66 | 20 => 20 | 213 => 103 | 46 => 79 | 232 => 112 | 233 => 113 | n => n, fun | 17 => 1 | 18 => 2 | 19 => 3 | n => n⟩
theorem Tryd.lays243 : Go.Proofs.Lays.n243 Tryd.prog Tryd.lays243_ren := {
  mixed := by kernel_rfl
  f129 := Tryd.func62.trans (congrArg some (by kernel_rfl))
  f243 := Tryd.func40.trans (congrArg some (by kernel_rfl))
  f246 := Tryd.func58.trans (congrArg some (by kernel_rfl))
  f283 := Tryd.func48.trans (congrArg some (by kernel_rfl))
  f284 := Tryd.func49.trans (congrArg some (by kernel_rfl))
  f285 := Tryd.func50.trans (congrArg some (by kernel_rfl))
  f286 := Tryd.func51.trans (congrArg some (by kernel_rfl))
  f317 := Tryd.func61.trans (congrArg some (by kernel_rfl))
  f318 := Tryd.func63.trans (congrArg some (by kernel_rfl))
  f319 := Tryd.func64.trans (congrArg some (by kernel_rfl))
  f320 := Tryd.func65.trans (congrArg some (by kernel_rfl))
  f337 := Tryd.func70.trans (congrArg some (by kernel_rfl))
  f338 := Tryd.func71.trans (congrArg some (by kernel_rfl))
  t0 := Tryd.underlying0
  a0 := Tryd.isAgg0
  z0 := Tryd.sizeOf0
  v0 := Tryd.zeroValue0
  t2 := Tryd.underlying2
  a2 := Tryd.isAgg2
  z2 := Tryd.sizeOf2
  v2 := Tryd.zeroValue2
  t3 := Tryd.underlying3
  a3 := Tryd.isAgg3
  z3 := Tryd.sizeOf3
  v3 := Tryd.zeroValue3
  t4 := Tryd.underlying4
  a4 := Tryd.isAgg4
  z4 := Tryd.sizeOf4
  v4 := Tryd.zeroValue4
  t5 := Tryd.underlying5
  a5 := Tryd.isAgg5
  z5 := Tryd.sizeOf5
  v5 := Tryd.zeroValue5
  t9 := Tryd.underlying9
  a9 := Tryd.isAgg9
  z9 := Tryd.sizeOf9
  v9 := Tryd.zeroValue9
  t20 := Tryd.underlying20
  a20 := Tryd.isAgg20
  z20 := Tryd.sizeOf20
  v20 := Tryd.zeroValue20
  t37 := Tryd.underlying49
  a37 := Tryd.isAgg49
  z37 := Tryd.sizeOf49
  v37 := Tryd.zeroValue49
  t46 := Tryd.underlying79
  a46 := Tryd.isAgg79
  z46 := Tryd.sizeOf79
  v46 := Tryd.zeroValue79
  t51 := Tryd.underlying66
  a51 := Tryd.isAgg66
  z51 := Tryd.sizeOf66
  v51 := Tryd.zeroValue66
  t53 := Tryd.underlying22
  a53 := Tryd.isAgg22
  z53 := Tryd.sizeOf22
  v53 := Tryd.zeroValue22
  t171 := Tryd.underlying80
  a171 := Tryd.isAgg80
  z171 := Tryd.sizeOf80
  v171 := Tryd.zeroValue80
  t173 := Tryd.underlying83
  a173 := Tryd.isAgg83
  z173 := Tryd.sizeOf83
  v173 := Tryd.zeroValue83
  t212 := Tryd.underlying102
  a212 := Tryd.isAgg102
  z212 := Tryd.sizeOf102
  v212 := Tryd.zeroValue102
  t213 := Tryd.underlying103
  a213 := Tryd.isAgg103
  z213 := Tryd.sizeOf103
  t232 := Tryd.underlying112
  a232 := Tryd.isAgg112
  z232 := Tryd.sizeOf112
  v232 := Tryd.zeroValue112
  t233 := Tryd.underlying113
  a233 := Tryd.isAgg113
  z233 := Tryd.sizeOf113
  v233 := Tryd.zeroValue113
  g17 := by kernel_rfl
  g18 := by kernel_rfl
  g19 := by kernel_rfl }
open Go.RowKit Go.Sort Go.Lib in
/-- THE ROAD WITHOUT THE TABLE: 0 <= i < 100. (LAID: no walk: one application.) -/
theorem Tryd.internal_strconv_Itoa_small (i : Nat) (hi : i < 100) (w : World) :
    Calls Tryd.prog 40 #[.int .i64 i] w fun e w' => e = .returned (.string ⟨(Lib.decDigits i).toArray⟩) ∧ w' = w := Any.internal_strconv_Itoa_small Tryd.lays243 i hi w
def Tryd.laysM171_ren : Go.Shelf.Ren := ⟨fun | 171 => 24 | 243 => 40 | 246 => 58 | 283 => 48 | 284 => 49 | 285 => 50 | 286 => 51 | 129 => 62 | 317 => 61 | 318 => 63 | 319 => 64 | 320 => 65 | 337 => 70 | 338 => 71 | n => n, fun | 3 => 3 | 9 => 9 | 2 => 2 | 4 => 4 | 171 => 80 | 0 => 0 | 53 => 22 | 37 => 49 | 5 => 5 | 173 => 83 | 212 => 102 | 51 => 66 | 20 => 20 | 213 => 103 | 46 => 79 | 232 => 112 | 233 => 113 | n => n, fun | 17 => 1 | 18 => 2 | 19 => 3 | n => n⟩
theorem Tryd.laysM171 : Go.Proofs.LaysM.n171 Tryd.prog Tryd.laysM171_ren := {
  mixed := by kernel_rfl
  f129 := Tryd.func62.trans (congrArg some (by kernel_rfl))
  f171 := Tryd.func24.trans (congrArg some (by kernel_rfl))
  f243 := Tryd.func40.trans (congrArg some (by kernel_rfl))
  f246 := Tryd.func58.trans (congrArg some (by kernel_rfl))
  f283 := Tryd.func48.trans (congrArg some (by kernel_rfl))
  f284 := Tryd.func49.trans (congrArg some (by kernel_rfl))
  f285 := Tryd.func50.trans (congrArg some (by kernel_rfl))
  f286 := Tryd.func51.trans (congrArg some (by kernel_rfl))
  f317 := Tryd.func61.trans (congrArg some (by kernel_rfl))
  f318 := Tryd.func63.trans (congrArg some (by kernel_rfl))
  f319 := Tryd.func64.trans (congrArg some (by kernel_rfl))
  f320 := Tryd.func65.trans (congrArg some (by kernel_rfl))
  f337 := Tryd.func70.trans (congrArg some (by kernel_rfl))
  f338 := Tryd.func71.trans (congrArg some (by kernel_rfl))
  t0 := Tryd.underlying0
  a0 := Tryd.isAgg0
  z0 := Tryd.sizeOf0
  v0 := Tryd.zeroValue0
  t2 := Tryd.underlying2
  a2 := Tryd.isAgg2
  z2 := Tryd.sizeOf2
  v2 := Tryd.zeroValue2
  t3 := Tryd.underlying3
  a3 := Tryd.isAgg3
  z3 := Tryd.sizeOf3
  v3 := Tryd.zeroValue3
  t4 := Tryd.underlying4
  a4 := Tryd.isAgg4
  z4 := Tryd.sizeOf4
  v4 := Tryd.zeroValue4
  t5 := Tryd.underlying5
  a5 := Tryd.isAgg5
  z5 := Tryd.sizeOf5
  v5 := Tryd.zeroValue5
  t9 := Tryd.underlying9
  a9 := Tryd.isAgg9
  z9 := Tryd.sizeOf9
  v9 := Tryd.zeroValue9
  t20 := Tryd.underlying20
  a20 := Tryd.isAgg20
  z20 := Tryd.sizeOf20
  v20 := Tryd.zeroValue20
  t37 := Tryd.underlying49
  a37 := Tryd.isAgg49
  z37 := Tryd.sizeOf49
  v37 := Tryd.zeroValue49
  t46 := Tryd.underlying79
  a46 := Tryd.isAgg79
  z46 := Tryd.sizeOf79
  v46 := Tryd.zeroValue79
  t51 := Tryd.underlying66
  a51 := Tryd.isAgg66
  z51 := Tryd.sizeOf66
  v51 := Tryd.zeroValue66
  t53 := Tryd.underlying22
  a53 := Tryd.isAgg22
  z53 := Tryd.sizeOf22
  v53 := Tryd.zeroValue22
  t171 := Tryd.underlying80
  a171 := Tryd.isAgg80
  z171 := Tryd.sizeOf80
  v171 := Tryd.zeroValue80
  t173 := Tryd.underlying83
  a173 := Tryd.isAgg83
  z173 := Tryd.sizeOf83
  v173 := Tryd.zeroValue83
  t212 := Tryd.underlying102
  a212 := Tryd.isAgg102
  z212 := Tryd.sizeOf102
  v212 := Tryd.zeroValue102
  t213 := Tryd.underlying103
  a213 := Tryd.isAgg103
  z213 := Tryd.sizeOf103
  t232 := Tryd.underlying112
  a232 := Tryd.isAgg112
  z232 := Tryd.sizeOf112
  v232 := Tryd.zeroValue112
  t233 := Tryd.underlying113
  a233 := Tryd.isAgg113
  z233 := Tryd.sizeOf113
  v233 := Tryd.zeroValue113
  g17 := by kernel_rfl
  g18 := by kernel_rfl
  g19 := by kernel_rfl
  i0 := by kernel_rfl
  i2 := by kernel_rfl
  i3 := by kernel_rfl
  i4 := by kernel_rfl
  i5 := by kernel_rfl
  i9 := by kernel_rfl
  i20 := by kernel_rfl
  i37 := by kernel_rfl
  i46 := by kernel_rfl
  i51 := by kernel_rfl
  i53 := by kernel_rfl
  i171 := by kernel_rfl
  i173 := by kernel_rfl
  i212 := by kernel_rfl
  i232 := by kernel_rfl
  i233 := by kernel_rfl
  m17 := by kernel_rfl
  m18 := by kernel_rfl
  m19 := by kernel_rfl }
open Go.RowKit Go.Sort Go.Lib in
/-- strconv.Itoa: "Itoa is equivalent to FormatInt(int64(i), 10).": i's DECIMAL NUMERAL ('Lib.itoa': a '-' where i is negative, then the digits), FOR EVERY int. The world behind the call: the world before it, new blocks behind the heap (the library's 'var a [24]byte'), draws. (LAID: no walk: one application.) -/
theorem Tryd.strconv_Itoa (n : Int) (h0 : -9223372036854775808 ≤ n) (h1 : n ≤ 9223372036854775807) (w : World) (htab : Lib.TabIs Tryd.prog w "internal/strconv.uint64pow10" .u64 Lib.pow10Tab) :
    Calls Tryd.prog 24 #[.int .i64 n] w fun e w' => e = .returned (.string ⟨(Lib.itoa n).toArray⟩) ∧ ∃ k os, w' = grow (w.drewN k) os := Any.strconv_Itoa Tryd.laysM171 n h0 h1 w htab
def Tryd.lays171_ren : Go.Shelf.Ren := ⟨fun | 171 => 24 | 243 => 40 | 246 => 58 | 283 => 48 | 284 => 49 | 285 => 50 | 286 => 51 | 129 => 62 | 317 => 61 | 318 => 63 | 319 => 64 | 320 => 65 | 337 => 70 | 338 => 71 | n => n, fun | 3 => 3 | 9 => 9 | 2 => 2 | 4 => 4 | 171 => 80 | 0 => 0 | 53 => 22 | 37 => 49 | 5 => 5 | 173 => 83 | 212 => 102 | 51 => 66 | 20 => 20 | 213 => 103 | 46 => 79 | 232 => 112 | 233 => 113 | n => n, fun | 17 => 1 | 18 => 2 | 19 => 3 | n => n⟩
theorem Tryd.lays171 : Go.Proofs.Lays.n171 Tryd.prog Tryd.lays171_ren := {
  mixed := by kernel_rfl
  f129 := Tryd.func62.trans (congrArg some (by kernel_rfl))
  f171 := Tryd.func24.trans (congrArg some (by kernel_rfl))
  f243 := Tryd.func40.trans (congrArg some (by kernel_rfl))
  f246 := Tryd.func58.trans (congrArg some (by kernel_rfl))
  f283 := Tryd.func48.trans (congrArg some (by kernel_rfl))
  f284 := Tryd.func49.trans (congrArg some (by kernel_rfl))
  f285 := Tryd.func50.trans (congrArg some (by kernel_rfl))
  f286 := Tryd.func51.trans (congrArg some (by kernel_rfl))
  f317 := Tryd.func61.trans (congrArg some (by kernel_rfl))
  f318 := Tryd.func63.trans (congrArg some (by kernel_rfl))
  f319 := Tryd.func64.trans (congrArg some (by kernel_rfl))
  f320 := Tryd.func65.trans (congrArg some (by kernel_rfl))
  f337 := Tryd.func70.trans (congrArg some (by kernel_rfl))
  f338 := Tryd.func71.trans (congrArg some (by kernel_rfl))
  t0 := Tryd.underlying0
  a0 := Tryd.isAgg0
  z0 := Tryd.sizeOf0
  v0 := Tryd.zeroValue0
  t2 := Tryd.underlying2
  a2 := Tryd.isAgg2
  z2 := Tryd.sizeOf2
  v2 := Tryd.zeroValue2
  t3 := Tryd.underlying3
  a3 := Tryd.isAgg3
  z3 := Tryd.sizeOf3
  v3 := Tryd.zeroValue3
  t4 := Tryd.underlying4
  a4 := Tryd.isAgg4
  z4 := Tryd.sizeOf4
  v4 := Tryd.zeroValue4
  t5 := Tryd.underlying5
  a5 := Tryd.isAgg5
  z5 := Tryd.sizeOf5
  v5 := Tryd.zeroValue5
  t9 := Tryd.underlying9
  a9 := Tryd.isAgg9
  z9 := Tryd.sizeOf9
  v9 := Tryd.zeroValue9
  t20 := Tryd.underlying20
  a20 := Tryd.isAgg20
  z20 := Tryd.sizeOf20
  v20 := Tryd.zeroValue20
  t37 := Tryd.underlying49
  a37 := Tryd.isAgg49
  z37 := Tryd.sizeOf49
  v37 := Tryd.zeroValue49
  t46 := Tryd.underlying79
  a46 := Tryd.isAgg79
  z46 := Tryd.sizeOf79
  v46 := Tryd.zeroValue79
  t51 := Tryd.underlying66
  a51 := Tryd.isAgg66
  z51 := Tryd.sizeOf66
  v51 := Tryd.zeroValue66
  t53 := Tryd.underlying22
  a53 := Tryd.isAgg22
  z53 := Tryd.sizeOf22
  v53 := Tryd.zeroValue22
  t171 := Tryd.underlying80
  a171 := Tryd.isAgg80
  z171 := Tryd.sizeOf80
  v171 := Tryd.zeroValue80
  t173 := Tryd.underlying83
  a173 := Tryd.isAgg83
  z173 := Tryd.sizeOf83
  v173 := Tryd.zeroValue83
  t212 := Tryd.underlying102
  a212 := Tryd.isAgg102
  z212 := Tryd.sizeOf102
  v212 := Tryd.zeroValue102
  t213 := Tryd.underlying103
  a213 := Tryd.isAgg103
  z213 := Tryd.sizeOf103
  t232 := Tryd.underlying112
  a232 := Tryd.isAgg112
  z232 := Tryd.sizeOf112
  v232 := Tryd.zeroValue112
  t233 := Tryd.underlying113
  a233 := Tryd.isAgg113
  z233 := Tryd.sizeOf113
  v233 := Tryd.zeroValue113
  g17 := by kernel_rfl
  g18 := by kernel_rfl
  g19 := by kernel_rfl }
open Go.RowKit Go.Sort Go.Lib in
/-- THE ROAD WITHOUT THE TABLE: 0 <= i < 100: NO PREMISE ON THE WORLD, AND THE WORLD IS AS IT WAS: a row that keeps its argument in that range need list no table ('laid = []'). (LAID: no walk: one application.) -/
theorem Tryd.strconv_Itoa_small (i : Nat) (hi : i < 100) (w : World) :
    Calls Tryd.prog 24 #[.int .i64 i] w fun e w' => e = .returned (.string ⟨(Lib.decDigits i).toArray⟩) ∧ w' = w := Any.strconv_Itoa_small Tryd.lays171 i hi w
def Tryd.lays217_ren : Go.Shelf.Ren := ⟨fun | 217 => 53 | 266 => 67 | n => n, fun | 9 => 9 | 5 => 5 | 3 => 3 | n => n, fun | n => n⟩
theorem Tryd.lays217 : Go.Proofs.Lays.n217 Tryd.prog Tryd.lays217_ren := {
  mixed := by kernel_rfl
  f217 := Tryd.func53.trans (congrArg some (by kernel_rfl))
  f266 := Tryd.func67.trans (congrArg some (by kernel_rfl))
  t3 := Tryd.underlying3
  a3 := Tryd.isAgg3
  z3 := Tryd.sizeOf3
  v3 := Tryd.zeroValue3
  t5 := Tryd.underlying5
  a5 := Tryd.isAgg5
  z5 := Tryd.sizeOf5
  v5 := Tryd.zeroValue5
  t9 := Tryd.underlying9
  a9 := Tryd.isAgg9
  z9 := Tryd.sizeOf9
  v9 := Tryd.zeroValue9 }
open Go.RowKit Go.Lib in
/-- internal/stringslite.IndexByte (what strings.IndexByte calls): IT RETURNS 'Lib.indexByte s c'; the world is as it was. (LAID: no walk: one application.) -/
theorem Tryd.stringslite_IndexByte (s : ByteArray) (c : Int) (w : World) :
    Calls Tryd.prog 53 #[.string s, .int .u8 c] w fun e w' => e = .returned (.int .i64 (Lib.indexByte s.data.toList c.toNat.toUInt8)) ∧ w' = w := Any.stringslite_IndexByte Tryd.lays217 s c w
def Tryd.lays224_ren : Go.Shelf.Ren := ⟨fun | 224 => 55 | n => n, fun | 3 => 3 | n => n, fun | n => n⟩
theorem Tryd.lays224 : Go.Proofs.Lays.n224 Tryd.prog Tryd.lays224_ren := {
  mixed := by kernel_rfl
  f224 := Tryd.func55.trans (congrArg some (by kernel_rfl))
  t3 := Tryd.underlying3
  a3 := Tryd.isAgg3
  z3 := Tryd.sizeOf3
  v3 := Tryd.zeroValue3 }
open Go.RowKit Go.Lib in
/-- internal/bytealg.Cutover: "Cutover reports the number of failures of IndexByte we should tolerate before switching over to Index. n is the number of bytes processed so far.": on amd64: (n + 16) / 8. (LAID: no walk: one application.) -/
theorem Tryd.bytealg_Cutover (n : Int) (h0 : 0 ≤ n) (h1 : n < 4611686018427387904) (w : World) :
    Calls Tryd.prog 55 #[.int .i64 n] w fun e w' => e = .returned (.int .i64 ((n + 16) / 8)) ∧ w' = w := Any.bytealg_Cutover Tryd.lays224 n h0 h1 w
def Tryd.lays314_ren : Go.Shelf.Ren := ⟨fun | 314 => 68 | n => n, fun | 9 => 9 | 51 => 66 | 3 => 3 | 4 => 4 | 5 => 5 | 46 => 79 | n => n, fun | n => n⟩
theorem Tryd.lays314 : Go.Proofs.Lays.n314 Tryd.prog Tryd.lays314_ren := {
  mixed := by kernel_rfl
  f314 := Tryd.func68.trans (congrArg some (by kernel_rfl))
  t3 := Tryd.underlying3
  a3 := Tryd.isAgg3
  z3 := Tryd.sizeOf3
  v3 := Tryd.zeroValue3
  t4 := Tryd.underlying4
  a4 := Tryd.isAgg4
  z4 := Tryd.sizeOf4
  v4 := Tryd.zeroValue4
  t5 := Tryd.underlying5
  a5 := Tryd.isAgg5
  z5 := Tryd.sizeOf5
  v5 := Tryd.zeroValue5
  t9 := Tryd.underlying9
  a9 := Tryd.isAgg9
  z9 := Tryd.sizeOf9
  v9 := Tryd.zeroValue9
  t46 := Tryd.underlying79
  a46 := Tryd.isAgg79
  z46 := Tryd.sizeOf79
  v46 := Tryd.zeroValue79
  t51 := Tryd.underlying66
  a51 := Tryd.isAgg66
  z51 := Tryd.sizeOf66
  v51 := Tryd.zeroValue66 }
open Go.RowKit Go.Lib in
/-- hashStr: "returns the hash and the appropriate multiplicative factor for use in Rabin-Karp algorithm": THE HASH OF ALL OF sep, AND 16777619 ^ len(sep), both in uint32. (LAID: no walk: one application.) -/
theorem Tryd.bytealg_hashStr (sep : ByteArray) (hs : sep.size < 4294967281) (w : World) :
    Calls Tryd.prog 68 #[.string sep] w fun e w' => e = .returned (.tuple #[.int .u32 (RK.H sep.data.toList % 4294967296), .int .u32 (16777619 ^ sep.size % 4294967296)]) ∧ w' = w := Any.bytealg_hashStr Tryd.lays314 sep hs w
def Tryd.lays267_ren : Go.Shelf.Ren := ⟨fun | 267 => 56 | 314 => 68 | n => n, fun | 9 => 9 | 3 => 3 | 146 => 106 | 51 => 66 | 4 => 4 | 5 => 5 | 46 => 79 | n => n, fun | n => n⟩
theorem Tryd.lays267 : Go.Proofs.Lays.n267 Tryd.prog Tryd.lays267_ren := {
  mixed := by kernel_rfl
  f267 := Tryd.func56.trans (congrArg some (by kernel_rfl))
  f314 := Tryd.func68.trans (congrArg some (by kernel_rfl))
  t3 := Tryd.underlying3
  a3 := Tryd.isAgg3
  z3 := Tryd.sizeOf3
  v3 := Tryd.zeroValue3
  t4 := Tryd.underlying4
  a4 := Tryd.isAgg4
  z4 := Tryd.sizeOf4
  v4 := Tryd.zeroValue4
  t5 := Tryd.underlying5
  a5 := Tryd.isAgg5
  z5 := Tryd.sizeOf5
  v5 := Tryd.zeroValue5
  t9 := Tryd.underlying9
  a9 := Tryd.isAgg9
  z9 := Tryd.sizeOf9
  v9 := Tryd.zeroValue9
  t46 := Tryd.underlying79
  a46 := Tryd.isAgg79
  z46 := Tryd.sizeOf79
  v46 := Tryd.zeroValue79
  t51 := Tryd.underlying66
  a51 := Tryd.isAgg66
  z51 := Tryd.sizeOf66
  v51 := Tryd.zeroValue66
  t146 := Tryd.underlying106
  a146 := Tryd.isAgg106
  z146 := Tryd.sizeOf106
  v146 := Tryd.zeroValue106 }
open Go.RowKit Go.Lib in
theorem Tryd.bytealg_IndexRabinKarp (s sep : ByteArray) (h1 : 1 ≤ sep.size) (h2 : sep.size ≤ s.size) (hs : s.size < 4294967281) (w : World) :
    Calls Tryd.prog 56 #[.string s, .string sep] w fun e w' => e = .returned (.int .i64 (Lib.index s.data.toList sep.data.toList)) ∧ w' = w := Any.bytealg_IndexRabinKarp Tryd.lays267 s sep h1 h2 hs w
def Tryd.lays219_ren : Go.Shelf.Ren := ⟨fun | 219 => 38 | 217 => 53 | 225 => 54 | 224 => 55 | 267 => 56 | 266 => 67 | 314 => 68 | n => n, fun | 9 => 9 | 3 => 3 | 4 => 4 | 5 => 5 | 46 => 79 | 146 => 106 | 51 => 66 | n => n, fun | 1 => 0 | n => n⟩
theorem Tryd.lays219 : Go.Proofs.Lays.n219 Tryd.prog Tryd.lays219_ren := {
  mixed := by kernel_rfl
  f217 := Tryd.func53.trans (congrArg some (by kernel_rfl))
  f219 := Tryd.func38.trans (congrArg some (by kernel_rfl))
  f224 := Tryd.func55.trans (congrArg some (by kernel_rfl))
  f225 := Tryd.func54.trans (congrArg some (by kernel_rfl))
  f266 := Tryd.func67.trans (congrArg some (by kernel_rfl))
  f267 := Tryd.func56.trans (congrArg some (by kernel_rfl))
  f314 := Tryd.func68.trans (congrArg some (by kernel_rfl))
  t3 := Tryd.underlying3
  a3 := Tryd.isAgg3
  z3 := Tryd.sizeOf3
  v3 := Tryd.zeroValue3
  t4 := Tryd.underlying4
  a4 := Tryd.isAgg4
  z4 := Tryd.sizeOf4
  v4 := Tryd.zeroValue4
  t5 := Tryd.underlying5
  a5 := Tryd.isAgg5
  z5 := Tryd.sizeOf5
  v5 := Tryd.zeroValue5
  t9 := Tryd.underlying9
  a9 := Tryd.isAgg9
  z9 := Tryd.sizeOf9
  v9 := Tryd.zeroValue9
  t46 := Tryd.underlying79
  a46 := Tryd.isAgg79
  z46 := Tryd.sizeOf79
  v46 := Tryd.zeroValue79
  t51 := Tryd.underlying66
  a51 := Tryd.isAgg66
  z51 := Tryd.sizeOf66
  v51 := Tryd.zeroValue66
  t146 := Tryd.underlying106
  a146 := Tryd.isAgg106
  z146 := Tryd.sizeOf106
  v146 := Tryd.zeroValue106
  g1 := by kernel_rfl }
open Go.RowKit Go.Lib in
/-- internal/stringslite.Index (what strings.Index calls) AT A substr OF ONE BYTE c: IT RETURNS 'Lib.indexByte s c'; the world is as it was. (LAID: no walk: one application.) -/
theorem Tryd.stringslite_Index_one (s : ByteArray) (c : UInt8) (w : World) :
    Calls Tryd.prog 38 #[.string s, .string ⟨#[c]⟩] w fun e w' => e = .returned (.int .i64 (Lib.indexByte s.data.toList c)) ∧ w' = w := Any.stringslite_Index_one Tryd.lays219 s c w
open Go.RowKit Go.Lib in
/-- internal/stringslite.Index (what strings.Index calls) AT A substr OF WHATEVER LENGTH: IT RETURNS 'Lib.index s substr'; the world is as it was. 'm': what internal/bytealg.MaxLen holds: whatever. (LAID: no walk: one application.) -/
theorem Tryd.stringslite_Index (s sub : ByteArray) (m : Int) (w : World) (hs : s.size < 4294967281) (hm : w.cell? ⟨0, 0, none⟩ = some (.int .i64 m)) :
    Calls Tryd.prog 38 #[.string s, .string sub] w fun e w' => e = .returned (.int .i64 (Lib.index s.data.toList sub.data.toList)) ∧ w' = w := Any.stringslite_Index Tryd.lays219 s sub m w hs hm
def Tryd.lays143_ren : Go.Shelf.Ren := ⟨fun | 143 => 21 | 219 => 38 | 217 => 53 | 225 => 54 | 224 => 55 | 267 => 56 | 266 => 67 | 314 => 68 | n => n, fun | 9 => 9 | 3 => 3 | 4 => 4 | 5 => 5 | 46 => 79 | 146 => 106 | 51 => 66 | n => n, fun | 1 => 0 | n => n⟩
theorem Tryd.lays143 : Go.Proofs.Lays.n143 Tryd.prog Tryd.lays143_ren := {
  mixed := by kernel_rfl
  f143 := Tryd.func21.trans (congrArg some (by kernel_rfl))
  f217 := Tryd.func53.trans (congrArg some (by kernel_rfl))
  f219 := Tryd.func38.trans (congrArg some (by kernel_rfl))
  f224 := Tryd.func55.trans (congrArg some (by kernel_rfl))
  f225 := Tryd.func54.trans (congrArg some (by kernel_rfl))
  f266 := Tryd.func67.trans (congrArg some (by kernel_rfl))
  f267 := Tryd.func56.trans (congrArg some (by kernel_rfl))
  f314 := Tryd.func68.trans (congrArg some (by kernel_rfl))
  t3 := Tryd.underlying3
  a3 := Tryd.isAgg3
  z3 := Tryd.sizeOf3
  v3 := Tryd.zeroValue3
  t4 := Tryd.underlying4
  a4 := Tryd.isAgg4
  z4 := Tryd.sizeOf4
  v4 := Tryd.zeroValue4
  t5 := Tryd.underlying5
  a5 := Tryd.isAgg5
  z5 := Tryd.sizeOf5
  v5 := Tryd.zeroValue5
  t9 := Tryd.underlying9
  a9 := Tryd.isAgg9
  z9 := Tryd.sizeOf9
  v9 := Tryd.zeroValue9
  t46 := Tryd.underlying79
  a46 := Tryd.isAgg79
  z46 := Tryd.sizeOf79
  v46 := Tryd.zeroValue79
  t51 := Tryd.underlying66
  a51 := Tryd.isAgg66
  z51 := Tryd.sizeOf66
  v51 := Tryd.zeroValue66
  t146 := Tryd.underlying106
  a146 := Tryd.isAgg106
  z146 := Tryd.sizeOf106
  v146 := Tryd.zeroValue106
  g1 := by kernel_rfl }
open Go.RowKit Go.Lib in
/-- strings.Index: "Index returns the index of the first instance of substr in s, or -1 if substr is not present in s.": AT A substr OF ONE BYTE c: IT RETURNS 'Lib.indexByte s c'; the world is as it was. (LAID: no walk: one application.) -/
theorem Tryd.strings_Index_one (s : ByteArray) (c : UInt8) (w : World) :
    Calls Tryd.prog 21 #[.string s, .string ⟨#[c]⟩] w fun e w' => e = .returned (.int .i64 (Lib.indexByte s.data.toList c)) ∧ w' = w := Any.strings_Index_one Tryd.lays143 s c w
open Go.RowKit Go.Lib in
/-- strings.Index: "Index returns the index of the first instance of substr in s, or -1 if substr is not present in s.": IT RETURNS 'Lib.index s substr'; the world is as it was. (LAID: no walk: one application.) -/
theorem Tryd.strings_Index (s sub : ByteArray) (m : Int) (w : World) (hs : s.size < 4294967281) (hm : w.cell? ⟨0, 0, none⟩ = some (.int .i64 m)) :
    Calls Tryd.prog 21 #[.string s, .string sub] w fun e w' => e = .returned (.int .i64 (Lib.index s.data.toList sub.data.toList)) ∧ w' = w := Any.strings_Index Tryd.lays143 s sub m w hs hm
def Tryd.lays144_ren : Go.Shelf.Ren := ⟨fun | 144 => 8 | 143 => 21 | 219 => 38 | 217 => 53 | 225 => 54 | 224 => 55 | 267 => 56 | 266 => 67 | 314 => 68 | n => n, fun | 9 => 9 | 4 => 4 | 3 => 3 | 5 => 5 | 46 => 79 | 146 => 106 | 51 => 66 | n => n, fun | 1 => 0 | n => n⟩
theorem Tryd.lays144 : Go.Proofs.Lays.n144 Tryd.prog Tryd.lays144_ren := {
  mixed := by kernel_rfl
  f143 := Tryd.func21.trans (congrArg some (by kernel_rfl))
  f144 := Tryd.func8.trans (congrArg some (by kernel_rfl))
  f217 := Tryd.func53.trans (congrArg some (by kernel_rfl))
  f219 := Tryd.func38.trans (congrArg some (by kernel_rfl))
  f224 := Tryd.func55.trans (congrArg some (by kernel_rfl))
  f225 := Tryd.func54.trans (congrArg some (by kernel_rfl))
  f266 := Tryd.func67.trans (congrArg some (by kernel_rfl))
  f267 := Tryd.func56.trans (congrArg some (by kernel_rfl))
  f314 := Tryd.func68.trans (congrArg some (by kernel_rfl))
  t3 := Tryd.underlying3
  a3 := Tryd.isAgg3
  z3 := Tryd.sizeOf3
  v3 := Tryd.zeroValue3
  t4 := Tryd.underlying4
  a4 := Tryd.isAgg4
  z4 := Tryd.sizeOf4
  v4 := Tryd.zeroValue4
  t5 := Tryd.underlying5
  a5 := Tryd.isAgg5
  z5 := Tryd.sizeOf5
  v5 := Tryd.zeroValue5
  t9 := Tryd.underlying9
  a9 := Tryd.isAgg9
  z9 := Tryd.sizeOf9
  v9 := Tryd.zeroValue9
  t46 := Tryd.underlying79
  a46 := Tryd.isAgg79
  z46 := Tryd.sizeOf79
  v46 := Tryd.zeroValue79
  t51 := Tryd.underlying66
  a51 := Tryd.isAgg66
  z51 := Tryd.sizeOf66
  v51 := Tryd.zeroValue66
  t146 := Tryd.underlying106
  a146 := Tryd.isAgg106
  z146 := Tryd.sizeOf106
  v146 := Tryd.zeroValue106
  g1 := by kernel_rfl }
open Go.RowKit Go.Lib in
/-- strings.Contains: "Contains reports whether substr is within s.": AT A substr OF ONE BYTE c: IT RETURNS 'decide (0 ≤ Lib.indexByte s c)'; the world is as it was. (LAID: no walk: one application.) -/
theorem Tryd.strings_Contains_one (s : ByteArray) (c : UInt8) (w : World) :
    Calls Tryd.prog 8 #[.string s, .string ⟨#[c]⟩] w fun e w' => e = .returned (.bool (decide (0 ≤ Lib.indexByte s.data.toList c))) ∧ w' = w := Any.strings_Contains_one Tryd.lays144 s c w
open Go.RowKit Go.Lib in
/-- strings.Contains: "Contains reports whether substr is within s.": IT RETURNS 'Lib.contains s substr'; the world is as it was. (LAID: no walk: one application.) -/
theorem Tryd.strings_Contains (s sub : ByteArray) (m : Int) (w : World) (hs : s.size < 4294967281) (hm : w.cell? ⟨0, 0, none⟩ = some (.int .i64 m)) :
    Calls Tryd.prog 8 #[.string s, .string sub] w fun e w' => e = .returned (.bool (Lib.contains s.data.toList sub.data.toList)) ∧ w' = w := Any.strings_Contains Tryd.lays144 s sub m w hs hm
def Tryd.laysM219_ren : Go.Shelf.Ren := ⟨fun | 219 => 38 | 217 => 53 | 225 => 54 | 224 => 55 | 267 => 56 | 266 => 67 | 314 => 68 | n => n, fun | 9 => 9 | 3 => 3 | 4 => 4 | 5 => 5 | 46 => 79 | 146 => 106 | 51 => 66 | n => n, fun | 1 => 0 | n => n⟩
theorem Tryd.laysM219 : Go.Proofs.LaysM.n219 Tryd.prog Tryd.laysM219_ren := {
  mixed := by kernel_rfl
  f217 := Tryd.func53.trans (congrArg some (by kernel_rfl))
  f219 := Tryd.func38.trans (congrArg some (by kernel_rfl))
  f224 := Tryd.func55.trans (congrArg some (by kernel_rfl))
  f225 := Tryd.func54.trans (congrArg some (by kernel_rfl))
  f266 := Tryd.func67.trans (congrArg some (by kernel_rfl))
  f267 := Tryd.func56.trans (congrArg some (by kernel_rfl))
  f314 := Tryd.func68.trans (congrArg some (by kernel_rfl))
  t3 := Tryd.underlying3
  a3 := Tryd.isAgg3
  z3 := Tryd.sizeOf3
  v3 := Tryd.zeroValue3
  t4 := Tryd.underlying4
  a4 := Tryd.isAgg4
  z4 := Tryd.sizeOf4
  v4 := Tryd.zeroValue4
  t5 := Tryd.underlying5
  a5 := Tryd.isAgg5
  z5 := Tryd.sizeOf5
  v5 := Tryd.zeroValue5
  t9 := Tryd.underlying9
  a9 := Tryd.isAgg9
  z9 := Tryd.sizeOf9
  v9 := Tryd.zeroValue9
  t46 := Tryd.underlying79
  a46 := Tryd.isAgg79
  z46 := Tryd.sizeOf79
  v46 := Tryd.zeroValue79
  t51 := Tryd.underlying66
  a51 := Tryd.isAgg66
  z51 := Tryd.sizeOf66
  v51 := Tryd.zeroValue66
  t146 := Tryd.underlying106
  a146 := Tryd.isAgg106
  z146 := Tryd.sizeOf106
  v146 := Tryd.zeroValue106
  g1 := by kernel_rfl
  i3 := by kernel_rfl
  i4 := by kernel_rfl
  i5 := by kernel_rfl
  i9 := by kernel_rfl
  i46 := by kernel_rfl
  i51 := by kernel_rfl
  i146 := by kernel_rfl
  m1 := by kernel_rfl
  s1_3 := fun w h => Go.Proofs.cell_of_shapedOpen_int (zero := #[.int .i64 0]) (t := 3) h (of_decide_eq_true (by kernel_rfl)) (by kernel_rfl) rfl (by kernel_rfl) (by kernel_rfl) Tryd.underlying3 }
open Go.RowKit Go.Lib in
theorem Tryd.stringslite_Index_shaped (s sub : ByteArray) (w : World) (h : w.ShapedOpen Tryd.prog) (hs : s.size < 4294967281) :
    Calls Tryd.prog 38 #[.string s, .string sub] w fun e w' => e = .returned (.int .i64 (Lib.index s.data.toList sub.data.toList)) ∧ w' = w := Any.stringslite_Index_shaped Tryd.laysM219 s sub w h hs
def Tryd.laysM143_ren : Go.Shelf.Ren := ⟨fun | 143 => 21 | 219 => 38 | 217 => 53 | 225 => 54 | 224 => 55 | 267 => 56 | 266 => 67 | 314 => 68 | n => n, fun | 9 => 9 | 3 => 3 | 4 => 4 | 5 => 5 | 46 => 79 | 146 => 106 | 51 => 66 | n => n, fun | 1 => 0 | n => n⟩
theorem Tryd.laysM143 : Go.Proofs.LaysM.n143 Tryd.prog Tryd.laysM143_ren := {
  mixed := by kernel_rfl
  f143 := Tryd.func21.trans (congrArg some (by kernel_rfl))
  f217 := Tryd.func53.trans (congrArg some (by kernel_rfl))
  f219 := Tryd.func38.trans (congrArg some (by kernel_rfl))
  f224 := Tryd.func55.trans (congrArg some (by kernel_rfl))
  f225 := Tryd.func54.trans (congrArg some (by kernel_rfl))
  f266 := Tryd.func67.trans (congrArg some (by kernel_rfl))
  f267 := Tryd.func56.trans (congrArg some (by kernel_rfl))
  f314 := Tryd.func68.trans (congrArg some (by kernel_rfl))
  t3 := Tryd.underlying3
  a3 := Tryd.isAgg3
  z3 := Tryd.sizeOf3
  v3 := Tryd.zeroValue3
  t4 := Tryd.underlying4
  a4 := Tryd.isAgg4
  z4 := Tryd.sizeOf4
  v4 := Tryd.zeroValue4
  t5 := Tryd.underlying5
  a5 := Tryd.isAgg5
  z5 := Tryd.sizeOf5
  v5 := Tryd.zeroValue5
  t9 := Tryd.underlying9
  a9 := Tryd.isAgg9
  z9 := Tryd.sizeOf9
  v9 := Tryd.zeroValue9
  t46 := Tryd.underlying79
  a46 := Tryd.isAgg79
  z46 := Tryd.sizeOf79
  v46 := Tryd.zeroValue79
  t51 := Tryd.underlying66
  a51 := Tryd.isAgg66
  z51 := Tryd.sizeOf66
  v51 := Tryd.zeroValue66
  t146 := Tryd.underlying106
  a146 := Tryd.isAgg106
  z146 := Tryd.sizeOf106
  v146 := Tryd.zeroValue106
  g1 := by kernel_rfl
  i3 := by kernel_rfl
  i4 := by kernel_rfl
  i5 := by kernel_rfl
  i9 := by kernel_rfl
  i46 := by kernel_rfl
  i51 := by kernel_rfl
  i146 := by kernel_rfl
  m1 := by kernel_rfl
  s1_3 := fun w h => Go.Proofs.cell_of_shapedOpen_int (zero := #[.int .i64 0]) (t := 3) h (of_decide_eq_true (by kernel_rfl)) (by kernel_rfl) rfl (by kernel_rfl) (by kernel_rfl) Tryd.underlying3 }
open Go.RowKit Go.Lib in
theorem Tryd.strings_Index_shaped (s sub : ByteArray) (w : World) (h : w.ShapedOpen Tryd.prog) (hs : s.size < 4294967281) :
    Calls Tryd.prog 21 #[.string s, .string sub] w fun e w' => e = .returned (.int .i64 (Lib.index s.data.toList sub.data.toList)) ∧ w' = w := Any.strings_Index_shaped Tryd.laysM143 s sub w h hs
def Tryd.laysM144_ren : Go.Shelf.Ren := ⟨fun | 144 => 8 | 143 => 21 | 219 => 38 | 217 => 53 | 225 => 54 | 224 => 55 | 267 => 56 | 266 => 67 | 314 => 68 | n => n, fun | 9 => 9 | 4 => 4 | 3 => 3 | 5 => 5 | 46 => 79 | 146 => 106 | 51 => 66 | n => n, fun | 1 => 0 | n => n⟩
theorem Tryd.laysM144 : Go.Proofs.LaysM.n144 Tryd.prog Tryd.laysM144_ren := {
  mixed := by kernel_rfl
  f143 := Tryd.func21.trans (congrArg some (by kernel_rfl))
  f144 := Tryd.func8.trans (congrArg some (by kernel_rfl))
  f217 := Tryd.func53.trans (congrArg some (by kernel_rfl))
  f219 := Tryd.func38.trans (congrArg some (by kernel_rfl))
  f224 := Tryd.func55.trans (congrArg some (by kernel_rfl))
  f225 := Tryd.func54.trans (congrArg some (by kernel_rfl))
  f266 := Tryd.func67.trans (congrArg some (by kernel_rfl))
  f267 := Tryd.func56.trans (congrArg some (by kernel_rfl))
  f314 := Tryd.func68.trans (congrArg some (by kernel_rfl))
  t3 := Tryd.underlying3
  a3 := Tryd.isAgg3
  z3 := Tryd.sizeOf3
  v3 := Tryd.zeroValue3
  t4 := Tryd.underlying4
  a4 := Tryd.isAgg4
  z4 := Tryd.sizeOf4
  v4 := Tryd.zeroValue4
  t5 := Tryd.underlying5
  a5 := Tryd.isAgg5
  z5 := Tryd.sizeOf5
  v5 := Tryd.zeroValue5
  t9 := Tryd.underlying9
  a9 := Tryd.isAgg9
  z9 := Tryd.sizeOf9
  v9 := Tryd.zeroValue9
  t46 := Tryd.underlying79
  a46 := Tryd.isAgg79
  z46 := Tryd.sizeOf79
  v46 := Tryd.zeroValue79
  t51 := Tryd.underlying66
  a51 := Tryd.isAgg66
  z51 := Tryd.sizeOf66
  v51 := Tryd.zeroValue66
  t146 := Tryd.underlying106
  a146 := Tryd.isAgg106
  z146 := Tryd.sizeOf106
  v146 := Tryd.zeroValue106
  g1 := by kernel_rfl
  i3 := by kernel_rfl
  i4 := by kernel_rfl
  i5 := by kernel_rfl
  i9 := by kernel_rfl
  i46 := by kernel_rfl
  i51 := by kernel_rfl
  i146 := by kernel_rfl
  m1 := by kernel_rfl
  s1_3 := fun w h => Go.Proofs.cell_of_shapedOpen_int (zero := #[.int .i64 0]) (t := 3) h (of_decide_eq_true (by kernel_rfl)) (by kernel_rfl) rfl (by kernel_rfl) (by kernel_rfl) Tryd.underlying3 }
open Go.RowKit Go.Lib in
theorem Tryd.strings_Contains_shaped (s sub : ByteArray) (w : World) (h : w.ShapedOpen Tryd.prog) (hs : s.size < 4294967281) :
    Calls Tryd.prog 8 #[.string s, .string sub] w fun e w' => e = .returned (.bool (Lib.contains s.data.toList sub.data.toList)) ∧ w' = w := Any.strings_Contains_shaped Tryd.laysM144 s sub w h hs
def Tryd.lays206_ren : Go.Shelf.Ren := ⟨fun | 206 => 27 | n => n, fun | 9 => 9 | 4 => 4 | 3 => 3 | n => n, fun | n => n⟩
theorem Tryd.lays206 : Go.Proofs.Lays.n206 Tryd.prog Tryd.lays206_ren := {
  mixed := by kernel_rfl
  f206 := Tryd.func27.trans (congrArg some (by kernel_rfl))
  t3 := Tryd.underlying3
  a3 := Tryd.isAgg3
  z3 := Tryd.sizeOf3
  v3 := Tryd.zeroValue3
  t4 := Tryd.underlying4
  a4 := Tryd.isAgg4
  z4 := Tryd.sizeOf4
  v4 := Tryd.zeroValue4
  t9 := Tryd.underlying9
  a9 := Tryd.isAgg9
  z9 := Tryd.sizeOf9
  v9 := Tryd.zeroValue9 }
open Go.RowKit Go.Lib in
/-- internal/stringslite.HasPrefix (what strings.HasPrefix calls). (LAID: no walk: one application.) -/
theorem Tryd.stringslite_HasPrefix (s p : ByteArray) (w : World) :
    Calls Tryd.prog 27 #[.string s, .string p] w fun e w' => e = .returned (.bool (Lib.hasPrefix s.data.toList p.data.toList)) ∧ w' = w := Any.stringslite_HasPrefix Tryd.lays206 s p w
def Tryd.lays99_ren : Go.Shelf.Ren := ⟨fun | 99 => 10 | 206 => 27 | n => n, fun | 9 => 9 | 4 => 4 | 3 => 3 | n => n, fun | n => n⟩
theorem Tryd.lays99 : Go.Proofs.Lays.n99 Tryd.prog Tryd.lays99_ren := {
  mixed := by kernel_rfl
  f99 := Tryd.func10.trans (congrArg some (by kernel_rfl))
  f206 := Tryd.func27.trans (congrArg some (by kernel_rfl))
  t3 := Tryd.underlying3
  a3 := Tryd.isAgg3
  z3 := Tryd.sizeOf3
  v3 := Tryd.zeroValue3
  t4 := Tryd.underlying4
  a4 := Tryd.isAgg4
  z4 := Tryd.sizeOf4
  v4 := Tryd.zeroValue4
  t9 := Tryd.underlying9
  a9 := Tryd.isAgg9
  z9 := Tryd.sizeOf9
  v9 := Tryd.zeroValue9 }
open Go.RowKit Go.Lib in
/-- strings.HasPrefix: "HasPrefix reports whether the string s begins with prefix.": IT RETURNS 'Lib.hasPrefix s prefix'; the world is as it was. (LAID: no walk: one application.) -/
theorem Tryd.strings_HasPrefix (s p : ByteArray) (w : World) :
    Calls Tryd.prog 10 #[.string s, .string p] w fun e w' => e = .returned (.bool (Lib.hasPrefix s.data.toList p.data.toList)) ∧ w' = w := Any.strings_HasPrefix Tryd.lays99 s p w
end Go.Proofs
end

section
/- The library's functions on texts (the kit's contracts), told of abstract values: strings.Join, HasPrefix, Split; strconv.Itoa of small numbers. -/
set_option maxRecDepth 100000
set_option linter.unusedVariables false
set_option linter.unusedSimpArgs false
namespace Go.Abs
open Go Go.Proofs
attribute [local irreducible] ibits byteAt strLt firstIdx

theorem strs_cells {G : Gh} {A : Option Addr} : ∀ (l : List B) (i : Nat), RepE G 1 A i (strs l) → ∀ (j : Nat) (s : B), l[j]? = some s → ∃ b o, A = some ⟨b, o, none⟩ ∧ G.K b (o + (i + j)) = some (.string (ofB s))
  | [], _, _, j, s, h => by simp at h
  | a :: l, i, h, j, s, hj => by
    obtain ⟨⟨b, o, e1, e2, e3, ⟨v, hv, hr⟩, _⟩, h2⟩ := h
    cases j with
    | zero =>
      simp only [List.getElem?_cons_zero, Option.some.injEq] at hj
      subst hj
      refine ⟨b, o, e1, ?_⟩
      rw [Nat.mul_one] at hv
      rw [Nat.add_zero, hv]
      have hr : v = .string (ofB a) := hr
      rw [hr]
    | succ j =>
      obtain ⟨b', o', f1, f2⟩ := strs_cells l (i + 1) h2 j s (by simpa using hj)
      refine ⟨b', o', f1, ?_⟩
      rw [show i + (j + 1) = i + 1 + j by omega]
      exact f2
theorem map_ofB (l : List B) : (l.map ofB).map (·.data.toList) = l := by
  rw [List.map_map]
  conv => rhs; rw [← List.map_id l]
  exact List.map_congr_left fun s _ => by simp [ofB]

theorem Join_calls (l : List B) (sep : B) (hl : l.length < 1000000) (hlen : (Lib.join l sep).length < 100000000) {R} (h : ∀ d, d = ofB (Lib.join l sep) → R (.val (.string d)) []) : ACalls Tryd.prog 35 [.sl none 1 (strs l), vs sep] [] R := by
  refine acalls_pure fun G w vals hW hA => ?_
  have hI := invS hW
  have hsl := strs_length l
  simp only [RepL, Rep] at hA
  obtain ⟨_, _, rfl, ⟨⟨A, c, rfl, hc, he⟩, _⟩, _, _, rfl, rfl, rfl⟩ := hA
  refine ⟨_, _, h _ rfl, rfl, rfl, ?_⟩
  rw [hsl] at hc ⊢
  cases l with
  | nil => exact (Tryd.strings_Join_none A c (ofB sep) w).mono fun e w' ⟨h1, h2⟩ => ⟨by rw [h1]; rfl, by rw [h2]; exact Go.RowKit.Below.refl _ _⟩
  | cons s l' =>
    obtain ⟨b, o, rfl, hk⟩ := strs_cells (s :: l') 0 he 0 s rfl
    have hx : ∀ (j : Nat) x, ((s :: l').map ofB)[j]? = some x → w.cell? ⟨b, o + j, none⟩ = some (.string x) := fun j x hj => by
      rw [List.getElem?_map, Option.map_eq_some_iff] at hj
      obtain ⟨t, ht, rfl⟩ := hj
      obtain ⟨b', o', e1, e2⟩ := strs_cells (s :: l') 0 he j t ht
      simp only [Option.some.injEq, Addr.mk.injEq, and_true] at e1
      obtain ⟨rfl, rfl⟩ := e1
      have := hW.know _ _ _ e2
      simpa using this
    have key := Tryd.strings_Join b o c ((s :: l').map ofB) (ofB sep) w hx (hI.wr.kltb hk) (by rw [List.length_map]; omega) (by rw [List.length_map]; exact hc) (by rw [map_ofB, show (ofB sep).data.toList = sep by simp [ofB]]; omega)
    rw [List.length_map, map_ofB, show (ofB sep).data.toList = sep by simp [ofB]] at key
    exact key

theorem HasPrefix_calls (s p : B) {R} (h : R (.val (.bool (Lib.hasPrefix s p))) []) : ACalls Tryd.prog 10 [vs s, vs p] [] R := by
  refine acalls_pure fun G w vals hW hA => ?_
  simp only [RepL, Rep] at hA
  obtain ⟨_, _, rfl, rfl, _, _, rfl, rfl, rfl⟩ := hA
  refine ⟨_, _, h, rfl, rfl, ?_⟩
  exact (Tryd.strings_HasPrefix (ofB s) (ofB p) w).mono fun e w' ⟨h1, h2⟩ => ⟨by rw [h1]; simp [ofB], by rw [h2]; exact Go.RowKit.Below.refl _ _⟩

theorem Itoa_small (i : Nat) (hi : i < 100) {R} (h : ∀ d, d = ofB (Lib.decDigits i) → R (.val (.string d)) []) : ACalls Tryd.prog 24 [vi i] [] R := by
  refine acalls_pure fun G w vals hW hA => ?_
  simp only [RepL, Rep] at hA
  obtain ⟨_, _, rfl, rfl, rfl⟩ := hA
  refine ⟨_, _, h _ rfl, rfl, rfl, ?_⟩
  exact (Tryd.strconv_Itoa_small i hi w).mono fun e w' ⟨h1, h2⟩ => ⟨by rw [h1]; rfl, by rw [h2]; exact Go.RowKit.Below.refl _ _⟩

/-! ### strings.Split -/
/-- A text, parted at a byte. -/
def splitP : B → UInt8 → List B
  | [], _ => [[]]
  | x :: l, c => if x = c then [] :: splitP l c else (match splitP l c with | [] => [[x]] | h :: t => (x :: h) :: t)
theorem splitP_ne (l : B) (c : UInt8) : splitP l c ≠ [] := by
  cases l with
  | nil => simp [splitP]
  | cons x l => simp only [splitP]; split; simp; split <;> simp
theorem splitP_none {l : B} {c : UInt8} (h : c ∉ l) : splitP l c = [l] := by
  induction l with
  | nil => rfl
  | cons x l ih =>
    simp only [List.mem_cons, not_or] at h
    simp only [splitP, ih h.2, if_neg (Ne.symm h.1)]
theorem splitP_hit {p : B} {c : UInt8} (q : B) (h : c ∉ p) : splitP (p ++ c :: q) c = p :: splitP q c := by
  induction p with
  | nil => simp [splitP]
  | cons x p ih =>
    simp only [List.mem_cons, not_or] at h
    simp only [List.cons_append, splitP, ih h.2, if_neg (Ne.symm h.1)]
theorem index1_none {l : B} {c : UInt8} (h : c ∉ l) : Lib.index l [c] = -1 := by
  induction l with
  | nil => simp [Lib.index]
  | cons x l ih =>
    simp only [List.mem_cons, not_or] at h
    unfold Lib.index
    rw [ih h.2]
    have : ([c].isPrefixOf (x :: l)) = false := by simp [List.isPrefixOf, h.1]
    simp [this]
theorem index1_hit {p : B} {c : UInt8} (q : B) (h : c ∉ p) : Lib.index (p ++ c :: q) [c] = p.length := by
  induction p with
  | nil => unfold Lib.index; simp [List.isPrefixOf]
  | cons x p ih =>
    simp only [List.mem_cons, not_or] at h
    simp only [List.cons_append]
    unfold Lib.index
    rw [ih h.2]
    have : ([c].isPrefixOf (x :: (p ++ c :: q))) = false := by simp [List.isPrefixOf, h.1]
    simp only [this, Bool.false_eq_true, if_false]
    split
    · rename_i e; have e := beq_iff_eq.1 e; omega
    · simp
theorem splitK_eq (c : UInt8) : ∀ (n : Nat) (s : B), s.length ≤ n → Lib.splitK [c] 0 (s.count c) s = splitP s c := by
  intro n
  induction n with
  | zero =>
    intro s hs
    have : s = [] := List.eq_nil_of_length_eq_zero (by omega)
    subst this; rfl
  | succ n ih =>
    intro s hs
    by_cases hc : c ∈ s
    · obtain ⟨p, q, rfl, hp⟩ := List.eq_append_cons_of_mem hc
      have hcp : p.count c = 0 := List.count_eq_zero.2 hp
      have hcn : (p ++ c :: q).count c = q.count c + 1 := by simp [List.count_append, hcp]
      rw [hcn, splitP_hit q hp]
      unfold Lib.splitK
      have hi := index1_hit q hp
      rw [hi]
      have : ¬ (((p.length : Nat) : Int) == -1) = true := fun e => by have := beq_iff_eq.1 e; omega
      rw [if_neg this]
      have e1 : (p ++ c :: q).take ((p.length : Int).toNat + 0) = p := by simp
      have e2 : (p ++ c :: q).drop ((p.length : Int).toNat + [c].length) = q := by
        rw [show (p.length : Int).toNat + [c].length = p.length + 1 by simp]
        rw [List.drop_append]
        simp
      rw [e1, e2, ih q (by simp at hs; omega)]
    · rw [List.count_eq_zero.2 hc, splitP_none hc]; rfl
theorem split_eq (s : B) (c : UInt8) : Lib.split s [c] = splitP s c := by
  unfold Lib.split
  rw [Lib.count_one, splitK_eq c _ s (Nat.le_refl _)]
end Go.Abs
end

section
/- Words of texts (escape): Put and Get. -/
set_option maxRecDepth 100000
set_option linter.unusedVariables false
set_option linter.unusedSimpArgs false
namespace Go.Abs
open Go Go.Proofs
attribute [local irreducible] ibits byteAt strLt firstIdx

def plainP (c : UInt8) : Bool := decide (33 ≤ c.toNat) && (decide (c.toNat ≤ 126) && decide (c ≠ 92))
def noneP (_ : UInt8) : Bool := false
theorem u8_ne {c : UInt8} {n : Nat} (hn : n < 256) : (((c.toNat : Nat) : Int) != (n : Int)) = decide (c ≠ UInt8.ofNat n) := by
  rw [Bool.eq_iff_iff, bne_iff_ne, decide_eq_true_iff]
  constructor
  · intro h e
    apply h
    rw [e]
    simp
    omega
  · intro h e
    apply h
    have : c.toNat = n := by omega
    rw [← this]
    simp
theorem plain_calls (c : UInt8) (R : AV → List AObj → Prop) (h : R (.val (.bool (plainP c))) []) : ACalls Tryd.prog 33 [.val (.int .u8 c.toNat)] [] R := by
  refine acalls_of_xwp (an := an33) tab_ok Tryd.func33 ?_
  have e3 : (((c.toNat : Nat) : Int) != 92) = decide (c ≠ 92) := u8_ne (n := 92) (by omega)
  (conv => whnf)
  refine br_intro (fun g1 => ?_) (fun g1 => ?_)
  · have g1 : 33 ≤ c.toNat := by simp at g1; omega
    (conv => whnf)
    refine br_intro (fun g2 => ?_) (fun g2 => ?_)
    · have g2 : c.toNat ≤ 126 := by simp at g2; omega
      (conv => whnf)
      rw [e3]
      have : plainP c = decide (c ≠ 92) := by simp [plainP, g1, g2]
      rw [this] at h
      exact h
    · have g2 : ¬ c.toNat ≤ 126 := by simp at g2; omega
      (conv => whnf)
      have : plainP c = false := by simp [plainP, g2]
      rw [this] at h
      exact h
  · have g1 : ¬ 33 ≤ c.toNat := by simp at g1; omega
    (conv => whnf)
    have : plainP c = false := by simp [plainP, g1]
    rw [this] at h
    exact h
theorem put1_calls (c : UInt8) (R : AV → List AObj → Prop) (h : R (.val (.bool (noneP c))) []) : ACalls Tryd.prog 32 [.val (.int .u8 c.toNat)] [] R := by
  refine acalls_of_xwp (an := an32) tab_ok Tryd.func32 ?_
  (conv => whnf)
  exact h

def putP (s : B) : B := if s = [] then [45] else signsP (if s = [45] then noneP else plainP) s
theorem Put_calls (s : B) (hs : s.length < 100000) {R} (h : ∀ d, d = ofB (putP s) → R (.val (.string d)) []) : ACalls Tryd.prog 13 [vs s] [] R := by
  refine acalls_of_xwp (an := an13) tab_ok Tryd.func13 ?_
  (conv => whnf)
  refine br_intro (fun g => ?_) (fun g => ?_)
  · have g : ofB s = ofB [] := of_decide_eq_true g
    have g := ofB_inj g
    (conv => whnf)
    refine h _ ?_
    rw [putP, if_pos g]
    rfl
  · have g : s ≠ [] := by
      rintro rfl
      exact of_decide_eq_false g rfl
    (conv => whnf)
    refine br_intro (fun g2 => ?_) (fun g2 => ?_)
    · have g2 : ofB s = ofB [45] := of_decide_eq_true g2
      have g2 := ofB_inj g2
      (conv => whnf)
      refine signs_calls 32 rfl noneP put1_calls s g hs fun d hd => ?_
      (conv => whnf)
      refine h _ ?_
      rw [hd, putP, if_neg g, if_pos g2]
    · have g2 : s ≠ [45] := by
        rintro rfl
        exact of_decide_eq_false g2 rfl
      (conv => whnf)
      refine signs_calls 33 rfl plainP plain_calls s g hs fun d hd => ?_
      (conv => whnf)
      refine h _ ?_
      rw [hd, putP, if_neg g, if_neg g2]

/-! ### what is read -/
def dec : B → Option B
  | [] => some []
  | c :: r => if c ≠ 92 then (dec r).map (c :: ·) else
    match r with
    | a :: b :: r' => (match hexv a, hexv b with
      | some x, some y => (dec r').map (UInt8.ofNat (16 * x + y) :: ·)
      | _, _ => none)
    | _ => none
theorem dec_plain {w : B} {i : Nat} (hi : i < w.length) (h : w[i] ≠ 92) : dec (w.drop i) = (dec (w.drop (i + 1))).map (w[i] :: ·) := by
  rw [List.drop_eq_getElem_cons hi]
  conv => lhs; unfold dec
  rw [if_pos h]
theorem dec_esc {w : B} {i : Nat} (hi : i + 2 < w.length) (h : w[i] = 92) : dec (w.drop i) = (match hexv w[i + 1], hexv w[i + 2] with
      | some x, some y => (dec (w.drop (i + 3))).map (UInt8.ofNat (16 * x + y) :: ·)
      | _, _ => none) := by
  rw [List.drop_eq_getElem_cons (show i < w.length by omega), List.drop_eq_getElem_cons (show i + 1 < w.length by omega), List.drop_eq_getElem_cons (show i + 1 + 1 < w.length by omega), dec, if_neg (not_not_intro h)]
theorem dec_short {w : B} {i : Nat} (hi : i < w.length) (hs : w.length < i + 3) (h : w[i] = 92) : dec (w.drop i) = none := by
  rw [List.drop_eq_getElem_cons hi]
  unfold dec
  rw [if_neg (not_not_intro h)]
  rcases hd : w.drop (i + 1) with _ | ⟨a, _ | ⟨b, r⟩⟩
  · rfl
  · rfl
  · exfalso
    have := congrArg List.length hd
    simp at this
    omega
def getP (w : B) : Option B := match dec w with
  | none => none
  | some o => (fun s : B => if putP s = w then some s else none) (if w = [45] then [] else o)
def vgets (o : Option B) : AV := .tup [vs (o.getD []), .val (.bool o.isSome)]
theorem nib0 : (List.range 16).all (fun x => (List.range 16).all fun y => decide (IntKind.u8.wrap (ibits .or .i64 (IntKind.i64.wrap ((x : Int) * 2 ^ min ((4 : Int)).toNat IntKind.i64.bits)) (y : Int)) = (((UInt8.ofNat (16 * x + y)).toNat : Nat) : Int))) = true := by decide +kernel
theorem nib {x y : Nat} (hx : x < 16) (hy : y < 16) : IntKind.u8.wrap (ibits .or .i64 (IntKind.i64.wrap ((x : Int) * 2 ^ min ((4 : Int)).toNat IntKind.i64.bits)) (y : Int)) = (((UInt8.ofNat (16 * x + y)).toNat : Nat) : Int) :=
  of_decide_eq_true (List.all_eq_true.1 (List.all_eq_true.1 nib0 x (List.mem_range.2 hx)) y (List.mem_range.2 hy))
theorem dec_len : ∀ (n : Nat) (w o : B), w.length ≤ n → dec w = some o → o.length ≤ w.length := by
  intro n
  induction n with
  | zero =>
    intro w o hw h
    have : w = [] := List.eq_nil_of_length_eq_zero (by omega)
    subst this
    simp [dec] at h
    simp [← h]
  | succ n ih =>
    intro w o hw h
    rcases w with _ | ⟨c, r⟩
    · simp [dec] at h; simp [← h]
    · unfold dec at h
      split at h
      · obtain ⟨o', h1, rfl⟩ := Option.map_eq_some_iff.1 h
        have := ih r o' (by simpa using hw) h1
        simpa using this
      · split at h
        · split at h
          · obtain ⟨o', h1, rfl⟩ := Option.map_eq_some_iff.1 h
            have := ih _ o' (by simp at hw; omega) h1
            simp; omega
          · cases h
        · cases h

end Go.Abs
end

section
/- The statements of the digest: the functions. -/
set_option maxRecDepth 100000
set_option linter.unusedVariables false
set_option linter.unusedSimpArgs false
namespace Go.Abs
open Go Go.Proofs Dig
attribute [local irreducible] ibits byteAt strLt

theorem dig0 : dig 0 = 0xe220a8397b1dcdaf#64 := by decide +kernel

end Go.Abs
end

section
/- The statement DigestFolds: the function. -/
set_option maxRecDepth 100000
set_option linter.unusedVariables false
set_option linter.unusedSimpArgs false
namespace Go.Abs
open Go Go.Proofs Dig
attribute [local irreducible] ibits byteAt strLt

theorem fold_split (n : U) (l : List U) (k : Nat) : fold (dBack (fold n (l.take k))) (l.drop k) = fold n l := by
  simp only [fold, dOf_dBack]
  rw [← List.foldl_append, List.take_append_drop]

end Go.Abs
end

section
/- The statement DigestHex: the document's functions, and the statement's. -/
set_option maxRecDepth 100000
set_option linter.unusedVariables false
set_option linter.unusedSimpArgs false
namespace Go.Abs
open Go Go.Proofs Dig
attribute [local irreducible] ibits byteAt strLt firstIdx

theorem u64_div16 (n : Nat) (h : n < 18446744073709551616) : IntKind.u64.wrap ((n : Int).tdiv 16) = ((n / 16 : Nat) : Int) := by
  rw [wrap_u64, Int.tdiv_eq_ediv_of_nonneg (Int.natCast_nonneg _)]
  omega
theorem tmod16 (n : Nat) : ((n : Int)).tmod 16 = ((n % 16 : Nat) : Int) := by
  rw [Int.tmod_eq_emod_of_nonneg (Int.natCast_nonneg _)]; omega

theorem refHex_calls (h : U) {R} (k : ∀ d, d = ofB (hexB h) → R (.val (.string d)) []) : ACalls Tryd.prog 19 [uv h] [] R := by
  refine acalls_of_xwp (an := an19) tab_ok Tryd.func19 ?_
  (conv => whnf)
  refine LoopP.ind3 (fun (i n : Nat) (s : B) => [(0, .val (.int .u64 n)), (3, .val (.string (ofB s))), (4, .val (.int .i64 i))]) (fun _ _ _ => []) (fun i _ _ => 16 - i)
    (fun i n s => i ≤ 16 ∧ n = h.toNat / 16 ^ i ∧ s = hexL h.toNat i) 0 h.toNat [] rfl ⟨by simp, by simp, rfl⟩ ?_
  rintro i n s ⟨h1, h2, h3⟩ IH
  have hn : n < 18446744073709551616 := by have := h.isLt; have := Nat.div_le_self h.toNat (16 ^ i); omega
  have hs : s.length = i := by rw [h3, hexL_length]
  have hsz : (ofB s).size = i := by rw [size_ofB, hs]
  (conv => whnf)
  refine br_intro (fun hc => ?_) (fun hc => ?_)
  · have hc : i < 16 := by simp at hc; omega
    (conv => whnf)
    rw [tmod16, wrap_u64]
    have e1 : (((n % 16 : Nat) : Int) + 1) % 18446744073709551616 = ((n % 16 + 1 : Nat) : Int) := by omega
    rw [e1]
    refine must_intro (decide_eq_true (by omega)) ?_
    refine must_intro (decide_eq_true (by show ((n % 16 + 1 : Nat) : Int) ≤ 16; omega)) ?_
    have e2 : (ByteArray.extract { data := #[48, 49, 50, 51, 52, 53, 54, 55, 56, 57, 97, 98, 99, 100, 101, 102] } ((n % 16 : Nat) : Int).toNat ((n % 16 + 1 : Nat) : Int).toNat) = ofB [hexc (n % 16)] := by
      rw [Int.toNat_natCast, Int.toNat_natCast]
      have key : (List.range 16).all (fun d => decide (ByteArray.extract { data := #[48, 49, 50, 51, 52, 53, 54, 55, 56, 57, 97, 98, 99, 100, 101, 102] } d (d + 1) = ofB [hexc d])) = true := by decide +kernel
      have := List.all_eq_true.1 key (n % 16) (List.mem_range.2 (Nat.mod_lt _ (by omega)))
      simpa using this
    rw [e2]
    (conv => whnf)
    refine must_intro (decide_eq_true (by rw [hsz, size_ofB]; simp; omega)) ?_
    rw [ofB_append]
    (conv => whnf)
    rw [u64_div16 n hn, wrap_i64 (by omega) (by omega)]
    refine IH (i + 1) (n / 16) ([hexc (n % 16)] ++ s) ⟨by omega, ?_, ?_⟩ (by omega)
    · rw [h2, Nat.pow_succ, Nat.div_div_eq_div_mul]
    · rw [h3, h2]; rfl
  · have hc : i = 16 := by simp at hc; omega
    subst hc
    (conv => whnf)
    exact k _ (by rw [h3]; rfl)

theorem hexv_num {c : UInt8} (h : 48 ≤ c.toNat ∧ c.toNat ≤ 57) : hexv c = some (c.toNat - 48) := by simp [hexv, h]
theorem hexv_let {c : UInt8} (h : 97 ≤ c.toNat ∧ c.toNat ≤ 102) : hexv c = some (c.toNat - 87) := by
  unfold hexv
  rw [if_neg (by omega), if_pos h]
theorem hexv_none {c : UInt8} (h1 : ¬ (48 ≤ c.toNat ∧ c.toNat ≤ 57)) (h2 : ¬ (97 ≤ c.toNat ∧ c.toNat ≤ 102)) : hexv c = none := by
  unfold hexv
  rw [if_neg h1, if_neg h2]
theorem wrap_u8 (x : Int) : IntKind.u8.wrap x = x % 256 := by
  simp [IntKind.wrap, IntKind.signed, IntKind.bits]

theorem args_str {ts : List TypeId} {l : List AV} (h : Args tab 12 (9 :: ts) l) : ∃ (x : B) (l' : List AV), l = .val (.string (ofB x)) :: l' ∧ x.length ≤ maxLen ∧ Args tab 12 ts l' := by
  obtain ⟨a, l', rfl, h1, h2⟩ := h
  obtain ⟨x, e, hx⟩ : ∃ x : ByteArray, [a] = [.val (.string x)] ∧ x.size ≤ maxLen := h1
  simp only [List.cons.injEq, and_true] at e
  exact ⟨bs x, l', by rw [e, ofB_bs], by rw [← size_bs]; exact hx, h2⟩
end Go.Abs
end

section
/- Words of texts (escape): the document's functions, the statements EscapePuts and EscapeGets. -/
set_option maxRecDepth 100000
set_option linter.unusedVariables false
set_option linter.unusedSimpArgs false
namespace Go.Abs
open Go Go.Proofs
attribute [local irreducible] ibits byteAt strLt firstIdx

/-! ### signs, parted -/
def okPr (pr : UInt8 → Bool) : Prop := ∀ c, pr c = true → c ≠ 92
theorem ok_plain : okPr plainP := fun c h => by
  unfold plainP at h
  simp only [Bool.and_eq_true, decide_eq_true_eq] at h
  exact h.2.2
theorem ok_none : okPr noneP := fun c h => by cases h
theorem sgn_hex (c : UInt8) : hexv (hexc (c.toNat / 16)) = some (c.toNat / 16) ∧ hexv (hexc (c.toNat % 16)) = some (c.toNat % 16) ∧ UInt8.ofNat (16 * (c.toNat / 16) + c.toNat % 16) = c := by
  have := c.toNat_lt
  refine ⟨hexv_hexc (by omega), hexv_hexc (by omega), ?_⟩
  rw [show 16 * (c.toNat / 16) + c.toNat % 16 = c.toNat by omega]
  simp
theorem dec_sgn {pr : UInt8 → Bool} (hpr : okPr pr) (c : UInt8) (r : B) : dec (sgn pr c ++ r) = (dec r).map (c :: ·) := by
  unfold sgn
  split
  · rename_i h
    show dec (c :: r) = _
    conv => lhs; unfold dec
    rw [if_pos (hpr c h)]
  · show dec (92 :: hexc (c.toNat / 16) :: hexc (c.toNat % 16) :: r) = _
    obtain ⟨h1, h2, h3⟩ := sgn_hex c
    rw [dec, if_neg (by simp), h1, h2]
    simp only [h3]
theorem dec_signs {pr : UInt8 → Bool} (hpr : okPr pr) : ∀ (o : B), dec (signsP pr o) = some o := by
  intro o
  induction o with
  | nil => simp [signsP, dec]
  | cons c o ih =>
    show dec (sgn pr c ++ signsP pr o) = _
    rw [dec_sgn hpr, ih]
    rfl
theorem sgn_pre {pr : UInt8 → Bool} (hpr : okPr pr) {c d : UInt8} {r t : B} (h : sgn pr c ++ r = sgn pr d ++ t) : c = d ∧ r = t := by
  have key : c = d := by
    unfold sgn at h
    split at h
    · rename_i h1
      split at h
      · rename_i h2
        injection h with h
      · injection h with h _
        exact absurd h (hpr c h1)
    · split at h
      · rename_i h2
        injection h with h _
        exact absurd h.symm (hpr d h2)
      · obtain ⟨a1, a2, a3⟩ := sgn_hex c
        obtain ⟨b1, b2, b3⟩ := sgn_hex d
        injection h with _ h
        injection h with e1 h
        injection h with e2 h
        rw [e1, b1] at a1
        rw [e2, b2] at a2
        simp only [Option.some.injEq] at a1 a2
        rw [← a3, ← b3, a1, a2]
  subst key
  exact ⟨rfl, List.append_cancel_left h⟩
theorem signs_pre {pr : UInt8 → Bool} (hpr : okPr pr) : ∀ (out o : B) (rest : B), signsP pr o = signsP pr out ++ rest → ∃ o', o = out ++ o' ∧ rest = signsP pr o' := by
  intro out
  induction out with
  | nil => intro o rest h; exact ⟨o, rfl, by simpa [signsP] using h.symm⟩
  | cons d out ih =>
    intro o rest h
    cases o with
    | nil =>
      exfalso
      have := congrArg List.length h
      have h1 := (sgn_len pr d).1
      simp [signsP] at this
      omega
    | cons c o =>
      have h' : sgn pr c ++ signsP pr o = sgn pr d ++ (signsP pr out ++ rest) := by
        rw [← List.append_assoc]; exact h
      obtain ⟨rfl, h2⟩ := sgn_pre hpr h'
      obtain ⟨o', rfl, h3⟩ := ih o rest h2
      exact ⟨o', rfl, h3⟩
def prW (w : B) : UInt8 → Bool := if w = [92, 50, 100] then noneP else plainP
theorem ok_prW (w : B) : okPr (prW w) := by unfold prW; split; exact ok_none; exact ok_plain
def refGetP (w : B) : Option B := if w = [45] then some [] else match dec w with
  | none => none
  | some o => if signsP (prW w) o = w ∧ o ≠ [] then some o else none
theorem getP_ref (w : B) : getP w = refGetP w := by
  unfold getP refGetP
  by_cases hw : w = [45]
  · subst hw
    decide +kernel
  rw [if_neg hw]
  cases hd : dec w with
  | none => rfl
  | some o =>
    simp only [if_neg hw]
    by_cases ho : o = []
    · subst ho
      rw [if_neg (by intro e; exact hw e.symm), if_neg (by simp)]
    have iff : putP o = w ↔ signsP (prW w) o = w := by
      unfold putP prW
      rw [if_neg ho]
      by_cases h45 : o = [45]
      · subst h45
        rw [if_pos rfl]
        have e1 : signsP noneP [45] = [92, 50, 100] := by decide +kernel
        have e2 : signsP plainP [45] = [45] := by decide +kernel
        constructor
        · intro e
          rw [if_pos (by rw [← e, e1])]
          exact e
        · intro e
          by_cases h2d : w = [92, 50, 100]
          · rw [h2d, e1]
          · rw [if_neg h2d, e2] at e
            exact absurd e.symm hw
      · rw [if_neg h45]
        by_cases h2d : w = [92, 50, 100]
        · subst h2d
          have : dec [92, 50, 100] = some [45] := by decide +kernel
          rw [this] at hd
          exact absurd (Option.some.inj hd).symm h45
        · rw [if_neg h2d]
    by_cases hp : putP o = w
    · rw [if_pos hp, if_pos ⟨iff.1 hp, ho⟩]
    · rw [if_neg hp, if_neg (fun h => hp (iff.2 h.1))]
/-- What is put is read as the text. -/
theorem getP_putP (s : B) : getP (putP s) = some s := by
  unfold getP
  by_cases h0 : s = []
  · subst h0; decide +kernel
  have hp : putP s = signsP (if s = [45] then noneP else plainP) s := by rw [putP, if_neg h0]
  have hok : okPr (if s = [45] then noneP else plainP) := by split; exact ok_none; exact ok_plain
  rw [hp, dec_signs hok]
  have hne : signsP (if s = [45] then noneP else plainP) s ≠ [45] := by
    intro e
    have h1 := dec_signs hok s
    rw [e] at h1
    have h2 : dec [45] = some [45] := by decide +kernel
    rw [h2] at h1
    have h3 : s = [45] := (Option.some.inj h1).symm
    subst h3
    revert e
    decide +kernel
  simp only [if_neg hne]
  rw [hp, if_pos rfl]

/-! ### the document's -/
theorem u8_quo (c : UInt8) : IntKind.u8.wrap (((c.toNat : Nat) : Int).tdiv 16) = ((c.toNat / 16 : Nat) : Int) ∧ (((c.toNat : Nat) : Int)).tmod 16 = ((c.toNat % 16 : Nat) : Int) := by
  have := c.toNat_lt
  rw [wrap_u8, Int.tdiv_eq_ediv_of_nonneg (Int.natCast_nonneg _), Int.tmod_eq_emod_of_nonneg (Int.natCast_nonneg _)]
  omega

theorem sign_calls (c : UInt8) (b : Bool) {R} (h : ∀ d, d = ofB (sgn (if b = true then noneP else plainP) c) → R (.val (.string d)) []) : ACalls Tryd.prog 37 [.val (.int .u8 c.toNat), .val (.bool b)] [] R := by
  refine acalls_of_xwp (an := an37) tab_ok Tryd.func37 ?_
  have hlt := c.toNat_lt
  have e3 : (((c.toNat : Nat) : Int) != 92) = decide (c ≠ 92) := u8_ne (n := 92) (by omega)
  cases b with
  | true =>
    (conv => whnf)
    refine must_intro (decide_eq_true (by rw [(u8_quo c).1]; show ((_ : Nat) : Int) < 16; omega)) ?_
    (conv => whnf)
    refine must_intro (decide_eq_true (by rw [(u8_quo c).2]; show ((_ : Nat) : Int) < 16; omega)) ?_
    (conv => whnf)
    refine ⟨[92, (((hexc (c.toNat / 16)).toNat : Nat) : Int), (((hexc (c.toNat % 16)).toNat : Nat) : Int)], ?_, ?_⟩
    · have k1 : byteAt { data := #[48, 49, 50, 51, 52, 53, 54, 55, 56, 57, 97, 98, 99, 100, 101, 102] } (IntKind.u8.wrap (((c.toNat : Nat) : Int).tdiv 16)).toNat = ((hexc (c.toNat / 16)).toNat : Int) := by
        rw [(u8_quo c).1, Int.toNat_natCast]
        exact at_signs (by omega)
      have k2 : byteAt { data := #[48, 49, 50, 51, 52, 53, 54, 55, 56, 57, 97, 98, 99, 100, 101, 102] } (((c.toNat : Nat) : Int).tmod 16).toNat = ((hexc (c.toNat % 16)).toNat : Int) := by
        rw [(u8_quo c).2, Int.toNat_natCast]
        exact at_signs (by omega)
      rw [k1, k2]
      rfl
    (conv => whnf)
    refine h _ ?_
    have e := strOfNums_ofB [92, hexc (c.toNat / 16), hexc (c.toNat % 16)]
    refine e.trans ?_
    congr 1
  | false =>
    have esc : plainP c = false → [92, hexc (c.toNat / 16), hexc (c.toNat % 16)] = sgn (if false = true then noneP else plainP) c := by
      intro hp
      rw [if_neg (by simp), sgn, hp]
      rfl
    (conv => whnf)
    refine br_intro (fun g1 => ?_) (fun g1 => ?_)
    · have g1 : 33 ≤ c.toNat := by simp at g1; omega
      (conv => whnf)
      refine br_intro (fun g2 => ?_) (fun g2 => ?_)
      · have g2 : c.toNat ≤ 126 := by simp at g2; omega
        (conv => whnf)
        rw [e3]
        refine br_intro (fun g3 => ?_) (fun g3 => ?_)
        · have g3 : c ≠ 92 := of_decide_eq_true g3
          (conv => whnf)
          refine ⟨[((c.toNat : Nat) : Int)], rfl, ?_⟩
          (conv => whnf)
          refine h _ ?_
          have e := strOfNums_ofB [c]
          refine e.trans ?_
          congr 1
          rw [if_neg (by simp), sgn, if_pos (by simp [plainP, g1, g2, g3])]
        · have g3 : c = 92 := by simpa using g3
          have hp : plainP c = false := by rw [g3]; decide
          (conv => whnf)
          refine must_intro (decide_eq_true (by rw [(u8_quo c).1]; show ((_ : Nat) : Int) < 16; omega)) ?_
          (conv => whnf)
          refine must_intro (decide_eq_true (by rw [(u8_quo c).2]; show ((_ : Nat) : Int) < 16; omega)) ?_
          (conv => whnf)
          refine ⟨[92, (((hexc (c.toNat / 16)).toNat : Nat) : Int), (((hexc (c.toNat % 16)).toNat : Nat) : Int)], ?_, ?_⟩
          · have k1 : byteAt { data := #[48, 49, 50, 51, 52, 53, 54, 55, 56, 57, 97, 98, 99, 100, 101, 102] } (IntKind.u8.wrap (((c.toNat : Nat) : Int).tdiv 16)).toNat = ((hexc (c.toNat / 16)).toNat : Int) := by
              rw [(u8_quo c).1, Int.toNat_natCast]
              exact at_signs (by omega)
            have k2 : byteAt { data := #[48, 49, 50, 51, 52, 53, 54, 55, 56, 57, 97, 98, 99, 100, 101, 102] } (((c.toNat : Nat) : Int).tmod 16).toNat = ((hexc (c.toNat % 16)).toNat : Int) := by
              rw [(u8_quo c).2, Int.toNat_natCast]
              exact at_signs (by omega)
            rw [k1, k2]
            rfl
          (conv => whnf)
          refine h _ ?_
          have e := strOfNums_ofB [92, hexc (c.toNat / 16), hexc (c.toNat % 16)]
          refine e.trans ?_
          congr 1
          exact esc hp
      · have hp : plainP c = false := by
          have g2 : ¬ c.toNat ≤ 126 := by simp at g2; omega
          simp [plainP, g2]
        (conv => whnf)
        refine must_intro (decide_eq_true (by rw [(u8_quo c).1]; show ((_ : Nat) : Int) < 16; omega)) ?_
        (conv => whnf)
        refine must_intro (decide_eq_true (by rw [(u8_quo c).2]; show ((_ : Nat) : Int) < 16; omega)) ?_
        (conv => whnf)
        refine ⟨[92, (((hexc (c.toNat / 16)).toNat : Nat) : Int), (((hexc (c.toNat % 16)).toNat : Nat) : Int)], ?_, ?_⟩
        · have k1 : byteAt { data := #[48, 49, 50, 51, 52, 53, 54, 55, 56, 57, 97, 98, 99, 100, 101, 102] } (IntKind.u8.wrap (((c.toNat : Nat) : Int).tdiv 16)).toNat = ((hexc (c.toNat / 16)).toNat : Int) := by
            rw [(u8_quo c).1, Int.toNat_natCast]
            exact at_signs (by omega)
          have k2 : byteAt { data := #[48, 49, 50, 51, 52, 53, 54, 55, 56, 57, 97, 98, 99, 100, 101, 102] } (((c.toNat : Nat) : Int).tmod 16).toNat = ((hexc (c.toNat % 16)).toNat : Int) := by
            rw [(u8_quo c).2, Int.toNat_natCast]
            exact at_signs (by omega)
          rw [k1, k2]
          rfl
        (conv => whnf)
        refine h _ ?_
        have e := strOfNums_ofB [92, hexc (c.toNat / 16), hexc (c.toNat % 16)]
        refine e.trans ?_
        congr 1
        exact esc hp
    · have hp : plainP c = false := by
        have g1 : ¬ 33 ≤ c.toNat := by simp at g1; omega
        simp [plainP, g1]
      (conv => whnf)
      refine must_intro (decide_eq_true (by rw [(u8_quo c).1]; show ((_ : Nat) : Int) < 16; omega)) ?_
      (conv => whnf)
      refine must_intro (decide_eq_true (by rw [(u8_quo c).2]; show ((_ : Nat) : Int) < 16; omega)) ?_
      (conv => whnf)
      refine ⟨[92, (((hexc (c.toNat / 16)).toNat : Nat) : Int), (((hexc (c.toNat % 16)).toNat : Nat) : Int)], ?_, ?_⟩
      · have k1 : byteAt { data := #[48, 49, 50, 51, 52, 53, 54, 55, 56, 57, 97, 98, 99, 100, 101, 102] } (IntKind.u8.wrap (((c.toNat : Nat) : Int).tdiv 16)).toNat = ((hexc (c.toNat / 16)).toNat : Int) := by
          rw [(u8_quo c).1, Int.toNat_natCast]
          exact at_signs (by omega)
        have k2 : byteAt { data := #[48, 49, 50, 51, 52, 53, 54, 55, 56, 57, 97, 98, 99, 100, 101, 102] } (((c.toNat : Nat) : Int).tmod 16).toNat = ((hexc (c.toNat % 16)).toNat : Int) := by
          rw [(u8_quo c).2, Int.toNat_natCast]
          exact at_signs (by omega)
        rw [k1, k2]
        rfl
      (conv => whnf)
      refine h _ ?_
      have e := strOfNums_ofB [92, hexc (c.toNat / 16), hexc (c.toNat % 16)]
      refine e.trans ?_
      congr 1
      exact esc hp
end Go.Abs
end

section
/- Words of texts (escape): the statements. -/
set_option maxRecDepth 100000
set_option linter.unusedVariables false
set_option linter.unusedSimpArgs false
namespace Go.Abs
open Go Go.Proofs
attribute [local irreducible] ibits byteAt strLt firstIdx

theorem refPut_calls (s : B) (hs : s.length < 100000) {R} (h : ∀ d, d = ofB (putP s) → R (.val (.string d)) []) : ACalls Tryd.prog 18 [vs s] [] R := by
  refine acalls_of_xwp (an := an18) tab_ok Tryd.func18 ?_
  have hsz : (ofB s).size = s.length := size_ofB s
  (conv => whnf)
  refine br_intro (fun g => ?_) (fun g => ?_)
  · have g : ofB s = ofB [] := of_decide_eq_true g
    have g := ofB_inj g
    (conv => whnf)
    refine h _ ?_
    rw [putP, if_pos g]
    rfl
  have g : s ≠ [] := by
    rintro rfl
    exact of_decide_eq_false g rfl
  have hb : decide (ofB s = { data := #[45] }) = decide (s = [45]) := decide_eq_decide.2 ⟨fun e => ofB_inj (show ofB s = ofB [45] from e), fun e => by rw [e]; rfl⟩
  have hpr : (if decide (s = [45]) = true then noneP else plainP) = (if s = [45] then noneP else plainP) := by simp
  (conv => whnf)
  refine LoopP.ind2 (fun (i : Nat) (out : B) => [(3, vs out), (4, vi i)]) (fun _ _ => []) (fun i _ => s.length - i) (fun i out => i ≤ s.length ∧ out = signsP (if s = [45] then noneP else plainP) (s.take i)) 0 [] rfl ⟨by omega, by simp [signsP]⟩ ?_
  rintro i out ⟨h0, h1⟩ IH
  have hol : out.length ≤ 3 * i := by
    have := signsP_len (if s = [45] then noneP else plainP) (s.take i)
    rw [← h1, List.length_take] at this
    omega
  (conv => whnf)
  refine br_intro (fun hc => ?_) (fun hc => ?_)
  · have hc := lt_of_decE hsz hc
    have hbt : byteAt (ofB s) ((i : Int)).toNat = ((s[i]).toNat : Int) := by rw [Int.toNat_natCast, byteAt_ofB s hc]
    (conv => whnf); (repeat ((with_reducible refine must_intro ?_ ?_); exact decide_eq_true (by omega); (conv => whnf)))
    rw [hbt, hb]
    refine sign_calls s[i] (decide (s = [45])) fun d hd => ?_
    rw [hpr] at hd
    subst hd
    have h3 := (sgn_len (if s = [45] then noneP else plainP) s[i]).2
    (conv => whnf)
    refine must_intro (decide_eq_true (by rw [size_ofB, size_ofB]; omega)) ?_
    rw [ofB_append]
    (conv => whnf)
    rw [i64_nat (by omega)]
    refine IH (i + 1) (out ++ sgn (if s = [45] then noneP else plainP) s[i]) ⟨by omega, ?_⟩ (by omega)
    rw [h1, List.take_succ_eq_append_getElem hc]
    simp only [signsP, List.flatMap_append, List.flatMap_cons, List.flatMap_nil, List.append_nil]
  · have hc := ge_of_decE hsz hc
    rw [List.take_of_length_le hc] at h1
    (conv => whnf)
    refine h _ ?_
    rw [h1, putP, if_neg g]

theorem u8_of {c : Nat} (h : c < 256) : IntKind.u8.wrap (c : Int) = (((UInt8.ofNat c).toNat : Nat) : Int) := by
  rw [wrap_u8]
  simp
theorem getP_some {w s : B} (hg : getP w = some s) : s.length ≤ w.length ∧ putP s = w := by
  unfold getP at hg
  cases hd : dec w with
  | none => rw [hd] at hg; cases hg
  | some o =>
    rw [hd] at hg
    have hg : (if putP (if w = [45] then [] else o) = w then some (if w = [45] then [] else o) else none) = some s := hg
    by_cases hp : putP (if w = [45] then [] else o) = w
    · rw [if_pos hp] at hg
      have hg := Option.some.inj hg
      rw [hg] at hp
      refine ⟨?_, hp⟩
      rw [← hg]
      by_cases hw : w = [45]
      · rw [if_pos hw]; simp
      · rw [if_neg hw]; exact dec_len _ _ _ (Nat.le_refl _) hd
    · rw [if_neg hp] at hg; cases hg

theorem hexc_ne {d : Nat} (h : d < 16) : hexc d ≠ 32 ∧ hexc d ≠ 10 := by
  have key : (List.range 16).all (fun d => decide (hexc d ≠ 32 ∧ hexc d ≠ 10)) = true := by decide +kernel
  have h := List.all_eq_true.1 key d (List.mem_range.2 h)
  exact of_decide_eq_true h
theorem signs_mem {pr : UInt8 → Bool} (hpr : ∀ c, pr c = true → c ≠ 32 ∧ c ≠ 10) {s : B} {c : UInt8} (h : c ∈ signsP pr s) : c ≠ 32 ∧ c ≠ 10 := by
  unfold signsP at h
  obtain ⟨x, _, hx⟩ := List.mem_flatMap.1 h
  have hxl := x.toNat_lt
  unfold sgn at hx
  by_cases hp : pr x = true
  · rw [if_pos hp, List.mem_singleton] at hx
    subst hx
    exact hpr _ hp
  · rw [if_neg hp] at hx
    simp only [List.mem_cons, List.not_mem_nil, or_false] at hx
    rcases hx with rfl | rfl | rfl
    · decide
    · exact hexc_ne (by omega)
    · exact hexc_ne (by omega)
theorem putP_mem {s : B} {c : UInt8} (h : c ∈ putP s) : c ≠ 32 ∧ c ≠ 10 := by
  unfold putP at h
  by_cases h0 : s = []
  · rw [if_pos h0, List.mem_singleton] at h
    subst h
    decide
  · rw [if_neg h0] at h
    by_cases h45 : s = [45]
    · rw [if_pos h45] at h
      exact signs_mem (fun c hc => by cases hc) h
    · rw [if_neg h45] at h
      refine signs_mem (fun c hc => ?_) h
      unfold plainP at hc
      rw [Bool.and_eq_true, decide_eq_true_iff] at hc
      refine ⟨fun e => ?_, fun e => ?_⟩ <;> (rw [e] at hc; exact absurd hc.1 (by decide))
theorem firstIdx_none {l : B} {c : UInt8} (h : c ∉ l) : firstIdx (ofB l) c = -1 := by
  unfold firstIdx
  have hn : (List.range (ofB l).size).find? (fun i => (ofB l)[i]! == c) = none := by
    rw [List.find?_eq_none]
    intro i hi
    rw [List.mem_range, size_ofB] at hi
    intro e
    apply h
    have e : (ofB l)[i]! = c := by simpa using e
    have h1 : (ofB l)[i]! = l[i] := by
      have hs : i < (ofB l).size := by rw [size_ofB]; exact hi
      rw [getElem!_pos (ofB l) i hs]
      rfl
    rw [← e, h1]
    exact List.getElem_mem hi
  rw [hn]

end Go.Abs
end

section
/- The statement EscapeWords. -/
set_option maxRecDepth 100000
set_option maxHeartbeats 1000000
set_option linter.unusedVariables false
set_option linter.unusedSimpArgs false
namespace Go.Abs
open Go Go.Proofs
attribute [local irreducible] ibits byteAt strLt firstIdx

/-! ### plain -/
def joinW (l : List B) : B := Lib.join l [32]
theorem joinW_cons (x : B) (l : List B) : joinW (x :: l) = x ++ (l.map fun y => 32 :: y).flatten := by
  unfold joinW
  rw [Lib.join_cons]
  rfl
theorem joinW_snoc {l : List B} (h : l ≠ []) (x : B) : joinW (l ++ [x]) = joinW l ++ 32 :: x := by
  cases l with
  | nil => exact absurd rfl h
  | cons a l => rw [List.cons_append, joinW_cons, joinW_cons]; simp
theorem joinW_split (s : B) : joinW (splitP s 32) = s := by
  induction s with
  | nil => rfl
  | cons x s ih =>
    simp only [splitP]
    split
    · rename_i e
      subst e
      cases hs : splitP s 32 with
      | nil => exact absurd hs (splitP_ne s 32)
      | cons a l =>
        rw [hs, joinW_cons] at ih
        rw [joinW_cons]
        simp [ih]
    · cases hs : splitP s 32 with
      | nil => exact absurd hs (splitP_ne s 32)
      | cons a l =>
        rw [hs, joinW_cons] at ih
        simp only [joinW_cons, List.cons_append, ih]
theorem splitP_append {p q : B} {c : UInt8} (hp : c ∉ p) : splitP (p ++ q) c = match splitP q c with | [] => [p] | a :: l => (p ++ a) :: l := by
  induction p with
  | nil =>
    cases h : splitP q c with
    | nil => exact absurd h (splitP_ne q c)
    | cons a l => simp [h]
  | cons x p ih =>
    simp only [List.mem_cons, not_or] at hp
    simp only [List.cons_append, splitP, if_neg (Ne.symm hp.1), ih hp.2]
    cases h : splitP q c with
    | nil => exact absurd h (splitP_ne q c)
    | cons a l => simp
theorem split_joinW : ∀ (l : List B), l ≠ [] → (∀ w ∈ l, (32 : UInt8) ∉ w) → splitP (joinW l) 32 = l := by
  intro l
  induction l with
  | nil => intro h; exact absurd rfl h
  | cons x l ih =>
    intro _ hw
    cases l with
    | nil =>
      have : joinW [x] = x := by rw [joinW_cons]; simp
      rw [this, splitP_none (hw x (by simp))]
    | cons y l =>
      have e : joinW (x :: y :: l) = x ++ 32 :: joinW (y :: l) := by
        rw [joinW_cons, joinW_cons]; simp
      rw [e, splitP_hit _ (hw x (by simp)), ih (by simp) (fun w h => hw w (by simp [h]))]
theorem joinW_len : ∀ (l : List B) (n : Nat), (∀ w ∈ l, w.length ≤ n) → (joinW l).length ≤ l.length * (n + 1) := by
  intro l n h
  cases l with
  | nil => simp [joinW, Lib.join_nil]
  | cons x l =>
    rw [joinW_cons]
    have hx := h x (by simp)
    have : ∀ (m : List B), (∀ w ∈ m, w.length ≤ n) → ((m.map fun y => (32 : UInt8) :: y).flatten).length ≤ m.length * (n + 1) := by
      intro m
      induction m with
      | nil => simp
      | cons y m ih =>
        intro hm
        have h1 := ih fun w hw => hm w (by simp [hw])
        have h2 := hm y (by simp)
        simp only [List.map_cons, List.flatten_cons, List.length_append, List.length_cons, Nat.succ_mul]
        omega
    have := this l fun w hw => h w (by simp [hw])
    simp only [List.length_append, List.length_cons, Nat.succ_mul]
    omega
theorem splitP_len (s : B) (c : UInt8) : (splitP s c).length ≤ s.length + 1 ∧ ∀ w ∈ splitP s c, w.length ≤ s.length := by
  induction s with
  | nil => simp [splitP]
  | cons x s ih =>
    obtain ⟨h1, h2⟩ := ih
    simp only [splitP]
    split
    · refine ⟨by simp; omega, fun w hw => ?_⟩
      rcases List.mem_cons.1 hw with rfl | hw
      · simp
      · have := h2 w hw; simp; omega
    · cases hs : splitP s c with
      | nil => exact absurd hs (splitP_ne s c)
      | cons a l =>
        rw [hs] at h1 h2
        refine ⟨by simp at h1 ⊢; omega, fun w hw => ?_⟩
        rcases List.mem_cons.1 hw with rfl | hw
        · have := h2 a (by simp); simp; omega
        · have := h2 w (by simp [hw]); simp; omega

theorem eJoin_calls (l : List B) (hl : l.length < 1000000) (hlen : (joinW l).length < 100000000) {R} (h : ∀ d, d = ofB (joinW l) → R (.val (.string d)) []) : ACalls Tryd.prog 16 [.sl none 1 (strs l)] [] R := by
  refine acalls_of_xwp (an := an16) tab_ok Tryd.func16 ?_
  (conv => whnf)
  refine Join_calls l [32] hl hlen fun d hd => ?_
  (conv => whnf)
  exact h d hd

theorem joinW_take (l : List B) (i : Nat) : (joinW (l.take i)).length ≤ (joinW l).length := by
  conv => rhs; rw [← List.take_append_drop i l]
  generalize l.take i = p
  generalize l.drop i = q
  cases p with
  | nil => simp [joinW, Lib.join_nil]
  | cons a p =>
    rw [List.cons_append, joinW_cons, joinW_cons]
    simp
theorem args_strs {ts : List TypeId} {l : List AV} (h : Args tab 12 (38 :: ts) l) : ∃ (x : List B) (l' : List AV), l = .sl none 1 (strs x) :: l' ∧ x.length ≤ maxLen ∧ (∀ s ∈ x, s.length ≤ maxLen) ∧ Args tab 12 ts l' := by
  obtain ⟨a, l', rfl, h1, h2⟩ := h
  obtain ⟨x, e, hl, hx⟩ : ∃ x : List (List AV), [a] = [.sl none 1 x] ∧ x.length ≤ maxLen ∧ ∀ y ∈ x, Typed tab 11 9 y := h1
  have key : ∀ x : List (List AV), (∀ y ∈ x, Typed tab 11 9 y) → ∃ ns : List B, x = strs ns ∧ ∀ s ∈ ns, s.length ≤ maxLen := by
    intro x
    induction x with
    | nil => intro _; exact ⟨[], rfl, by simp⟩
    | cons y x ih =>
      intro hx
      obtain ⟨ns, rfl, h2⟩ := ih fun z hz => hx z (by simp [hz])
      obtain ⟨s, hs, hl⟩ : ∃ s : ByteArray, y = [.val (.string s)] ∧ s.size ≤ maxLen := hx y (by simp)
      subst hs
      refine ⟨bs s :: ns, by simp [strs, vs, ofB_bs], fun t ht => ?_⟩
      rcases List.mem_cons.1 ht with rfl | ht
      · rw [← size_bs]; exact hl
      · exact h2 t ht
  obtain ⟨ns, rfl, h3⟩ := key x hx
  simp only [List.cons.injEq, and_true] at e
  subst e
  exact ⟨ns, l', rfl, by simpa [strs] using hl, h3, h2⟩

end Go.Abs
end

section
/- strings.Builder's WriteString; a text with its sum behind. -/
set_option maxRecDepth 100000
set_option maxHeartbeats 1000000
set_option linter.unusedVariables false
set_option linter.unusedSimpArgs false
namespace Go.Abs
open Go Go.Proofs
attribute [local irreducible] ibits byteAt strLt firstIdx

theorem size_lit (a : Array UInt8) : (ByteArray.mk a).size = a.size := rfl
theorem byteA_ofB (q : B) : byteA (ofB q) = byteEls q := by simp [byteA, byteEls, ofB]
theorem WriteString_first (q : B) (hq : q.length < 100000000) {R} (h : ∀ n : Int, R (.tup [vi n, .val .nilIface]) (sb1 q)) : ACalls Tryd.prog 23 [.ptr 0 0, vs q] sb0 R := by
  refine acalls_of_xwp (an := an23) tab_ok Tryd.func23 ?_
  (conv => whnf)
  refine copyCheck_first nilS [] closed_sb0 ?_
  (conv => whnf)
  rw [byteA_ofB]
  refine ⟨by rw [byteEls_length, bytes_u8]; omega, ?_⟩
  (conv => whnf)
  rw [byteEls_length]
  exact h _
theorem WriteString_again (l q : B) (hl : l.length < 100000000) (hq : q.length < 100000000) {R} (h : ∀ n : Int, R (.tup [vi n, .val .nilIface]) (sb1 (l ++ q))) : ACalls Tryd.prog 23 [.ptr 0 0, vs q] (sb1 l) R := by
  refine acalls_of_xwp (an := an23) tab_ok Tryd.func23 ?_
  (conv => whnf)
  refine copyCheck_again (.sl (some 1) 1 (byteEls l)) [.row 5 1 l.length] (closed_sb1 l) ?_
  (conv => whnf)
  rw [byteA_ofB]
  refine ⟨(byteEls_length l).symm, by rw [byteEls_length, byteEls_length, bytes_u8]; omega, ?_⟩
  (conv => whnf)
  rw [byteEls_length, byteEls_length, ← byteEls_append, ← List.length_append]
  exact h _

/-! ### a sum behind -/
def sum64 (s : B) : U := BitVec.ofNat 64 (Crc.sum s).toNat
def sum8 (s : B) : B := (hexB (sum64 s)).drop 8
def sealP (s : B) : B := s ++ [115, 117, 109, 32] ++ sum8 s ++ [10]
theorem hexB_length (n : U) : (hexB n).length = 16 := hexL_length _ _
theorem sum8_length (s : B) : (sum8 s).length = 8 := by simp [sum8, hexB_length]
theorem sealP_inj {s t : B} (h : sealP s = sealP t) : s = t := by
  have hl := congrArg List.length h
  simp only [sealP, List.length_append, sum8_length, List.length_cons, List.length_nil] at hl
  have h2 : s ++ ([115, 117, 109, 32] ++ sum8 s ++ [10]) = t ++ ([115, 117, 109, 32] ++ sum8 t ++ [10]) := by simpa [sealP] using h
  exact (List.append_inj h2 (by omega)).1
theorem sum_wrap (s : B) : IntKind.u64.wrap ((Crc.sum s).toNat : Int) = ((sum64 s).toNat : Int) := by
  have := (Crc.sum s).isLt
  show ((Crc.sum s).toNat : Int) % 18446744073709551616 = _
  unfold sum64
  rw [BitVec.toNat_ofNat]
  omega
theorem hex_from8 (n : U) : (ofB (hexB n)).extract (Int.toNat 8) (((ofB (hexB n)).size : Nat) : Int).toNat = ofB ((hexB n).drop 8) := by
  rw [ofB_extract, size_ofB, Int.toNat_natCast, List.take_length]
  rfl
theorem Sealed_calls (s : B) (hs : s.length < 10000000) {R} (h : ∀ d, d = ofB (sealP s) → R (.val (.string d)) []) : ACalls Tryd.prog 25 [vs s] [] R := by
  refine acalls_of_xwp (an := an25) tab_ok Tryd.func25 ?_
  (conv => whnf)
  refine Sum_calls s (by omega) ?_
  (conv => whnf)
  rw [sum_wrap]
  refine Hex_calls (sum64 s) fun d hd => ?_
  subst hd
  have h8 : ((8 : Int) ≤ ((ofB (hexB (sum64 s))).size : Nat)) := by rw [size_ofB, hexB_length]; omega
  (conv => whnf)
  refine must_intro (decide_eq_true h8) ?_
  (conv => whnf)
  rw [hex_from8]
  refine eJoin_calls [[115, 117, 109], (hexB (sum64 s)).drop 8] (by simp) (by rw [joinW_cons]; simp [hexB_length]) fun d hd => ?_
  have hds : d.size = 12 := by rw [hd, size_ofB, joinW_cons]; simp [hexB_length]
  have hss := size_ofB s
  (conv => whnf)
  refine must_intro (decide_eq_true (by omega)) ?_
  (conv => whnf)
  refine must_intro (decide_eq_true (by rw [ByteArray.size_append, show (ByteArray.mk #[10]).size = 1 from rfl]; omega)) ?_
  (conv => whnf)
  refine h _ ?_
  rw [hd]
  show ofB s ++ ofB _ ++ ofB [10] = _
  rw [ofB_append, ofB_append, joinW_cons]
  simp [sealP, sum8]
end Go.Abs
end

section
/- strconv.FormatUint(n, 10): the decimal digits (the table of powers of ten is laid). -/
set_option maxRecDepth 100000
set_option linter.unusedVariables false
set_option linter.unusedSimpArgs false
namespace Go.Abs
open Go Go.Proofs Go.Lib Go.Sort Go.RowKit

theorem numDigits_at (u : Nat) (h1 : 1 ≤ u) (h2 : u < 18446744073709551616) (w : World) (htab : ∀ o, o < 20 → w.cell? ⟨1, o, none⟩ = some (.int .u64 ((10 ^ o : Nat) : Int))) :
    Calls Tryd.prog 49 #[.int .u64 u] w fun e w' => e = .returned (.int .i64 (Lib.nDigits u)) ∧ w' = w := by
  obtain ⟨hnd, h19⟩ := Lib.numDigits_eq u h1 h2
  have hL : Lib.bitLen u ≤ 64 := Lib.bitLen_le u 64 (Nat.le_refl _) h2
  have hcell := htab (Lib.l10 (Lib.bitLen u)) (by omega)
  have hto : ((u : Int)).toNat = u := by omega
  generalize hq : Lib.l10 (Lib.bitLen u) = q at hnd h19 hcell
  generalize hT : 10 ^ q = T at hnd hcell
  have h20 : q < 20 := by omega
  have Hnd := Lib.hid hnd
  clear hnd htab
  go_enter Tryd.func49, Tryd.ntmps49
  go_wp2_with (first
    | (go_at_call 62; refine (Tryd.bits_Len64 _ _ (by omega) (by omega)).mono ?_; rintro e w' ⟨rfl, rfl⟩)
    | (go_at_call 61; refine (Tryd.internal_strconv_log10Pow2 _ (by first | exact hL | (rw [hto]; exact hL)) _).mono ?_; rintro e w' ⟨rfl, rfl⟩)
    | (go_at_call 63; refine (Tryd.internal_strconv_bool2_int _ _).mono ?_; rintro e w' ⟨rfl, rfl⟩))
  all_goals go_ret
  all_goals (
    refine ⟨?_, rfl⟩
    have hnd := Hnd.out
    congr 2
    split at hnd <;> simp_all <;> omega)

theorem holds_zero0 (w : World) (T : TypeId) (nd : Nat) (hs : nd ≤ 24) : Holds (fun (b : UInt8) => Value.int .u8 (b.toNat : Int)) (w.alloc (.cells Lib.zeros24 T)) w.heap.size 0 (Array.replicate nd (0 : UInt8)) := fun j hj => by
  have hj' : j < nd := by simpa using hj
  refine ⟨?_, World.frozen?_alloc_new _ _ _ _⟩
  rw [World.cell?_alloc_new, Nat.zero_add, Lib.zeros24_at _ (by omega), getElem!_pos _ j hj]
  simp
theorem fin_pos0 (w : World) (o : Obj) (dk : Array UInt8) (k : Nat) : ∃ os, (putRow (fun (b : UInt8) => Value.int .u8 (b.toNat : Int)) (w.alloc o) w.heap.size 0 dk).drewN k = grow (w.drewN k) os := by
  rw [alloc_eq_grow]
  obtain ⟨os', _, e⟩ := putRow_grow_new (fun (b : UInt8) => Value.int .u8 (b.toNat : Int)) w #[o] w.heap.size 0 dk (Nat.le_refl _)
  exact ⟨os', by rw [e]; rfl⟩

set_option maxHeartbeats 1000000 in
theorem formatUint_at (u : Nat) (hu64 : u < 18446744073709551616) (w : World) (htab : ∀ o, o < 20 → w.cell? ⟨1, o, none⟩ = some (.int .u64 ((10 ^ o : Nat) : Int))) (hg : 1 < w.heap.size) :
    Calls Tryd.prog 34 #[.int .u64 u, .int .i64 10] w fun e w' => e = .returned (.string ⟨(Lib.decDigits u).toArray⟩) ∧ ∃ k os, w' = grow (w.drewN k) os := by
  by_cases hs : u < 100
  · go_enter Tryd.func34, Tryd.ntmps34
    go_wp2_with (go_at_call 48; refine (Tryd.internal_strconv_small u hs _).mono ?_; rintro e w' ⟨rfl, rfl⟩)
    all_goals first
      | (exfalso; omega)
      | (go_ret
         exact ⟨rfl, 0, #[], by simp [World.drewN_zero]⟩)
  · have hu1 : 1 ≤ u := by omega
    have hnd20 : Lib.nDigits u ≤ 20 := by have := Lib.numDigits_eq u hu1 hu64; split at this <;> omega
    have hal : Tryd.prog.arrayLen 80 = 24 := by kernel_rfl
    have hsl1 : ∀ W, (Instr.sliceAt 80 (.pointer (some ⟨w.heap.size, 0, none⟩)) none (some (.int .i64 (Lib.nDigits u : Int))) none).run Tryd.prog W = .ok (.slice (some ⟨w.heap.size, 0, none⟩) (Lib.nDigits u) 24) W := fun W => by
      rw [run_sliceAt_array_h W 80 ⟨w.heap.size, 0, none⟩ (by simp [Program.arrayLen, Program.elem, Tryd.underlying80]) .i64 (Lib.nDigits u : Int) (by omega) (by rw [hal]; omega)]
      go_simp
    have hH0 := holds_zero0 w 80 (Lib.nDigits u) (by omega)
    have hfmt := Tryd.internal_strconv_formatBase10 w.heap.size 0 24 u (Array.replicate (Lib.nDigits u) 0) (w.alloc (.cells Lib.zeros24 80)) hH0 (by rw [Array.size_replicate]; exact Lib.lt_pow_nDigits u) hu64 (by rw [Array.size_replicate]; omega)
    rw [Array.size_replicate] at hfmt
    have htab2 : ∀ o, o < 20 → (w.alloc (.cells Lib.zeros24 80)).cell? ⟨1, o, none⟩ = some (.int .u64 ((10 ^ o : Nat) : Int)) := fun o ho => by
      rw [← htab o ho]
      simp only [World.cell?, Below.heap_alloc _ _ _ hg]
    have hnum := numDigits_at u hu1 hu64 _ htab2
    have HH0 := Lib.hid hH0
    clear hH0 hal htab htab2
    go_enter Tryd.func34, Tryd.ntmps34
    go_wp2_with (first
      | (go_at_call 49; refine hnum.mono ?_; rintro e w' ⟨rfl, rfl⟩))
    go_at_call 50
    refine hfmt.mono ?_
    rintro e w' ⟨rfl, k, v', dk, rfl, hF⟩
    have hcv : (convert 49 9 (.slice (some ⟨w.heap.size, 0, none⟩) (Lib.nDigits u) 24)).run Tryd.prog ((putRow (fun (b : UInt8) => Value.int .u8 (b.toNat : Int)) (w.alloc (.cells Lib.zeros24 80)) w.heap.size 0 dk).drewN k) = .ok (.string ⟨(Lib.decDigits u).toArray⟩) ((putRow (fun (b : UInt8) => Value.int .u8 (b.toNat : Int)) (w.alloc (.cells Lib.zeros24 80)) w.heap.size 0 dk).drewN k) := by
      have h := run_convert_bytes_back (P := Tryd.prog) ((putRow (fun (b : UInt8) => Value.int .u8 (b.toNat : Int)) (w.alloc (.cells Lib.zeros24 80)) w.heap.size 0 dk).drewN k) 49 9 5 ⟨w.heap.size, 0, none⟩ 24 (Lib.decDigits u) Tryd.underlying49 Tryd.underlying5 Tryd.underlying9 (fun j hj => by
        rw [Lib.row_is_numeral hF j hj, Lib.add_plain, World.cell?_drewN]
        exact cell?_putRow (fun (b : UInt8) => Value.int .u8 (b.toNat : Int)) _ w.heap.size 0 _ dk HH0.out (by rw [hF.size, Array.size_replicate]) j (by rw [hF.size]; rw [Lib.decDigits_length] at hj; exact hj))
      rw [Lib.decDigits_length] at h
      exact h
    go_wp2
    go_ret
    obtain ⟨os, eo⟩ := fin_pos0 w (.cells Lib.zeros24 80) dk k
    exact ⟨rfl, k, os, eo⟩

theorem FormatUint_calls (n : U) {R} (h : ∀ d, d = ofB (Lib.decDigits n.toNat) → R (.val (.string d)) []) : Go.Abs.ACalls Tryd.prog 15 [uv n, vi 10] [] R := by
  refine acalls_pure fun G w vals hW hA => ?_
  have hI := invS hW
  have hg := hW.glob.2
  have htab : ∀ o, o < 20 → w.cell? ⟨1, o, none⟩ = some (.int .u64 ((10 ^ o : Nat) : Int)) := fun o ho => hW.know _ _ _ (hg o ho)
  have hlt := hI.wr.kltb (hg 0 (by omega))
  simp only [RepL, Rep] at hA
  obtain ⟨_, _, rfl, rfl, _, _, rfl, rfl, rfl⟩ := hA
  refine ⟨_, _, h _ rfl, rfl, rfl, ?_⟩
  have key := formatUint_at n.toNat n.isLt w htab hlt
  have : Calls Tryd.prog 15 #[.int .u64 (n.toNat : Int), .int .i64 10] w fun e w' => e = .returned (.string ⟨(Lib.decDigits n.toNat).toArray⟩) ∧ ∃ k os, w' = grow (w.drewN k) os := by
    clear htab hW hI hg
    go_enter Tryd.func15, Tryd.ntmps15
    go_wp2_with (go_at_call 34; refine key.mono ?_; rintro e w' ⟨rfl, k, os, rfl⟩)
    go_ret
    exact ⟨rfl, k, os, rfl⟩
  refine this.mono ?_
  rintro e w' ⟨rfl, k, os, rfl⟩
  exact ⟨rfl, Lib.below_grow _ w (Nat.le_refl _) k os⟩
end Go.Abs
end

section
/- slices.Sort of texts: the kit's contract, told of a row whose elements may change. -/
set_option maxRecDepth 100000
set_option linter.unusedVariables false
set_option linter.unusedSimpArgs false
namespace Go.Abs
open Go Go.Proofs Go.Sort

end Go.Abs
end

section
/- Graphs: what is wrong with a node by itself; places. -/
set_option maxRecDepth 100000
set_option linter.unusedVariables false
set_option linter.unusedSimpArgs false
namespace Go.Abs
open Go Go.Proofs
attribute [local irreducible] ibits byteAt strLt firstIdx

theorem tblP_foldl : ∀ (l m : List B), (l.foldl tblP m).length ≤ m.length + l.length ∧ ((l.foldl tblP m).length = m.length + l.length ↔ l.Nodup ∧ ∀ x ∈ l, x ∉ m) := by
  intro l
  induction l with
  | nil => intro m; simp
  | cons a l ih =>
    intro m
    rw [List.foldl_cons]
    obtain ⟨h1, h2⟩ := ih (tblP m a)
    by_cases ha : a ∈ m
    · rw [tblP_some ha] at h1 h2 ⊢
      refine ⟨by simp; omega, ⟨fun h => by simp at h; omega, fun h => absurd ha (h.2 a (by simp))⟩⟩
    · rw [tblP_none ha] at h1 h2 ⊢
      simp only [List.length_append, List.length_cons, List.length_nil] at h1 h2 ⊢
      refine ⟨by omega, ?_⟩
      rw [show (List.foldl tblP (m ++ [a]) l).length = m.length + (l.length + 1) ↔ (List.foldl tblP (m ++ [a]) l).length = m.length + (0 + 1) + l.length by omega, h2]
      simp only [List.nodup_cons, List.mem_append, List.mem_cons, List.not_mem_nil, or_false, not_or]
      constructor
      · rintro ⟨g1, g2⟩
        exact ⟨⟨fun h => (g2 a h).2 rfl, g1⟩, fun x hx => by
          rcases hx with rfl | hx
          · exact ha
          · exact (g2 x hx).1⟩
      · rintro ⟨⟨g1, g2⟩, g3⟩
        exact ⟨g2, fun x hx => ⟨g3 x (.inr hx), fun e => g1 (e ▸ hx)⟩⟩
theorem tblN_len (l : List B) : ((tblN l).length : Int) = l.length ↔ l.Nodup := by
  have := (tblP_foldl l []).2
  unfold tblN
  rw [show (((List.foldl tblP [] l).length : Nat) : Int) = ((l.length : Nat) : Int) ↔ (List.foldl tblP [] l).length = ([] : List B).length + l.length by simp; omega, this]
  simp

def oneBad (n : Nd) : Bool := !nameOk n.name || (n.source && (decide (0 < n.deps.length) || !decide (n.rule = 0)))
def oneP (n : Nd) : Int := if oneBad n = true then 1 else if ¬ (n.name :: n.deps).Nodup then 1 else if 16 < n.deps.length then 5 else 0

theorem nodup_take {a : B} {l : List B} {i : Nat} (hi : i < l.length) : (a :: l.take (i + 1)).Nodup ↔ (a :: l.take i).Nodup ∧ l[i] ≠ a ∧ l[i] ∉ l.take i := by
  rw [List.take_succ_eq_append_getElem hi]
  simp only [List.nodup_cons, List.mem_append, List.mem_singleton, not_or, List.nodup_append, List.nodup_nil, and_true, List.not_mem_nil, not_false_eq_true]
  constructor
  · rintro ⟨⟨h1, h2⟩, h3, h4, h5⟩
    exact ⟨⟨h1, h3⟩, fun e => h2 e.symm, fun hm => h5 _ hm _ rfl rfl⟩
  · rintro ⟨⟨h1, h3⟩, h2, h5⟩
    exact ⟨⟨h1, fun e => h2 e.symm⟩, h3, trivial, fun x hx y hy e => h5 (by rw [← hy, ← e]; exact hx)⟩

/-! ### maps of texts, whatever stands in them -/
def KeyMap (Pv : AV → Prop) (es : List (ByteArray × AV)) (S : B → Prop) : Prop := ∀ s, (S s → ∃ v, mapFind es (ofB s) = some v ∧ Pv v) ∧ (¬ S s → mapFind es (ofB s) = none)
theorem mapFind_put (es : List (ByteArray × AV)) (k k' : ByteArray) (v : AV) : mapFind (mapPut es k v) k' = if k = k' then some v else mapFind es k' := by
  induction es with
  | nil => simp [mapPut, mapFind]
  | cons e es ih =>
    obtain ⟨s, u⟩ := e
    simp only [mapPut]
    by_cases h : s = k
    · subst h
      rw [if_pos rfl]
      simp only [mapFind]
      split <;> simp_all
    · rw [if_neg h]
      simp only [mapFind, ih]
      by_cases h1 : s = k'
      · subst h1
        rw [if_pos rfl, if_neg (Ne.symm h), if_pos rfl]
      · rw [if_neg h1, if_neg h1]
theorem KeyMap.nil (Pv : AV → Prop) : KeyMap Pv [] fun _ => False := fun s => ⟨fun h => h.elim, fun _ => rfl⟩
theorem KeyMap.put {Pv : AV → Prop} {es : List (ByteArray × AV)} {S S' : B → Prop} (h : KeyMap Pv es S) (k : B) {v : AV} (hv : Pv v) (hS : ∀ s, S' s ↔ S s ∨ s = k) : KeyMap Pv (mapPut es (ofB k) v) S' := by
  intro s
  rw [mapFind_put]
  by_cases e : k = s
  · subst e
    rw [if_pos rfl]
    exact ⟨fun _ => ⟨v, rfl, hv⟩, fun hn => absurd ((hS k).2 (.inr rfl)) hn⟩
  · rw [if_neg (fun e' => e (ofB_inj e'))]
    refine ⟨fun hs => (h s).1 (((hS s).1 hs).resolve_right (fun e' => e e'.symm)), fun hs => (h s).2 fun hs' => hs ((hS s).2 (.inl hs'))⟩

end Go.Abs
end

section
/- Graphs: the order. -/
set_option maxRecDepth 100000
set_option linter.unusedVariables false
set_option linter.unusedSimpArgs false
namespace Go.Abs
open Go Go.Proofs
attribute [local irreducible] ibits byteAt strLt firstIdx

/-- The name of a place. -/
def nm (l : List Nd) (i : Nat) : B := ((l[i]?).map (·.name)).getD []
theorem nm_eq {l : List Nd} {i : Nat} (h : i < l.length) : nm l i = l[i].name := by simp [nm, List.getElem?_eq_getElem h]
def dps (l : List Nd) (i : Nat) : List B := ((l[i]?).map (·.deps)).getD []
theorem dps_eq {l : List Nd} {i : Nat} (h : i < l.length) : dps l i = l[i].deps := by simp [dps, List.getElem?_eq_getElem h]
def ready (l : List Nd) (D : List B) (i : Nat) : Bool := decide (nm l i ∉ D) && decide (∀ d ∈ dps l i, d ∈ D)
def bstep (l : List Nd) (D : List B) (best : Option Nat) (i : Nat) : Option Nat :=
  if ready l D i = true ∧ (∀ b, best = some b → ltB (nm l i) (nm l b) = true) then some i else best
def best (l : List Nd) (D : List B) (k : Nat) : Option Nat := (List.range k).foldl (bstep l D) none
theorem best_succ (l : List Nd) (D : List B) (k : Nat) : best l D (k + 1) = bstep l D (best l D k) k := by simp [best, List.range_succ]
theorem best_some {l : List Nd} {D : List B} : ∀ {k b : Nat}, best l D k = some b → b < k ∧ ready l D b = true := by
  intro k
  induction k with
  | zero => intro b h; simp [best] at h
  | succ k ih =>
    intro b h
    rw [best_succ] at h
    unfold bstep at h
    split at h
    · rename_i hc
      simp only [Option.some.injEq] at h
      subst h
      exact ⟨by omega, hc.1⟩
    · have := ih h
      exact ⟨by omega, this.2⟩
def bestI (o : Option Nat) : Int := match o with | none => -1 | some b => b
def rowFrom (l : List Nd) : Nat → List Nat → List Nat
  | 0, out => out
  | k + 1, out => match best l (out.map (nm l)) l.length with
    | none => out
    | some b => rowFrom l k (out ++ [b])
def rowP (l : List Nd) : List Nat := rowFrom l l.length []

/-! ### closures over what is done -/
abbrev isT (v : AV) : Prop := v = .val (.bool true)
def small (l : List Nd) : Prop := l.length < 100000 ∧ ∀ n ∈ l, n.deps.length < 10000 ∧ n.name.length < 10000 ∧ ∀ d ∈ n.deps, d.length < 10000

end Go.Abs
end

section
/- Graphs: the document's order. -/
set_option maxRecDepth 100000
set_option linter.unusedVariables false
set_option linter.unusedSimpArgs false
namespace Go.Abs
open Go Go.Proofs
attribute [local irreducible] ibits byteAt strLt firstIdx

theorem nm_inj {l : List Nd} (hd : (l.map (·.name)).Nodup) {i j : Nat} (hi : i < l.length) (hj : j < l.length) (h : nm l i = nm l j) : i = j := by
  rw [nm_eq hi, nm_eq hj] at h
  have h1 : (l.map (·.name))[i]'(by simpa using hi) = (l.map (·.name))[j]'(by simpa using hj) := by simpa using h
  exact (List.getElem_inj hd).1 h1
theorem mem_out {l : List Nd} (hd : (l.map (·.name)).Nodup) {out : List Nat} (hb : ∀ b ∈ out, b < l.length) {i : Nat} (hi : i < l.length) : i ∈ out ↔ l[i].name ∈ out.map (nm l) := by
  rw [List.mem_map]
  constructor
  · exact fun h => ⟨i, h, nm_eq hi⟩
  · rintro ⟨j, hj, e⟩
    rw [← nm_eq hi] at e
    rw [← nm_inj hd (hb j hj) hi e]
    exact hj
/-- Stands the place of a name among the places that are out? -/
theorem place_out {l : List Nd} (hd : (l.map (·.name)).Nodup) {out : List Nat} (hb : ∀ b ∈ out, b < l.length) (d : B) : (∃ i ∈ out, (i : Int) = placeI (l.map (·.name)) d) ↔ d ∈ out.map (nm l) := by
  unfold placeI
  cases e : placeOf (l.map (·.name)) d with
  | none =>
    simp only
    refine ⟨fun ⟨i, _, hi⟩ => by omega, fun h => ?_⟩
    obtain ⟨j, hj, e'⟩ := List.mem_map.1 h
    rw [nm_eq (hb j hj)] at e'
    exact absurd (List.mem_map.2 ⟨_, List.getElem_mem (hb j hj), e'⟩) (placeOf_none.1 e)
  | some p =>
    simp only
    obtain ⟨h1, h2⟩ := placeOf_some e
    have hp : p < l.length := by
      have := (List.getElem?_eq_some_iff.1 h1).1
      simpa using this
    have hn : l[p].name = d := by
      rw [List.getElem?_map, List.getElem?_eq_getElem hp] at h1
      simpa using h1
    rw [← hn, ← mem_out hd hb hp]
    exact ⟨fun ⟨i, hi, e⟩ => by have : i = p := by omega
                                rwa [← this], fun h => ⟨p, h, rfl⟩⟩

end Go.Abs
end

section
/- Graphs: what is wrong with nodes. -/
set_option maxRecDepth 100000
set_option linter.unusedVariables false
set_option linter.unusedSimpArgs false
namespace Go.Abs
open Go Go.Proofs
attribute [local irreducible] ibits byteAt strLt firstIdx

/-- What is wrong with nodes, one by one. -/
def chk1 : List Nd → List B → Int
  | [], _ => 0
  | n :: r, seen => if n.name ∈ seen then 1 else if oneP n ≠ 0 then oneP n else chk1 r (seen ++ [n.name])
def depsOk (l : List Nd) : Bool := l.all fun n => n.deps.all fun d => decide (d ∈ l.map (·.name))
def checkP (l : List Nd) : Int := if 64 < l.length then 5 else if chk1 l [] ≠ 0 then chk1 l [] else if depsOk l = false then 6 else if (rowP l).length < l.length then 9 else 0
theorem chk1_nodup : ∀ (l : List Nd) (seen : List B), chk1 l seen = 0 → (l.map (·.name)).Nodup ∧ ∀ n ∈ l, n.name ∉ seen := by
  intro l
  induction l with
  | nil => intro seen _; simp
  | cons n r ih =>
    intro seen h
    unfold chk1 at h
    split at h
    · cases h
    · rename_i hn
      split at h
      · rename_i h0; exact absurd h h0
      · obtain ⟨h1, h2⟩ := ih _ h
        refine ⟨?_, fun m hm => ?_⟩
        · rw [List.map_cons, List.nodup_cons]
          refine ⟨fun hm => ?_, h1⟩
          obtain ⟨m, hm, e⟩ := List.mem_map.1 hm
          exact h2 m hm (by rw [e]; simp)
        · rw [List.mem_cons] at hm
          rcases hm with rfl | hm
          · exact hn
          · exact fun hs => h2 m hm (by simp [hs])
/-- On from a place. -/
theorem chk1_drop {l : List Nd} {i : Nat} (hi : i < l.length) (seen : List B) : chk1 (l.drop i) seen = if l[i].name ∈ seen then 1 else if oneP l[i] ≠ 0 then oneP l[i] else chk1 (l.drop (i + 1)) (seen ++ [l[i].name]) := by
  rw [List.drop_eq_getElem_cons hi, chk1]
def names (l : List Nd) : List B := l.map (·.name)
theorem names_take {l : List Nd} {i : Nat} (hi : i < l.length) : names (l.take (i + 1)) = names (l.take i) ++ [l[i].name] := by
  unfold names
  rw [List.take_succ_eq_append_getElem hi, List.map_append]
  rfl

theorem depsOk_false {l : List Nd} {i j : Nat} (hi : i < l.length) (hj : j < l[i].deps.length) (h : l[i].deps[j] ∉ names l) : depsOk l = false := by
  unfold depsOk
  apply Bool.eq_false_iff.2
  intro hall
  have := List.all_eq_true.1 (List.all_eq_true.1 hall _ (List.getElem_mem hi)) _ (List.getElem_mem hj)
  exact h (of_decide_eq_true this)
theorem depsOk_true {l : List Nd} (h : ∀ n ∈ l, ∀ d ∈ n.deps, d ∈ names l) : depsOk l = true := by
  unfold depsOk
  rw [List.all_eq_true]
  intro n hn
  rw [List.all_eq_true]
  intro d hd
  exact decide_eq_true (h n hn d hd)


end Go.Abs
end

section
/- The statement GraphChecks: the document's check, the order, the statement. -/
set_option maxRecDepth 100000
set_option linter.unusedVariables false
set_option linter.unusedSimpArgs false
namespace Go.Abs
open Go Go.Proofs
attribute [local irreducible] ibits byteAt strLt firstIdx

/-- The order, or none. -/
def orderP (l : List Nd) : List Nat := if checkP l = 0 then rowP l else []
def fixNd : List Nd := [⟨[98], false, 0, [[97]]⟩, ⟨[97], true, 0, []⟩]
theorem fix_order : orderP fixNd = [1, 0] := by decide +kernel
theorem fix_check : checkP fixNd = 0 := by decide +kernel
theorem fix_small : small fixNd := by
  refine ⟨by decide, ?_⟩
  simp [fixNd]
theorem typed_strs {n : Nat} {l : List (List AV)} (h : ∀ x ∈ l, Typed tab (n + 1) 9 x) : ∃ m : List B, l = strs m := by
  induction l with
  | nil => exact ⟨[], rfl⟩
  | cons x l ih =>
    obtain ⟨m, rfl⟩ := ih fun y hy => h y (by simp [hy])
    obtain ⟨s, rfl, hs⟩ : ∃ s : ByteArray, x = [.val (.string s)] ∧ s.size ≤ maxLen := h x (by simp)
    exact ⟨bs s :: m, by simp only [strs, List.map_cons, vs, ofB_bs]⟩
end Go.Abs
end

section
/- Records: their cells; the document's Same; Great. -/
set_option maxRecDepth 100000
set_option linter.unusedVariables false
set_option linter.unusedSimpArgs false
namespace Go.Abs
open Go Go.Proofs Dig
attribute [local irreducible] ibits byteAt strLt firstIdx

structure Dp where
  name : B
  hash : U
  order : Bool
  deriving DecidableEq
def Dp.enc (d : Dp) : List AV := [vs d.name, uv d.hash, .val (.bool d.order)]
def dpsA (l : List Dp) : List (List AV) := l.map Dp.enc
theorem dpsA_length (l : List Dp) : (dpsA l).length = l.length := by simp [dpsA]
structure Rc where
  kind : Int
  target : B
  rule : U
  deps : List Dp
  out : U
  wen : U
  tag : B
  deriving DecidableEq
def Rc.enc (r : Rc) : List AV := [vi r.kind, vs r.target, uv r.rule, .sl none 3 (dpsA r.deps), uv r.out, uv r.wen, vs r.tag]
def recs (l : List Rc) : List (List AV) := l.map Rc.enc
theorem recs_length (l : List Rc) : (recs l).length = l.length := by simp [recs]

theorem Great8_calls (r : Rc) (hr : r.deps.length ≤ maxLen) {R} (h : ∀ b : Bool, (b = false → r.deps.length ≤ 60 ∧ r.target.length ≤ 300 ∧ r.tag.length ≤ 300 ∧ ∀ d ∈ r.deps, d.name.length ≤ 300) → R (.val (.bool b)) []) :
    ACalls Tryd.prog 4 [.agg r.enc] [] R := by
  refine acalls_of_xwp (an := an4) tab_ok Tryd.func4 ?_
  have hsl := dpsA_length r.deps
  have hmx : maxLen ≤ 9223372036854775807 := by decide
  have yes : R (.val (.bool true)) [] := h true (fun e => by cases e)
  (conv => whnf)
  refine LoopP.ind1 (fun (i : Nat) => [(8, vi i)]) (fun _ => []) (fun i => r.deps.length - i) (fun i => i ≤ r.deps.length ∧ ∀ d ∈ r.deps.take i, d.name.length ≤ 300) 0 rfl ⟨by omega, by simp⟩ ?_
  rintro i ⟨h0, hdo⟩ IH
  (conv => whnf)
  refine br_intro (fun hc => ?_) (fun hc => ?_)
  · have hc := lt_of_decE hsl hc
    (conv => whnf); (repeat ((with_reducible refine must_intro ?_ ?_); exact decide_eq_true (by omega); (conv => whnf)))
    refine idxK_map_intro (show (i : Int).toNat < r.deps.length by simpa using hc) ?_
    rw [show r.deps[(i : Int).toNat]'(by simpa using hc) = r.deps[i] from by congr 1]
    have hsn := size_ofB r.deps[i].name
    (conv => whnf)
    rw [hsn]
    refine br_intro (fun g => ?_) (fun g => ?_)
    · (conv => whnf)
      exact yes
    have g : r.deps[i].name.length ≤ 300 := by simp at g; omega
    (conv => whnf)
    rw [wrap_i64 (by omega) (by omega), show ((i : Int) + 1) = ((i + 1 : Nat) : Int) by omega]
    refine IH (i + 1) ⟨by omega, fun d hd => ?_⟩ (by omega)
    rw [List.take_succ_eq_append_getElem hc, List.mem_append, List.mem_singleton] at hd
    rcases hd with hd | rfl
    · exact hdo d hd
    · exact g
  · have hc := ge_of_decE hsl hc
    rw [List.take_of_length_le hc] at hdo
    have hst := size_ofB r.target
    have hsg := size_ofB r.tag
    (conv => whnf)
    rw [hsl]
    refine br_intro (fun g1 => ?_) (fun g1 => ?_)
    · (conv => whnf)
      exact yes
    have g1 : r.deps.length ≤ 60 := by simp at g1; omega
    (conv => whnf)
    rw [hst]
    refine br_intro (fun g2 => ?_) (fun g2 => ?_)
    · (conv => whnf)
      exact yes
    have g2 : r.target.length ≤ 300 := by simp at g2; omega
    (conv => whnf)
    rw [hsg]
    refine h _ fun e => ⟨g1, g2, ?_, hdo⟩
    simp at e
    omega

theorem typed_dep {n : Nat} {x : List AV} (h : Typed tab (n + 3) 35 x) : ∃ d : Dp, x = d.enc := by
  obtain ⟨a1, r1, rfl, ⟨s, rfl, hs⟩, a2, r2, rfl, ⟨u, rfl, hu⟩, a3, r3, rfl, ⟨b, rfl⟩, rfl⟩ : ∃ a r, x = a ++ r ∧ (∃ s : ByteArray, a = [.val (.string s)] ∧ s.size ≤ maxLen) ∧
      ∃ a r', r = a ++ r' ∧ (∃ y, a = [.val (.int .u64 y)] ∧ (Lit.int .u64 y).wf = true) ∧ ∃ a r'', r' = a ++ r'' ∧ (∃ b, a = [.val (.bool b)]) ∧ r'' = [] := h
  refine ⟨⟨bs s, BitVec.ofInt 64 u, b⟩, ?_⟩
  simp only [Dp.enc, vs, ofB_bs, uv, List.cons_append, List.nil_append]
  rw [← wf_u64 hu]
theorem typed_deps {n : Nat} {l : List (List AV)} (h : ∀ x ∈ l, Typed tab (n + 3) 35 x) : ∃ m : List Dp, l = dpsA m := by
  induction l with
  | nil => exact ⟨[], rfl⟩
  | cons x l ih =>
    obtain ⟨m, rfl⟩ := ih fun y hy => h y (by simp [hy])
    obtain ⟨d, rfl⟩ := typed_dep (h x (by simp))
    exact ⟨d :: m, rfl⟩
theorem typed_rec {n : Nat} {x : List AV} (h : Typed tab (n + 6) 25 x) : ∃ r : Rc, x = r.enc ∧ r.deps.length ≤ maxLen ∧ (Lit.int .i64 r.kind).wf = true := by
  obtain ⟨a0, r0, rfl, ⟨k, rfl, hk⟩, a1, r1, rfl, ⟨s, rfl, hs⟩, a2, r2, rfl, ⟨u, rfl, hu⟩, a3, r3, rfl, ⟨l, rfl, hl, hx⟩, a4, r4, rfl, ⟨o, rfl, ho⟩, a5, r5, rfl, ⟨w, rfl, hw⟩, a6, r6, rfl, ⟨t, rfl, ht⟩, rfl⟩ :
      ∃ a r, x = a ++ r ∧ (∃ y, a = [.val (.int .i64 y)] ∧ (Lit.int .i64 y).wf = true) ∧ ∃ a r', r = a ++ r' ∧ (∃ s : ByteArray, a = [.val (.string s)] ∧ s.size ≤ maxLen) ∧
      ∃ a r'', r' = a ++ r'' ∧ (∃ y, a = [.val (.int .u64 y)] ∧ (Lit.int .u64 y).wf = true) ∧
      ∃ a r3, r'' = a ++ r3 ∧ (∃ l : List (List AV), a = [.sl none 3 l] ∧ l.length ≤ maxLen ∧ ∀ x ∈ l, Typed tab (n + 4) 35 x) ∧
      ∃ a r4, r3 = a ++ r4 ∧ (∃ y, a = [.val (.int .u64 y)] ∧ (Lit.int .u64 y).wf = true) ∧
      ∃ a r5, r4 = a ++ r5 ∧ (∃ y, a = [.val (.int .u64 y)] ∧ (Lit.int .u64 y).wf = true) ∧
      ∃ a r6, r5 = a ++ r6 ∧ (∃ s : ByteArray, a = [.val (.string s)] ∧ s.size ≤ maxLen) ∧ r6 = [] := h
  obtain ⟨m, rfl⟩ := typed_deps (n := n + 1) hx
  refine ⟨⟨k, bs s, BitVec.ofInt 64 u, m, BitVec.ofInt 64 o, BitVec.ofInt 64 w, bs t⟩, ?_, by simpa [dpsA] using hl, hk⟩
  simp only [Rc.enc, vs, vi, ofB_bs, uv, List.cons_append, List.nil_append]
  rw [← wf_u64 hu, ← wf_u64 ho, ← wf_u64 hw]
theorem typed_recs {n : Nat} {l : List (List AV)} (h : ∀ x ∈ l, Typed tab (n + 6) 25 x) : ∃ m : List Rc, l = recs m ∧ ∀ r ∈ m, r.deps.length ≤ maxLen := by
  induction l with
  | nil => exact ⟨[], rfl, by simp⟩
  | cons x l ih =>
    obtain ⟨m, rfl, hm⟩ := ih fun y hy => h y (by simp [hy])
    obtain ⟨r, rfl, hr, _⟩ := typed_rec (h x (by simp))
    exact ⟨r :: m, rfl, by
      intro y hy
      rw [List.mem_cons] at hy
      rcases hy with rfl | hy
      · exact hr
      · exact hm y hy⟩
theorem args_recs {ts : List TypeId} {l : List AV} (h : Args tab 12 (46 :: ts) l) : ∃ (x : List Rc) (l' : List AV), l = .sl none 7 (recs x) :: l' ∧ x.length ≤ maxLen ∧ (∀ r ∈ x, r.deps.length ≤ maxLen) ∧ Args tab 12 ts l' := by
  obtain ⟨a, l', rfl, h1, h2⟩ := h
  obtain ⟨x, e, hl, hx⟩ : ∃ x : List (List AV), [a] = [.sl none 7 x] ∧ x.length ≤ maxLen ∧ ∀ y ∈ x, Typed tab 11 25 y := h1
  obtain ⟨m, rfl, hm⟩ := typed_recs (n := 5) hx
  simp only [List.cons.injEq, and_true] at e
  subst e
  exact ⟨m, l', rfl, by simpa [recs] using hl, hm, h2⟩
end Go.Abs
end

section
/- dirty.Trace, Hashes, and the document's. -/
set_option maxRecDepth 100000
set_option linter.unusedVariables false
set_option linter.unusedSimpArgs false
namespace Go.Abs
open Go Go.Proofs Dig
attribute [local irreducible] ibits byteAt strLt firstIdx

theorem nums_len (l : List U) : (nums l).length = l.length := by simp [nums]
def depsOf : List B → List U → List Dp
  | n :: ns, h :: hs => ⟨n, h, false⟩ :: depsOf ns hs
  | _, _ => []
theorem depsOf_length {ns : List B} {hs : List U} (h : hs.length = ns.length) : (depsOf ns hs).length = ns.length := by
  induction ns generalizing hs with
  | nil => rfl
  | cons n ns ih =>
    cases hs with
    | nil => simp at h
    | cons x hs => simp [depsOf, ih (by simpa using h)]
theorem depsOf_take {ns : List B} {hs : List U} (h : hs.length = ns.length) {i : Nat} (hi : i < ns.length) :
    depsOf (ns.take (i + 1)) (hs.take (i + 1)) = depsOf (ns.take i) (hs.take i) ++ [⟨ns[i], hs[i], false⟩] := by
  induction ns generalizing hs i with
  | nil => simp at hi
  | cons n ns ih =>
    cases hs with
    | nil => simp at h
    | cons x hs =>
      cases i with
      | zero => simp [depsOf]
      | succ i => simp [depsOf, ih (hs := hs) (i := i) (by simpa using h) (by simpa using hi)]
def zeroR : Rc := ⟨0, [], 0, [], 0, 0, []⟩
def traceBad (n : Nd) (hs : List U) : Bool := n.source || decide (hs.length ≠ n.deps.length)
def traceP (n : Nd) (hs : List U) (c w : U) : Rc := if traceBad n hs = true then zeroR else ⟨1, n.name, n.rule, depsOf n.deps hs, dig c, w, []⟩
def traceE (n : Nd) (hs : List U) : Int := if traceBad n hs = true then 1 else 0
theorem le_zeroR : leL [.val (.int .i64 0), .val (.string ⟨#[]⟩), .val (.int .u64 0), .val (.slice none 0 0), .val (.int .u64 0), .val (.int .u64 0), .val (.string ⟨#[]⟩)] zeroR.enc :=
  leL.cons (.refl _) (leL.cons (.refl _) (leL.cons (.refl _) (leL.cons (le_nil 3) (leL.refl _))))

end Go.Abs
end

section
/- slices.Clone of deps, record.Clone; slices.Backward's closure (records): its contract as an iterator. -/
set_option maxRecDepth 100000
set_option maxHeartbeats 2000000
set_option linter.unusedVariables false
set_option linter.unusedSimpArgs false
namespace Go.Abs
open Go Go.Proofs Go.RowKit
attribute [local go_sem] Oper.semAt_some

def backsR (l : List Rc) : List (List AV) := l.zipIdx.reverse.map fun p => [.val (.int .i64 p.2), .agg p.1.enc]
theorem Rc.enc_ok (r : Rc) : okCells r.enc = true := rfl

end Go.Abs
end
