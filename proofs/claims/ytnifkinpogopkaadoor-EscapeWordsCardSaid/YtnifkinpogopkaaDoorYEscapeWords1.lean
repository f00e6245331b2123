/- Several texts of this claim, one behind the other: D5, E1, L0, E8, D1, D2, C2, D6, E2, E9, SH, M2, EA, D3, D4, D7, EB, EC, M5. -/
import Derived.Test.YtnifkinpogopkaaDoorB9
import Derived.Test.YtnifkinpogopkaaDoorAT
import Derived.Test.YtnifkinpogopkaaDoorAN
import Derived.Sort.OwnSorted
import Derived.Below
import Derived.Shelf.RegionOpenPlain
import Derived.Lib.Builder
import Derived.Lib.UnsafeStr
import Derived.Lib.Strings
import Derived.Lib.Slices
import Derived.Lib.Walk
import Derived.Test.YtnifkinpogopkaaDoorC1
import Derived.Shelf.Strings.Builder1
import Derived.Shelf.Strings.Builder2
import Derived.Shelf.Strings.OnBuilder
import Derived.Shelf.Strconv.Itoa0
import Derived.Shelf.Strconv.Itoa1
import Derived.Shelf.LaysM
import Derived.Shelf.Strconv.Itoa2
import Derived.Shelf.Strconv.Itoa3
import Derived.Shelf.Strings.Search1
import Derived.Shelf.Strings.Search2
import Derived.Shelf.Strings.Search3
import Derived.Shelf.Strings.Count
import Derived.Shelf.Strings.Shaped
import Derived.Shelf.Strings.Prefix
import Derived.Shelf.Strings.Split
import Derived.Shelf.Unicode.DecodeSlow
import Derived.Test.YtnifkinpogopkaaDoorProg
import Derived.Lib.Join
import Derived.Lib.SplitLaws

section
/- Words for texts: a text is a row of bytes. -/
set_option maxRecDepth 100000
set_option linter.unusedVariables false
set_option linter.unusedSimpArgs false
namespace Go.Abs
open Go Go.Proofs

abbrev B := List UInt8
def ofB (l : B) : ByteArray := ⟨l.toArray⟩
def bs (s : ByteArray) : B := s.data.toList
theorem bs_ofB (l : B) : bs (ofB l) = l := by simp [bs, ofB]
theorem ofB_bs (s : ByteArray) : ofB (bs s) = s := by simp [bs, ofB]
theorem bs_inj {s t : ByteArray} (h : bs s = bs t) : s = t := by rw [← ofB_bs s, h, ofB_bs]
theorem ofB_inj {l m : B} (h : ofB l = ofB m) : l = m := by rw [← bs_ofB l, h, bs_ofB]
theorem ofB_eq {l m : B} : ofB l = ofB m ↔ l = m := ⟨ofB_inj, fun h => by rw [h]⟩
theorem bs_append (s t : ByteArray) : bs (s ++ t) = bs s ++ bs t := by simp [bs]
theorem ofB_append (l m : B) : ofB l ++ ofB m = ofB (l ++ m) := bs_inj (by rw [bs_append, bs_ofB, bs_ofB, bs_ofB])
theorem size_bs (s : ByteArray) : s.size = (bs s).length := by simp [bs]
theorem size_ofB (l : B) : (ofB l).size = l.length := by rw [size_bs, bs_ofB]
theorem bs_extract (s : ByteArray) (a b : Nat) : bs (s.extract a b) = ((bs s).take b).drop a := by
  simp [bs, ByteArray.data_extract, List.drop_take]
theorem ofB_extract (l : B) (a b : Nat) : (ofB l).extract a b = ofB ((l.take b).drop a) := bs_inj (by rw [bs_extract, bs_ofB, bs_ofB])
theorem byteAt_ofB (l : B) {i : Nat} (h : i < l.length) : byteAt (ofB l) i = ((l[i]).toNat : Int) := by
  have hs : i < (ofB l).size := by rw [size_ofB]; exact h
  unfold byteAt
  rw [dif_pos hs]
  rfl
theorem strOfNums_ofB (l : B) : strOfNums (l.map fun b => (b.toNat : Int)) = ofB l := bs_inj (by
  rw [bs_ofB]
  show (strOfNums _).data.toList = _
  rw [strOfNums_data, List.map_map]
  conv => rhs; rw [← List.map_id l]
  refine List.map_congr_left fun b _ => ?_
  simp)
theorem u8_back (b : UInt8) : ((b.toNat : Int)).toNat.toUInt8 = b := by simp
theorem u8_inj {a b : UInt8} : ((a.toNat : Int) = (b.toNat : Int)) ↔ a = b := ⟨fun h => UInt8.toNat_inj.1 (by omega), fun h => by rw [h]⟩

/-! ### hexadecimal digits -/
def signsB : B := [48, 49, 50, 51, 52, 53, 54, 55, 56, 57, 97, 98, 99, 100, 101, 102]
def hexc (d : Nat) : UInt8 := if d < 10 then UInt8.ofNat (48 + d) else UInt8.ofNat (87 + d)
def hexv (c : UInt8) : Option Nat := if 48 ≤ c.toNat ∧ c.toNat ≤ 57 then some (c.toNat - 48) else if 97 ≤ c.toNat ∧ c.toNat ≤ 102 then some (c.toNat - 87) else none
def hexi (c : UInt8) : Int := match hexv c with | some d => d | none => -1
theorem idx_signs0 : (List.range 256).all (fun n => decide (firstIdx (ofB signsB) (UInt8.ofNat n) = hexi (UInt8.ofNat n))) = true := by decide +kernel
theorem idx_signs (c : UInt8) : firstIdx (ofB signsB) c = hexi c := by
  have h := List.all_eq_true.1 idx_signs0 c.toNat (List.mem_range.2 c.toNat_lt)
  simpa using h
theorem at_signs0 : (List.range 16).all (fun d => decide (byteAt (ofB signsB) d = ((hexc d).toNat : Int))) = true := by decide +kernel
theorem at_signs {d : Nat} (h : d < 16) : byteAt (ofB signsB) d = ((hexc d).toNat : Int) := by
  have h := List.all_eq_true.1 at_signs0 d (List.mem_range.2 h)
  simpa using h
theorem hexv_hexc0 : (List.range 16).all (fun d => decide (hexv (hexc d) = some d)) = true := by decide +kernel
theorem hexv_hexc {d : Nat} (h : d < 16) : hexv (hexc d) = some d := by
  have h := List.all_eq_true.1 hexv_hexc0 d (List.mem_range.2 h)
  simpa using h
theorem hexc_hexv {c : UInt8} {d : Nat} (h : hexv c = some d) : hexc d = c ∧ d < 16 := by
  have key : (List.range 256).all (fun n => match hexv (UInt8.ofNat n) with | some d => decide (hexc d = UInt8.ofNat n ∧ d < 16) | none => true) = true := by decide +kernel
  have h1 := List.all_eq_true.1 key c.toNat (List.mem_range.2 c.toNat_lt)
  rw [show UInt8.ofNat c.toNat = c by simp, h] at h1
  simpa using h1

theorem and15 {x : Int} (h0 : 0 ≤ x) (h1 : x < 18446744073709551616) : ibits .and .u64 x 15 = x % 16 := by
  obtain ⟨n, rfl⟩ := Int.eq_ofNat_of_zero_le h0
  have hn : n < 18446744073709551616 := by omega
  have e1 : BitVec.ofInt IntKind.u64.bits (n : Int) = BitVec.ofNat 64 n := by
    show BitVec.ofInt 64 (n : Int) = _
    simp
  have e2 : BitVec.ofInt IntKind.u64.bits 15 = BitVec.ofNat 64 15 := rfl
  simp only [ibits]
  rw [e1, e2, wrap_u64]
  have : ((BitVec.ofNat 64 n &&& BitVec.ofNat 64 15 : BitVec 64)).toNat = n % 16 := by
    rw [BitVec.toNat_and, BitVec.toNat_ofNat, BitVec.toNat_ofNat, Nat.mod_eq_of_lt (show n < 2 ^ 64 by simpa using hn), show 15 % 2 ^ 64 = 2 ^ 4 - 1 from rfl, Nat.and_two_pow_sub_one_eq_mod]
  show (((BitVec.ofNat 64 n &&& BitVec.ofNat 64 15 : BitVec 64).toNat : Int)) % _ = _
  rw [this]
  omega
theorem fdiv_nat (n k : Nat) : ((n : Int)).fdiv (2 ^ k) = ((n / 2 ^ k : Nat) : Int) := by
  rw [Int.fdiv_eq_ediv_of_nonneg _ (by exact Int.le_of_lt (Int.pow_pos (by omega)))]
  simp
theorem and15_of (h : U) (e : Nat) : ibits .and .u64 ((h.toNat : Int).fdiv (2 ^ e)) 15 = ((h.toNat / 2 ^ e % 16 : Nat) : Int) := by
  rw [fdiv_nat, and15 (Int.natCast_nonneg _) (by have := h.isLt; have := Nat.div_le_self h.toNat (2 ^ e); omega)]
  omega

/-- The last 'k' digits. -/
def hexL (n : Nat) : Nat → B
  | 0 => []
  | k + 1 => hexc (n / 16 ^ k % 16) :: hexL n k
theorem hexL_length (n : Nat) : ∀ k, (hexL n k).length = k := by
  intro k
  induction k with
  | zero => rfl
  | succ k ih => simp [hexL, ih]
def hexB (h : U) : B := hexL h.toNat 16
/-- What digits tell: on from a number. -/
def readL : B → Nat → Option Nat
  | [], n => some n
  | c :: l, n => match hexv c with
    | some d => readL l (16 * n + d)
    | none => none
def readB (s : B) : Option U := if s.length = 16 then (readL s 0).map (BitVec.ofNat 64) else none
theorem readL_lt : ∀ (s : B) (n k m : Nat), readL s n = some m → n < 16 ^ k → m < 16 ^ (k + s.length) := by
  intro s
  induction s with
  | nil => intro n k m h hn; simp only [readL, Option.some.injEq] at h; subst h; simpa using hn
  | cons c s ih =>
    intro n k m h hn
    simp only [readL] at h
    split at h
    · rename_i d hd
      have := (hexc_hexv hd).2
      have := ih (16 * n + d) (k + 1) m h (by rw [Nat.pow_succ]; omega)
      rw [List.length_cons, show k + (s.length + 1) = k + 1 + s.length by omega]; exact this
    · cases h
theorem readL_hexL (n : Nat) : ∀ (k m : Nat), readL (hexL n k) m = some (16 ^ k * m + n % 16 ^ k) := by
  intro k
  induction k with
  | zero => intro m; simp [readL, hexL, Nat.mod_one]
  | succ k ih =>
    intro m
    simp only [readL, hexL]
    rw [hexv_hexc (Nat.mod_lt _ (by omega))]
    simp only
    rw [ih]
    congr 1
    have e : n % 16 ^ (k + 1) = n % 16 ^ k + 16 ^ k * (n / 16 ^ k % 16) := by rw [Nat.pow_succ, Nat.mod_mul]
    rw [e, Nat.pow_succ, Nat.mul_add, ← Nat.mul_assoc]
    omega
theorem hexL_readL : ∀ (s : B) (n m : Nat), readL s n = some m → hexL m s.length = s ∧ m / 16 ^ s.length = n := by
  intro s
  induction s with
  | nil => intro n m h; simp only [readL, Option.some.injEq] at h; subst h; simp [hexL]
  | cons c s ih =>
    intro n m h
    simp only [readL] at h
    split at h
    · rename_i d hd
      obtain ⟨h1, h2⟩ := hexc_hexv hd
      obtain ⟨h3, h4⟩ := ih _ _ h
      refine ⟨?_, ?_⟩
      · rw [List.length_cons, hexL, h3, h4, show (16 * n + d) % 16 = d by omega, h1]
      · rw [List.length_cons, Nat.pow_succ, ← Nat.div_div_eq_div_mul, h4]; omega
    · cases h
theorem readB_hexB (h : U) : readB (hexB h) = some h := by
  unfold readB hexB
  rw [if_pos (hexL_length _ _), readL_hexL]
  simp only [Option.map_some, Option.some.injEq]
  apply BitVec.eq_of_toNat_eq
  have := h.isLt
  simp
  omega
theorem hexB_readB {s : B} {h : U} (e : readB s = some h) : hexB h = s := by
  unfold readB at e
  split at e
  · rename_i hl
    obtain ⟨m, h1, rfl⟩ := Option.map_eq_some_iff.1 e
    have h2 := readL_lt s 0 0 m h1 (by simp)
    rw [hl] at h2
    have h3 := (hexL_readL s 0 m h1).1
    rw [hl] at h3
    unfold hexB
    rw [BitVec.toNat_ofNat, Nat.mod_eq_of_lt (by simpa using h2), h3]
  · cases e
end Go.Abs
end

section
/- Tables of texts (intern): the functions. -/
set_option maxRecDepth 100000
set_option linter.unusedVariables false
set_option linter.unusedSimpArgs false
namespace Go.Abs
open Go Go.Proofs
attribute [local irreducible] ibits byteAt strLt firstIdx

def vs (s : B) : AV := .val (.string (ofB s))
def vi (i : Int) : AV := .val (.int .i64 i)
def strs (l : List B) : List (List AV) := l.map fun s => [vs s]
theorem strs_length (l : List B) : (strs l).length = l.length := by simp [strs]
theorem strs_append (l m : List B) : strs (l ++ m) = strs l ++ strs m := by simp [strs]

/-! ### maps of texts, by the order in which they came -/
def tblFrom : List B → Nat → List (ByteArray × AV)
  | [], _ => []
  | s :: l, i => (ofB s, vi i) :: tblFrom l (i + 1)
theorem tblFrom_append (l : List B) (s : B) : ∀ i, tblFrom (l ++ [s]) i = tblFrom l i ++ [(ofB s, vi (i + l.length))] := by
  induction l with
  | nil => intro i; simp [tblFrom]
  | cons a l ih => intro i; simp [tblFrom, ih, Int.add_assoc]; congr 2; omega
theorem mapFind_none {l : List B} {s : B} (h : s ∉ l) : ∀ i, mapFind (tblFrom l i) (ofB s) = none := by
  induction l with
  | nil => intro i; rfl
  | cons a l ih =>
    intro i
    simp only [List.mem_cons, not_or] at h
    simp only [tblFrom, mapFind]
    rw [if_neg (fun e => h.1 (ofB_inj e).symm)]
    exact ih h.2 _
theorem mapFind_some {l : List B} {s : B} (h : s ∈ l) : ∀ i, ∃ j : Int, mapFind (tblFrom l i) (ofB s) = some (vi j) := by
  induction l with
  | nil => cases h
  | cons a l ih =>
    intro i
    simp only [tblFrom, mapFind]
    by_cases e : a = s
    · subst e; rw [if_pos rfl]; exact ⟨_, rfl⟩
    · rw [if_neg (fun e' => e (ofB_inj e'))]
      exact ih (by simpa [Ne.symm e, eq_comm] using h) _
theorem mapPut_new {l : List B} {s : B} {v : AV} (h : s ∉ l) : ∀ i, mapPut (tblFrom l i) (ofB s) v = tblFrom l i ++ [(ofB s, v)] := by
  induction l with
  | nil => intro i; rfl
  | cons a l ih =>
    intro i
    simp only [List.mem_cons, not_or] at h
    simp only [tblFrom, mapPut]
    rw [if_neg (fun e => h.1 (ofB_inj e).symm), ih h.2]
    rfl

/-- A table in memory: fresh, or with texts. -/
def tblF : AObj := .cells 120 [.val (.slice none 0 0), .val (.map none)]
def tblO (n m : Nat) (l : List B) : AObj := .cells 120 [.sl (some n) 1 (strs l), .mapv m]
def tblR (l : List B) : AObj := .row 9 1 l.length
def tblM (l : List B) : AObj := .map (tblFrom l 0)
def tblP (l : List B) (s : B) : List B := if s ∈ l then l else l ++ [s]

theorem bytes_str : (tab.ti 9).bytes = 16 := rfl
theorem put_new (s : B) {R} (h : R (.tup [vi 0, .val (.bool true)]) [tblO 1 2 [s], tblR [s], tblM [s]]) :
    ACalls Tryd.prog 93 [.ptr 0 0, vs s] [tblF] R := by
  refine acalls_of_xwp (an := an93) tab_ok Tryd.func93 ?_
  (conv => whnf)
  refine ⟨(by rw [bytes_str]; decide : 1 * ((tab.ti 9).bytes + 1) ≤ 140737488355328), ?_⟩
  (conv => whnf)
  exact h

theorem put_old (l : List B) (s : B) (hs : s ∈ l) {R} (h : ∀ j, R (.tup [vi j, .val (.bool false)]) [tblO 1 2 l, tblR l, tblM l]) :
    ACalls Tryd.prog 93 [.ptr 0 0, vs s] [tblO 1 2 l, tblR l, tblM l] R := by
  refine acalls_of_xwp (an := an93) tab_ok Tryd.func93 ?_
  obtain ⟨j, hj⟩ := mapFind_some hs 0
  (conv => whnf)
  rw [hj]
  (conv => whnf)
  exact h j

theorem put_more (l : List B) (s : B) (hl : l.length < 1000000) (hs : s ∉ l) {R} (h : R (.tup [vi l.length, .val (.bool true)]) [tblO 1 2 (l ++ [s]), tblR (l ++ [s]), tblM (l ++ [s])]) :
    ACalls Tryd.prog 93 [.ptr 0 0, vs s] [tblO 1 2 l, tblR l, tblM l] R := by
  refine acalls_of_xwp (an := an93) tab_ok Tryd.func93 ?_
  (conv => whnf)
  rw [mapFind_none hs]
  (conv => whnf)
  refine ⟨(strs_length l).symm, ?_, ?_⟩
  · rw [strs_length, bytes_str]; simp; omega
  (conv => whnf)
  have e1 : (strs l ++ [[AV.val (Value.string (ofB s))]]) = strs (l ++ [s]) := (strs_append l [s]).symm
  have e2 : IntKind.i64.wrap (((strs (l ++ [s])).length : Int) - 1) = (l.length : Int) := by
    rw [strs_length, wrap_i64 (by rw [List.length_append]; simp <;> omega) (by rw [List.length_append]; simp <;> omega)]; simp
  have e3 : (strs l).length + [[AV.val (Value.string (ofB s))]].length = (l ++ [s]).length := by simp [strs_length]
  rw [mapPut_new hs, e3, e1, e2, strs_length]
  unfold tblM at h
  rw [tblFrom_append, show (((0 : Nat) : Int) + (l.length : Int)) = l.length by omega] at h
  exact h

/-- Put, whatever there is: tables of texts, each once. -/
theorem tblP_some {l : List B} {s : B} (h : s ∈ l) : tblP l s = l := by simp [tblP, h]
theorem tblP_none {l : List B} {s : B} (h : s ∉ l) : tblP l s = l ++ [s] := by simp [tblP, h]

theorem ID_new (s : B) {R} (h : R (.tup [uv 0, .val (.bool true)]) [tblO 1 2 [s], tblR [s], tblM [s]]) :
    ACalls Tryd.prog 80 [.ptr 0 0, vs s] [tblF] R := by
  refine acalls_of_xwp (an := an80) tab_ok Tryd.func80 ?_
  (conv => whnf)
  refine put_new s ?_
  (conv => whnf)
  exact h
theorem ID_old (l : List B) (s : B) (hs : s ∈ l) {R} (h : ∀ j : Int, R (.tup [.val (.int .u64 j), .val (.bool false)]) [tblO 1 2 l, tblR l, tblM l]) :
    ACalls Tryd.prog 80 [.ptr 0 0, vs s] [tblO 1 2 l, tblR l, tblM l] R := by
  refine acalls_of_xwp (an := an80) tab_ok Tryd.func80 ?_
  (conv => whnf)
  refine put_old l s hs fun j => ?_
  (conv => whnf)
  exact h _
theorem ID_more (l : List B) (s : B) (hl : l.length < 1000000) (hs : s ∉ l) {R} (h : ∀ j : Int, R (.tup [.val (.int .u64 j), .val (.bool true)]) [tblO 1 2 (l ++ [s]), tblR (l ++ [s]), tblM (l ++ [s])]) :
    ACalls Tryd.prog 80 [.ptr 0 0, vs s] [tblO 1 2 l, tblR l, tblM l] R := by
  refine acalls_of_xwp (an := an80) tab_ok Tryd.func80 ?_
  (conv => whnf)
  refine put_more l s hl hs ?_
  (conv => whnf)
  exact h _
/-- A table, whichever (type 120). -/
def tblS (l : List B) : List AObj := match l with | [] => [tblF] | _ => [tblO 1 2 l, tblR l, tblM l]
theorem New_nil {R} (h : R (.ptr 0 0) [tblF]) : ACalls Tryd.prog 79 [.val (.slice none 0 0)] [] R := by
  refine acalls_of_xwp (an := an79) tab_ok Tryd.func79 ?_
  (conv => whnf)
  refine LoopP.step ?_
  (conv => whnf)
  exact h
def tblN (l : List B) : List B := l.foldl tblP []
theorem New_calls (a : B) (l : List B) (hl : l.length < 100000) {R} (h : ∀ m, m = tblN (a :: l) → R (.ptr 0 0) [tblO 1 2 m, tblR m, tblM m]) : ACalls Tryd.prog 79 [.sl none 1 (strs (a :: l))] [] R := by
  refine acalls_of_xwp (an := an79) tab_ok Tryd.func79 ?_
  (conv => whnf)
  have hsl : (strs (a :: l)).length = l.length + 1 := by rw [strs_length]; rfl
  refine LoopP.step ?_
  (conv => whnf)
  refine br_true (by rw [hsl]; simp <;> omega) ?_
  (conv => whnf)
  refine put_new a ?_
  (conv => whnf)
  refine LoopP.ind2 (fun (i : Nat) (m : List B) => [(10, vi i)]) (fun i m => [(nameOf 7, tblO (freshN 18 0) (freshN 18 1) m), (freshN 18 0, tblR m), (freshN 18 1, tblM m)]) (fun i _ => l.length + 1 - i)
    (fun i m => 1 ≤ i ∧ i ≤ l.length + 1 ∧ m.length ≤ i ∧ (l.drop (i - 1)).foldl tblP m = tblN (a :: l)) 1 [a] rfl ⟨by omega, by omega, by simp, by simp [tblN, tblP]⟩ ?_
  rintro i m ⟨h0, h1, h2, h3⟩ IH
  (conv => whnf)
  refine br_intro (fun hc => ?_) (fun hc => ?_)
  · have hc : i < l.length + 1 := by rw [hsl] at hc; simp at hc; omega
    have hi : i < (a :: l).length := by simpa using hc
    (conv => whnf)
    refine idxK_map_intro (show (i : Int).toNat < (a :: l).length by simpa using hc) ?_
    obtain ⟨s, hs⟩ : ∃ s, s = (a :: l)[(i : Int).toNat]'(by simpa using hc) := ⟨_, rfl⟩
    rw [← hs]
    have hd : l.drop (i - 1) = s :: l.drop i := by
      rw [List.drop_eq_getElem_cons (show i - 1 < l.length by omega), show i - 1 + 1 = i by omega, hs]
      congr 1
      obtain ⟨j, rfl⟩ : ∃ j, i = j + 1 := ⟨i - 1, by omega⟩
      simp
    rw [hd, List.foldl_cons] at h3
    (conv => whnf)
    by_cases hm : s ∈ m
    · refine put_old m s hm fun j => ?_
      rw [tblP_some hm] at h3
      (conv => whnf)
      rw [wrap_i64 (by omega) (by omega)]
      exact IH (i + 1) m ⟨by omega, by omega, by omega, by simpa using h3⟩ (by omega)
    · refine put_more m s (by omega) hm ?_
      rw [tblP_none hm] at h3
      (conv => whnf)
      rw [wrap_i64 (by omega) (by omega)]
      exact IH (i + 1) (m ++ [s]) ⟨by omega, by omega, by simp; omega, by simpa using h3⟩ (by omega)
  · have hc : i = l.length + 1 := by rw [hsl] at hc; simp at hc; omega
    subst hc
    rw [Nat.add_sub_cancel, List.drop_length] at h3
    (conv => whnf)
    exact h m h3
end Go.Abs
end

section
/- Contracts at the level of worlds: how they are told of abstract values. -/
set_option maxRecDepth 100000
set_option linter.unusedVariables false
set_option linter.unusedSimpArgs false
namespace Go.Abs
open Go Go.Proofs Go.Sort

def entryS (G : Gh) (w : World) : Entry := ⟨G, w, fun b => ∃ n, G.at n b, True⟩
theorem invS {G : Gh} {os : List AObj} {w : World} (hW : WR G (numbered 0 os) w) : Inv (entryS G w) ⟨[], numbered 0 os⟩ G { tmps := #[], defers := [] } w :=
  ⟨by simp [RepL], Marks.nil _ _ _, hW, Gh.le.refl _, ⟨rfl, rfl, rfl, Nat.le_refl _, fun _ _ _ => rfl, fun _ _ _ _ => rfl⟩, fun n b hb => .inl ⟨n, hb⟩⟩
theorem packS {P : Program} {f : FuncId} {args : List AV} {os : List AObj} {R : AV → List AObj → Prop}
    (h : ∀ (G : Gh) (w : World) (vals : List Value), WR G (numbered 0 os) w → RepL G args vals → Calls P f vals.toArray w fun e w' => ∃ (v : Value) (r : AV) (os' : List AObj) (G' : Gh), e = .returned v ∧ R r os' ∧ Rep G' r v ∧
      Inv (entryS G w) ⟨[], numbered 0 os'⟩ G' { tmps := #[], defers := [] } w' ∧ (∀ (i : Nat) (o : AObj), os'[i]? = some o → ∀ m ∈ objNames o, m < os'.length) ∧ ∀ m ∈ r.names, m < os'.length) : ACalls P f args os R :=
  ⟨fun G w vals hW hA => (h G w vals hW hA).mono fun e w' ⟨v, r, os', G', h1, h2, h3, h4, h5, h6⟩ => ⟨v, r, os', G', h1, h2, h3, h4.wr, h4.le, h4.ext, h4.newb, h5, h6⟩⟩

def sortB (l : List B) : List B := l.mergeSort fun x y => decide (x ≤ y)
theorem strs_flat (G : Gh) (l : List B) (vs : List Value) : RepL G (strs l).flatten vs ↔ vs = l.map encStr := by
  induction l generalizing vs with
  | nil => simp [strs, RepL]
  | cons s l ih =>
    simp only [strs, List.map_cons, List.flatten_cons, List.cons_append, List.nil_append, RepL, Rep]
    constructor
    · rintro ⟨v, us, rfl, h, h2⟩
      have := (ih us).1 h2
      simp only [vs] at h
      rw [this, h]
      rfl
    · rintro rfl
      exact ⟨_, _, rfl, rfl, (ih _).2 rfl⟩


theorem repE_strs {K : Nat → Nat → Option Value} {ob : Nm → Option GO} {g : Nat} : ∀ (ss : List B) (i : Nat), (∀ j s, ss[j]? = some s → K g (i + j) = some (encStr s)) → RepE ⟨K, ob⟩ 1 (some ⟨g, 0, none⟩) i (strs ss)
  | [], _, _ => trivial
  | s :: ss, i, h => by
    refine ⟨⟨g, 0, rfl, rfl, rfl, ⟨encStr s, by have := h 0 s rfl; simpa using this, rfl⟩, trivial⟩, repE_strs ss (i + 1) fun j s' hs => ?_⟩
    have := h (j + 1) s' (by simpa using hs)
    rw [show i + 1 + j = i + (j + 1) by omega]
    exact this

/-- A library function that answers plain values, and changes nothing that lay there. -/
theorem acalls_pure {P : Program} {f : FuncId} {args : List AV} {R : AV → List AObj → Prop}
    (h : ∀ (G : Gh) (w : World) (vals : List Value), WR G (numbered 0 []) w → RepL G args vals → ∃ (v : Value) (r : AV), R r [] ∧ r.names = [] ∧ Rep G r v ∧ Calls P f vals.toArray w fun e w' => e = .returned v ∧ Go.RowKit.Below w.heap.size w w') : ACalls P f args [] R := by
  refine packS fun G w vals hW hA => ?_
  have hI := invS hW
  obtain ⟨v, r, h1, h2, h3, h4⟩ := h G w vals hW hA
  refine h4.mono ?_
  rintro e w' ⟨rfl, hbl⟩
  obtain ⟨hI', hle⟩ := hI.grow (w' := w') (K' := G.K) hbl.os hbl.tape hbl.output hbl.size (fun b hb => hbl.block b hb) (fun _ _ _ => rfl) (fun b o v hb ev => by have := hI.wr.kltb ev; omega)
  exact ⟨_, r, [], G, rfl, h1, h3, hI', (by intro i o ho; cases ho), by rw [h2]; simp⟩
end Go.Abs
end

section
/- The library's strings.Builder: what its functions do in memory. -/
set_option linter.unusedVariables false
set_option linter.unusedSimpArgs false
namespace Go.Abs
open Go Go.Proofs Go.Shelf Go.RowKit

theorem sb_size : (Tryd.prog.info? 52).map (·.size) = some 2 := by kernel_rfl
theorem sb_lies : liesAt Tryd.prog Tryd.prog.depth 52 (2 / Tryd.prog.cellsOf 52) 0 52 1 = true := by kernel_rfl
theorem sb_cells : Tryd.prog.cellsOf 5 = 1 := by kernel_rfl

set_option maxHeartbeats 1000000 in
set_option maxRecDepth 100000 in
theorem copyCheck_used (b : Nat) (w : World) (h0 : w.cell? ⟨b, 0, none⟩ = some (.pointer (some ⟨b, 0, none⟩))) :
    Calls Tryd.prog 48 #[.pointer (some ⟨b, 0, none⟩)] w fun e w' => e = .returned (.tuple #[]) ∧ w' = w := by
  obtain ⟨j, hj, _⟩ := Option.map_eq_some_iff.1 sb_size
  have mixed := mixed_ok
  go_enter Tryd.func48, Tryd.ntmps48
  go_wp2
  rw [Lib.run_neq_ptr_same w _ Tryd.underlying49 hj]
  go_wp2
  go_end0
  exact ⟨rfl, rfl⟩

set_option maxHeartbeats 1000000 in
set_option maxRecDepth 100000 in
theorem copyCheck_fresh (b : Nat) (w : World) (h0 : w.cell? ⟨b, 0, none⟩ = some (.pointer none)) (hsh : w.shape? b = some (52, 2)) (hfz : w.frozen? ⟨b, 0, none⟩ = false) :
    Calls Tryd.prog 48 #[.pointer (some ⟨b, 0, none⟩)] w fun e w' => e = .returned (.tuple #[]) ∧ w' = w.setCell ⟨b, 0, none⟩ (.pointer (some ⟨b, 0, none⟩)) := by
  obtain ⟨j, hj, hjs⟩ := Option.map_eq_some_iff.1 sb_size
  have mixed := mixed_ok
  go_enter Tryd.func48, Tryd.ntmps48
  go_wp2
  rw [Lib.run_to_unsafe w ⟨b, 0, none⟩ Tryd.underlying49 Tryd.underlying85 hj (by rw [hjs]; decide) hsh (Nat.zero_lt_succ 1)]
  simp only [Result.andThen]
  rw [Oper.upon_value]
  go_wp2
  rw [run_callFunc_extern Tryd.func61 (by kernel_rfl) (by kernel_rfl) (by kernel_rfl) (e := Extern.AbiNoEscape.same) (by kernel_rfl)]
  rw [Lib.run_noEscape]
  simp only [Result.andThen]
  rw [Oper.upon_value]
  go_wp2
  rw [Lib.run_from_unsafe w ⟨b, 0, none⟩ Tryd.underlying85 Tryd.underlying49 hj hsh sb_lies]
  simp only [Result.andThen]
  rw [Oper.upon_value]
  go_wp2
  go_end0
  exact ⟨rfl, rfl⟩

set_option maxHeartbeats 1000000 in
set_option maxRecDepth 100000 in
theorem sbString_raw (b g cap : Nat) (p : Value) (cur : Array Value) (l : List UInt8) (w : World) (h0 : l ≠ []) (hbk : w.heap[b]? = some (.cells #[p, .slice (some ⟨g, 0, none⟩) l.length cap] 52 (0, 0)))
    (hg : w.heap[g]? = some (.cells cur 5 (0, 0))) (hnc : l.length ≤ cap) (hcm : cap ≤ maxLen) (hcs : cur.size = cap * 1) (htake : cur.toList.take (l.length * 1) = Lib.byteCells l) :
    Calls Tryd.prog 33 #[.pointer (some ⟨b, 0, none⟩)] w fun e w' => e = .returned (.string ⟨l.toArray⟩) ∧ ∃ w0 : World, w' = w0.freeze ⟨g, 0, none⟩ l.length ∧ w0.heap = w.heap ∧ w0.os = w.os ∧ w0.tape = w.tape ∧ w0.output = w.output := by
  have hl0 : l.length ≠ 0 := by simpa using h0
  have c1 : w.drew.cell? ⟨b, 1, none⟩ = some (.slice (some ⟨g, 0, none⟩) l.length cap) := by
    have : w.drew.heap[b]? = some (.cells #[p, .slice (some ⟨g, 0, none⟩) l.length cap] 52 (0, 0)) := hbk
    rw [Lib.cell_of_heap this]; rfl
  have hSD : (Builtin.unsafeSliceData_ #[50] 78 #[.slice (some ⟨g, 0, none⟩) l.length cap]).run Tryd.prog w.drew = .ok (.pointer (some ⟨g, 0, none⟩)) w.drew :=
    Lib.run_unsafeSliceData_row _ _ _ _ _ _ (by omega)
  have hUS : (Builtin.unsafeString_ #[78, 3] 9 #[.pointer (some ⟨g, 0, none⟩), .int .i64 l.length]).run Tryd.prog w.drew = .ok (.string ⟨l.toArray⟩) (w.drew.freeze ⟨g, 0, none⟩ l.length) := by
    refine Lib.run_unsafeString_row w.drew 78 3 9 5 Tryd.underlying78 sb_cells g cur.size (by have hg' : w.drew.heap[g]? = some (.cells cur 5 (0, 0)) := hg; simp [World.shape?, hg']) l h0 (by omega) (by unfold maxLen at hcm; omega) ?_
    intro j x hx
    have hj : j < l.length := (List.getElem?_eq_some_iff.1 hx).1
    have hcj : cur[j]? = some (.int .u8 x.toNat) := by
      have h1 : (cur.toList.take (l.length * 1))[j]? = some (.int .u8 x.toNat) := by rw [htake]; simp [Lib.byteCells, hx]
      rw [List.getElem?_take_of_lt (by omega)] at h1
      simpa using h1
    have hg' : w.drew.heap[g]? = some (.cells cur 5 (0, 0)) := hg
    rw [show Addr.add ⟨g, 0, none⟩ j = ⟨g, j, none⟩ from by rw [addr_add, Nat.zero_add], Lib.cell_of_heap hg']
    exact hcj
  have mixed := mixed_ok
  go_enter Tryd.func33, Tryd.ntmps33
  go_wp2
  go_region_o
  all_goals (go_wp2; go_ret; exact ⟨rfl, w.drew, rfl, rfl, rfl, rfl, rfl⟩)

/-! ### contracts by hand -/
def entry (G : Gh) (w : World) : Entry := ⟨G, w, fun b => ∃ n, G.at n b, True⟩
theorem inv0 {G : Gh} {os : List AObj} {w : World} (hW : WR G (numbered 0 os) w) : Inv (entry G w) ⟨[], numbered 0 os⟩ G { tmps := #[], defers := [] } w :=
  ⟨by simp [RepL], Marks.nil _ _ _, hW, Gh.le.refl _, ⟨rfl, rfl, rfl, Nat.le_refl _, fun _ _ _ => rfl, fun _ _ _ _ => rfl⟩, fun n b hb => .inl ⟨n, hb⟩⟩
theorem acalls_pack {P : Program} {f : FuncId} {args : List AV} {os : List AObj} {R : AV → List AObj → Prop}
    (h : ∀ (G : Gh) (w : World) (vals : List Value), WR G (numbered 0 os) w → RepL G args vals → Calls P f vals.toArray w fun e w' => ∃ (v : Value) (r : AV) (os' : List AObj) (G' : Gh), e = .returned v ∧ R r os' ∧ Rep G' r v ∧
      Inv (entry G w) ⟨[], numbered 0 os'⟩ G' { tmps := #[], defers := [] } w' ∧ (∀ (i : Nat) (o : AObj), os'[i]? = some o → ∀ m ∈ objNames o, m < os'.length) ∧ ∀ m ∈ r.names, m < os'.length) : ACalls P f args os R :=
  ⟨fun G w vals hW hA => (h G w vals hW hA).mono fun e w' ⟨v, r, os', G', h1, h2, h3, h4, h5, h6⟩ => ⟨v, r, os', G', h1, h2, h3, h4.wr, h4.le, h4.ext, h4.newb, h5, h6⟩⟩

def sbC (p X : AV) : AObj := .cells 52 [p, X]
def closedOs (os : List AObj) : Prop := ∀ (i : Nat) (o : AObj), os[i]? = some o → ∀ m ∈ objNames o, m < os.length
theorem addOb_same {ob : Nm → Option GO} {n : Nm} {g : GO} (h : ob n = some g) : addOb ob n g = ob := by
  funext m
  unfold addOb
  split
  · rename_i e; subst e; exact h.symm
  · rfl

theorem copyCheck_first (X : AV) (rest : List AObj) (hc : closedOs (sbC (.ptr 0 0) X :: rest)) {R} (h : R (.tup []) (sbC (.ptr 0 0) X :: rest)) :
    ACalls Tryd.prog 48 [.ptr 0 0] (sbC (.val (.pointer none)) X :: rest) R := by
  refine acalls_pack fun G w vals hW hA => ?_
  have hI := inv0 hW
  obtain ⟨b, vs, e1, e2, e3, e4⟩ := hW.obj 0 (sbC (.val (.pointer none)) X) rfl
  simp only [RepL, Rep] at e3 hA
  obtain ⟨_, _, rfl, rfl, x, _, rfl, hx, rfl⟩ := e3
  obtain ⟨_, _, rfl, ⟨b', hb', rfl⟩, rfl⟩ := hA
  rw [e1] at hb'
  cases hb'
  have hlt : b < w.heap.size := (Array.getElem?_eq_some_iff.1 e2).1
  have h0 : w.cell? ⟨b, 0, none⟩ = some (.pointer none) := by rw [Lib.cell_of_heap e2]; rfl
  have hsh : w.shape? b = some (52, 2) := by simp [World.shape?, e2]
  refine (copyCheck_fresh b w h0 hsh (Lib.frozen_of_heap e2 0)).mono ?_
  rintro e w' ⟨rfl, rfl⟩
  have hb2 : (w.setCell ⟨b, 0, none⟩ (.pointer (some ⟨b, 0, none⟩))).heap[b]? = some (.cells #[.pointer (some ⟨b, 0, none⟩), x] 52 (0, 0)) := by
    simp [World.setCell, Array.getElem?_modify, e2]
  have hsame : addOb G.ob 0 (.blk b) = G.ob := addOb_same e1
  have hI' := hI.setObj (w' := w.setCell ⟨b, 0, none⟩ (.pointer (some ⟨b, 0, none⟩))) (n := 0) (o := sbC (.val (.pointer none)) X) (o' := sbC (.ptr 0 0) X) (objs' := numbered 0 (sbC (.ptr 0 0) X :: rest)) (g := .blk b) (K' := G.K) rfl rfl rfl rfl (by simp [World.setCell])
    (fun c hc hn => Below.heap_setCell _ _ _ _ (fun e => hn (by subst e; exact .inl e1))) (fun _ _ _ _ => rfl) (by rw [hsame]; exact Gh.le.refl _)
    (fun c o v hc e => by
      rcases hc with hc | hc
      · have := hI.wr.kltb e; omega
      · rcases hc with hc | ⟨_, _, hc, _⟩
        · rw [e1] at hc; cases hc; rw [e4] at e; cases e
        · rw [e1] at hc; cases hc)
    (fun m => by
      rw [objGet_numbered0]
      show _ = if m = 0 then some (sbC (.ptr 0 0) X) else objGet (numbered 0 (sbC (.val (.pointer none)) X :: rest)) m
      rw [objGet_numbered0]
      cases m <;> simp)
    (by
      rw [hsame]
      exact ⟨b, [.pointer (some ⟨b, 0, none⟩), x], e1, hb2, by simp only [RepL, Rep]; exact ⟨_, _, rfl, ⟨b, e1, rfl⟩, _, _, rfl, hx, rfl⟩, e4⟩)
    (fun c hc => .inr (by rw [hsame] at hc; exact hc))
  rw [hsame] at hI'
  exact ⟨_, .tup [], _, G, rfl, h, by simp only [Rep]; exact ⟨[], rfl, by simp [RepL]⟩, hI', hc, by simp [AV.names, namesL]⟩

theorem copyCheck_again (X : AV) (rest : List AObj) (hc : closedOs (sbC (.ptr 0 0) X :: rest)) {R} (h : R (.tup []) (sbC (.ptr 0 0) X :: rest)) :
    ACalls Tryd.prog 48 [.ptr 0 0] (sbC (.ptr 0 0) X :: rest) R := by
  refine acalls_pack fun G w vals hW hA => ?_
  have hI := inv0 hW
  obtain ⟨b, vs, e1, e2, e3, e4⟩ := hW.obj 0 (sbC (.ptr 0 0) X) rfl
  simp only [RepL, Rep] at e3 hA
  obtain ⟨_, _, rfl, ⟨b1, hb1, rfl⟩, x, _, rfl, hx, rfl⟩ := e3
  obtain ⟨_, _, rfl, ⟨b', hb', rfl⟩, rfl⟩ := hA
  rw [e1] at hb' hb1
  cases hb'
  cases hb1
  have h0 : w.cell? ⟨b, 0, none⟩ = some (.pointer (some ⟨b, 0, none⟩)) := by rw [Lib.cell_of_heap e2]; rfl
  refine (copyCheck_used b w h0).mono ?_
  rintro e w' ⟨rfl, rfl⟩
  exact ⟨_, .tup [], _, G, rfl, h, by simp only [Rep]; exact ⟨[], rfl, by simp [RepL]⟩, hI, hc, by simp [AV.names, namesL]⟩

def byteEls (l : B) : List (List AV) := l.map fun c => [.val (.int .u8 c.toNat)]
theorem freeze_other (w : World) (g n b : Nat) (h : b ≠ g) : (w.freeze ⟨g, 0, none⟩ n).heap[b]? = w.heap[b]? := by
  unfold World.freeze
  split
  · rfl
  · simp [Array.getElem?_modify, Ne.symm h]
theorem freeze_same (w : World) (g n : Nat) (cur : Array Value) (e : TypeId) (h : w.heap[g]? = some (.cells cur e (0, 0))) : ∃ fz, (w.freeze ⟨g, 0, none⟩ n).heap[g]? = some (.cells cur e fz) := by
  unfold World.freeze
  split
  · exact ⟨_, h⟩
  · exact ⟨(0, 0 + n), by simp [Array.getElem?_modify, h]⟩
theorem freeze_size (w : World) (g n : Nat) : (w.freeze ⟨g, 0, none⟩ n).heap.size = w.heap.size := by
  unfold World.freeze
  split
  · rfl
  · simp
theorem freeze_os (w : World) (g n : Nat) : (w.freeze ⟨g, 0, none⟩ n).os = w.os ∧ (w.freeze ⟨g, 0, none⟩ n).tape = w.tape ∧ (w.freeze ⟨g, 0, none⟩ n).output = w.output := by
  unfold World.freeze
  split <;> exact ⟨rfl, rfl, rfl⟩

theorem sbString_calls (p : AV) (l : B) (h0 : l ≠ []) {R} (h : R (.val (.string (ofB l))) [sbC (.ptr 0 0) (.sl (some 1) 1 (byteEls l)), .dead]) :
    ACalls Tryd.prog 33 [.ptr 0 0] [sbC (.ptr 0 0) (.sl (some 1) 1 (byteEls l)), .row 5 1 l.length] R := by
  refine acalls_pack fun G w vals hW hA => ?_
  have hI := inv0 hW
  obtain ⟨b, vs, e1, e2, e3, e4⟩ := hW.obj 0 (sbC (.ptr 0 0) (.sl (some 1) 1 (byteEls l))) rfl
  obtain ⟨u, xs, r1, r2, r3⟩ := hW.obj 1 (.row 5 1 l.length) rfl
  simp only [RepL, Rep] at e3 hA
  obtain ⟨_, _, rfl, ⟨b1, hb1, rfl⟩, x, _, rfl, ⟨⟨A, c, hxv, hcap, hE⟩, u', top, q1, q2, q3⟩, rfl⟩ := e3
  obtain ⟨_, _, rfl, ⟨b', hb', rfl⟩, rfl⟩ := hA
  rw [e1] at hb' hb1
  cases hb'
  cases hb1
  rw [r1] at q1
  cases q1
  have hlen : (byteEls l).length = l.length := by simp [byteEls]
  have hxu : x = u := q3 hlen
  subst hxu
  rcases r2.2 with ⟨_, hz⟩ | ⟨g, cap, cur, hu, _, hg, hnc, hcm, hcs, htake⟩
  · exact absurd (List.eq_nil_of_length_eq_zero hz) h0
  subst hu
  obtain ⟨ws, v1, v2, v3, v4⟩ := hE.flat
  obtain ⟨gb, go, hA', hkv⟩ := v4 (by intro e; rw [e] at hlen; exact h0 (List.eq_nil_of_length_eq_zero hlen.symm))
  rw [hA'] at hxv
  injection hxv with hx1 _ _
  injection hx1 with hx1
  injection hx1 with hx1 hx2 _
  subst hx1 hx2
  have hflat : (byteEls l).flatten = l.map fun c => AV.val (.int .u8 c.toNat) := by
    unfold byteEls
    exact flatten_single _ _
  rw [hflat] at v1
  have hws : ws = l.map fun c => Value.int .u8 c.toNat := RepL_vmap_eq (fun c : UInt8 => Value.int .u8 c.toNat) v1
  have hxs : xs = Lib.byteCells l := by
    have hxl : xs.length = l.length := by rw [r2.1]; simp
    apply List.ext_getElem?
    intro j
    rcases Nat.lt_or_ge j l.length with hj | hj
    · have h1 := hkv j (.int .u8 l[j].toNat) (by rw [hws]; simp [List.getElem?_eq_getElem hj])
      rw [r3 g rfl, Nat.zero_add] at h1
      rw [h1]
      simp [Lib.byteCells, List.getElem?_eq_getElem hj]
    · rw [List.getElem?_eq_none (by omega), List.getElem?_eq_none (by simp [Lib.byteCells]; exact hj)]
  rw [hxs] at htake
  have hgb : g ≠ b := by
    rintro rfl
    rw [e2] at hg
    injection hg with hg
    injection hg with _ hg _
    exact absurd hg (by decide)
  refine (sbString_raw b g cap _ cur l w h0 e2 hg hnc hcm hcs htake).mono ?_
  rintro e w' ⟨rfl, w0, rfl, k1, k2, k3, k4⟩
  have hsame : addOb G.ob 1 (.rowv (.slice (some ⟨g, 0, none⟩) l.length cap) l.length) = G.ob := addOb_same r1
  have hat : G.at 1 g := .inr ⟨_, _, r1, rfl⟩
  have hsz : (w0.freeze ⟨g, 0, none⟩ l.length).heap.size = w.heap.size := by rw [freeze_size, k1]
  obtain ⟨fz, hfz⟩ := freeze_same w0 g l.length cur 5 (by rw [k1]; exact hg)
  have hI' := hI.setObj (w' := w0.freeze ⟨g, 0, none⟩ l.length) (n := 1) (o := .row 5 1 l.length) (o' := .dead) (objs' := numbered 0 [sbC (.ptr 0 0) (.sl (some 1) 1 (byteEls l)), .dead]) (g := .rowv (.slice (some ⟨g, 0, none⟩) l.length cap) l.length) (K' := G.K) rfl
    (by rw [(freeze_os _ _ _).1, k2]) (by rw [(freeze_os _ _ _).2.1, k3]) (by rw [(freeze_os _ _ _).2.2, k4]) (by rw [hsz]; exact Nat.le_refl _)
    (fun c hc hn => by rw [freeze_other _ _ _ _ (fun e => hn (by subst e; exact hat)), k1]) (fun _ _ _ _ => rfl) (by rw [hsame]; exact Gh.le.refl _)
    (fun c o v hc e => by
      rcases hc with hc | hc
      · have := hI.wr.kltb e; omega
      · have hcg : c = g := by
          rcases hc with hc | ⟨_, _, hc, hc'⟩
          · rw [r1] at hc; cases hc
          · rw [r1] at hc; cases hc; simpa [Value.ownBlock] using hc'.symm
        subst hcg
        have := hW.know _ _ _ e
        rw [Lib.cell_of_heap hg] at this
        simp only [World.cell?, hfz]
        exact this)
    (fun m => by
      rw [objGet_numbered0]
      show _ = if m = 1 then some AObj.dead else objGet (numbered 0 [sbC (.ptr 0 0) (.sl (some 1) 1 (byteEls l)), .row 5 1 l.length]) m
      rw [objGet_numbered0]
      match m with
      | 0 => rfl
      | 1 => rfl
      | m + 2 => simp)
    (by
      rw [hsame]
      refine ⟨⟨_, r1⟩, fun c hc => ?_⟩
      rcases hc with hc | ⟨_, _, hc, hc'⟩
      · rw [r1] at hc; cases hc
      · rw [r1] at hc; cases hc
        have : g = c := by simpa [Value.ownBlock] using hc'
        subst this
        rw [hsz]
        exact (Array.getElem?_eq_some_iff.1 hg).1)
    (fun c hc => .inr (by rw [hsame] at hc; exact hc))
  rw [hsame] at hI'
  refine ⟨_, _, _, G, rfl, h, by simp only [Rep]; rfl, hI', fun i o ho m hm => ?_, by simp [AV.names]⟩
  match i, ho with
  | 0, ho =>
    cases ho
    simp only [objNames, sbC, namesL, AV.names, List.append_nil, List.cons_append, List.nil_append, List.mem_cons, List.not_mem_nil, or_false] at hm
    rcases hm with rfl | rfl <;> simp
  | 1, ho => cases ho; simp [objNames] at hm
  | i + 2, ho => simp at ho
end Go.Abs
end

section
/- The digest's functions, and the document's. -/
set_option maxRecDepth 100000
set_option linter.unusedVariables false
set_option linter.unusedSimpArgs false
namespace Go.Abs
open Go Go.Proofs

/-! ### the plain functions -/
namespace Dig
def plus : U := 0x9e3779b97f4a7c15#64
def first : U := 0xbf58476d1ce4e5b9#64
def other : U := 0x94d049bb133111eb#64
def down (k : Nat) (x : U) : U := x ^^^ (x >>> k)
def dig (n : U) : U := down 31 (down 27 (down 30 (n + plus) * first) * other)
def up (k : Nat) (h : U) : U := h ^^^ ((h ^^^ (h >>> k)) >>> k)
def back (n : U) : U := let b0 := n; let s := fun b : U => b * (2 - n * b); s (s (s (s (s (s b0)))))
def dBack (h : U) : U := up 30 (up 27 (up 31 h * back other) * back first) - plus
def fold (n : U) (l : List U) : U := l.foldl (fun h x => dig (h ^^^ x)) (dig n)

theorem up_down (k : Nat) (hk : 22 ≤ k) (x : U) : up k (down k x) = x := by
  unfold up down
  have h1 : ∀ a b : U, (a ^^^ b) >>> k = (a >>> k) ^^^ (b >>> k) := fun a b => BitVec.ushiftRight_xor_distrib a b k
  have h0 : x >>> k >>> k >>> k = 0#64 := by
    rw [← BitVec.shiftRight_add, ← BitVec.shiftRight_add]
    exact BitVec.ushiftRight_eq_zero (by omega)
  simp only [h1, h0]
  apply BitVec.eq_of_getLsbD_eq
  intro i hi
  simp only [BitVec.getLsbD_xor]
  cases x.getLsbD i <;> cases (x >>> k).getLsbD i <;> cases (x >>> k >>> k).getLsbD i <;> simp
theorem back_first (x : U) : x * first * back first = x := by
  rw [BitVec.mul_assoc]
  have : first * back first = 1#64 := by decide +kernel
  rw [this, BitVec.mul_one]
theorem back_other (x : U) : x * other * back other = x := by
  rw [BitVec.mul_assoc]
  have : other * back other = 1#64 := by decide +kernel
  rw [this, BitVec.mul_one]
theorem first_back (x : U) : x * back first * first = x := by
  rw [BitVec.mul_assoc]
  have : back first * first = 1#64 := by decide +kernel
  rw [this, BitVec.mul_one]
theorem other_back (x : U) : x * back other * other = x := by
  rw [BitVec.mul_assoc]
  have : back other * other = 1#64 := by decide +kernel
  rw [this, BitVec.mul_one]
theorem down_up (k : Nat) (hk : 22 ≤ k) (x : U) : down k (up k x) = x := by
  unfold up down
  have h1 : ∀ a b : U, (a ^^^ b) >>> k = (a >>> k) ^^^ (b >>> k) := fun a b => BitVec.ushiftRight_xor_distrib a b k
  have h0 : x >>> k >>> k >>> k = 0#64 := by
    rw [← BitVec.shiftRight_add, ← BitVec.shiftRight_add]
    exact BitVec.ushiftRight_eq_zero (by omega)
  simp only [h1, h0]
  apply BitVec.eq_of_getLsbD_eq
  intro i hi
  simp only [BitVec.getLsbD_xor]
  cases x.getLsbD i <;> cases (x >>> k).getLsbD i <;> cases (x >>> k >>> k).getLsbD i <;> simp
theorem dBack_dOf (n : U) : dBack (dig n) = n := by
  unfold dBack dig
  rw [up_down 31 (by omega), back_other, up_down 27 (by omega), back_first, up_down 30 (by omega), BitVec.add_sub_cancel]
theorem dOf_dBack (n : U) : dig (dBack n) = n := by
  unfold dBack dig
  rw [BitVec.sub_add_cancel, down_up 30 (by omega), first_back, down_up 27 (by omega), other_back, down_up 31 (by omega)]
theorem dOf_inj {a b : U} (h : dig a = dig b) : a = b := by rw [← dBack_dOf a, h, dBack_dOf]
end Dig
open Dig

/-! ### the steps -/
/-- A function value that does what a plain function does. -/
def Does (e : List AV) (g : U → U) : Prop := ∃ f cs, e = [.fn (.func f) [] [.cptr cs 0]] ∧ tab.fn f = true ∧ ∀ x R, R (uv (g x)) [] → ACalls Tryd.prog f [uv x, .cptr cs 0] [] R

theorem u_shr' (x : U) (k : Nat) (hk : k ≤ 64) : ((x.toNat : Int)).fdiv (2 ^ min ((k : Int)).toNat IntKind.u64.bits) = ((x >>> k).toNat : Int) := by
  have : min ((k : Int)).toNat IntKind.u64.bits = k := by
    show min ((k : Int)).toNat 64 = k
    simp; omega
  rw [this, u_shr]

end Go.Abs
end

section
/- The digest's functions, and the document's, on. -/
set_option maxRecDepth 100000
set_option linter.unusedVariables false
set_option linter.unusedSimpArgs false
namespace Go.Abs
open Go Go.Proofs Dig
attribute [local irreducible] ibits byteAt strLt

theorem idx_some {α : Type} {l : List α} {i : Int} (h0 : 0 ≤ i) (h1 : i < (l.length : Int)) : i.toNat < l.length := by omega

/-- Numbers, read out of a slice. -/
def nums (l : List U) : List (List AV) := l.map fun x => [uv x]

/-! ### the document's -/
theorem u_div (x : U) (k : Nat) (hk : k < 63) {c : Int} (hc : c = 2 ^ k) : IntKind.u64.wrap ((x.toNat : Int).tdiv c) = ((x >>> k).toNat : Int) := by
  subst hc
  rw [wrap_u64]
  have h1 : (x.toNat : Int).tdiv (2 ^ k) = ((x >>> k).toNat : Int) := by
    rw [BitVec.toNat_ushiftRight, Nat.shiftRight_eq_div_pow]
    rw [Int.tdiv_eq_ediv_of_nonneg (by omega)]
    simp
  rw [h1]
  have := (x >>> k).isLt
  omega

end Go.Abs
end

section
/- Arguments that are numbers. -/
set_option maxRecDepth 100000
set_option linter.unusedVariables false
set_option linter.unusedSimpArgs false
namespace Go.Abs
open Go Go.Proofs Dig
theorem args_u64 {ts : List TypeId} {l : List AV} (h : Args tab 12 (44 :: ts) l) : ∃ (x : U) (l' : List AV), l = uv x :: l' ∧ Args tab 12 ts l' := by
  obtain ⟨a, l', rfl, h1, h2⟩ := h
  obtain ⟨x, e, hx⟩ : ∃ x, [a] = [.val (.int .u64 x)] ∧ (Lit.int .u64 x).wf = true := h1
  simp only [Lit.wf, Bool.and_eq_true, decide_eq_true_eq] at hx
  have e1 : IntKind.u64.min = 0 := rfl
  have e2 : IntKind.u64.max = 18446744073709551615 := rfl
  rw [e1, e2] at hx
  refine ⟨BitVec.ofInt 64 x, l', ?_, h2⟩
  simp only [List.cons.injEq, and_true] at e ⊢
  rw [e]
  show _ = AV.val (.int .u64 _)
  congr 2
  exact u_of (by omega) (by omega)
theorem args_nil {l : List AV} (h : Args tab 12 [] l) : l = [] := h
theorem wf_u64 {x : Int} (h : (Lit.int .u64 x).wf = true) : x = ((BitVec.ofInt 64 x : U).toNat : Int) := by
  simp only [Lit.wf, Bool.and_eq_true, decide_eq_true_eq] at h
  have e1 : IntKind.u64.min = 0 := rfl
  have e2 : IntKind.u64.max = 18446744073709551615 := rfl
  rw [e1, e2] at h
  exact u_of (by omega) (by omega)
theorem typed_nums {l : List (List AV)} (h : ∀ x ∈ l, ∃ y, x = [.val (.int .u64 y)] ∧ (Lit.int .u64 y).wf = true) : ∃ ns : List U, l = nums ns := by
  induction l with
  | nil => exact ⟨[], rfl⟩
  | cons x l ih =>
    obtain ⟨ns, rfl⟩ := ih fun y hy => h y (by simp [hy])
    obtain ⟨y, rfl, hy⟩ := h x (by simp)
    exact ⟨BitVec.ofInt 64 y :: ns, by simp only [nums, List.map_cons, uv]; rw [← wf_u64 hy]⟩
theorem args_u8 {ts : List TypeId} {l : List AV} (h : Args tab 12 (5 :: ts) l) : ∃ (x : Int) (l' : List AV), l = .val (.int .u8 x) :: l' ∧ (0 ≤ x ∧ x ≤ 255) ∧ Args tab 12 ts l' := by
  obtain ⟨a, l', rfl, h1, h2⟩ := h
  obtain ⟨x, e, hx⟩ : ∃ x, [a] = [.val (.int .u8 x)] ∧ (Lit.int .u8 x).wf = true := h1
  simp only [Lit.wf, Bool.and_eq_true, decide_eq_true_eq] at hx
  have e1 : IntKind.u8.min = 0 := rfl
  have e2 : IntKind.u8.max = 255 := rfl
  rw [e1, e2] at hx
  simp only [List.cons.injEq, and_true] at e
  exact ⟨x, l', by rw [e], hx, h2⟩
end Go.Abs
end

section
/- The digest's digits: the functions. -/
set_option maxRecDepth 100000
set_option linter.unusedVariables false
set_option linter.unusedSimpArgs false
namespace Go.Abs
open Go Go.Proofs Dig
attribute [local irreducible] ibits byteAt strLt firstIdx

theorem slIndexByte_calls (s : ByteArray) (c : Int) {R} (h : R (.val (.int .i64 (firstIdx s c.toNat.toUInt8))) []) : ACalls Tryd.prog 84 [.val (.string s), .val (.int .u8 c)] [] R := by
  refine acalls_of_xwp (an := an84) tab_ok Tryd.func84 ?_
  (conv => whnf)
  refine indexByte_x Tryd.func94 rfl rfl rfl rfl s c ?_
  (conv => whnf)
  exact h
theorem and15_lo (h : U) (e : Nat) : 0 ≤ ibits .and .u64 ((h.toNat : Int).fdiv (2 ^ e)) 15 := by rw [and15_of]; omega
theorem and15_hi (h : U) (e : Nat) : ibits .and .u64 ((h.toNat : Int).fdiv (2 ^ e)) 15 < 16 := by rw [and15_of]; omega
def hexN (h : U) (e : Nat) : Int := byteAt (ofB signsB) (ibits .and .u64 ((h.toNat : Int).fdiv (2 ^ e)) 15).toNat
theorem hex_at (h : U) (e : Nat) : byteAt (ofB signsB) (ibits .and .u64 ((h.toNat : Int).fdiv (2 ^ e)) 15).toNat = ((hexc (h.toNat / 2 ^ e % 16)).toNat : Int) := by
  rw [and15_of, Int.toNat_natCast, at_signs (Nat.mod_lt _ (by omega))]


theorem Hex_calls (h : U) {R} (k : ∀ d, d = ofB (hexB h) → R (.val (.string d)) []) : ACalls Tryd.prog 38 [uv h] [] R := by
  refine acalls_of_xwp (an := an38) tab_ok Tryd.func38 ?_
  (conv => whnf)
  iterate 16
    refine LoopP.step ?_
    (conv => whnf)
    refine must_intro (decide_eq_true (and15_lo _ _)) ?_
    refine must_intro (decide_eq_true (and15_hi _ _)) ?_
    (conv => whnf)
  refine LoopP.step ?_
  (conv => whnf)
  refine ⟨[hexN h 60, hexN h 56, hexN h 52, hexN h 48, hexN h 44, hexN h 40, hexN h 36, hexN h 32, hexN h 28, hexN h 24, hexN h 20, hexN h 16, hexN h 12, hexN h 8, hexN h 4, hexN h 0], rfl, rfl, ?_⟩
  (conv => whnf)
  refine k _ ?_
  rw [← strOfNums_ofB]
  congr 1
  simp only [hexN, hex_at]
  rfl

/-! ### the number of digits -/
theorem hexi_lo (c : UInt8) : hexi c < 0 ↔ hexv c = none := by
  unfold hexi
  cases hexv c with
  | none => simp
  | some d => simp
theorem shl_or {n d : Nat} (hn : n < 18446744073709551616) (hd : d < 16) : ibits .or .u64 (IntKind.u64.wrap ((n : Int) * 2 ^ min ((4 : Int)).toNat IntKind.u64.bits)) (IntKind.u64.wrap (d : Int)) = ((16 * n + d) % 18446744073709551616 : Nat) := by
  have e0 : (2 : Int) ^ min ((4 : Int)).toNat IntKind.u64.bits = 16 := rfl
  rw [e0, wrap_u64, wrap_u64]
  have e1 : ((n : Int) * 16 % 18446744073709551616) = ((n * 16 % 18446744073709551616 : Nat) : Int) := by omega
  have e2 : ((d : Int) % 18446744073709551616) = ((d : Nat) : Int) := by omega
  rw [e1, e2]
  simp only [ibits]
  have f1 : ∀ x : Nat, BitVec.ofInt IntKind.u64.bits (x : Int) = BitVec.ofNat 64 x := fun x => by
    show BitVec.ofInt 64 (x : Int) = _
    simp
  rw [f1, f1, wrap_u64]
  have f2 : (n * 16 % 18446744073709551616) = 2 ^ 4 * (n % 2 ^ 60) := by omega
  have f3 : ((BitVec.ofNat 64 (n * 16 % 18446744073709551616) ||| BitVec.ofNat 64 d : BitVec 64)).toNat = 2 ^ 4 * (n % 2 ^ 60) + d := by
    rw [BitVec.toNat_or, BitVec.toNat_ofNat, BitVec.toNat_ofNat, f2, Nat.mod_eq_of_lt (show 2 ^ 4 * (n % 2 ^ 60) < 2 ^ 64 by omega), Nat.mod_eq_of_lt (show d < 2 ^ 64 by omega), Nat.two_pow_add_eq_or_of_lt (show d < 2 ^ 4 by omega)]
  show (((BitVec.ofNat 64 (n * 16 % 18446744073709551616) ||| BitVec.ofNat 64 d : BitVec 64).toNat : Int)) % _ = _
  rw [f3]
  omega

/-- As long as there are no more than 16 digits nothing is lost. -/
def readW : B → Nat → Option Nat
  | [], n => some n
  | c :: l, n => match hexv c with
    | some d => readW l ((16 * n + d) % 18446744073709551616)
    | none => none
theorem readW_eq : ∀ (l : B) (n : Nat), readW l (n % 18446744073709551616) = (readL l n).map (· % 18446744073709551616) := by
  intro l
  induction l with
  | nil => intro n; simp [readW, readL]
  | cons c l ih =>
    intro n
    simp only [readW, readL]
    cases hexv c with
    | none => simp
    | some d =>
      simp only
      rw [← ih]
      congr 1
      omega
theorem readB_W (s : B) (h : s.length = 16) : readB s = (readW s 0).map (BitVec.ofNat 64) := by
  have := readW_eq s 0
  simp only [Nat.zero_mod] at this
  unfold readB
  rw [if_pos h, this]
  cases readL s 0 with
  | none => rfl
  | some n => simp only [Option.map_some, Option.some.injEq]; exact BitVec.eq_of_toNat_eq (by simp)
theorem readW_lt : ∀ (l : B) (n m : Nat), n < 18446744073709551616 → readW l n = some m → m < 18446744073709551616 := by
  intro l
  induction l with
  | nil => intro n m hn h; simp only [readW, Option.some.injEq] at h; omega
  | cons c l ih =>
    intro n m hn h
    simp only [readW] at h
    split at h
    · exact ih _ _ (Nat.mod_lt _ (by omega)) h
    · cases h

def vread (o : Option U) : AV := .tup [uv (o.getD 0), .val (.bool o.isSome)]
end Go.Abs
end

section
/- Graphs: nodes; what is wrong with one by itself. -/
set_option maxRecDepth 100000
set_option linter.unusedVariables false
set_option linter.unusedSimpArgs false
namespace Go.Abs
open Go Go.Proofs
attribute [local irreducible] ibits byteAt strLt firstIdx

structure Nd where
  name : B
  source : Bool
  rule : U
  deps : List B
def Nd.enc (n : Nd) : List AV := [vs n.name, .val (.bool n.source), uv n.rule, .sl none 1 (strs n.deps)]
def nds (l : List Nd) : List (List AV) := l.map Nd.enc
theorem nds_length (l : List Nd) : (nds l).length = l.length := by simp [nds]
def ints (l : List Nat) : List (List AV) := l.map fun (i : Nat) => [vi (i : Int)]
theorem ints_length (l : List Nat) : (ints l).length = l.length := by simp [ints]

/-! ### names -/
def nameOk (s : B) : Bool := decide (1 ≤ s.length) && decide (s.length ≤ 64)
theorem Name_calls (s : B) {R} (h : R (.val (.bool (nameOk s))) []) : ACalls Tryd.prog 63 [vs s] [] R := by
  refine acalls_of_xwp (an := an63) tab_ok Tryd.func63 ?_
  have hsz : (ofB s).size = s.length := size_ofB s
  (conv => whnf)
  rw [hsz]
  refine br_intro (fun hc => ?_) (fun hc => ?_)
  · (conv => whnf)
    have : nameOk s = decide ((s.length : Int) ≤ 64) := by
      unfold nameOk
      rw [hsz] at *
      have hc : 1 ≤ s.length := by simp at hc; omega
      simp [hc]
      omega
    rw [hsz, ← this]
    exact h
  · (conv => whnf)
    have : nameOk s = false := by
      have hc : s.length = 0 := by simp at hc; omega
      simp [nameOk, hc]
    rw [this] at h
    exact h
theorem refName_calls (s : B) {R} (h : R (.val (.bool (nameOk s))) []) : ACalls Tryd.prog 67 [vs s] [] R := by
  refine acalls_of_xwp (an := an67) tab_ok Tryd.func67 ?_
  have hsz : (ofB s).size = s.length := size_ofB s
  (conv => whnf)
  refine br_intro (fun hc => ?_) (fun hc => ?_)
  · have hc : s ≠ [] := by
      rintro rfl
      simp at hc
      exact hc rfl
    have hl : 1 ≤ s.length := by cases s with | nil => exact absurd rfl hc | cons a s => simp
    (conv => whnf)
    have : nameOk s = decide ((s.length : Int) < 65) := by
      unfold nameOk
      simp [hl]
      omega
    rw [hsz, ← this]
    exact h
  · have hc : s = [] := by
      simp at hc
      have : ofB s = ofB [] := hc
      exact ofB_inj this
    subst hc
    (conv => whnf)
    exact h

/-! ### places -/
def placeOf : List B → B → Option Nat
  | [], _ => none
  | a :: l, s => if a = s then some 0 else (placeOf l s).map (· + 1)
def placeI (l : List B) (s : B) : Int := match placeOf l s with | some i => i | none => -1
theorem placeOf_none {l : List B} {s : B} : placeOf l s = none ↔ s ∉ l := by
  induction l with
  | nil => simp [placeOf]
  | cons a l ih =>
    simp only [placeOf]
    by_cases h : a = s
    · simp [h]
    · rw [if_neg h]
      simp only [Option.map_eq_none_iff, ih, List.mem_cons, not_or]
      exact ⟨fun h' => ⟨fun e => h e.symm, h'⟩, fun h' => h'.2⟩
theorem placeOf_some {l : List B} {s : B} {i : Nat} (h : placeOf l s = some i) : l[i]? = some s ∧ ∀ j, j < i → l[j]? ≠ some s := by
  induction l generalizing i with
  | nil => simp [placeOf] at h
  | cons a l ih =>
    simp only [placeOf] at h
    by_cases e : a = s
    · rw [if_pos e] at h
      cases h
      subst e
      exact ⟨rfl, fun j hj => by omega⟩
    · rw [if_neg e] at h
      obtain ⟨k, hk, rfl⟩ := Option.map_eq_some_iff.1 h
      obtain ⟨h1, h2⟩ := ih hk
      refine ⟨by simpa using h1, fun j hj => ?_⟩
      cases j with
      | zero => simpa using e
      | succ j => simpa using h2 j (by omega)
theorem placeI_neg {l : List B} {s : B} : placeI l s < 0 ↔ s ∉ l := by
  rw [← placeOf_none]
  unfold placeI
  cases placeOf l s with
  | none => simp
  | some i => simp
theorem placeOf_of {l : List B} {s : B} {i : Nat} (h : l[i]? = some s) (h' : ∀ j, j < i → l[j]? ≠ some s) : placeOf l s = some i := by
  cases e : placeOf l s with
  | none => exact absurd (List.mem_of_getElem? h) (placeOf_none.1 e)
  | some k =>
    obtain ⟨h1, h2⟩ := placeOf_some e
    rcases Nat.lt_trichotomy i k with hl | rfl | hl
    · exact absurd h (h2 _ hl)
    · rfl
    · exact absurd h1 (h' _ hl)

theorem i64_nat {i : Nat} (h : i < 1000000000) : IntKind.i64.wrap ((i : Int) + 1) = ((i + 1 : Nat) : Int) := wrap_i64 (by omega) (by omega)
theorem lt_of_dec {i n : Nat} (h : decide ((i : Int) < (n : Int)) = true) : i < n := by simpa using h
theorem ge_of_dec {i n : Nat} (h : decide ((i : Int) < (n : Int)) = false) : n ≤ i := by simp at h; omega

theorem lt_of_decE {i n m : Nat} (e : m = n) (h : decide ((i : Int) < (m : Int)) = true) : i < n := by subst e; simpa using h
theorem ge_of_decE {i n m : Nat} (e : m = n) (h : decide ((i : Int) < (m : Int)) = false) : n ≤ i := by subst e; simp at h; omega

/-! ### which text stands ahead -/
def ltB (a b : B) : Bool := Op.bytesLess a b
theorem strLt_ofB (a b : B) : strLt (ofB a) (ofB b) = ltB a b := by
  unfold strLt ltB
  rw [ByteArray.toList_eq, ByteArray.toList_eq]
  show Op.bytesLess (bs (ofB a)) (bs (ofB b)) = _
  rw [bs_ofB, bs_ofB]
theorem ltB_drop {a b : B} : ∀ {i : Nat}, (∀ j, j < i → a[j]? = b[j]?) → i ≤ a.length → i ≤ b.length → ltB (a.drop i) (b.drop i) = ltB a b := by
  intro i
  induction i generalizing a b with
  | zero => intro _ _ _; simp
  | succ i ih =>
    intro h ha hb
    cases a with
    | nil => simp at ha
    | cons x a =>
      cases b with
      | nil => simp at hb
      | cons y b =>
        have h0 : x = y := by simpa using h 0 (by omega)
        subst h0
        simp only [List.drop_succ_cons]
        rw [ih (fun j hj => by simpa using h (j + 1) (by omega)) (by simpa using ha) (by simpa using hb)]
        simp [ltB, Op.bytesLess]
theorem u8_lt {a b : UInt8} : decide (((a.toNat : Nat) : Int) < ((b.toNat : Nat) : Int)) = decide (a < b) := by
  apply decide_eq_decide.2
  rw [UInt8.lt_iff_toNat_lt]
  omega

theorem Less_calls (a b : B) (ha : a.length < 1000000) (hb : b.length < 1000000) {R} (h : ∀ p, p = ltB a b → R (.val (.bool p)) []) : ACalls Tryd.prog 53 [vs a, vs b] [] R := by
  refine acalls_of_xwp (an := an53) tab_ok Tryd.func53 ?_
  have hsa := size_ofB a
  have hsb := size_ofB b
  (conv => whnf)
  refine LoopP.ind1 (fun (i : Nat) => [(5, vi i)]) (fun _ => []) (fun i => a.length - i) (fun i => i ≤ a.length ∧ i ≤ b.length ∧ ∀ j, j < i → a[j]? = b[j]?) 0 rfl ⟨by omega, by omega, fun j hj => by omega⟩ ?_
  rintro i ⟨h0, h0', h1⟩ IH
  have hend : (a.length ≤ i ∨ b.length ≤ i) → ltB a b = decide ((a.length : Int) < (b.length : Int)) := by
    intro hc
    rw [← ltB_drop h1 h0 h0']
    rcases hc with hc | hc
    · rw [List.drop_eq_nil_of_le hc]
      cases hd : b.drop i with
      | nil =>
        have := List.drop_eq_nil_iff.1 hd
        simp [ltB, Op.bytesLess]; omega
      | cons y l =>
        have : i < b.length := by
          rcases Nat.lt_or_ge i b.length with h | h
          · exact h
          · rw [List.drop_eq_nil_of_le h] at hd; cases hd
        simp [ltB, Op.bytesLess]; omega
    · rw [List.drop_eq_nil_of_le hc]
      have : ltB (a.drop i) [] = false := by cases a.drop i <;> rfl
      rw [this]
      simp; omega
  (conv => whnf)
  rw [hsa]
  refine br_intro (fun hc => ?_) (fun hc => ?_)
  · have hc := lt_of_dec hc
    (conv => whnf)
    rw [hsb]
    refine br_intro (fun hc' => ?_) (fun hc' => ?_)
    · have hc' := lt_of_dec hc'
      have ea : byteAt (ofB a) (i : Int).toNat = ((a[i]).toNat : Int) := by rw [Int.toNat_natCast, byteAt_ofB a hc]
      have eb : byteAt (ofB b) (i : Int).toNat = ((b[i]).toNat : Int) := by rw [Int.toNat_natCast, byteAt_ofB b hc']
      (conv => whnf); (repeat ((with_reducible refine must_intro ?_ ?_); exact decide_eq_true (by omega); (conv => whnf)))
      rw [ea, eb]
      refine br_intro (fun he => ?_) (fun he => ?_)
      · have he : a[i] ≠ b[i] := by
          intro e
          rw [e] at he
          simp at he
        (conv => whnf); (repeat ((with_reducible refine must_intro ?_ ?_); exact decide_eq_true (by omega); (conv => whnf)))
        rw [ea, eb, u8_lt]
        refine h _ ?_
        rw [← ltB_drop h1 h0 h0', List.drop_eq_getElem_cons hc, List.drop_eq_getElem_cons hc']
        simp [ltB, Op.bytesLess, he]
      · have he : a[i] = b[i] := by
          simp at he
          exact u8_inj.1 he
        (conv => whnf)
        rw [i64_nat (by omega)]
        refine IH (i + 1) ⟨by omega, by omega, fun j hj => ?_⟩ (by omega)
        rcases Nat.lt_or_ge j i with hlt | hge
        · exact h1 j hlt
        · obtain rfl : j = i := by omega
          rw [List.getElem?_eq_getElem hc, List.getElem?_eq_getElem hc', he]
    · have hc' := ge_of_dec hc'
      (conv => whnf)
      rw [hsa, hsb]
      exact h _ (hend (.inr hc')).symm
  · have hc := ge_of_dec hc
    (conv => whnf)
    rw [hsa, hsb]
    exact h _ (hend (.inl hc)).symm
end Go.Abs
end

section
/- Words of texts (escape): what is written. -/
set_option maxRecDepth 100000
set_option linter.unusedVariables false
set_option linter.unusedSimpArgs false
namespace Go.Abs
open Go Go.Proofs
attribute [local irreducible] ibits byteAt strLt firstIdx

theorem byteEls_length (l : B) : (byteEls l).length = l.length := by simp [byteEls]
theorem byteEls_append (l m : B) : byteEls (l ++ m) = byteEls l ++ byteEls m := by simp [byteEls]
theorem bytes_u8 : (tab.ti 5).bytes = 1 := rfl
abbrev nilS : AV := .val (.slice none 0 0)
abbrev nilP : AV := .val (.pointer none)
/-- A builder in memory. -/
def sb0 : List AObj := [sbC nilP nilS]
def sb1 (l : B) : List AObj := [sbC (.ptr 0 0) (.sl (some 1) 1 (byteEls l)), .row 5 1 l.length]
theorem closed_sb0 : closedOs [sbC (.ptr 0 0) nilS] := by
  intro i o ho m hm
  match i, ho with
  | 0, ho =>
    cases ho
    simp only [objNames, sbC, namesL, AV.names, List.append_nil, List.cons_append, List.nil_append, List.mem_cons, List.not_mem_nil, or_false] at hm
    subst hm
    simp
  | i + 1, ho => simp at ho
theorem closed_sb1 (l : B) : closedOs (sb1 l) := by
  intro i o ho m hm
  match i, ho with
  | 0, ho =>
    cases ho
    simp only [objNames, sbC, namesL, AV.names, List.append_nil, List.cons_append, List.nil_append, List.mem_cons, List.not_mem_nil, or_false] at hm
    rcases hm with rfl | rfl <;> simp [sb1]
  | 1, ho => cases ho; simp [objNames] at hm
  | i + 2, ho => simp [sb1] at ho

theorem Write_first (q : B) (hq : q.length < 1000000) {R} (h : ∀ n : Int, R (.tup [vi n, .val .nilIface]) (sb1 q)) : ACalls Tryd.prog 44 [.ptr 0 0, .sl none 1 (byteEls q)] sb0 R := by
  refine acalls_of_xwp (an := an44) tab_ok Tryd.func44 ?_
  (conv => whnf)
  refine copyCheck_first nilS [] closed_sb0 ?_
  (conv => whnf)
  refine ⟨by rw [byteEls_length, bytes_u8]; omega, ?_⟩
  (conv => whnf)
  rw [byteEls_length]
  exact h _
theorem Write_again (l q : B) (hl : l.length < 100000000) (hq : q.length < 1000000) {R} (h : ∀ n : Int, R (.tup [vi n, .val .nilIface]) (sb1 (l ++ q))) : ACalls Tryd.prog 44 [.ptr 0 0, .sl none 1 (byteEls q)] (sb1 l) R := by
  refine acalls_of_xwp (an := an44) tab_ok Tryd.func44 ?_
  (conv => whnf)
  refine copyCheck_again (.sl (some 1) 1 (byteEls l)) [.row 5 1 l.length] (closed_sb1 l) ?_
  (conv => whnf)
  refine ⟨(byteEls_length l).symm, by rw [byteEls_length, byteEls_length, bytes_u8]; omega, ?_⟩
  (conv => whnf)
  rw [byteEls_length, byteEls_length, ← byteEls_append, ← List.length_append]
  exact h _
theorem WriteByte_first (c : UInt8) {R} (h : R (.val .nilIface) (sb1 [c])) : ACalls Tryd.prog 43 [.ptr 0 0, .val (.int .u8 c.toNat)] sb0 R := by
  refine acalls_of_xwp (an := an43) tab_ok Tryd.func43 ?_
  (conv => whnf)
  refine copyCheck_first nilS [] closed_sb0 ?_
  (conv => whnf)
  refine ⟨(by rw [bytes_u8]; decide : 1 * ((tab.ti 5).bytes + 1) ≤ 140737488355328), ?_⟩
  (conv => whnf)
  exact h
theorem WriteByte_again (l : B) (c : UInt8) (hl : l.length < 100000000) {R} (h : R (.val .nilIface) (sb1 (l ++ [c]))) : ACalls Tryd.prog 43 [.ptr 0 0, .val (.int .u8 c.toNat)] (sb1 l) R := by
  refine acalls_of_xwp (an := an43) tab_ok Tryd.func43 ?_
  (conv => whnf)
  refine copyCheck_again (.sl (some 1) 1 (byteEls l)) [.row 5 1 l.length] (closed_sb1 l) ?_
  (conv => whnf)
  refine ⟨(byteEls_length l).symm, by rw [byteEls_length, bytes_u8]; simp; omega, ?_⟩
  (conv => whnf)
  have e1 : byteEls l ++ [[AV.val (.int .u8 c.toNat)]] = byteEls (l ++ [c]) := (byteEls_append l [c]).symm
  have e2 : (byteEls l).length + [[AV.val (.int .u8 (c.toNat : Int))]].length = (l ++ [c]).length := by simp [byteEls_length]
  rw [e1, e2]
  exact h

/-! ### bytes as signs -/
def sgn (pr : UInt8 → Bool) (c : UInt8) : B := if pr c then [c] else [92, hexc (c.toNat / 16), hexc (c.toNat % 16)]
def signsP (pr : UInt8 → Bool) (s : B) : B := s.flatMap (sgn pr)
theorem sgn_len (pr : UInt8 → Bool) (c : UInt8) : 1 ≤ (sgn pr c).length ∧ (sgn pr c).length ≤ 3 := by unfold sgn; split <;> simp
theorem signsP_len (pr : UInt8 → Bool) (s : B) : (signsP pr s).length ≤ 3 * s.length := by
  induction s with
  | nil => simp [signsP]
  | cons a s ih =>
    have := (sgn_len pr a).2
    simp only [signsP, List.flatMap_cons, List.length_append, List.length_cons] at ih ⊢
    omega
theorem u8_hi0 : (List.range 256).all (fun n => decide ((((UInt8.ofNat n).toNat : Nat) : Int).fdiv (2 ^ min ((4 : Int)).toNat IntKind.u8.bits) = (((UInt8.ofNat n).toNat / 16 : Nat) : Int) ∧ ibits .and .u8 (((UInt8.ofNat n).toNat : Nat) : Int) 15 = (((UInt8.ofNat n).toNat % 16 : Nat) : Int))) = true := by decide +kernel
theorem u8_hi (c : UInt8) : ((c.toNat : Nat) : Int).fdiv (2 ^ min ((4 : Int)).toNat IntKind.u8.bits) = ((c.toNat / 16 : Nat) : Int) ∧ ibits .and .u8 ((c.toNat : Nat) : Int) 15 = ((c.toNat % 16 : Nat) : Int) := by
  have h := List.all_eq_true.1 u8_hi0 c.toNat (List.mem_range.2 c.toNat_lt)
  rw [show UInt8.ofNat c.toNat = c by simp] at h
  exact of_decide_eq_true h
inductive SbSt where | fresh | a | b

theorem signs_calls (g : FuncId) (hg : tab.fn g = true) (pr : UInt8 → Bool) (hpr : ∀ (c : UInt8) R, R (.val (.bool (pr c))) [] → ACalls Tryd.prog g [.val (.int .u8 c.toNat)] [] R) (s : B) (hs0 : s ≠ []) (hs : s.length < 100000) {R} (h : ∀ d, d = ofB (signsP pr s) → R (.val (.string d)) []) :
    ACalls Tryd.prog 22 [vs s, .fn (.func g) [] []] [] R := by
  refine acalls_of_xwp (an := an22) tab_ok Tryd.func22 ?_
  (conv => whnf)
  have hdat : (ofB s).data.toList = s := bs_ofB s
  rw [hdat]
  have hsl : (byteEls s).length = s.length := byteEls_length s
  refine LoopP.ind3 (fun (i : Nat) (out : B) (st : SbSt) => [(11, vi i)])
    (fun i out st => match st with
      | .fresh => [(nameOf 5, sbC nilP nilS)]
      | .a => [(nameOf 5, sbC (.ptr (nameOf 5) 0) (.sl (some (freshN 19 0)) 1 (byteEls out))), (freshN 19 0, .row 5 1 out.length)]
      | .b => [(nameOf 5, sbC (.ptr (nameOf 5) 0) (.sl (some (freshN 27 0)) 1 (byteEls out))), (freshN 27 0, .row 5 1 out.length)])
    (fun i _ _ => s.length - i) (fun i out st => i ≤ s.length ∧ out = signsP pr (s.take i) ∧ (st = .fresh → i = 0 ∧ out = [])) 0 [] .fresh rfl ⟨by omega, by simp [signsP], fun _ => ⟨rfl, rfl⟩⟩ ?_
  rintro i out st ⟨h0, h1, h2⟩ IH
  have hol : out.length ≤ 3 * i := by
    have := signsP_len pr (s.take i)
    rw [← h1, List.length_take] at this
    omega
  cases st
  all_goals
    (conv => whnf)
    refine br_intro (fun hc => ?_) (fun hc => ?_)
  · have hc := lt_of_decE hsl hc
    have hlt := (s[i]).toNat_lt
    have out1 : signsP pr (s.take (i + 1)) = out ++ sgn pr s[i] := by
      rw [h1, List.take_succ_eq_append_getElem hc]
      simp only [signsP, List.flatMap_append, List.flatMap_cons, List.flatMap_nil, List.append_nil]
    (conv => whnf); (repeat ((with_reducible refine must_intro ?_ ?_); exact decide_eq_true (by omega); (conv => whnf)))
    refine idxK_map_intro (show (i : Int).toNat < s.length by simpa using hc) ?_
    rw [show s[(i : Int).toNat]'(by simpa using hc) = s[i] from by congr 1]
    (conv => whnf)
    refine must_intro hg ?_
    refine hpr s[i] _ ?_
    (conv => whnf)
    refine br_intro (fun hp => ?_) (fun hp => ?_)
    · have hsg : sgn pr s[i] = [s[i]] := by unfold sgn; rw [if_pos hp]
      rw [hsg] at out1
      (conv => whnf)
      obtain ⟨rfl, rfl⟩ := h2 rfl
      refine WriteByte_first s[0] ?_
      (conv => whnf)
      rw [i64_nat (by omega)]
      exact IH (0 + 1) ([] ++ [s[0]]) .a ⟨by omega, out1.symm, fun e => by cases e⟩ (by omega)
    · have hsg : sgn pr s[i] = [92, hexc ((s[i]).toNat / 16), hexc ((s[i]).toNat % 16)] := by unfold sgn; rw [if_neg (by rw [hp]; simp)]
      rw [hsg] at out1
      have lo : (s[i]).toNat / 16 < 16 := by omega
      (conv => whnf)
      refine must_intro (decide_eq_true (by rw [(u8_hi s[i]).1]; omega)) ?_
      refine must_intro (decide_eq_true (by rw [(u8_hi s[i]).1]; show ((_ : Nat) : Int) < 16; omega)) ?_
      (conv => whnf)
      refine must_intro (decide_eq_true (by rw [(u8_hi s[i]).2]; omega)) ?_
      refine must_intro (decide_eq_true (by rw [(u8_hi s[i]).2]; show ((_ : Nat) : Int) < 16; omega)) ?_
      (conv => whnf)
      have k1 : byteAt { data := #[48, 49, 50, 51, 52, 53, 54, 55, 56, 57, 97, 98, 99, 100, 101, 102] } (((s[i]).toNat : Int).fdiv (2 ^ min ((4 : Int)).toNat IntKind.u8.bits)).toNat = ((hexc ((s[i]).toNat / 16)).toNat : Int) := by
        rw [(u8_hi s[i]).1, Int.toNat_natCast]
        exact at_signs lo
      have k2 : byteAt { data := #[48, 49, 50, 51, 52, 53, 54, 55, 56, 57, 97, 98, 99, 100, 101, 102] } (ibits .and .u8 ((s[i]).toNat : Int) 15).toNat = ((hexc ((s[i]).toNat % 16)).toNat : Int) := by
        rw [(u8_hi s[i]).2, Int.toNat_natCast]
        exact at_signs (by omega)
      rw [k1, k2]
      obtain ⟨rfl, rfl⟩ := h2 rfl
      refine Write_first [92, hexc ((s[0]).toNat / 16), hexc ((s[0]).toNat % 16)] (by simp) fun n => ?_
      (conv => whnf)
      rw [i64_nat (by omega)]
      exact IH (0 + 1) ([] ++ [92, hexc ((s[0]).toNat / 16), hexc ((s[0]).toNat % 16)]) .b ⟨by omega, out1.symm, fun e => by cases e⟩ (by omega)
  · have hc := ge_of_decE hsl hc
    obtain ⟨rfl, _⟩ := h2 rfl
    exact absurd (List.eq_nil_of_length_eq_zero (by omega)) hs0
  · have hc := lt_of_decE hsl hc
    have hlt := (s[i]).toNat_lt
    have out1 : signsP pr (s.take (i + 1)) = out ++ sgn pr s[i] := by
      rw [h1, List.take_succ_eq_append_getElem hc]
      simp only [signsP, List.flatMap_append, List.flatMap_cons, List.flatMap_nil, List.append_nil]
    (conv => whnf); (repeat ((with_reducible refine must_intro ?_ ?_); exact decide_eq_true (by omega); (conv => whnf)))
    refine idxK_map_intro (show (i : Int).toNat < s.length by simpa using hc) ?_
    rw [show s[(i : Int).toNat]'(by simpa using hc) = s[i] from by congr 1]
    (conv => whnf)
    refine must_intro hg ?_
    refine hpr s[i] _ ?_
    (conv => whnf)
    refine br_intro (fun hp => ?_) (fun hp => ?_)
    · have hsg : sgn pr s[i] = [s[i]] := by unfold sgn; rw [if_pos hp]
      rw [hsg] at out1
      (conv => whnf)
      refine WriteByte_again out s[i] (by omega) ?_
      (conv => whnf)
      rw [i64_nat (by omega)]
      exact IH (i + 1) (out ++ [s[i]]) .a ⟨by omega, out1.symm, fun e => by cases e⟩ (by omega)
    · have hsg : sgn pr s[i] = [92, hexc ((s[i]).toNat / 16), hexc ((s[i]).toNat % 16)] := by unfold sgn; rw [if_neg (by rw [hp]; simp)]
      rw [hsg] at out1
      have lo : (s[i]).toNat / 16 < 16 := by omega
      (conv => whnf)
      refine must_intro (decide_eq_true (by rw [(u8_hi s[i]).1]; omega)) ?_
      refine must_intro (decide_eq_true (by rw [(u8_hi s[i]).1]; show ((_ : Nat) : Int) < 16; omega)) ?_
      (conv => whnf)
      refine must_intro (decide_eq_true (by rw [(u8_hi s[i]).2]; omega)) ?_
      refine must_intro (decide_eq_true (by rw [(u8_hi s[i]).2]; show ((_ : Nat) : Int) < 16; omega)) ?_
      (conv => whnf)
      have k1 : byteAt { data := #[48, 49, 50, 51, 52, 53, 54, 55, 56, 57, 97, 98, 99, 100, 101, 102] } (((s[i]).toNat : Int).fdiv (2 ^ min ((4 : Int)).toNat IntKind.u8.bits)).toNat = ((hexc ((s[i]).toNat / 16)).toNat : Int) := by
        rw [(u8_hi s[i]).1, Int.toNat_natCast]
        exact at_signs lo
      have k2 : byteAt { data := #[48, 49, 50, 51, 52, 53, 54, 55, 56, 57, 97, 98, 99, 100, 101, 102] } (ibits .and .u8 ((s[i]).toNat : Int) 15).toNat = ((hexc ((s[i]).toNat % 16)).toNat : Int) := by
        rw [(u8_hi s[i]).2, Int.toNat_natCast]
        exact at_signs (by omega)
      rw [k1, k2]
      refine Write_again out [92, hexc ((s[i]).toNat / 16), hexc ((s[i]).toNat % 16)] (by omega) (by simp) fun n => ?_
      (conv => whnf)
      rw [i64_nat (by omega)]
      exact IH (i + 1) (out ++ [92, hexc ((s[i]).toNat / 16), hexc ((s[i]).toNat % 16)]) .a ⟨by omega, out1.symm, fun e => by cases e⟩ (by omega)
  · have hc := ge_of_decE hsl hc
    rw [List.take_of_length_le hc] at h1
    have hne : out ≠ [] := by
      rw [h1]
      cases s with
      | nil => exact absurd rfl hs0
      | cons x s =>
        intro e
        have h3 := (sgn_len pr x).1
        have h4 : sgn pr x = [] := by
          simp only [signsP, List.flatMap_cons, List.append_eq_nil_iff] at e
          exact e.1
        rw [h4] at h3
        simp at h3
    (conv => whnf)
    refine sbString_calls nilP out hne ?_
    (conv => whnf)
    exact h _ (by rw [h1])
  · have hc := lt_of_decE hsl hc
    have hlt := (s[i]).toNat_lt
    have out1 : signsP pr (s.take (i + 1)) = out ++ sgn pr s[i] := by
      rw [h1, List.take_succ_eq_append_getElem hc]
      simp only [signsP, List.flatMap_append, List.flatMap_cons, List.flatMap_nil, List.append_nil]
    (conv => whnf); (repeat ((with_reducible refine must_intro ?_ ?_); exact decide_eq_true (by omega); (conv => whnf)))
    refine idxK_map_intro (show (i : Int).toNat < s.length by simpa using hc) ?_
    rw [show s[(i : Int).toNat]'(by simpa using hc) = s[i] from by congr 1]
    (conv => whnf)
    refine must_intro hg ?_
    refine hpr s[i] _ ?_
    (conv => whnf)
    refine br_intro (fun hp => ?_) (fun hp => ?_)
    · have hsg : sgn pr s[i] = [s[i]] := by unfold sgn; rw [if_pos hp]
      rw [hsg] at out1
      (conv => whnf)
      refine WriteByte_again out s[i] (by omega) ?_
      (conv => whnf)
      rw [i64_nat (by omega)]
      exact IH (i + 1) (out ++ [s[i]]) .b ⟨by omega, out1.symm, fun e => by cases e⟩ (by omega)
    · have hsg : sgn pr s[i] = [92, hexc ((s[i]).toNat / 16), hexc ((s[i]).toNat % 16)] := by unfold sgn; rw [if_neg (by rw [hp]; simp)]
      rw [hsg] at out1
      have lo : (s[i]).toNat / 16 < 16 := by omega
      (conv => whnf)
      refine must_intro (decide_eq_true (by rw [(u8_hi s[i]).1]; omega)) ?_
      refine must_intro (decide_eq_true (by rw [(u8_hi s[i]).1]; show ((_ : Nat) : Int) < 16; omega)) ?_
      (conv => whnf)
      refine must_intro (decide_eq_true (by rw [(u8_hi s[i]).2]; omega)) ?_
      refine must_intro (decide_eq_true (by rw [(u8_hi s[i]).2]; show ((_ : Nat) : Int) < 16; omega)) ?_
      (conv => whnf)
      have k1 : byteAt { data := #[48, 49, 50, 51, 52, 53, 54, 55, 56, 57, 97, 98, 99, 100, 101, 102] } (((s[i]).toNat : Int).fdiv (2 ^ min ((4 : Int)).toNat IntKind.u8.bits)).toNat = ((hexc ((s[i]).toNat / 16)).toNat : Int) := by
        rw [(u8_hi s[i]).1, Int.toNat_natCast]
        exact at_signs lo
      have k2 : byteAt { data := #[48, 49, 50, 51, 52, 53, 54, 55, 56, 57, 97, 98, 99, 100, 101, 102] } (ibits .and .u8 ((s[i]).toNat : Int) 15).toNat = ((hexc ((s[i]).toNat % 16)).toNat : Int) := by
        rw [(u8_hi s[i]).2, Int.toNat_natCast]
        exact at_signs (by omega)
      rw [k1, k2]
      refine Write_again out [92, hexc ((s[i]).toNat / 16), hexc ((s[i]).toNat % 16)] (by omega) (by simp) fun n => ?_
      (conv => whnf)
      rw [i64_nat (by omega)]
      exact IH (i + 1) (out ++ [92, hexc ((s[i]).toNat / 16), hexc ((s[i]).toNat % 16)]) .b ⟨by omega, out1.symm, fun e => by cases e⟩ (by omega)
  · have hc := ge_of_decE hsl hc
    rw [List.take_of_length_le hc] at h1
    have hne : out ≠ [] := by
      rw [h1]
      cases s with
      | nil => exact absurd rfl hs0
      | cons x s =>
        intro e
        have h3 := (sgn_len pr x).1
        have h4 : sgn pr x = [] := by
          simp only [signsP, List.flatMap_cons, List.append_eq_nil_iff] at e
          exact e.1
        rw [h4] at h3
        simp at h3
    (conv => whnf)
    refine sbString_calls nilP out hne ?_
    (conv => whnf)
    exact h _ (by rw [h1])
end Go.Abs
end

section
/-
  DERIVED: THE SHELF's CONTRACTS AT THIS DUMP, IN PLAIN WORDS (tools/lay-plain.mjs out of 'TrydShelf.lean', which tools/lay-shelf.mjs wrote): THE SAME DECLARATIONS UNDER THE SAME NAMES: 'import', 'namespace', 'open', 'def', 'theorem' AND NOTHING ELSE: no command of the shelf's: FOR A HAND-IN. Each laying: the table of numbers ('.._ren') and one theorem, a field a fact of the dump's own or the kernel's comparison; each contract: ONE APPLICATION.
-/
namespace Go.Proofs
open Go.Shelf
def Tryd.lays169_ren : Go.Shelf.Ren := ⟨fun | 169 => 33 | n => n, fun | 70 => 49 | 9 => 9 | 0 => 0 | 72 => 52 | 37 => 50 | 127 => 78 | 3 => 3 | 5 => 5 | n => n, fun | n => n⟩
theorem Tryd.lays169 : Go.Proofs.Lays.n169 Tryd.prog Tryd.lays169_ren := {
  mixed := by kernel_rfl
  f169 := Tryd.func33.trans (congrArg some (by kernel_rfl))
  t0 := Tryd.underlying0
  a0 := Tryd.isAgg0
  z0 := Tryd.sizeOf0
  v0 := Tryd.zeroValue0
  t3 := Tryd.underlying3
  a3 := Tryd.isAgg3
  z3 := Tryd.sizeOf3
  v3 := Tryd.zeroValue3
  t9 := Tryd.underlying9
  a9 := Tryd.isAgg9
  z9 := Tryd.sizeOf9
  v9 := Tryd.zeroValue9
  t37 := Tryd.underlying50
  a37 := Tryd.isAgg50
  z37 := Tryd.sizeOf50
  v37 := Tryd.zeroValue50
  t70 := Tryd.underlying49
  a70 := Tryd.isAgg49
  z70 := Tryd.sizeOf49
  v70 := Tryd.zeroValue49
  t72 := Tryd.underlying52
  a72 := Tryd.isAgg52
  z72 := Tryd.sizeOf52
  v72 := Tryd.zeroValue52
  t127 := Tryd.underlying78
  a127 := Tryd.isAgg78
  z127 := Tryd.sizeOf78
  v127 := Tryd.zeroValue78 }
theorem Tryd.Builder_Extra_169 : Builder.Extra Tryd.prog Tryd.lays169_ren := {
  sizeBuilder := by kernel_rfl
  liesBuilder := by kernel_rfl
  t5 := Tryd.underlying5
  a5 := Tryd.isAgg5
  z5 := Tryd.sizeOf5
  v5 := Tryd.zeroValue5
  infoByte := by kernel_rfl
  cellsByte := by kernel_rfl
  sizeByte := by kernel_rfl
  neB5 := by decide }
open Go.RowKit in
/-- (*strings.Builder).String: "String returns the accumulated string.": OF A BUILDER THAT HOLDS AT LEAST ONE BYTE. ✋ THE MODEL FREEZES THOSE BYTES IN THE BUFFER (unsafe.String): a later write INTO them ends the model's run without an answer; a later append BEHIND them goes on. The statement's order of evaluation is drawn: one draw. (LAID: no walk: one application.) -/
theorem Tryd.Builder_String (B b : Nat) (l : List UInt8) (w : World) (h : Lib.IsBuilder 52 5 B b (Lib.byteCells l) w) (h0 : l ≠ []) :
    Calls Tryd.prog 33 #[.pointer (some ⟨b, 0, none⟩)] w fun e w' => e = .returned (.string ⟨l.toArray⟩) ∧ Below B w w' := Any.Builder_String Tryd.lays169 Tryd.Builder_Extra_169 B b l w h h0
open Go.RowKit in
/-- (*strings.Builder).String OF A BUILDER THAT HOLDS NO BYTE: the empty string. (Its buffer is nil, or a row of which it has taken nothing yet; where that row has NO capacity the model lays one new block for unsafe.SliceData's 'some address'.) One draw. (LAID: no walk: one application.) -/
theorem Tryd.Builder_String_empty (B b : Nat) (w : World) (h : Lib.IsBuilder 52 5 B b [] w) (hBw : B ≤ w.heap.size) :
    Calls Tryd.prog 33 #[.pointer (some ⟨b, 0, none⟩)] w fun e w' => e = .returned (.string ⟨#[]⟩) ∧ Below B w w' := Any.Builder_String_empty Tryd.lays169 Tryd.Builder_Extra_169 B b w h hBw
open Go.RowKit in
/-- (*strings.Builder).String: "String returns the accumulated string.": WHATEVER THE BUILDER HOLDS. (LAID: no walk: one application.) -/
theorem Tryd.Builder_String_any (B b : Nat) (l : List UInt8) (w : World) (h : Lib.IsBuilder 52 5 B b (Lib.byteCells l) w) (hBw : B ≤ w.heap.size) :
    Calls Tryd.prog 33 #[.pointer (some ⟨b, 0, none⟩)] w fun e w' => e = .returned (.string ⟨l.toArray⟩) ∧ Below B w w' := Any.Builder_String_any Tryd.lays169 Tryd.Builder_Extra_169 B b l w h hBw
def Tryd.lays241_ren : Go.Shelf.Ren := ⟨fun | 241 => 60 | 277 => 74 | n => n, fun | 70 => 49 | 3 => 3 | 0 => 0 | 72 => 52 | 37 => 50 | 5 => 5 | n => n, fun | n => n⟩
theorem Tryd.lays241 : Go.Proofs.Lays.n241 Tryd.prog Tryd.lays241_ren := {
  mixed := by kernel_rfl
  f241 := Tryd.func60.trans (congrArg some (by kernel_rfl))
  f277 := Tryd.func74.trans (congrArg some (by kernel_rfl))
  t0 := Tryd.underlying0
  a0 := Tryd.isAgg0
  z0 := Tryd.sizeOf0
  v0 := Tryd.zeroValue0
  t3 := Tryd.underlying3
  a3 := Tryd.isAgg3
  z3 := Tryd.sizeOf3
  v3 := Tryd.zeroValue3
  t37 := Tryd.underlying50
  a37 := Tryd.isAgg50
  z37 := Tryd.sizeOf50
  v37 := Tryd.zeroValue50
  t70 := Tryd.underlying49
  a70 := Tryd.isAgg49
  z70 := Tryd.sizeOf49
  v70 := Tryd.zeroValue49
  t72 := Tryd.underlying52
  a72 := Tryd.isAgg52
  z72 := Tryd.sizeOf52
  v72 := Tryd.zeroValue52 }
theorem Tryd.Builder_Extra_241 : Builder.Extra Tryd.prog Tryd.lays241_ren := {
  sizeBuilder := by kernel_rfl
  liesBuilder := by kernel_rfl
  t5 := Tryd.underlying5
  a5 := Tryd.isAgg5
  z5 := Tryd.sizeOf5
  v5 := Tryd.zeroValue5
  infoByte := by kernel_rfl
  cellsByte := by kernel_rfl
  sizeByte := by kernel_rfl
  neB5 := by decide }
open Go.RowKit in
/-- (*strings.Builder).grow (no doc but "grow copies the buffer to a new, larger buffer so that there are at least n bytes of capacity beyond len(b.buf)."): AT A BUILDER WITHOUT A BUFFER: a new row of whatever bytes for its buffer, none of them its own yet. Three draws. (LAID: no walk: one application.) -/
theorem Tryd.Builder_grow_fresh (B b n : Nat) (w : World) (hB : B ≤ b) (hbk : w.heap[b]? = some (.cells #[.pointer (some ⟨b, 0, none⟩), .slice none 0 0] 52 (0, 0))) (hBw : B ≤ w.heap.size) (hn : n ≤ 281474976710656) :
    Calls Tryd.prog 60 #[.pointer (some ⟨b, 0, none⟩), .int .i64 n] w fun e w' => e = .returned (.tuple #[]) ∧ (Lib.BuilderAt 52 5 B b (.pointer (some ⟨b, 0, none⟩)) [] w' ∧ Below B w w') := Any.Builder_grow_fresh Tryd.lays241 Tryd.Builder_Extra_241 B b n w hB hbk hBw hn
def Tryd.lays165_ren : Go.Shelf.Ren := ⟨fun | 165 => 46 | 240 => 48 | 241 => 60 | 276 => 61 | 277 => 74 | n => n, fun | 70 => 49 | 3 => 3 | 0 => 0 | 4 => 4 | 9 => 9 | 20 => 20 | 72 => 52 | 37 => 50 | 164 => 85 | 5 => 5 | n => n, fun | n => n⟩
theorem Tryd.lays165 : Go.Proofs.Lays.n165 Tryd.prog Tryd.lays165_ren := {
  mixed := by kernel_rfl
  f165 := Tryd.func46.trans (congrArg some (by kernel_rfl))
  f240 := Tryd.func48.trans (congrArg some (by kernel_rfl))
  f241 := Tryd.func60.trans (congrArg some (by kernel_rfl))
  f276 := Tryd.func61.trans (congrArg some (by kernel_rfl))
  f277 := Tryd.func74.trans (congrArg some (by kernel_rfl))
  t0 := Tryd.underlying0
  a0 := Tryd.isAgg0
  z0 := Tryd.sizeOf0
  v0 := Tryd.zeroValue0
  t3 := Tryd.underlying3
  a3 := Tryd.isAgg3
  z3 := Tryd.sizeOf3
  v3 := Tryd.zeroValue3
  t4 := Tryd.underlying4
  a4 := Tryd.isAgg4
  z4 := Tryd.sizeOf4
  v4 := Tryd.zeroValue4
  t9 := Tryd.underlying9
  a9 := Tryd.isAgg9
  z9 := Tryd.sizeOf9
  v9 := Tryd.zeroValue9
  t20 := Tryd.underlying20
  a20 := Tryd.isAgg20
  z20 := Tryd.sizeOf20
  v20 := Tryd.zeroValue20
  t37 := Tryd.underlying50
  a37 := Tryd.isAgg50
  z37 := Tryd.sizeOf50
  v37 := Tryd.zeroValue50
  t70 := Tryd.underlying49
  a70 := Tryd.isAgg49
  z70 := Tryd.sizeOf49
  v70 := Tryd.zeroValue49
  t72 := Tryd.underlying52
  a72 := Tryd.isAgg52
  z72 := Tryd.sizeOf52
  v72 := Tryd.zeroValue52
  t164 := Tryd.underlying85
  a164 := Tryd.isAgg85
  z164 := Tryd.sizeOf85
  v164 := Tryd.zeroValue85 }
theorem Tryd.Builder_Extra_165 : Builder.Extra Tryd.prog Tryd.lays165_ren := {
  sizeBuilder := by kernel_rfl
  liesBuilder := by kernel_rfl
  t5 := Tryd.underlying5
  a5 := Tryd.isAgg5
  z5 := Tryd.sizeOf5
  v5 := Tryd.zeroValue5
  infoByte := by kernel_rfl
  cellsByte := by kernel_rfl
  sizeByte := by kernel_rfl
  neB5 := by decide }
open Go.RowKit in
/-- (*strings.Builder).Grow AT A BUILDER THAT HAS NOT BEEN WRITTEN ('var b strings.Builder; b.Grow(n)'): "Grow grows b's capacity, if necessary, to guarantee space for another n bytes.": it holds no byte behind it as before it. (LAID: no walk: one application.) -/
theorem Tryd.Builder_Grow_fresh (B b n : Nat) (w : World) (hB : B ≤ b) (hbk : w.heap[b]? = some (.cells #[.pointer none, .slice none 0 0] 52 (0, 0))) (hBw : B ≤ w.heap.size) (hn : n ≤ 281474976710656) :
    Calls Tryd.prog 46 #[.pointer (some ⟨b, 0, none⟩), .int .i64 n] w fun e w' => e = .returned (.tuple #[]) ∧ (Lib.BuilderAt 52 5 B b (.pointer (some ⟨b, 0, none⟩)) [] w' ∧ Below B w w') := Any.Builder_Grow_fresh Tryd.lays165 Tryd.Builder_Extra_165 B b n w hB hbk hBw hn
def Tryd.lays156_ren : Go.Shelf.Ren := ⟨fun | 156 => 26 | 165 => 46 | 166 => 30 | 169 => 33 | 240 => 48 | 241 => 60 | 276 => 61 | 277 => 74 | n => n, fun | 31 => 22 | 9 => 9 | 3 => 3 | 4 => 4 | 0 => 0 | 20 => 20 | 72 => 52 | 76 => 55 | 70 => 49 | 37 => 50 | 75 => 54 | 127 => 78 | 164 => 85 | 5 => 5 | 80 => 59 | n => n, fun | n => n⟩
theorem Tryd.lays156 : Go.Proofs.Lays.n156 Tryd.prog Tryd.lays156_ren := {
  mixed := by kernel_rfl
  f156 := Tryd.func26.trans (congrArg some (by kernel_rfl))
  f165 := Tryd.func46.trans (congrArg some (by kernel_rfl))
  f166 := Tryd.func30.trans (congrArg some (by kernel_rfl))
  f169 := Tryd.func33.trans (congrArg some (by kernel_rfl))
  f240 := Tryd.func48.trans (congrArg some (by kernel_rfl))
  f241 := Tryd.func60.trans (congrArg some (by kernel_rfl))
  f276 := Tryd.func61.trans (congrArg some (by kernel_rfl))
  f277 := Tryd.func74.trans (congrArg some (by kernel_rfl))
  t0 := Tryd.underlying0
  a0 := Tryd.isAgg0
  z0 := Tryd.sizeOf0
  v0 := Tryd.zeroValue0
  t3 := Tryd.underlying3
  a3 := Tryd.isAgg3
  z3 := Tryd.sizeOf3
  v3 := Tryd.zeroValue3
  t4 := Tryd.underlying4
  a4 := Tryd.isAgg4
  z4 := Tryd.sizeOf4
  v4 := Tryd.zeroValue4
  t9 := Tryd.underlying9
  a9 := Tryd.isAgg9
  z9 := Tryd.sizeOf9
  v9 := Tryd.zeroValue9
  t20 := Tryd.underlying20
  a20 := Tryd.isAgg20
  z20 := Tryd.sizeOf20
  v20 := Tryd.zeroValue20
  t31 := Tryd.underlying22
  a31 := Tryd.isAgg22
  z31 := Tryd.sizeOf22
  v31 := Tryd.zeroValue22
  t37 := Tryd.underlying50
  a37 := Tryd.isAgg50
  z37 := Tryd.sizeOf50
  v37 := Tryd.zeroValue50
  t70 := Tryd.underlying49
  a70 := Tryd.isAgg49
  z70 := Tryd.sizeOf49
  v70 := Tryd.zeroValue49
  t72 := Tryd.underlying52
  a72 := Tryd.isAgg52
  z72 := Tryd.sizeOf52
  v72 := Tryd.zeroValue52
  t75 := Tryd.underlying54
  a75 := Tryd.isAgg54
  z75 := Tryd.sizeOf54
  v75 := Tryd.zeroValue54
  t76 := Tryd.underlying55
  a76 := Tryd.isAgg55
  z76 := Tryd.sizeOf55
  v76 := Tryd.zeroValue55
  t127 := Tryd.underlying78
  a127 := Tryd.isAgg78
  z127 := Tryd.sizeOf78
  v127 := Tryd.zeroValue78
  t164 := Tryd.underlying85
  a164 := Tryd.isAgg85
  z164 := Tryd.sizeOf85
  v164 := Tryd.zeroValue85 }
theorem Tryd.Builder_Extra_156 : Builder.Extra Tryd.prog Tryd.lays156_ren := {
  sizeBuilder := by kernel_rfl
  liesBuilder := by kernel_rfl
  t5 := Tryd.underlying5
  a5 := Tryd.isAgg5
  z5 := Tryd.sizeOf5
  v5 := Tryd.zeroValue5
  infoByte := by kernel_rfl
  cellsByte := by kernel_rfl
  sizeByte := by kernel_rfl
  neB5 := by decide }
open Go.RowKit in
/-- No element: the empty string; the world is as it was. (Whatever the slice's address and capacity: a nil slice too.) (LAID: no walk: one application.) -/
theorem Tryd.strings_Join_none (a : Option Addr) (c : Nat) (sep : ByteArray) (w : World) :
    Calls Tryd.prog 26 #[.slice a 0 c, .string sep] w fun e w' => e = .returned (.string ⟨#[]⟩) ∧ w' = w := Any.strings_Join_none Tryd.lays156 Tryd.Builder_Extra_156 a c sep w
open Go.RowKit in
/-- strings.Join: "Join concatenates the elements of its first argument to create a single string. The separator string sep is placed between elements in the resulting string.": HOWEVER MANY ELEMENTS. Below the heap's end the world is as it was. (LAID: no walk: one application.) -/
theorem Tryd.strings_Join (bk o c : Nat) (xs : List ByteArray) (sep : ByteArray) (w : World) (hcells : ∀ (j : Nat) x, xs[j]? = some x → w.cell? ⟨bk, o + j, none⟩ = some (.string x)) (hbk : bk < w.heap.size) (hN : xs.length ≤ 140737488355328) (hcap : xs.length ≤ c) (hlen : (Lib.join (xs.map (·.data.toList)) sep.data.toList).length ≤ 140737488355328) :
    Calls Tryd.prog 26 #[.slice (some ⟨bk, o, none⟩) xs.length c, .string sep] w fun e w' => e = .returned (.string ⟨(Lib.join (xs.map (·.data.toList)) sep.data.toList).toArray⟩) ∧ Below w.heap.size w w' := Any.strings_Join Tryd.lays156 Tryd.Builder_Extra_156 bk o c xs sep w hcells hbk hN hcap hlen
def Tryd.lays129_ren : Go.Shelf.Ren := ⟨fun | 129 => 89 | n => n, fun | 53 => 44 | 3 => 3 | 4 => 4 | 46 => 69 | 5 => 5 | 9 => 9 | n => n, fun | n => n⟩
theorem Tryd.lays129 : Go.Proofs.Lays.n129 Tryd.prog Tryd.lays129_ren := {
  mixed := by kernel_rfl
  f129 := Tryd.func89.trans (congrArg some (by kernel_rfl))
  t3 := Tryd.underlying3
  a3 := Tryd.isAgg3
  z3 := Tryd.sizeOf3
  v3 := Tryd.zeroValue3
  t4 := Tryd.underlying4
  a4 := Tryd.isAgg4
  z4 := Tryd.sizeOf4
  v4 := Tryd.zeroValue4
  t5 := Tryd.underlying5
  a5 := Tryd.isAgg5
  z5 := Tryd.sizeOf5
  v5 := Tryd.zeroValue5
  t9 := Tryd.underlying9
  a9 := Tryd.isAgg9
  z9 := Tryd.sizeOf9
  v9 := Tryd.zeroValue9
  t46 := Tryd.underlying69
  a46 := Tryd.isAgg69
  z46 := Tryd.sizeOf69
  v46 := Tryd.zeroValue69
  t53 := Tryd.underlying44
  a53 := Tryd.isAgg44
  z53 := Tryd.sizeOf44
  v53 := Tryd.zeroValue44 }
/-- bits.Len64: "Len64 returns the minimum number of bits required to represent x; the result is 0 for x == 0.": IT RETURNS 'Lib.bitLen x'; the world is as it was. ('h0', 'h1': x is a uint64.) (LAID: no walk: one application.) -/
theorem Tryd.bits_Len64 (x : Int) (w : World) (h0 : 0 ≤ x) (h1 : x ≤ 18446744073709551615) :
    Calls Tryd.prog 89 #[.int .u64 x] w fun e w' => e = .returned (.int .i64 (Lib.bitLen x.toNat)) ∧ w' = w := Any.bits_Len64 Tryd.lays129 x w h0 h1
def Tryd.lays317_ren : Go.Shelf.Ren := ⟨fun | 317 => 88 | n => n, fun | 3 => 3 | 46 => 69 | n => n, fun | n => n⟩
theorem Tryd.lays317 : Go.Proofs.Lays.n317 Tryd.prog Tryd.lays317_ren := {
  mixed := by kernel_rfl
  f317 := Tryd.func88.trans (congrArg some (by kernel_rfl))
  t3 := Tryd.underlying3
  a3 := Tryd.isAgg3
  z3 := Tryd.sizeOf3
  v3 := Tryd.zeroValue3
  t46 := Tryd.underlying69
  a46 := Tryd.isAgg69
  z46 := Tryd.sizeOf69
  v46 := Tryd.zeroValue69 }
open Go.Lib in
/-- internal/strconv.log10Pow2: "log10Pow2(x) returns ⌊log₁₀ 2**x⌋ = ⌊x * log₁₀ 2⌋.": '(x * 78913) >> 18', at an x up to 64 (a length in bits). The world is as it was. (LAID: no walk: one application.) -/
theorem Tryd.internal_strconv_log10Pow2 (x : Nat) (h : x ≤ 64) (w : World) :
    Calls Tryd.prog 88 #[.int .i64 x] w fun e w' => e = .returned (.int .i64 (Lib.l10 x)) ∧ w' = w := Any.internal_strconv_log10Pow2 Tryd.lays317 x h w
def Tryd.lays318_ren : Go.Shelf.Ren := ⟨fun | 318 => 90 | n => n, fun | 3 => 3 | 4 => 4 | n => n, fun | n => n⟩
theorem Tryd.lays318 : Go.Proofs.Lays.n318 Tryd.prog Tryd.lays318_ren := {
  mixed := by kernel_rfl
  f318 := Tryd.func90.trans (congrArg some (by kernel_rfl))
  t3 := Tryd.underlying3
  a3 := Tryd.isAgg3
  z3 := Tryd.sizeOf3
  v3 := Tryd.zeroValue3
  t4 := Tryd.underlying4
  a4 := Tryd.isAgg4
  z4 := Tryd.sizeOf4
  v4 := Tryd.zeroValue4 }
open Go.Lib in
/-- internal/strconv.bool2: "bool2 converts b to an integer: 1 for true, 0 for false." The world is as it was. (LAID: no walk: one application.) -/
theorem Tryd.internal_strconv_bool2_int (b : Bool) (w : World) :
    Calls Tryd.prog 90 #[.bool b] w fun e w' => e = .returned (.int .i64 (if b then 1 else 0)) ∧ w' = w := Any.internal_strconv_bool2_int Tryd.lays318 b w
def Tryd.lays283_ren : Go.Shelf.Ren := ⟨fun | 283 => 75 | n => n, fun | 3 => 3 | 9 => 9 | 4 => 4 | n => n, fun | n => n⟩
theorem Tryd.lays283 : Go.Proofs.Lays.n283 Tryd.prog Tryd.lays283_ren := {
  mixed := by kernel_rfl
  f283 := Tryd.func75.trans (congrArg some (by kernel_rfl))
  t3 := Tryd.underlying3
  a3 := Tryd.isAgg3
  z3 := Tryd.sizeOf3
  v3 := Tryd.zeroValue3
  t4 := Tryd.underlying4
  a4 := Tryd.isAgg4
  z4 := Tryd.sizeOf4
  v4 := Tryd.zeroValue4
  t9 := Tryd.underlying9
  a9 := Tryd.isAgg9
  z9 := Tryd.sizeOf9
  v9 := Tryd.zeroValue9 }
open Go.Lib in
/-- internal/strconv.small: "small returns the string for an i with 0 <= i < nSmalls.": i's decimal numeral. The world is as it was. (LAID: no walk: one application.) -/
theorem Tryd.internal_strconv_small (i : Nat) (h : i < 100) (w : World) :
    Calls Tryd.prog 75 #[.int .i64 i] w fun e w' => e = .returned (.string ⟨(Lib.decDigits i).toArray⟩) ∧ w' = w := Any.internal_strconv_small Tryd.lays283 i h w
def Tryd.laysM284_ren : Go.Shelf.Ren := ⟨fun | 284 => 76 | 129 => 89 | 317 => 88 | 318 => 90 | n => n, fun | 53 => 44 | 3 => 3 | 212 => 112 | 0 => 0 | 4 => 4 | 46 => 69 | 5 => 5 | 9 => 9 | n => n, fun | 17 => 1 | n => n⟩
theorem Tryd.laysM284 : Go.Proofs.LaysM.n284 Tryd.prog Tryd.laysM284_ren := {
  mixed := by kernel_rfl
  f129 := Tryd.func89.trans (congrArg some (by kernel_rfl))
  f284 := Tryd.func76.trans (congrArg some (by kernel_rfl))
  f317 := Tryd.func88.trans (congrArg some (by kernel_rfl))
  f318 := Tryd.func90.trans (congrArg some (by kernel_rfl))
  t0 := Tryd.underlying0
  a0 := Tryd.isAgg0
  z0 := Tryd.sizeOf0
  v0 := Tryd.zeroValue0
  t3 := Tryd.underlying3
  a3 := Tryd.isAgg3
  z3 := Tryd.sizeOf3
  v3 := Tryd.zeroValue3
  t4 := Tryd.underlying4
  a4 := Tryd.isAgg4
  z4 := Tryd.sizeOf4
  v4 := Tryd.zeroValue4
  t5 := Tryd.underlying5
  a5 := Tryd.isAgg5
  z5 := Tryd.sizeOf5
  v5 := Tryd.zeroValue5
  t9 := Tryd.underlying9
  a9 := Tryd.isAgg9
  z9 := Tryd.sizeOf9
  v9 := Tryd.zeroValue9
  t46 := Tryd.underlying69
  a46 := Tryd.isAgg69
  z46 := Tryd.sizeOf69
  v46 := Tryd.zeroValue69
  t53 := Tryd.underlying44
  a53 := Tryd.isAgg44
  z53 := Tryd.sizeOf44
  v53 := Tryd.zeroValue44
  t212 := Tryd.underlying112
  a212 := Tryd.isAgg112
  z212 := Tryd.sizeOf112
  v212 := Tryd.zeroValue112
  g17 := by kernel_rfl
  i0 := by kernel_rfl
  i3 := by kernel_rfl
  i4 := by kernel_rfl
  i5 := by kernel_rfl
  i9 := by kernel_rfl
  i46 := by kernel_rfl
  i53 := by kernel_rfl
  i212 := by kernel_rfl
  m17 := by kernel_rfl }
open Go.Lib in
/-- internal/strconv.numDigits, at a d that is not 0: THE NUMBER OF d's DECIMAL DIGITS. The world is as it was. (LAID: no walk: one application.) -/
theorem Tryd.internal_strconv_numDigits (u : Nat) (h1 : 1 ≤ u) (h2 : u < 18446744073709551616) (w : World) (htab : Lib.TabIs Tryd.prog w "internal/strconv.uint64pow10" .u64 Lib.pow10Tab) :
    Calls Tryd.prog 76 #[.int .u64 u] w fun e w' => e = .returned (.int .i64 (Lib.nDigits u)) ∧ w' = w := Any.internal_strconv_numDigits Tryd.laysM284 u h1 h2 w htab
def Tryd.lays285_ren : Go.Shelf.Ren := ⟨fun | 285 => 77 | n => n, fun | 37 => 50 | 53 => 44 | 3 => 3 | 4 => 4 | 51 => 63 | 9 => 9 | 5 => 5 | 0 => 0 | n => n, fun | n => n⟩
theorem Tryd.lays285 : Go.Proofs.Lays.n285 Tryd.prog Tryd.lays285_ren := {
  mixed := by kernel_rfl
  f285 := Tryd.func77.trans (congrArg some (by kernel_rfl))
  t0 := Tryd.underlying0
  a0 := Tryd.isAgg0
  z0 := Tryd.sizeOf0
  v0 := Tryd.zeroValue0
  t3 := Tryd.underlying3
  a3 := Tryd.isAgg3
  z3 := Tryd.sizeOf3
  v3 := Tryd.zeroValue3
  t4 := Tryd.underlying4
  a4 := Tryd.isAgg4
  z4 := Tryd.sizeOf4
  v4 := Tryd.zeroValue4
  t5 := Tryd.underlying5
  a5 := Tryd.isAgg5
  z5 := Tryd.sizeOf5
  v5 := Tryd.zeroValue5
  t9 := Tryd.underlying9
  a9 := Tryd.isAgg9
  z9 := Tryd.sizeOf9
  v9 := Tryd.zeroValue9
  t37 := Tryd.underlying50
  a37 := Tryd.isAgg50
  z37 := Tryd.sizeOf50
  v37 := Tryd.zeroValue50
  t51 := Tryd.underlying63
  a51 := Tryd.isAgg63
  z51 := Tryd.sizeOf63
  v51 := Tryd.zeroValue63
  t53 := Tryd.underlying44
  a53 := Tryd.isAgg44
  z53 := Tryd.sizeOf44
  v53 := Tryd.zeroValue44 }
open Go.RowKit Go.Sort Go.Lib in
/-- internal/strconv.formatBase10: "formatBase10 formats the decimal representation of u into a. The caller is responsible for ensuring that a is big enough to hold u. If a is too big, leading zeros will be filled in as needed.": THE ROW HOLDS u's DIGITS ('FmtInv .. 0 ..': every place t holds 'dg u (len - 1 - t)'); all else is as it was but for the count of draws. (LAID: no walk: one application.) -/
theorem Tryd.internal_strconv_formatBase10 (blk off cap : Nat) (u : Nat) (d : Array UInt8) (w : World) (hH : Holds (fun (b : UInt8) => Value.int .u8 (b.toNat : Int)) w blk off d) (hu : u < 10 ^ d.size) (hu64 : u < 18446744073709551616) (hsz : d.size < 4611686018427387904) :
    Calls Tryd.prog 77 #[.slice (some ⟨blk, off, none⟩) d.size cap, .int .u64 u] w fun e w' =>
      e = .returned (.tuple #[]) ∧ ∃ (n v' : Nat) (dk : Array UInt8), w' = (putRow (fun (b : UInt8) => Value.int .u8 (b.toNat : Int)) w blk off dk).drewN n ∧ FmtInv d.size u 0 v' dk := Any.internal_strconv_formatBase10 Tryd.lays285 blk off cap u d w hH hu hu64 hsz
def Tryd.laysM246_ren : Go.Shelf.Ren := ⟨fun | 246 => 62 | 283 => 75 | 284 => 76 | 285 => 77 | 286 => 78 | 129 => 89 | 317 => 88 | 318 => 90 | 319 => 91 | 320 => 92 | 337 => 96 | 338 => 97 | n => n, fun | 2 => 2 | 3 => 3 | 9 => 9 | 4 => 4 | 171 => 97 | 0 => 0 | 53 => 44 | 37 => 50 | 5 => 5 | 173 => 100 | 212 => 112 | 51 => 63 | 20 => 20 | 213 => 113 | 46 => 69 | 232 => 131 | 233 => 132 | n => n, fun | 17 => 1 | 18 => 4 | 19 => 5 | n => n⟩
theorem Tryd.laysM246 : Go.Proofs.LaysM.n246 Tryd.prog Tryd.laysM246_ren := {
  mixed := by kernel_rfl
  f129 := Tryd.func89.trans (congrArg some (by kernel_rfl))
  f246 := Tryd.func62.trans (congrArg some (by kernel_rfl))
  f283 := Tryd.func75.trans (congrArg some (by kernel_rfl))
  f284 := Tryd.func76.trans (congrArg some (by kernel_rfl))
  f285 := Tryd.func77.trans (congrArg some (by kernel_rfl))
  f286 := Tryd.func78.trans (congrArg some (by kernel_rfl))
  f317 := Tryd.func88.trans (congrArg some (by kernel_rfl))
  f318 := Tryd.func90.trans (congrArg some (by kernel_rfl))
  f319 := Tryd.func91.trans (congrArg some (by kernel_rfl))
  f320 := Tryd.func92.trans (congrArg some (by kernel_rfl))
  f337 := Tryd.func96.trans (congrArg some (by kernel_rfl))
  f338 := Tryd.func97.trans (congrArg some (by kernel_rfl))
  t0 := Tryd.underlying0
  a0 := Tryd.isAgg0
  z0 := Tryd.sizeOf0
  v0 := Tryd.zeroValue0
  t2 := Tryd.underlying2
  a2 := Tryd.isAgg2
  z2 := Tryd.sizeOf2
  v2 := Tryd.zeroValue2
  t3 := Tryd.underlying3
  a3 := Tryd.isAgg3
  z3 := Tryd.sizeOf3
  v3 := Tryd.zeroValue3
  t4 := Tryd.underlying4
  a4 := Tryd.isAgg4
  z4 := Tryd.sizeOf4
  v4 := Tryd.zeroValue4
  t5 := Tryd.underlying5
  a5 := Tryd.isAgg5
  z5 := Tryd.sizeOf5
  v5 := Tryd.zeroValue5
  t9 := Tryd.underlying9
  a9 := Tryd.isAgg9
  z9 := Tryd.sizeOf9
  v9 := Tryd.zeroValue9
  t20 := Tryd.underlying20
  a20 := Tryd.isAgg20
  z20 := Tryd.sizeOf20
  v20 := Tryd.zeroValue20
  t37 := Tryd.underlying50
  a37 := Tryd.isAgg50
  z37 := Tryd.sizeOf50
  v37 := Tryd.zeroValue50
  t46 := Tryd.underlying69
  a46 := Tryd.isAgg69
  z46 := Tryd.sizeOf69
  v46 := Tryd.zeroValue69
  t51 := Tryd.underlying63
  a51 := Tryd.isAgg63
  z51 := Tryd.sizeOf63
  v51 := Tryd.zeroValue63
  t53 := Tryd.underlying44
  a53 := Tryd.isAgg44
  z53 := Tryd.sizeOf44
  v53 := Tryd.zeroValue44
  t171 := Tryd.underlying97
  a171 := Tryd.isAgg97
  z171 := Tryd.sizeOf97
  v171 := Tryd.zeroValue97
  t173 := Tryd.underlying100
  a173 := Tryd.isAgg100
  z173 := Tryd.sizeOf100
  v173 := Tryd.zeroValue100
  t212 := Tryd.underlying112
  a212 := Tryd.isAgg112
  z212 := Tryd.sizeOf112
  v212 := Tryd.zeroValue112
  t213 := Tryd.underlying113
  a213 := Tryd.isAgg113
  z213 := Tryd.sizeOf113
  t232 := Tryd.underlying131
  a232 := Tryd.isAgg131
  z232 := Tryd.sizeOf131
  v232 := Tryd.zeroValue131
  t233 := Tryd.underlying132
  a233 := Tryd.isAgg132
  z233 := Tryd.sizeOf132
  v233 := Tryd.zeroValue132
  g17 := by kernel_rfl
  g18 := by kernel_rfl
  g19 := by kernel_rfl
  i0 := by kernel_rfl
  i2 := by kernel_rfl
  i3 := by kernel_rfl
  i4 := by kernel_rfl
  i5 := by kernel_rfl
  i9 := by kernel_rfl
  i20 := by kernel_rfl
  i37 := by kernel_rfl
  i46 := by kernel_rfl
  i51 := by kernel_rfl
  i53 := by kernel_rfl
  i171 := by kernel_rfl
  i173 := by kernel_rfl
  i212 := by kernel_rfl
  i232 := by kernel_rfl
  i233 := by kernel_rfl
  m17 := by kernel_rfl
  m18 := by kernel_rfl
  m19 := by kernel_rfl }
open Go.RowKit Go.Sort Go.Lib in
/-- internal/strconv.FormatInt: "FormatInt returns the string representation of i in the given base": AT BASE 10: i's decimal numeral, for every int64. The world behind the call: the world before it, new blocks behind the heap, draws. (LAID: no walk: one application.) -/
theorem Tryd.internal_strconv_FormatInt_10 (n : Int) (h0 : -9223372036854775808 ≤ n) (h1 : n ≤ 9223372036854775807) (w : World) (htab : Lib.TabIs Tryd.prog w "internal/strconv.uint64pow10" .u64 Lib.pow10Tab) :
    Calls Tryd.prog 62 #[.int .i64 n, .int .i64 10] w fun e w' => e = .returned (.string ⟨(Lib.itoa n).toArray⟩) ∧ ∃ k os, w' = grow (w.drewN k) os := Any.internal_strconv_FormatInt_10 Tryd.laysM246 n h0 h1 w htab
def Tryd.lays246_ren : Go.Shelf.Ren := ⟨fun | 246 => 62 | 283 => 75 | 284 => 76 | 285 => 77 | 286 => 78 | 129 => 89 | 317 => 88 | 318 => 90 | 319 => 91 | 320 => 92 | 337 => 96 | 338 => 97 | n => n, fun | 2 => 2 | 3 => 3 | 9 => 9 | 4 => 4 | 171 => 97 | 0 => 0 | 53 => 44 | 37 => 50 | 5 => 5 | 173 => 100 | 212 => 112 | 51 => 63 | 20 => 20 | 213 => 113 | 46 => 69 | 232 => 131 | 233 => 132 | n => n, fun | 17 => 1 | 18 => 4 | 19 => 5 | n => n⟩
theorem Tryd.lays246 : Go.Proofs.Lays.n246 Tryd.prog Tryd.lays246_ren := {
  mixed := by kernel_rfl
  f129 := Tryd.func89.trans (congrArg some (by kernel_rfl))
  f246 := Tryd.func62.trans (congrArg some (by kernel_rfl))
  f283 := Tryd.func75.trans (congrArg some (by kernel_rfl))
  f284 := Tryd.func76.trans (congrArg some (by kernel_rfl))
  f285 := Tryd.func77.trans (congrArg some (by kernel_rfl))
  f286 := Tryd.func78.trans (congrArg some (by kernel_rfl))
  f317 := Tryd.func88.trans (congrArg some (by kernel_rfl))
  f318 := Tryd.func90.trans (congrArg some (by kernel_rfl))
  f319 := Tryd.func91.trans (congrArg some (by kernel_rfl))
  f320 := Tryd.func92.trans (congrArg some (by kernel_rfl))
  f337 := Tryd.func96.trans (congrArg some (by kernel_rfl))
  f338 := Tryd.func97.trans (congrArg some (by kernel_rfl))
  t0 := Tryd.underlying0
  a0 := Tryd.isAgg0
  z0 := Tryd.sizeOf0
  v0 := Tryd.zeroValue0
  t2 := Tryd.underlying2
  a2 := Tryd.isAgg2
  z2 := Tryd.sizeOf2
  v2 := Tryd.zeroValue2
  t3 := Tryd.underlying3
  a3 := Tryd.isAgg3
  z3 := Tryd.sizeOf3
  v3 := Tryd.zeroValue3
  t4 := Tryd.underlying4
  a4 := Tryd.isAgg4
  z4 := Tryd.sizeOf4
  v4 := Tryd.zeroValue4
  t5 := Tryd.underlying5
  a5 := Tryd.isAgg5
  z5 := Tryd.sizeOf5
  v5 := Tryd.zeroValue5
  t9 := Tryd.underlying9
  a9 := Tryd.isAgg9
  z9 := Tryd.sizeOf9
  v9 := Tryd.zeroValue9
  t20 := Tryd.underlying20
  a20 := Tryd.isAgg20
  z20 := Tryd.sizeOf20
  v20 := Tryd.zeroValue20
  t37 := Tryd.underlying50
  a37 := Tryd.isAgg50
  z37 := Tryd.sizeOf50
  v37 := Tryd.zeroValue50
  t46 := Tryd.underlying69
  a46 := Tryd.isAgg69
  z46 := Tryd.sizeOf69
  v46 := Tryd.zeroValue69
  t51 := Tryd.underlying63
  a51 := Tryd.isAgg63
  z51 := Tryd.sizeOf63
  v51 := Tryd.zeroValue63
  t53 := Tryd.underlying44
  a53 := Tryd.isAgg44
  z53 := Tryd.sizeOf44
  v53 := Tryd.zeroValue44
  t171 := Tryd.underlying97
  a171 := Tryd.isAgg97
  z171 := Tryd.sizeOf97
  v171 := Tryd.zeroValue97
  t173 := Tryd.underlying100
  a173 := Tryd.isAgg100
  z173 := Tryd.sizeOf100
  v173 := Tryd.zeroValue100
  t212 := Tryd.underlying112
  a212 := Tryd.isAgg112
  z212 := Tryd.sizeOf112
  v212 := Tryd.zeroValue112
  t213 := Tryd.underlying113
  a213 := Tryd.isAgg113
  z213 := Tryd.sizeOf113
  t232 := Tryd.underlying131
  a232 := Tryd.isAgg131
  z232 := Tryd.sizeOf131
  v232 := Tryd.zeroValue131
  t233 := Tryd.underlying132
  a233 := Tryd.isAgg132
  z233 := Tryd.sizeOf132
  v233 := Tryd.zeroValue132
  g17 := by kernel_rfl
  g18 := by kernel_rfl
  g19 := by kernel_rfl }
open Go.RowKit Go.Sort Go.Lib in
/-- THE ROAD WITHOUT THE TABLE: 0 <= i < 100: two constants are read, nothing is laid: no premise on the world, and the world is as it was. (LAID: no walk: one application.) -/
theorem Tryd.internal_strconv_FormatInt_10_small (i : Nat) (hi : i < 100) (w : World) :
    Calls Tryd.prog 62 #[.int .i64 i, .int .i64 10] w fun e w' => e = .returned (.string ⟨(Lib.decDigits i).toArray⟩) ∧ w' = w := Any.internal_strconv_FormatInt_10_small Tryd.lays246 i hi w
def Tryd.laysM243_ren : Go.Shelf.Ren := ⟨fun | 243 => 49 | 246 => 62 | 283 => 75 | 284 => 76 | 285 => 77 | 286 => 78 | 129 => 89 | 317 => 88 | 318 => 90 | 319 => 91 | 320 => 92 | 337 => 96 | 338 => 97 | n => n, fun | 3 => 3 | 9 => 9 | 2 => 2 | 4 => 4 | 171 => 97 | 0 => 0 | 53 => 44 | 37 => 50 | 5 => 5 | 173 => 100 | 212 => 112 | 51 => 63 | 20 => 20 | 213 => 113 | 46 => 69 | 232 => 131 | 233 => 132 | n => n, fun | 17 => 1 | 18 => 4 | 19 => 5 | n => n⟩
theorem Tryd.laysM243 : Go.Proofs.LaysM.n243 Tryd.prog Tryd.laysM243_ren := {
  mixed := by kernel_rfl
  f129 := Tryd.func89.trans (congrArg some (by kernel_rfl))
  f243 := Tryd.func49.trans (congrArg some (by kernel_rfl))
  f246 := Tryd.func62.trans (congrArg some (by kernel_rfl))
  f283 := Tryd.func75.trans (congrArg some (by kernel_rfl))
  f284 := Tryd.func76.trans (congrArg some (by kernel_rfl))
  f285 := Tryd.func77.trans (congrArg some (by kernel_rfl))
  f286 := Tryd.func78.trans (congrArg some (by kernel_rfl))
  f317 := Tryd.func88.trans (congrArg some (by kernel_rfl))
  f318 := Tryd.func90.trans (congrArg some (by kernel_rfl))
  f319 := Tryd.func91.trans (congrArg some (by kernel_rfl))
  f320 := Tryd.func92.trans (congrArg some (by kernel_rfl))
  f337 := Tryd.func96.trans (congrArg some (by kernel_rfl))
  f338 := Tryd.func97.trans (congrArg some (by kernel_rfl))
  t0 := Tryd.underlying0
  a0 := Tryd.isAgg0
  z0 := Tryd.sizeOf0
  v0 := Tryd.zeroValue0
  t2 := Tryd.underlying2
  a2 := Tryd.isAgg2
  z2 := Tryd.sizeOf2
  v2 := Tryd.zeroValue2
  t3 := Tryd.underlying3
  a3 := Tryd.isAgg3
  z3 := Tryd.sizeOf3
  v3 := Tryd.zeroValue3
  t4 := Tryd.underlying4
  a4 := Tryd.isAgg4
  z4 := Tryd.sizeOf4
  v4 := Tryd.zeroValue4
  t5 := Tryd.underlying5
  a5 := Tryd.isAgg5
  z5 := Tryd.sizeOf5
  v5 := Tryd.zeroValue5
  t9 := Tryd.underlying9
  a9 := Tryd.isAgg9
  z9 := Tryd.sizeOf9
  v9 := Tryd.zeroValue9
  t20 := Tryd.underlying20
  a20 := Tryd.isAgg20
  z20 := Tryd.sizeOf20
  v20 := Tryd.zeroValue20
  t37 := Tryd.underlying50
  a37 := Tryd.isAgg50
  z37 := Tryd.sizeOf50
  v37 := Tryd.zeroValue50
  t46 := Tryd.underlying69
  a46 := Tryd.isAgg69
  z46 := Tryd.sizeOf69
  v46 := Tryd.zeroValue69
  t51 := Tryd.underlying63
  a51 := Tryd.isAgg63
  z51 := Tryd.sizeOf63
  v51 := Tryd.zeroValue63
  t53 := Tryd.underlying44
  a53 := Tryd.isAgg44
  z53 := Tryd.sizeOf44
  v53 := Tryd.zeroValue44
  t171 := Tryd.underlying97
  a171 := Tryd.isAgg97
  z171 := Tryd.sizeOf97
  v171 := Tryd.zeroValue97
  t173 := Tryd.underlying100
  a173 := Tryd.isAgg100
  z173 := Tryd.sizeOf100
  v173 := Tryd.zeroValue100
  t212 := Tryd.underlying112
  a212 := Tryd.isAgg112
  z212 := Tryd.sizeOf112
  v212 := Tryd.zeroValue112
  t213 := Tryd.underlying113
  a213 := Tryd.isAgg113
  z213 := Tryd.sizeOf113
  t232 := Tryd.underlying131
  a232 := Tryd.isAgg131
  z232 := Tryd.sizeOf131
  v232 := Tryd.zeroValue131
  t233 := Tryd.underlying132
  a233 := Tryd.isAgg132
  z233 := Tryd.sizeOf132
  v233 := Tryd.zeroValue132
  g17 := by kernel_rfl
  g18 := by kernel_rfl
  g19 := by kernel_rfl
  i0 := by kernel_rfl
  i2 := by kernel_rfl
  i3 := by kernel_rfl
  i4 := by kernel_rfl
  i5 := by kernel_rfl
  i9 := by kernel_rfl
  i20 := by kernel_rfl
  i37 := by kernel_rfl
  i46 := by kernel_rfl
  i51 := by kernel_rfl
  i53 := by kernel_rfl
  i171 := by kernel_rfl
  i173 := by kernel_rfl
  i212 := by kernel_rfl
  i232 := by kernel_rfl
  i233 := by kernel_rfl
  m17 := by kernel_rfl
  m18 := by kernel_rfl
  m19 := by kernel_rfl }
open Go.RowKit Go.Sort Go.Lib in
/-- internal/strconv.Itoa: "Itoa is equivalent to FormatInt(int64(i), 10).": i's decimal numeral, for every int. (LAID: no walk: one application.) -/
theorem Tryd.internal_strconv_Itoa (n : Int) (h0 : -9223372036854775808 ≤ n) (h1 : n ≤ 9223372036854775807) (w : World) (htab : Lib.TabIs Tryd.prog w "internal/strconv.uint64pow10" .u64 Lib.pow10Tab) :
    Calls Tryd.prog 49 #[.int .i64 n] w fun e w' => e = .returned (.string ⟨(Lib.itoa n).toArray⟩) ∧ ∃ k os, w' = grow (w.drewN k) os := Any.internal_strconv_Itoa Tryd.laysM243 n h0 h1 w htab
def Tryd.lays243_ren : Go.Shelf.Ren := ⟨fun | 243 => 49 | 246 => 62 | 283 => 75 | 284 => 76 | 285 => 77 | 286 => 78 | 129 => 89 | 317 => 88 | 318 => 90 | 319 => 91 | 320 => 92 | 337 => 96 | 338 => 97 | n => n, fun | 3 => 3 | 9 => 9 | 2 => 2 | 4 => 4 | 171 => 97 | 0 => 0 | 53 => 44 | 37 => 50 | 5 => 5 | 173 => 100 | 212 => 112 | 51 => 63 | 20 => 20 | 213 => 113 | 46 => 69 | 232 => 131 | 233 => 132 | n => n, fun | 17 => 1 | 18 => 4 | 19 => 5 | n => n⟩
theorem Tryd.lays243 : Go.Proofs.Lays.n243 Tryd.prog Tryd.lays243_ren := {
  mixed := by kernel_rfl
  f129 := Tryd.func89.trans (congrArg some (by kernel_rfl))
  f243 := Tryd.func49.trans (congrArg some (by kernel_rfl))
  f246 := Tryd.func62.trans (congrArg some (by kernel_rfl))
  f283 := Tryd.func75.trans (congrArg some (by kernel_rfl))
  f284 := Tryd.func76.trans (congrArg some (by kernel_rfl))
  f285 := Tryd.func77.trans (congrArg some (by kernel_rfl))
  f286 := Tryd.func78.trans (congrArg some (by kernel_rfl))
  f317 := Tryd.func88.trans (congrArg some (by kernel_rfl))
  f318 := Tryd.func90.trans (congrArg some (by kernel_rfl))
  f319 := Tryd.func91.trans (congrArg some (by kernel_rfl))
  f320 := Tryd.func92.trans (congrArg some (by kernel_rfl))
  f337 := Tryd.func96.trans (congrArg some (by kernel_rfl))
  f338 := Tryd.func97.trans (congrArg some (by kernel_rfl))
  t0 := Tryd.underlying0
  a0 := Tryd.isAgg0
  z0 := Tryd.sizeOf0
  v0 := Tryd.zeroValue0
  t2 := Tryd.underlying2
  a2 := Tryd.isAgg2
  z2 := Tryd.sizeOf2
  v2 := Tryd.zeroValue2
  t3 := Tryd.underlying3
  a3 := Tryd.isAgg3
  z3 := Tryd.sizeOf3
  v3 := Tryd.zeroValue3
  t4 := Tryd.underlying4
  a4 := Tryd.isAgg4
  z4 := Tryd.sizeOf4
  v4 := Tryd.zeroValue4
  t5 := Tryd.underlying5
  a5 := Tryd.isAgg5
  z5 := Tryd.sizeOf5
  v5 := Tryd.zeroValue5
  t9 := Tryd.underlying9
  a9 := Tryd.isAgg9
  z9 := Tryd.sizeOf9
  v9 := Tryd.zeroValue9
  t20 := Tryd.underlying20
  a20 := Tryd.isAgg20
  z20 := Tryd.sizeOf20
  v20 := Tryd.zeroValue20
  t37 := Tryd.underlying50
  a37 := Tryd.isAgg50
  z37 := Tryd.sizeOf50
  v37 := Tryd.zeroValue50
  t46 := Tryd.underlying69
  a46 := Tryd.isAgg69
  z46 := Tryd.sizeOf69
  v46 := Tryd.zeroValue69
  t51 := Tryd.underlying63
  a51 := Tryd.isAgg63
  z51 := Tryd.sizeOf63
  v51 := Tryd.zeroValue63
  t53 := Tryd.underlying44
  a53 := Tryd.isAgg44
  z53 := Tryd.sizeOf44
  v53 := Tryd.zeroValue44
  t171 := Tryd.underlying97
  a171 := Tryd.isAgg97
  z171 := Tryd.sizeOf97
  v171 := Tryd.zeroValue97
  t173 := Tryd.underlying100
  a173 := Tryd.isAgg100
  z173 := Tryd.sizeOf100
  v173 := Tryd.zeroValue100
  t212 := Tryd.underlying112
  a212 := Tryd.isAgg112
  z212 := Tryd.sizeOf112
  v212 := Tryd.zeroValue112
  t213 := Tryd.underlying113
  a213 := Tryd.isAgg113
  z213 := Tryd.sizeOf113
  t232 := Tryd.underlying131
  a232 := Tryd.isAgg131
  z232 := Tryd.sizeOf131
  v232 := Tryd.zeroValue131
  t233 := Tryd.underlying132
  a233 := Tryd.isAgg132
  z233 := Tryd.sizeOf132
  v233 := Tryd.zeroValue132
  g17 := by kernel_rfl
  g18 := by kernel_rfl
  g19 := by kernel_rfl }
open Go.RowKit Go.Sort Go.Lib in
/-- THE ROAD WITHOUT THE TABLE: 0 <= i < 100. (LAID: no walk: one application.) -/
theorem Tryd.internal_strconv_Itoa_small (i : Nat) (hi : i < 100) (w : World) :
    Calls Tryd.prog 49 #[.int .i64 i] w fun e w' => e = .returned (.string ⟨(Lib.decDigits i).toArray⟩) ∧ w' = w := Any.internal_strconv_Itoa_small Tryd.lays243 i hi w
def Tryd.laysM171_ren : Go.Shelf.Ren := ⟨fun | 171 => 31 | 243 => 49 | 246 => 62 | 283 => 75 | 284 => 76 | 285 => 77 | 286 => 78 | 129 => 89 | 317 => 88 | 318 => 90 | 319 => 91 | 320 => 92 | 337 => 96 | 338 => 97 | n => n, fun | 3 => 3 | 9 => 9 | 2 => 2 | 4 => 4 | 171 => 97 | 0 => 0 | 53 => 44 | 37 => 50 | 5 => 5 | 173 => 100 | 212 => 112 | 51 => 63 | 20 => 20 | 213 => 113 | 46 => 69 | 232 => 131 | 233 => 132 | n => n, fun | 17 => 1 | 18 => 4 | 19 => 5 | n => n⟩
theorem Tryd.laysM171 : Go.Proofs.LaysM.n171 Tryd.prog Tryd.laysM171_ren := {
  mixed := by kernel_rfl
  f129 := Tryd.func89.trans (congrArg some (by kernel_rfl))
  f171 := Tryd.func31.trans (congrArg some (by kernel_rfl))
  f243 := Tryd.func49.trans (congrArg some (by kernel_rfl))
  f246 := Tryd.func62.trans (congrArg some (by kernel_rfl))
  f283 := Tryd.func75.trans (congrArg some (by kernel_rfl))
  f284 := Tryd.func76.trans (congrArg some (by kernel_rfl))
  f285 := Tryd.func77.trans (congrArg some (by kernel_rfl))
  f286 := Tryd.func78.trans (congrArg some (by kernel_rfl))
  f317 := Tryd.func88.trans (congrArg some (by kernel_rfl))
  f318 := Tryd.func90.trans (congrArg some (by kernel_rfl))
  f319 := Tryd.func91.trans (congrArg some (by kernel_rfl))
  f320 := Tryd.func92.trans (congrArg some (by kernel_rfl))
  f337 := Tryd.func96.trans (congrArg some (by kernel_rfl))
  f338 := Tryd.func97.trans (congrArg some (by kernel_rfl))
  t0 := Tryd.underlying0
  a0 := Tryd.isAgg0
  z0 := Tryd.sizeOf0
  v0 := Tryd.zeroValue0
  t2 := Tryd.underlying2
  a2 := Tryd.isAgg2
  z2 := Tryd.sizeOf2
  v2 := Tryd.zeroValue2
  t3 := Tryd.underlying3
  a3 := Tryd.isAgg3
  z3 := Tryd.sizeOf3
  v3 := Tryd.zeroValue3
  t4 := Tryd.underlying4
  a4 := Tryd.isAgg4
  z4 := Tryd.sizeOf4
  v4 := Tryd.zeroValue4
  t5 := Tryd.underlying5
  a5 := Tryd.isAgg5
  z5 := Tryd.sizeOf5
  v5 := Tryd.zeroValue5
  t9 := Tryd.underlying9
  a9 := Tryd.isAgg9
  z9 := Tryd.sizeOf9
  v9 := Tryd.zeroValue9
  t20 := Tryd.underlying20
  a20 := Tryd.isAgg20
  z20 := Tryd.sizeOf20
  v20 := Tryd.zeroValue20
  t37 := Tryd.underlying50
  a37 := Tryd.isAgg50
  z37 := Tryd.sizeOf50
  v37 := Tryd.zeroValue50
  t46 := Tryd.underlying69
  a46 := Tryd.isAgg69
  z46 := Tryd.sizeOf69
  v46 := Tryd.zeroValue69
  t51 := Tryd.underlying63
  a51 := Tryd.isAgg63
  z51 := Tryd.sizeOf63
  v51 := Tryd.zeroValue63
  t53 := Tryd.underlying44
  a53 := Tryd.isAgg44
  z53 := Tryd.sizeOf44
  v53 := Tryd.zeroValue44
  t171 := Tryd.underlying97
  a171 := Tryd.isAgg97
  z171 := Tryd.sizeOf97
  v171 := Tryd.zeroValue97
  t173 := Tryd.underlying100
  a173 := Tryd.isAgg100
  z173 := Tryd.sizeOf100
  v173 := Tryd.zeroValue100
  t212 := Tryd.underlying112
  a212 := Tryd.isAgg112
  z212 := Tryd.sizeOf112
  v212 := Tryd.zeroValue112
  t213 := Tryd.underlying113
  a213 := Tryd.isAgg113
  z213 := Tryd.sizeOf113
  t232 := Tryd.underlying131
  a232 := Tryd.isAgg131
  z232 := Tryd.sizeOf131
  v232 := Tryd.zeroValue131
  t233 := Tryd.underlying132
  a233 := Tryd.isAgg132
  z233 := Tryd.sizeOf132
  v233 := Tryd.zeroValue132
  g17 := by kernel_rfl
  g18 := by kernel_rfl
  g19 := by kernel_rfl
  i0 := by kernel_rfl
  i2 := by kernel_rfl
  i3 := by kernel_rfl
  i4 := by kernel_rfl
  i5 := by kernel_rfl
  i9 := by kernel_rfl
  i20 := by kernel_rfl
  i37 := by kernel_rfl
  i46 := by kernel_rfl
  i51 := by kernel_rfl
  i53 := by kernel_rfl
  i171 := by kernel_rfl
  i173 := by kernel_rfl
  i212 := by kernel_rfl
  i232 := by kernel_rfl
  i233 := by kernel_rfl
  m17 := by kernel_rfl
  m18 := by kernel_rfl
  m19 := by kernel_rfl }
open Go.RowKit Go.Sort Go.Lib in
/-- strconv.Itoa: "Itoa is equivalent to FormatInt(int64(i), 10).": i's DECIMAL NUMERAL ('Lib.itoa': a '-' where i is negative, then the digits), FOR EVERY int. The world behind the call: the world before it, new blocks behind the heap (the library's 'var a [24]byte'), draws. (LAID: no walk: one application.) -/
theorem Tryd.strconv_Itoa (n : Int) (h0 : -9223372036854775808 ≤ n) (h1 : n ≤ 9223372036854775807) (w : World) (htab : Lib.TabIs Tryd.prog w "internal/strconv.uint64pow10" .u64 Lib.pow10Tab) :
    Calls Tryd.prog 31 #[.int .i64 n] w fun e w' => e = .returned (.string ⟨(Lib.itoa n).toArray⟩) ∧ ∃ k os, w' = grow (w.drewN k) os := Any.strconv_Itoa Tryd.laysM171 n h0 h1 w htab
def Tryd.lays171_ren : Go.Shelf.Ren := ⟨fun | 171 => 31 | 243 => 49 | 246 => 62 | 283 => 75 | 284 => 76 | 285 => 77 | 286 => 78 | 129 => 89 | 317 => 88 | 318 => 90 | 319 => 91 | 320 => 92 | 337 => 96 | 338 => 97 | n => n, fun | 3 => 3 | 9 => 9 | 2 => 2 | 4 => 4 | 171 => 97 | 0 => 0 | 53 => 44 | 37 => 50 | 5 => 5 | 173 => 100 | 212 => 112 | 51 => 63 | 20 => 20 | 213 => 113 | 46 => 69 | 232 => 131 | 233 => 132 | n => n, fun | 17 => 1 | 18 => 4 | 19 => 5 | n => n⟩
theorem Tryd.lays171 : Go.Proofs.Lays.n171 Tryd.prog Tryd.lays171_ren := {
  mixed := by kernel_rfl
  f129 := Tryd.func89.trans (congrArg some (by kernel_rfl))
  f171 := Tryd.func31.trans (congrArg some (by kernel_rfl))
  f243 := Tryd.func49.trans (congrArg some (by kernel_rfl))
  f246 := Tryd.func62.trans (congrArg some (by kernel_rfl))
  f283 := Tryd.func75.trans (congrArg some (by kernel_rfl))
  f284 := Tryd.func76.trans (congrArg some (by kernel_rfl))
  f285 := Tryd.func77.trans (congrArg some (by kernel_rfl))
  f286 := Tryd.func78.trans (congrArg some (by kernel_rfl))
  f317 := Tryd.func88.trans (congrArg some (by kernel_rfl))
  f318 := Tryd.func90.trans (congrArg some (by kernel_rfl))
  f319 := Tryd.func91.trans (congrArg some (by kernel_rfl))
  f320 := Tryd.func92.trans (congrArg some (by kernel_rfl))
  f337 := Tryd.func96.trans (congrArg some (by kernel_rfl))
  f338 := Tryd.func97.trans (congrArg some (by kernel_rfl))
  t0 := Tryd.underlying0
  a0 := Tryd.isAgg0
  z0 := Tryd.sizeOf0
  v0 := Tryd.zeroValue0
  t2 := Tryd.underlying2
  a2 := Tryd.isAgg2
  z2 := Tryd.sizeOf2
  v2 := Tryd.zeroValue2
  t3 := Tryd.underlying3
  a3 := Tryd.isAgg3
  z3 := Tryd.sizeOf3
  v3 := Tryd.zeroValue3
  t4 := Tryd.underlying4
  a4 := Tryd.isAgg4
  z4 := Tryd.sizeOf4
  v4 := Tryd.zeroValue4
  t5 := Tryd.underlying5
  a5 := Tryd.isAgg5
  z5 := Tryd.sizeOf5
  v5 := Tryd.zeroValue5
  t9 := Tryd.underlying9
  a9 := Tryd.isAgg9
  z9 := Tryd.sizeOf9
  v9 := Tryd.zeroValue9
  t20 := Tryd.underlying20
  a20 := Tryd.isAgg20
  z20 := Tryd.sizeOf20
  v20 := Tryd.zeroValue20
  t37 := Tryd.underlying50
  a37 := Tryd.isAgg50
  z37 := Tryd.sizeOf50
  v37 := Tryd.zeroValue50
  t46 := Tryd.underlying69
  a46 := Tryd.isAgg69
  z46 := Tryd.sizeOf69
  v46 := Tryd.zeroValue69
  t51 := Tryd.underlying63
  a51 := Tryd.isAgg63
  z51 := Tryd.sizeOf63
  v51 := Tryd.zeroValue63
  t53 := Tryd.underlying44
  a53 := Tryd.isAgg44
  z53 := Tryd.sizeOf44
  v53 := Tryd.zeroValue44
  t171 := Tryd.underlying97
  a171 := Tryd.isAgg97
  z171 := Tryd.sizeOf97
  v171 := Tryd.zeroValue97
  t173 := Tryd.underlying100
  a173 := Tryd.isAgg100
  z173 := Tryd.sizeOf100
  v173 := Tryd.zeroValue100
  t212 := Tryd.underlying112
  a212 := Tryd.isAgg112
  z212 := Tryd.sizeOf112
  v212 := Tryd.zeroValue112
  t213 := Tryd.underlying113
  a213 := Tryd.isAgg113
  z213 := Tryd.sizeOf113
  t232 := Tryd.underlying131
  a232 := Tryd.isAgg131
  z232 := Tryd.sizeOf131
  v232 := Tryd.zeroValue131
  t233 := Tryd.underlying132
  a233 := Tryd.isAgg132
  z233 := Tryd.sizeOf132
  v233 := Tryd.zeroValue132
  g17 := by kernel_rfl
  g18 := by kernel_rfl
  g19 := by kernel_rfl }
open Go.RowKit Go.Sort Go.Lib in
/-- THE ROAD WITHOUT THE TABLE: 0 <= i < 100: NO PREMISE ON THE WORLD, AND THE WORLD IS AS IT WAS: a row that keeps its argument in that range need list no table ('laid = []'). (LAID: no walk: one application.) -/
theorem Tryd.strconv_Itoa_small (i : Nat) (hi : i < 100) (w : World) :
    Calls Tryd.prog 31 #[.int .i64 i] w fun e w' => e = .returned (.string ⟨(Lib.decDigits i).toArray⟩) ∧ w' = w := Any.strconv_Itoa_small Tryd.lays171 i hi w
def Tryd.lays217_ren : Go.Shelf.Ren := ⟨fun | 217 => 84 | 266 => 94 | n => n, fun | 9 => 9 | 5 => 5 | 3 => 3 | n => n, fun | n => n⟩
theorem Tryd.lays217 : Go.Proofs.Lays.n217 Tryd.prog Tryd.lays217_ren := {
  mixed := by kernel_rfl
  f217 := Tryd.func84.trans (congrArg some (by kernel_rfl))
  f266 := Tryd.func94.trans (congrArg some (by kernel_rfl))
  t3 := Tryd.underlying3
  a3 := Tryd.isAgg3
  z3 := Tryd.sizeOf3
  v3 := Tryd.zeroValue3
  t5 := Tryd.underlying5
  a5 := Tryd.isAgg5
  z5 := Tryd.sizeOf5
  v5 := Tryd.zeroValue5
  t9 := Tryd.underlying9
  a9 := Tryd.isAgg9
  z9 := Tryd.sizeOf9
  v9 := Tryd.zeroValue9 }
open Go.RowKit Go.Lib in
/-- internal/stringslite.IndexByte (what strings.IndexByte calls): IT RETURNS 'Lib.indexByte s c'; the world is as it was. (LAID: no walk: one application.) -/
theorem Tryd.stringslite_IndexByte (s : ByteArray) (c : Int) (w : World) :
    Calls Tryd.prog 84 #[.string s, .int .u8 c] w fun e w' => e = .returned (.int .i64 (Lib.indexByte s.data.toList c.toNat.toUInt8)) ∧ w' = w := Any.stringslite_IndexByte Tryd.lays217 s c w
def Tryd.lays224_ren : Go.Shelf.Ren := ⟨fun | 224 => 86 | n => n, fun | 3 => 3 | n => n, fun | n => n⟩
theorem Tryd.lays224 : Go.Proofs.Lays.n224 Tryd.prog Tryd.lays224_ren := {
  mixed := by kernel_rfl
  f224 := Tryd.func86.trans (congrArg some (by kernel_rfl))
  t3 := Tryd.underlying3
  a3 := Tryd.isAgg3
  z3 := Tryd.sizeOf3
  v3 := Tryd.zeroValue3 }
open Go.RowKit Go.Lib in
/-- internal/bytealg.Cutover: "Cutover reports the number of failures of IndexByte we should tolerate before switching over to Index. n is the number of bytes processed so far.": on amd64: (n + 16) / 8. (LAID: no walk: one application.) -/
theorem Tryd.bytealg_Cutover (n : Int) (h0 : 0 ≤ n) (h1 : n < 4611686018427387904) (w : World) :
    Calls Tryd.prog 86 #[.int .i64 n] w fun e w' => e = .returned (.int .i64 ((n + 16) / 8)) ∧ w' = w := Any.bytealg_Cutover Tryd.lays224 n h0 h1 w
def Tryd.lays314_ren : Go.Shelf.Ren := ⟨fun | 314 => 95 | n => n, fun | 9 => 9 | 51 => 63 | 3 => 3 | 4 => 4 | 5 => 5 | 46 => 69 | n => n, fun | n => n⟩
theorem Tryd.lays314 : Go.Proofs.Lays.n314 Tryd.prog Tryd.lays314_ren := {
  mixed := by kernel_rfl
  f314 := Tryd.func95.trans (congrArg some (by kernel_rfl))
  t3 := Tryd.underlying3
  a3 := Tryd.isAgg3
  z3 := Tryd.sizeOf3
  v3 := Tryd.zeroValue3
  t4 := Tryd.underlying4
  a4 := Tryd.isAgg4
  z4 := Tryd.sizeOf4
  v4 := Tryd.zeroValue4
  t5 := Tryd.underlying5
  a5 := Tryd.isAgg5
  z5 := Tryd.sizeOf5
  v5 := Tryd.zeroValue5
  t9 := Tryd.underlying9
  a9 := Tryd.isAgg9
  z9 := Tryd.sizeOf9
  v9 := Tryd.zeroValue9
  t46 := Tryd.underlying69
  a46 := Tryd.isAgg69
  z46 := Tryd.sizeOf69
  v46 := Tryd.zeroValue69
  t51 := Tryd.underlying63
  a51 := Tryd.isAgg63
  z51 := Tryd.sizeOf63
  v51 := Tryd.zeroValue63 }
open Go.RowKit Go.Lib in
/-- hashStr: "returns the hash and the appropriate multiplicative factor for use in Rabin-Karp algorithm": THE HASH OF ALL OF sep, AND 16777619 ^ len(sep), both in uint32. (LAID: no walk: one application.) -/
theorem Tryd.bytealg_hashStr (sep : ByteArray) (hs : sep.size < 4294967281) (w : World) :
    Calls Tryd.prog 95 #[.string sep] w fun e w' => e = .returned (.tuple #[.int .u32 (RK.H sep.data.toList % 4294967296), .int .u32 (16777619 ^ sep.size % 4294967296)]) ∧ w' = w := Any.bytealg_hashStr Tryd.lays314 sep hs w
def Tryd.lays267_ren : Go.Shelf.Ren := ⟨fun | 267 => 87 | 314 => 95 | n => n, fun | 9 => 9 | 3 => 3 | 146 => 127 | 51 => 63 | 4 => 4 | 5 => 5 | 46 => 69 | n => n, fun | n => n⟩
theorem Tryd.lays267 : Go.Proofs.Lays.n267 Tryd.prog Tryd.lays267_ren := {
  mixed := by kernel_rfl
  f267 := Tryd.func87.trans (congrArg some (by kernel_rfl))
  f314 := Tryd.func95.trans (congrArg some (by kernel_rfl))
  t3 := Tryd.underlying3
  a3 := Tryd.isAgg3
  z3 := Tryd.sizeOf3
  v3 := Tryd.zeroValue3
  t4 := Tryd.underlying4
  a4 := Tryd.isAgg4
  z4 := Tryd.sizeOf4
  v4 := Tryd.zeroValue4
  t5 := Tryd.underlying5
  a5 := Tryd.isAgg5
  z5 := Tryd.sizeOf5
  v5 := Tryd.zeroValue5
  t9 := Tryd.underlying9
  a9 := Tryd.isAgg9
  z9 := Tryd.sizeOf9
  v9 := Tryd.zeroValue9
  t46 := Tryd.underlying69
  a46 := Tryd.isAgg69
  z46 := Tryd.sizeOf69
  v46 := Tryd.zeroValue69
  t51 := Tryd.underlying63
  a51 := Tryd.isAgg63
  z51 := Tryd.sizeOf63
  v51 := Tryd.zeroValue63
  t146 := Tryd.underlying127
  a146 := Tryd.isAgg127
  z146 := Tryd.sizeOf127
  v146 := Tryd.zeroValue127 }
open Go.RowKit Go.Lib in
theorem Tryd.bytealg_IndexRabinKarp (s sep : ByteArray) (h1 : 1 ≤ sep.size) (h2 : sep.size ≤ s.size) (hs : s.size < 4294967281) (w : World) :
    Calls Tryd.prog 87 #[.string s, .string sep] w fun e w' => e = .returned (.int .i64 (Lib.index s.data.toList sep.data.toList)) ∧ w' = w := Any.bytealg_IndexRabinKarp Tryd.lays267 s sep h1 h2 hs w
def Tryd.lays219_ren : Go.Shelf.Ren := ⟨fun | 219 => 73 | 217 => 84 | 225 => 85 | 224 => 86 | 267 => 87 | 266 => 94 | 314 => 95 | n => n, fun | 9 => 9 | 3 => 3 | 4 => 4 | 5 => 5 | 46 => 69 | 146 => 127 | 51 => 63 | n => n, fun | 1 => 0 | n => n⟩
theorem Tryd.lays219 : Go.Proofs.Lays.n219 Tryd.prog Tryd.lays219_ren := {
  mixed := by kernel_rfl
  f217 := Tryd.func84.trans (congrArg some (by kernel_rfl))
  f219 := Tryd.func73.trans (congrArg some (by kernel_rfl))
  f224 := Tryd.func86.trans (congrArg some (by kernel_rfl))
  f225 := Tryd.func85.trans (congrArg some (by kernel_rfl))
  f266 := Tryd.func94.trans (congrArg some (by kernel_rfl))
  f267 := Tryd.func87.trans (congrArg some (by kernel_rfl))
  f314 := Tryd.func95.trans (congrArg some (by kernel_rfl))
  t3 := Tryd.underlying3
  a3 := Tryd.isAgg3
  z3 := Tryd.sizeOf3
  v3 := Tryd.zeroValue3
  t4 := Tryd.underlying4
  a4 := Tryd.isAgg4
  z4 := Tryd.sizeOf4
  v4 := Tryd.zeroValue4
  t5 := Tryd.underlying5
  a5 := Tryd.isAgg5
  z5 := Tryd.sizeOf5
  v5 := Tryd.zeroValue5
  t9 := Tryd.underlying9
  a9 := Tryd.isAgg9
  z9 := Tryd.sizeOf9
  v9 := Tryd.zeroValue9
  t46 := Tryd.underlying69
  a46 := Tryd.isAgg69
  z46 := Tryd.sizeOf69
  v46 := Tryd.zeroValue69
  t51 := Tryd.underlying63
  a51 := Tryd.isAgg63
  z51 := Tryd.sizeOf63
  v51 := Tryd.zeroValue63
  t146 := Tryd.underlying127
  a146 := Tryd.isAgg127
  z146 := Tryd.sizeOf127
  v146 := Tryd.zeroValue127
  g1 := by kernel_rfl }
open Go.RowKit Go.Lib in
/-- internal/stringslite.Index (what strings.Index calls) AT A substr OF ONE BYTE c: IT RETURNS 'Lib.indexByte s c'; the world is as it was. (LAID: no walk: one application.) -/
theorem Tryd.stringslite_Index_one (s : ByteArray) (c : UInt8) (w : World) :
    Calls Tryd.prog 73 #[.string s, .string ⟨#[c]⟩] w fun e w' => e = .returned (.int .i64 (Lib.indexByte s.data.toList c)) ∧ w' = w := Any.stringslite_Index_one Tryd.lays219 s c w
open Go.RowKit Go.Lib in
/-- internal/stringslite.Index (what strings.Index calls) AT A substr OF WHATEVER LENGTH: IT RETURNS 'Lib.index s substr'; the world is as it was. 'm': what internal/bytealg.MaxLen holds: whatever. (LAID: no walk: one application.) -/
theorem Tryd.stringslite_Index (s sub : ByteArray) (m : Int) (w : World) (hs : s.size < 4294967281) (hm : w.cell? ⟨0, 0, none⟩ = some (.int .i64 m)) :
    Calls Tryd.prog 73 #[.string s, .string sub] w fun e w' => e = .returned (.int .i64 (Lib.index s.data.toList sub.data.toList)) ∧ w' = w := Any.stringslite_Index Tryd.lays219 s sub m w hs hm
def Tryd.lays143_ren : Go.Shelf.Ren := ⟨fun | 143 => 59 | 219 => 73 | 217 => 84 | 225 => 85 | 224 => 86 | 267 => 87 | 266 => 94 | 314 => 95 | n => n, fun | 9 => 9 | 3 => 3 | 4 => 4 | 5 => 5 | 46 => 69 | 146 => 127 | 51 => 63 | n => n, fun | 1 => 0 | n => n⟩
theorem Tryd.lays143 : Go.Proofs.Lays.n143 Tryd.prog Tryd.lays143_ren := {
  mixed := by kernel_rfl
  f143 := Tryd.func59.trans (congrArg some (by kernel_rfl))
  f217 := Tryd.func84.trans (congrArg some (by kernel_rfl))
  f219 := Tryd.func73.trans (congrArg some (by kernel_rfl))
  f224 := Tryd.func86.trans (congrArg some (by kernel_rfl))
  f225 := Tryd.func85.trans (congrArg some (by kernel_rfl))
  f266 := Tryd.func94.trans (congrArg some (by kernel_rfl))
  f267 := Tryd.func87.trans (congrArg some (by kernel_rfl))
  f314 := Tryd.func95.trans (congrArg some (by kernel_rfl))
  t3 := Tryd.underlying3
  a3 := Tryd.isAgg3
  z3 := Tryd.sizeOf3
  v3 := Tryd.zeroValue3
  t4 := Tryd.underlying4
  a4 := Tryd.isAgg4
  z4 := Tryd.sizeOf4
  v4 := Tryd.zeroValue4
  t5 := Tryd.underlying5
  a5 := Tryd.isAgg5
  z5 := Tryd.sizeOf5
  v5 := Tryd.zeroValue5
  t9 := Tryd.underlying9
  a9 := Tryd.isAgg9
  z9 := Tryd.sizeOf9
  v9 := Tryd.zeroValue9
  t46 := Tryd.underlying69
  a46 := Tryd.isAgg69
  z46 := Tryd.sizeOf69
  v46 := Tryd.zeroValue69
  t51 := Tryd.underlying63
  a51 := Tryd.isAgg63
  z51 := Tryd.sizeOf63
  v51 := Tryd.zeroValue63
  t146 := Tryd.underlying127
  a146 := Tryd.isAgg127
  z146 := Tryd.sizeOf127
  v146 := Tryd.zeroValue127
  g1 := by kernel_rfl }
open Go.RowKit Go.Lib in
/-- strings.Index: "Index returns the index of the first instance of substr in s, or -1 if substr is not present in s.": AT A substr OF ONE BYTE c: IT RETURNS 'Lib.indexByte s c'; the world is as it was. (LAID: no walk: one application.) -/
theorem Tryd.strings_Index_one (s : ByteArray) (c : UInt8) (w : World) :
    Calls Tryd.prog 59 #[.string s, .string ⟨#[c]⟩] w fun e w' => e = .returned (.int .i64 (Lib.indexByte s.data.toList c)) ∧ w' = w := Any.strings_Index_one Tryd.lays143 s c w
open Go.RowKit Go.Lib in
/-- strings.Index: "Index returns the index of the first instance of substr in s, or -1 if substr is not present in s.": IT RETURNS 'Lib.index s substr'; the world is as it was. (LAID: no walk: one application.) -/
theorem Tryd.strings_Index (s sub : ByteArray) (m : Int) (w : World) (hs : s.size < 4294967281) (hm : w.cell? ⟨0, 0, none⟩ = some (.int .i64 m)) :
    Calls Tryd.prog 59 #[.string s, .string sub] w fun e w' => e = .returned (.int .i64 (Lib.index s.data.toList sub.data.toList)) ∧ w' = w := Any.strings_Index Tryd.lays143 s sub m w hs hm
def Tryd.lays138_ren : Go.Shelf.Ren := ⟨fun | 138 => 58 | 195 => 70 | 218 => 72 | 143 => 59 | 219 => 73 | 217 => 84 | 225 => 85 | 224 => 86 | 267 => 87 | 266 => 94 | 314 => 95 | n => n, fun | 9 => 9 | 3 => 3 | 4 => 4 | 5 => 5 | 0 => 0 | 46 => 69 | 146 => 127 | 51 => 63 | n => n, fun | 1 => 0 | n => n⟩
theorem Tryd.lays138 : Go.Proofs.Lays.n138 Tryd.prog Tryd.lays138_ren := {
  mixed := by kernel_rfl
  f138 := Tryd.func58.trans (congrArg some (by kernel_rfl))
  f143 := Tryd.func59.trans (congrArg some (by kernel_rfl))
  f195 := Tryd.func70.trans (congrArg some (by kernel_rfl))
  f217 := Tryd.func84.trans (congrArg some (by kernel_rfl))
  f218 := Tryd.func72.trans (congrArg some (by kernel_rfl))
  f219 := Tryd.func73.trans (congrArg some (by kernel_rfl))
  f224 := Tryd.func86.trans (congrArg some (by kernel_rfl))
  f225 := Tryd.func85.trans (congrArg some (by kernel_rfl))
  f266 := Tryd.func94.trans (congrArg some (by kernel_rfl))
  f267 := Tryd.func87.trans (congrArg some (by kernel_rfl))
  f314 := Tryd.func95.trans (congrArg some (by kernel_rfl))
  t0 := Tryd.underlying0
  a0 := Tryd.isAgg0
  z0 := Tryd.sizeOf0
  v0 := Tryd.zeroValue0
  t3 := Tryd.underlying3
  a3 := Tryd.isAgg3
  z3 := Tryd.sizeOf3
  v3 := Tryd.zeroValue3
  t4 := Tryd.underlying4
  a4 := Tryd.isAgg4
  z4 := Tryd.sizeOf4
  v4 := Tryd.zeroValue4
  t5 := Tryd.underlying5
  a5 := Tryd.isAgg5
  z5 := Tryd.sizeOf5
  v5 := Tryd.zeroValue5
  t9 := Tryd.underlying9
  a9 := Tryd.isAgg9
  z9 := Tryd.sizeOf9
  v9 := Tryd.zeroValue9
  t46 := Tryd.underlying69
  a46 := Tryd.isAgg69
  z46 := Tryd.sizeOf69
  v46 := Tryd.zeroValue69
  t51 := Tryd.underlying63
  a51 := Tryd.isAgg63
  z51 := Tryd.sizeOf63
  v51 := Tryd.zeroValue63
  t146 := Tryd.underlying127
  a146 := Tryd.isAgg127
  z146 := Tryd.sizeOf127
  v146 := Tryd.zeroValue127
  g1 := by kernel_rfl }
open Go.RowKit Go.Lib in
/-- strings.Count AT A substr OF ONE BYTE ('hp'): "Count counts the number of non-overlapping instances of substr in s.": IT RETURNS 'Lib.countByte s (that byte)'; the world is as it was. ✋ NO CONTRACT HERE YET at an empty substr (utf8.RuneCountInString) or at a longer one (a loop over strings.Index). (LAID: no walk: one application.) -/
theorem Tryd.strings_Count_one (s : ByteArray) (c : UInt8) (w : World) :
    Calls Tryd.prog 58 #[.string s, .string ⟨#[c]⟩] w fun e w' => e = .returned (.int .i64 (Lib.countByte s.data.toList c)) ∧ w' = w := Any.strings_Count_one Tryd.lays138 s c w
open Go.RowKit Go.Lib in
/-- strings.Count AT A substr OF TWO BYTES OR MORE: "Count counts the number of non-overlapping instances of substr in s.": IT RETURNS 'Lib.count s substr'; the world is as it was. (LAID: no walk: one application.) -/
theorem Tryd.strings_Count (s sub : ByteArray) (m : Int) (w : World) (hs : s.size < 4294967281) (hm : w.cell? ⟨0, 0, none⟩ = some (.int .i64 m)) (h2 : 2 ≤ sub.size) :
    Calls Tryd.prog 58 #[.string s, .string sub] w fun e w' => e = .returned (.int .i64 (Lib.countB s sub)) ∧ w' = w := Any.strings_Count Tryd.lays138 s sub m w hs hm h2
def Tryd.laysM219_ren : Go.Shelf.Ren := ⟨fun | 219 => 73 | 217 => 84 | 225 => 85 | 224 => 86 | 267 => 87 | 266 => 94 | 314 => 95 | n => n, fun | 9 => 9 | 3 => 3 | 4 => 4 | 5 => 5 | 46 => 69 | 146 => 127 | 51 => 63 | n => n, fun | 1 => 0 | n => n⟩
theorem Tryd.laysM219 : Go.Proofs.LaysM.n219 Tryd.prog Tryd.laysM219_ren := {
  mixed := by kernel_rfl
  f217 := Tryd.func84.trans (congrArg some (by kernel_rfl))
  f219 := Tryd.func73.trans (congrArg some (by kernel_rfl))
  f224 := Tryd.func86.trans (congrArg some (by kernel_rfl))
  f225 := Tryd.func85.trans (congrArg some (by kernel_rfl))
  f266 := Tryd.func94.trans (congrArg some (by kernel_rfl))
  f267 := Tryd.func87.trans (congrArg some (by kernel_rfl))
  f314 := Tryd.func95.trans (congrArg some (by kernel_rfl))
  t3 := Tryd.underlying3
  a3 := Tryd.isAgg3
  z3 := Tryd.sizeOf3
  v3 := Tryd.zeroValue3
  t4 := Tryd.underlying4
  a4 := Tryd.isAgg4
  z4 := Tryd.sizeOf4
  v4 := Tryd.zeroValue4
  t5 := Tryd.underlying5
  a5 := Tryd.isAgg5
  z5 := Tryd.sizeOf5
  v5 := Tryd.zeroValue5
  t9 := Tryd.underlying9
  a9 := Tryd.isAgg9
  z9 := Tryd.sizeOf9
  v9 := Tryd.zeroValue9
  t46 := Tryd.underlying69
  a46 := Tryd.isAgg69
  z46 := Tryd.sizeOf69
  v46 := Tryd.zeroValue69
  t51 := Tryd.underlying63
  a51 := Tryd.isAgg63
  z51 := Tryd.sizeOf63
  v51 := Tryd.zeroValue63
  t146 := Tryd.underlying127
  a146 := Tryd.isAgg127
  z146 := Tryd.sizeOf127
  v146 := Tryd.zeroValue127
  g1 := by kernel_rfl
  i3 := by kernel_rfl
  i4 := by kernel_rfl
  i5 := by kernel_rfl
  i9 := by kernel_rfl
  i46 := by kernel_rfl
  i51 := by kernel_rfl
  i146 := by kernel_rfl
  m1 := by kernel_rfl
  s1_3 := fun w h => Go.Proofs.cell_of_shapedOpen_int (zero := #[.int .i64 0]) (t := 3) h (of_decide_eq_true (by kernel_rfl)) (by kernel_rfl) rfl (by kernel_rfl) (by kernel_rfl) Tryd.underlying3 }
open Go.RowKit Go.Lib in
theorem Tryd.stringslite_Index_shaped (s sub : ByteArray) (w : World) (h : w.ShapedOpen Tryd.prog) (hs : s.size < 4294967281) :
    Calls Tryd.prog 73 #[.string s, .string sub] w fun e w' => e = .returned (.int .i64 (Lib.index s.data.toList sub.data.toList)) ∧ w' = w := Any.stringslite_Index_shaped Tryd.laysM219 s sub w h hs
def Tryd.laysM143_ren : Go.Shelf.Ren := ⟨fun | 143 => 59 | 219 => 73 | 217 => 84 | 225 => 85 | 224 => 86 | 267 => 87 | 266 => 94 | 314 => 95 | n => n, fun | 9 => 9 | 3 => 3 | 4 => 4 | 5 => 5 | 46 => 69 | 146 => 127 | 51 => 63 | n => n, fun | 1 => 0 | n => n⟩
theorem Tryd.laysM143 : Go.Proofs.LaysM.n143 Tryd.prog Tryd.laysM143_ren := {
  mixed := by kernel_rfl
  f143 := Tryd.func59.trans (congrArg some (by kernel_rfl))
  f217 := Tryd.func84.trans (congrArg some (by kernel_rfl))
  f219 := Tryd.func73.trans (congrArg some (by kernel_rfl))
  f224 := Tryd.func86.trans (congrArg some (by kernel_rfl))
  f225 := Tryd.func85.trans (congrArg some (by kernel_rfl))
  f266 := Tryd.func94.trans (congrArg some (by kernel_rfl))
  f267 := Tryd.func87.trans (congrArg some (by kernel_rfl))
  f314 := Tryd.func95.trans (congrArg some (by kernel_rfl))
  t3 := Tryd.underlying3
  a3 := Tryd.isAgg3
  z3 := Tryd.sizeOf3
  v3 := Tryd.zeroValue3
  t4 := Tryd.underlying4
  a4 := Tryd.isAgg4
  z4 := Tryd.sizeOf4
  v4 := Tryd.zeroValue4
  t5 := Tryd.underlying5
  a5 := Tryd.isAgg5
  z5 := Tryd.sizeOf5
  v5 := Tryd.zeroValue5
  t9 := Tryd.underlying9
  a9 := Tryd.isAgg9
  z9 := Tryd.sizeOf9
  v9 := Tryd.zeroValue9
  t46 := Tryd.underlying69
  a46 := Tryd.isAgg69
  z46 := Tryd.sizeOf69
  v46 := Tryd.zeroValue69
  t51 := Tryd.underlying63
  a51 := Tryd.isAgg63
  z51 := Tryd.sizeOf63
  v51 := Tryd.zeroValue63
  t146 := Tryd.underlying127
  a146 := Tryd.isAgg127
  z146 := Tryd.sizeOf127
  v146 := Tryd.zeroValue127
  g1 := by kernel_rfl
  i3 := by kernel_rfl
  i4 := by kernel_rfl
  i5 := by kernel_rfl
  i9 := by kernel_rfl
  i46 := by kernel_rfl
  i51 := by kernel_rfl
  i146 := by kernel_rfl
  m1 := by kernel_rfl
  s1_3 := fun w h => Go.Proofs.cell_of_shapedOpen_int (zero := #[.int .i64 0]) (t := 3) h (of_decide_eq_true (by kernel_rfl)) (by kernel_rfl) rfl (by kernel_rfl) (by kernel_rfl) Tryd.underlying3 }
open Go.RowKit Go.Lib in
theorem Tryd.strings_Index_shaped (s sub : ByteArray) (w : World) (h : w.ShapedOpen Tryd.prog) (hs : s.size < 4294967281) :
    Calls Tryd.prog 59 #[.string s, .string sub] w fun e w' => e = .returned (.int .i64 (Lib.index s.data.toList sub.data.toList)) ∧ w' = w := Any.strings_Index_shaped Tryd.laysM143 s sub w h hs
def Tryd.laysM138_ren : Go.Shelf.Ren := ⟨fun | 138 => 58 | 195 => 70 | 218 => 72 | 143 => 59 | 219 => 73 | 217 => 84 | 225 => 85 | 224 => 86 | 267 => 87 | 266 => 94 | 314 => 95 | n => n, fun | 9 => 9 | 3 => 3 | 4 => 4 | 5 => 5 | 0 => 0 | 46 => 69 | 146 => 127 | 51 => 63 | n => n, fun | 1 => 0 | n => n⟩
theorem Tryd.laysM138 : Go.Proofs.LaysM.n138 Tryd.prog Tryd.laysM138_ren := {
  mixed := by kernel_rfl
  f138 := Tryd.func58.trans (congrArg some (by kernel_rfl))
  f143 := Tryd.func59.trans (congrArg some (by kernel_rfl))
  f195 := Tryd.func70.trans (congrArg some (by kernel_rfl))
  f217 := Tryd.func84.trans (congrArg some (by kernel_rfl))
  f218 := Tryd.func72.trans (congrArg some (by kernel_rfl))
  f219 := Tryd.func73.trans (congrArg some (by kernel_rfl))
  f224 := Tryd.func86.trans (congrArg some (by kernel_rfl))
  f225 := Tryd.func85.trans (congrArg some (by kernel_rfl))
  f266 := Tryd.func94.trans (congrArg some (by kernel_rfl))
  f267 := Tryd.func87.trans (congrArg some (by kernel_rfl))
  f314 := Tryd.func95.trans (congrArg some (by kernel_rfl))
  t0 := Tryd.underlying0
  a0 := Tryd.isAgg0
  z0 := Tryd.sizeOf0
  v0 := Tryd.zeroValue0
  t3 := Tryd.underlying3
  a3 := Tryd.isAgg3
  z3 := Tryd.sizeOf3
  v3 := Tryd.zeroValue3
  t4 := Tryd.underlying4
  a4 := Tryd.isAgg4
  z4 := Tryd.sizeOf4
  v4 := Tryd.zeroValue4
  t5 := Tryd.underlying5
  a5 := Tryd.isAgg5
  z5 := Tryd.sizeOf5
  v5 := Tryd.zeroValue5
  t9 := Tryd.underlying9
  a9 := Tryd.isAgg9
  z9 := Tryd.sizeOf9
  v9 := Tryd.zeroValue9
  t46 := Tryd.underlying69
  a46 := Tryd.isAgg69
  z46 := Tryd.sizeOf69
  v46 := Tryd.zeroValue69
  t51 := Tryd.underlying63
  a51 := Tryd.isAgg63
  z51 := Tryd.sizeOf63
  v51 := Tryd.zeroValue63
  t146 := Tryd.underlying127
  a146 := Tryd.isAgg127
  z146 := Tryd.sizeOf127
  v146 := Tryd.zeroValue127
  g1 := by kernel_rfl
  i0 := by kernel_rfl
  i3 := by kernel_rfl
  i4 := by kernel_rfl
  i5 := by kernel_rfl
  i9 := by kernel_rfl
  i46 := by kernel_rfl
  i51 := by kernel_rfl
  i146 := by kernel_rfl
  m1 := by kernel_rfl
  s1_3 := fun w h => Go.Proofs.cell_of_shapedOpen_int (zero := #[.int .i64 0]) (t := 3) h (of_decide_eq_true (by kernel_rfl)) (by kernel_rfl) rfl (by kernel_rfl) (by kernel_rfl) Tryd.underlying3 }
open Go.RowKit Go.Lib in
theorem Tryd.strings_Count_shaped (s sub : ByteArray) (w : World) (h : w.ShapedOpen Tryd.prog) (hs : s.size < 4294967281) (h2 : 2 ≤ sub.size) :
    Calls Tryd.prog 58 #[.string s, .string sub] w fun e w' => e = .returned (.int .i64 (Lib.countB s sub)) ∧ w' = w := Any.strings_Count_shaped Tryd.laysM138 s sub w h hs h2
def Tryd.lays206_ren : Go.Shelf.Ren := ⟨fun | 206 => 47 | n => n, fun | 9 => 9 | 4 => 4 | 3 => 3 | n => n, fun | n => n⟩
theorem Tryd.lays206 : Go.Proofs.Lays.n206 Tryd.prog Tryd.lays206_ren := {
  mixed := by kernel_rfl
  f206 := Tryd.func47.trans (congrArg some (by kernel_rfl))
  t3 := Tryd.underlying3
  a3 := Tryd.isAgg3
  z3 := Tryd.sizeOf3
  v3 := Tryd.zeroValue3
  t4 := Tryd.underlying4
  a4 := Tryd.isAgg4
  z4 := Tryd.sizeOf4
  v4 := Tryd.zeroValue4
  t9 := Tryd.underlying9
  a9 := Tryd.isAgg9
  z9 := Tryd.sizeOf9
  v9 := Tryd.zeroValue9 }
open Go.RowKit Go.Lib in
/-- internal/stringslite.HasPrefix (what strings.HasPrefix calls). (LAID: no walk: one application.) -/
theorem Tryd.stringslite_HasPrefix (s p : ByteArray) (w : World) :
    Calls Tryd.prog 47 #[.string s, .string p] w fun e w' => e = .returned (.bool (Lib.hasPrefix s.data.toList p.data.toList)) ∧ w' = w := Any.stringslite_HasPrefix Tryd.lays206 s p w
def Tryd.lays99_ren : Go.Shelf.Ren := ⟨fun | 99 => 28 | 206 => 47 | n => n, fun | 9 => 9 | 4 => 4 | 3 => 3 | n => n, fun | n => n⟩
theorem Tryd.lays99 : Go.Proofs.Lays.n99 Tryd.prog Tryd.lays99_ren := {
  mixed := by kernel_rfl
  f99 := Tryd.func28.trans (congrArg some (by kernel_rfl))
  f206 := Tryd.func47.trans (congrArg some (by kernel_rfl))
  t3 := Tryd.underlying3
  a3 := Tryd.isAgg3
  z3 := Tryd.sizeOf3
  v3 := Tryd.zeroValue3
  t4 := Tryd.underlying4
  a4 := Tryd.isAgg4
  z4 := Tryd.sizeOf4
  v4 := Tryd.zeroValue4
  t9 := Tryd.underlying9
  a9 := Tryd.isAgg9
  z9 := Tryd.sizeOf9
  v9 := Tryd.zeroValue9 }
open Go.RowKit Go.Lib in
/-- strings.HasPrefix: "HasPrefix reports whether the string s begins with prefix.": IT RETURNS 'Lib.hasPrefix s prefix'; the world is as it was. (LAID: no walk: one application.) -/
theorem Tryd.strings_HasPrefix (s p : ByteArray) (w : World) :
    Calls Tryd.prog 28 #[.string s, .string p] w fun e w' => e = .returned (.bool (Lib.hasPrefix s.data.toList p.data.toList)) ∧ w' = w := Any.strings_HasPrefix Tryd.lays99 s p w
open Go.RowKit Go.Lib in
/-- strings.Count at whatever sep that is not empty: the two roads under one statement. (LAID: no walk: one application.) -/
theorem Tryd.strings_Count_any (s sep : ByteArray) (m : Int) (w : World) (hs : s.size < 4294967281) (hm : w.cell? ⟨0, 0, none⟩ = some (.int .i64 m)) (h1 : 1 ≤ sep.size) :
    Calls Tryd.prog 58 #[.string s, .string sep] w fun e w' => e = .returned (.int .i64 (Lib.countB s sep)) ∧ w' = w := Any.strings_Count_any Tryd.lays138 s sep m w hs hm h1
def Tryd.lays221_ren : Go.Shelf.Ren := ⟨fun | 221 => 45 | 268 => 57 | 138 => 58 | 143 => 59 | 195 => 70 | 197 => 71 | 218 => 72 | 219 => 73 | 260 => 83 | 217 => 84 | 225 => 85 | 224 => 86 | 267 => 87 | 266 => 94 | 314 => 95 | n => n, fun | 9 => 9 | 3 => 3 | 31 => 22 | 4 => 4 | 0 => 0 | 105 => 93 | 21 => 21 | 5 => 5 | 46 => 69 | 119 => 123 | 139 => 126 | 138 => 125 | 146 => 127 | 51 => 63 | n => n, fun | 1 => 0 | 3 => 2 | 4 => 3 | n => n⟩
theorem Tryd.lays221 : Go.Proofs.Lays.n221 Tryd.prog Tryd.lays221_ren := {
  mixed := by kernel_rfl
  f138 := Tryd.func58.trans (congrArg some (by kernel_rfl))
  f143 := Tryd.func59.trans (congrArg some (by kernel_rfl))
  f195 := Tryd.func70.trans (congrArg some (by kernel_rfl))
  f197 := Tryd.func71.trans (congrArg some (by kernel_rfl))
  f217 := Tryd.func84.trans (congrArg some (by kernel_rfl))
  f218 := Tryd.func72.trans (congrArg some (by kernel_rfl))
  f219 := Tryd.func73.trans (congrArg some (by kernel_rfl))
  f221 := Tryd.func45.trans (congrArg some (by kernel_rfl))
  f224 := Tryd.func86.trans (congrArg some (by kernel_rfl))
  f225 := Tryd.func85.trans (congrArg some (by kernel_rfl))
  f260 := Tryd.func83.trans (congrArg some (by kernel_rfl))
  f266 := Tryd.func94.trans (congrArg some (by kernel_rfl))
  f267 := Tryd.func87.trans (congrArg some (by kernel_rfl))
  f268 := Tryd.func57.trans (congrArg some (by kernel_rfl))
  f314 := Tryd.func95.trans (congrArg some (by kernel_rfl))
  t0 := Tryd.underlying0
  a0 := Tryd.isAgg0
  z0 := Tryd.sizeOf0
  v0 := Tryd.zeroValue0
  t3 := Tryd.underlying3
  a3 := Tryd.isAgg3
  z3 := Tryd.sizeOf3
  v3 := Tryd.zeroValue3
  t4 := Tryd.underlying4
  a4 := Tryd.isAgg4
  z4 := Tryd.sizeOf4
  v4 := Tryd.zeroValue4
  t5 := Tryd.underlying5
  a5 := Tryd.isAgg5
  z5 := Tryd.sizeOf5
  v5 := Tryd.zeroValue5
  t9 := Tryd.underlying9
  a9 := Tryd.isAgg9
  z9 := Tryd.sizeOf9
  v9 := Tryd.zeroValue9
  t21 := Tryd.underlying21
  a21 := Tryd.isAgg21
  z21 := Tryd.sizeOf21
  v21 := Tryd.zeroValue21
  t31 := Tryd.underlying22
  a31 := Tryd.isAgg22
  z31 := Tryd.sizeOf22
  v31 := Tryd.zeroValue22
  t46 := Tryd.underlying69
  a46 := Tryd.isAgg69
  z46 := Tryd.sizeOf69
  v46 := Tryd.zeroValue69
  t51 := Tryd.underlying63
  a51 := Tryd.isAgg63
  z51 := Tryd.sizeOf63
  v51 := Tryd.zeroValue63
  t105 := Tryd.underlying93
  a105 := Tryd.isAgg93
  z105 := Tryd.sizeOf93
  v105 := Tryd.zeroValue93
  t119 := Tryd.underlying123
  a119 := Tryd.isAgg123
  z119 := Tryd.sizeOf123
  t138 := Tryd.underlying125
  a138 := Tryd.isAgg125
  z138 := Tryd.sizeOf125
  v138 := Tryd.zeroValue125
  t139 := Tryd.underlying126
  a139 := Tryd.isAgg126
  z139 := Tryd.sizeOf126
  v139 := Tryd.zeroValue126
  t146 := Tryd.underlying127
  a146 := Tryd.isAgg127
  z146 := Tryd.sizeOf127
  v146 := Tryd.zeroValue127
  g1 := by kernel_rfl
  g3 := by kernel_rfl
  g4 := by kernel_rfl }
open Go.RowKit Go.Lib in
theorem Tryd.strings_genSplit (s sep : ByteArray) (sv : Nat) (n : Int) (N : Nat) (m : Int) (w : World) (hs : s.size < 4294967281) (hm : w.cell? ⟨0, 0, none⟩ = some (.int .i64 m)) (h1 : 1 ≤ sep.size) (hsv : sv ≤ sep.size) (hn0 : n ≠ 0) (hn63 : n ≤ 9223372036854775807) (hN : (N : Int) = min (if n < 0 then (Lib.countB s sep : Int) + 1 else n) ((s.size : Int) + 1)) :
    Calls Tryd.prog 45 #[.string s, .string sep, .int .i64 sv, .int .i64 n] w fun e w' =>
      e = .returned (.slice (some ⟨w.heap.size, 0, none⟩) (Lib.splitB sep sv (N - 1) s).length N) ∧ w' = w.alloc (.cells (Lib.cellsOf (Lib.splitB sep sv (N - 1) s) N) 9) := Any.strings_genSplit Tryd.lays221 (by kernel_rfl) s sep sv n N m w hs hm h1 hsv hn0 hn63 hN
def Tryd.lays146_ren : Go.Shelf.Ren := ⟨fun | 146 => 25 | 221 => 45 | 268 => 57 | 138 => 58 | 143 => 59 | 195 => 70 | 197 => 71 | 218 => 72 | 219 => 73 | 260 => 83 | 217 => 84 | 225 => 85 | 224 => 86 | 267 => 87 | 266 => 94 | 314 => 95 | n => n, fun | 9 => 9 | 31 => 22 | 3 => 3 | 4 => 4 | 0 => 0 | 105 => 93 | 21 => 21 | 5 => 5 | 46 => 69 | 119 => 123 | 139 => 126 | 138 => 125 | 146 => 127 | 51 => 63 | n => n, fun | 1 => 0 | 3 => 2 | 4 => 3 | n => n⟩
theorem Tryd.lays146 : Go.Proofs.Lays.n146 Tryd.prog Tryd.lays146_ren := {
  mixed := by kernel_rfl
  f138 := Tryd.func58.trans (congrArg some (by kernel_rfl))
  f143 := Tryd.func59.trans (congrArg some (by kernel_rfl))
  f146 := Tryd.func25.trans (congrArg some (by kernel_rfl))
  f195 := Tryd.func70.trans (congrArg some (by kernel_rfl))
  f197 := Tryd.func71.trans (congrArg some (by kernel_rfl))
  f217 := Tryd.func84.trans (congrArg some (by kernel_rfl))
  f218 := Tryd.func72.trans (congrArg some (by kernel_rfl))
  f219 := Tryd.func73.trans (congrArg some (by kernel_rfl))
  f221 := Tryd.func45.trans (congrArg some (by kernel_rfl))
  f224 := Tryd.func86.trans (congrArg some (by kernel_rfl))
  f225 := Tryd.func85.trans (congrArg some (by kernel_rfl))
  f260 := Tryd.func83.trans (congrArg some (by kernel_rfl))
  f266 := Tryd.func94.trans (congrArg some (by kernel_rfl))
  f267 := Tryd.func87.trans (congrArg some (by kernel_rfl))
  f268 := Tryd.func57.trans (congrArg some (by kernel_rfl))
  f314 := Tryd.func95.trans (congrArg some (by kernel_rfl))
  t0 := Tryd.underlying0
  a0 := Tryd.isAgg0
  z0 := Tryd.sizeOf0
  v0 := Tryd.zeroValue0
  t3 := Tryd.underlying3
  a3 := Tryd.isAgg3
  z3 := Tryd.sizeOf3
  v3 := Tryd.zeroValue3
  t4 := Tryd.underlying4
  a4 := Tryd.isAgg4
  z4 := Tryd.sizeOf4
  v4 := Tryd.zeroValue4
  t5 := Tryd.underlying5
  a5 := Tryd.isAgg5
  z5 := Tryd.sizeOf5
  v5 := Tryd.zeroValue5
  t9 := Tryd.underlying9
  a9 := Tryd.isAgg9
  z9 := Tryd.sizeOf9
  v9 := Tryd.zeroValue9
  t21 := Tryd.underlying21
  a21 := Tryd.isAgg21
  z21 := Tryd.sizeOf21
  v21 := Tryd.zeroValue21
  t31 := Tryd.underlying22
  a31 := Tryd.isAgg22
  z31 := Tryd.sizeOf22
  v31 := Tryd.zeroValue22
  t46 := Tryd.underlying69
  a46 := Tryd.isAgg69
  z46 := Tryd.sizeOf69
  v46 := Tryd.zeroValue69
  t51 := Tryd.underlying63
  a51 := Tryd.isAgg63
  z51 := Tryd.sizeOf63
  v51 := Tryd.zeroValue63
  t105 := Tryd.underlying93
  a105 := Tryd.isAgg93
  z105 := Tryd.sizeOf93
  v105 := Tryd.zeroValue93
  t119 := Tryd.underlying123
  a119 := Tryd.isAgg123
  z119 := Tryd.sizeOf123
  t138 := Tryd.underlying125
  a138 := Tryd.isAgg125
  z138 := Tryd.sizeOf125
  v138 := Tryd.zeroValue125
  t139 := Tryd.underlying126
  a139 := Tryd.isAgg126
  z139 := Tryd.sizeOf126
  v139 := Tryd.zeroValue126
  t146 := Tryd.underlying127
  a146 := Tryd.isAgg127
  z146 := Tryd.sizeOf127
  v146 := Tryd.zeroValue127
  g1 := by kernel_rfl
  g3 := by kernel_rfl
  g4 := by kernel_rfl }
open Go.RowKit Go.Lib in
/-- strings.Split. (LAID: no walk: one application.) -/
theorem Tryd.strings_Split (s sep : ByteArray) (m : Int) (w : World) (hs : s.size < 4294967281) (hm : w.cell? ⟨0, 0, none⟩ = some (.int .i64 m)) (h1 : 1 ≤ sep.size) :
    Calls Tryd.prog 25 #[.string s, .string sep] w fun e w' =>
      e = .returned (.slice (some ⟨w.heap.size, 0, none⟩) (Lib.countB s sep + 1) (Lib.countB s sep + 1)) ∧ w' = w.alloc (.cells ((Lib.splitB sep 0 (Lib.countB s sep) s).map Value.string).toArray 9) := Any.strings_Split Tryd.lays146 (by kernel_rfl) s sep m w hs hm h1
def Tryd.lays260_ren : Go.Shelf.Ren := ⟨fun | 260 => 83 | n => n, fun | 9 => 9 | 21 => 21 | 3 => 3 | 4 => 4 | 5 => 5 | 119 => 123 | 0 => 0 | 46 => 69 | 139 => 126 | 138 => 125 | n => n, fun | 3 => 2 | 4 => 3 | n => n⟩
theorem Tryd.lays260 : Go.Proofs.Lays.n260 Tryd.prog Tryd.lays260_ren := {
  mixed := by kernel_rfl
  f260 := Tryd.func83.trans (congrArg some (by kernel_rfl))
  t0 := Tryd.underlying0
  a0 := Tryd.isAgg0
  z0 := Tryd.sizeOf0
  v0 := Tryd.zeroValue0
  t3 := Tryd.underlying3
  a3 := Tryd.isAgg3
  z3 := Tryd.sizeOf3
  v3 := Tryd.zeroValue3
  t4 := Tryd.underlying4
  a4 := Tryd.isAgg4
  z4 := Tryd.sizeOf4
  v4 := Tryd.zeroValue4
  t5 := Tryd.underlying5
  a5 := Tryd.isAgg5
  z5 := Tryd.sizeOf5
  v5 := Tryd.zeroValue5
  t9 := Tryd.underlying9
  a9 := Tryd.isAgg9
  z9 := Tryd.sizeOf9
  v9 := Tryd.zeroValue9
  t21 := Tryd.underlying21
  a21 := Tryd.isAgg21
  z21 := Tryd.sizeOf21
  v21 := Tryd.zeroValue21
  t46 := Tryd.underlying69
  a46 := Tryd.isAgg69
  z46 := Tryd.sizeOf69
  v46 := Tryd.zeroValue69
  t119 := Tryd.underlying123
  a119 := Tryd.isAgg123
  z119 := Tryd.sizeOf123
  t138 := Tryd.underlying125
  a138 := Tryd.isAgg125
  z138 := Tryd.sizeOf125
  v138 := Tryd.zeroValue125
  t139 := Tryd.underlying126
  a139 := Tryd.isAgg126
  z139 := Tryd.sizeOf126
  v139 := Tryd.zeroValue126
  g3 := by kernel_rfl
  g4 := by kernel_rfl }
open Go.RowKit Go.Lib in
theorem Tryd.utf8_decodeRuneInStringSlow (s : ByteArray) (w : World) (hT : Lib.Utf8Tabs 2 3 w) :
    Calls Tryd.prog 83 #[.string s] w fun e w' => e = .returned (.tuple #[.int .i32 (Lib.decodeGo s).1, .int .i64 (Lib.decodeGo s).2]) ∧ Below w.heap.size w w' := Any.utf8_decodeRuneInStringSlow Tryd.lays260 s w hT
end Go.Proofs
end

section
/- The library's functions on texts (the kit's contracts), told of abstract values: strings.Join, HasPrefix, Split; strconv.Itoa of small numbers. -/
set_option maxRecDepth 100000
set_option linter.unusedVariables false
set_option linter.unusedSimpArgs false
namespace Go.Abs
open Go Go.Proofs
attribute [local irreducible] ibits byteAt strLt firstIdx

theorem strs_cells {G : Gh} {A : Option Addr} : ∀ (l : List B) (i : Nat), RepE G 1 A i (strs l) → ∀ (j : Nat) (s : B), l[j]? = some s → ∃ b o, A = some ⟨b, o, none⟩ ∧ G.K b (o + (i + j)) = some (.string (ofB s))
  | [], _, _, j, s, h => by simp at h
  | a :: l, i, h, j, s, hj => by
    obtain ⟨⟨b, o, e1, e2, e3, ⟨v, hv, hr⟩, _⟩, h2⟩ := h
    cases j with
    | zero =>
      simp only [List.getElem?_cons_zero, Option.some.injEq] at hj
      subst hj
      refine ⟨b, o, e1, ?_⟩
      rw [Nat.mul_one] at hv
      rw [Nat.add_zero, hv]
      have hr : v = .string (ofB a) := hr
      rw [hr]
    | succ j =>
      obtain ⟨b', o', f1, f2⟩ := strs_cells l (i + 1) h2 j s (by simpa using hj)
      refine ⟨b', o', f1, ?_⟩
      rw [show i + (j + 1) = i + 1 + j by omega]
      exact f2
theorem map_ofB (l : List B) : (l.map ofB).map (·.data.toList) = l := by
  rw [List.map_map]
  conv => rhs; rw [← List.map_id l]
  exact List.map_congr_left fun s _ => by simp [ofB]

theorem Join_calls (l : List B) (sep : B) (hl : l.length < 1000000) (hlen : (Lib.join l sep).length < 100000000) {R} (h : ∀ d, d = ofB (Lib.join l sep) → R (.val (.string d)) []) : ACalls Tryd.prog 26 [.sl none 1 (strs l), vs sep] [] R := by
  refine acalls_pure fun G w vals hW hA => ?_
  have hI := invS hW
  have hsl := strs_length l
  simp only [RepL, Rep] at hA
  obtain ⟨_, _, rfl, ⟨⟨A, c, rfl, hc, he⟩, _⟩, _, _, rfl, rfl, rfl⟩ := hA
  refine ⟨_, _, h _ rfl, rfl, rfl, ?_⟩
  rw [hsl] at hc ⊢
  cases l with
  | nil => exact (Tryd.strings_Join_none A c (ofB sep) w).mono fun e w' ⟨h1, h2⟩ => ⟨by rw [h1]; rfl, by rw [h2]; exact Go.RowKit.Below.refl _ _⟩
  | cons s l' =>
    obtain ⟨b, o, rfl, hk⟩ := strs_cells (s :: l') 0 he 0 s rfl
    have hx : ∀ (j : Nat) x, ((s :: l').map ofB)[j]? = some x → w.cell? ⟨b, o + j, none⟩ = some (.string x) := fun j x hj => by
      rw [List.getElem?_map, Option.map_eq_some_iff] at hj
      obtain ⟨t, ht, rfl⟩ := hj
      obtain ⟨b', o', e1, e2⟩ := strs_cells (s :: l') 0 he j t ht
      simp only [Option.some.injEq, Addr.mk.injEq, and_true] at e1
      obtain ⟨rfl, rfl⟩ := e1
      have := hW.know _ _ _ e2
      simpa using this
    have key := Tryd.strings_Join b o c ((s :: l').map ofB) (ofB sep) w hx (hI.wr.kltb hk) (by rw [List.length_map]; omega) (by rw [List.length_map]; exact hc) (by rw [map_ofB, show (ofB sep).data.toList = sep by simp [ofB]]; omega)
    rw [List.length_map, map_ofB, show (ofB sep).data.toList = sep by simp [ofB]] at key
    exact key

theorem HasPrefix_calls (s p : B) {R} (h : R (.val (.bool (Lib.hasPrefix s p))) []) : ACalls Tryd.prog 28 [vs s, vs p] [] R := by
  refine acalls_pure fun G w vals hW hA => ?_
  simp only [RepL, Rep] at hA
  obtain ⟨_, _, rfl, rfl, _, _, rfl, rfl, rfl⟩ := hA
  refine ⟨_, _, h, rfl, rfl, ?_⟩
  exact (Tryd.strings_HasPrefix (ofB s) (ofB p) w).mono fun e w' ⟨h1, h2⟩ => ⟨by rw [h1]; simp [ofB], by rw [h2]; exact Go.RowKit.Below.refl _ _⟩

theorem Itoa_small (i : Nat) (hi : i < 100) {R} (h : ∀ d, d = ofB (Lib.decDigits i) → R (.val (.string d)) []) : ACalls Tryd.prog 31 [vi i] [] R := by
  refine acalls_pure fun G w vals hW hA => ?_
  simp only [RepL, Rep] at hA
  obtain ⟨_, _, rfl, rfl, rfl⟩ := hA
  refine ⟨_, _, h _ rfl, rfl, rfl, ?_⟩
  exact (Tryd.strconv_Itoa_small i hi w).mono fun e w' ⟨h1, h2⟩ => ⟨by rw [h1]; rfl, by rw [h2]; exact Go.RowKit.Below.refl _ _⟩

/-! ### strings.Split -/
/-- A text, parted at a byte. -/
def splitP : B → UInt8 → List B
  | [], _ => [[]]
  | x :: l, c => if x = c then [] :: splitP l c else (match splitP l c with | [] => [[x]] | h :: t => (x :: h) :: t)
theorem splitP_ne (l : B) (c : UInt8) : splitP l c ≠ [] := by
  cases l with
  | nil => simp [splitP]
  | cons x l => simp only [splitP]; split; simp; split <;> simp
theorem splitP_none {l : B} {c : UInt8} (h : c ∉ l) : splitP l c = [l] := by
  induction l with
  | nil => rfl
  | cons x l ih =>
    simp only [List.mem_cons, not_or] at h
    simp only [splitP, ih h.2, if_neg (Ne.symm h.1)]
theorem splitP_hit {p : B} {c : UInt8} (q : B) (h : c ∉ p) : splitP (p ++ c :: q) c = p :: splitP q c := by
  induction p with
  | nil => simp [splitP]
  | cons x p ih =>
    simp only [List.mem_cons, not_or] at h
    simp only [List.cons_append, splitP, ih h.2, if_neg (Ne.symm h.1)]
theorem index1_none {l : B} {c : UInt8} (h : c ∉ l) : Lib.index l [c] = -1 := by
  induction l with
  | nil => simp [Lib.index]
  | cons x l ih =>
    simp only [List.mem_cons, not_or] at h
    unfold Lib.index
    rw [ih h.2]
    have : ([c].isPrefixOf (x :: l)) = false := by simp [List.isPrefixOf, h.1]
    simp [this]
theorem index1_hit {p : B} {c : UInt8} (q : B) (h : c ∉ p) : Lib.index (p ++ c :: q) [c] = p.length := by
  induction p with
  | nil => unfold Lib.index; simp [List.isPrefixOf]
  | cons x p ih =>
    simp only [List.mem_cons, not_or] at h
    simp only [List.cons_append]
    unfold Lib.index
    rw [ih h.2]
    have : ([c].isPrefixOf (x :: (p ++ c :: q))) = false := by simp [List.isPrefixOf, h.1]
    simp only [this, Bool.false_eq_true, if_false]
    split
    · rename_i e; have e := beq_iff_eq.1 e; omega
    · simp
theorem splitK_eq (c : UInt8) : ∀ (n : Nat) (s : B), s.length ≤ n → Lib.splitK [c] 0 (s.count c) s = splitP s c := by
  intro n
  induction n with
  | zero =>
    intro s hs
    have : s = [] := List.eq_nil_of_length_eq_zero (by omega)
    subst this; rfl
  | succ n ih =>
    intro s hs
    by_cases hc : c ∈ s
    · obtain ⟨p, q, rfl, hp⟩ := List.eq_append_cons_of_mem hc
      have hcp : p.count c = 0 := List.count_eq_zero.2 hp
      have hcn : (p ++ c :: q).count c = q.count c + 1 := by simp [List.count_append, hcp]
      rw [hcn, splitP_hit q hp]
      unfold Lib.splitK
      have hi := index1_hit q hp
      rw [hi]
      have : ¬ (((p.length : Nat) : Int) == -1) = true := fun e => by have := beq_iff_eq.1 e; omega
      rw [if_neg this]
      have e1 : (p ++ c :: q).take ((p.length : Int).toNat + 0) = p := by simp
      have e2 : (p ++ c :: q).drop ((p.length : Int).toNat + [c].length) = q := by
        rw [show (p.length : Int).toNat + [c].length = p.length + 1 by simp]
        rw [List.drop_append]
        simp
      rw [e1, e2, ih q (by simp at hs; omega)]
    · rw [List.count_eq_zero.2 hc, splitP_none hc]; rfl
theorem split_eq (s : B) (c : UInt8) : Lib.split s [c] = splitP s c := by
  unfold Lib.split
  rw [Lib.count_one, splitK_eq c _ s (Nat.le_refl _)]
theorem Split_calls (s : B) (c : UInt8) (hs : s.length < 1000000) {R} (h : R (.sl none 1 (strs (splitP s c))) []) : ACalls Tryd.prog 25 [vs s, vs [c]] [] R := by
  refine packS fun G w vals hW hA => ?_
  have hI := invS hW
  obtain ⟨m, hm⟩ := hW.glob.1
  have hm := hW.know _ _ _ hm
  simp only [RepL, Rep] at hA
  obtain ⟨_, _, rfl, rfl, _, _, rfl, rfl, rfl⟩ := hA
  have hsz : (ofB s).size < 4294967281 := by rw [size_ofB]; omega
  refine (Tryd.strings_Split (ofB s) (ofB [c]) m w hsz hm (by rw [size_ofB]; simp)).mono ?_
  rintro e w' ⟨rfl, rfl⟩
  have hlen : (Lib.splitB (ofB [c]) 0 (Lib.countB (ofB s) (ofB [c])) (ofB s)).map (·.data.toList) = splitP s c := by
    rw [Lib.splitB_data, ← split_eq]
    simp [Lib.split, ofB]
  have hvals : (Lib.splitB (ofB [c]) 0 (Lib.countB (ofB s) (ofB [c])) (ofB s)).map Value.string = (splitP s c).map encStr := by
    rw [← hlen, List.map_map]
    exact List.map_congr_left fun x _ => by simp [encStr]
  have hn : Lib.countB (ofB s) (ofB [c]) + 1 = (splitP s c).length := by
    have := Lib.splitB_all (ofB [c]) (by rw [size_ofB]; simp) 0 _ (ofB s) rfl
    rw [← hlen, List.length_map, this]
  rw [hvals, hn]
  obtain ⟨hI', hle⟩ := hI.frozen ((splitP s c).map encStr) 9
  refine ⟨_, _, _, _, rfl, h, ?_, hI', (by intro i o ho; cases ho), by simp [AV.names]⟩
  have hsl := strs_length (splitP s c)
  simp only [Rep]
  rw [hsl]
  exact ⟨⟨_, _, rfl, Nat.le_refl _, repE_strs _ _ fun j t hj => by simp [addK, hj]⟩, trivial⟩
end Go.Abs
end

section
/- Words of texts (escape): Put and Get. -/
set_option maxRecDepth 100000
set_option linter.unusedVariables false
set_option linter.unusedSimpArgs false
namespace Go.Abs
open Go Go.Proofs
attribute [local irreducible] ibits byteAt strLt firstIdx

def plainP (c : UInt8) : Bool := decide (33 ≤ c.toNat) && (decide (c.toNat ≤ 126) && decide (c ≠ 92))
def noneP (_ : UInt8) : Bool := false
theorem u8_ne {c : UInt8} {n : Nat} (hn : n < 256) : (((c.toNat : Nat) : Int) != (n : Int)) = decide (c ≠ UInt8.ofNat n) := by
  rw [Bool.eq_iff_iff, bne_iff_ne, decide_eq_true_iff]
  constructor
  · intro h e
    apply h
    rw [e]
    simp
    omega
  · intro h e
    apply h
    have : c.toNat = n := by omega
    rw [← this]
    simp
theorem plain_calls (c : UInt8) (R : AV → List AObj → Prop) (h : R (.val (.bool (plainP c))) []) : ACalls Tryd.prog 24 [.val (.int .u8 c.toNat)] [] R := by
  refine acalls_of_xwp (an := an24) tab_ok Tryd.func24 ?_
  have e3 : (((c.toNat : Nat) : Int) != 92) = decide (c ≠ 92) := u8_ne (n := 92) (by omega)
  (conv => whnf)
  refine br_intro (fun g1 => ?_) (fun g1 => ?_)
  · have g1 : 33 ≤ c.toNat := by simp at g1; omega
    (conv => whnf)
    refine br_intro (fun g2 => ?_) (fun g2 => ?_)
    · have g2 : c.toNat ≤ 126 := by simp at g2; omega
      (conv => whnf)
      rw [e3]
      have : plainP c = decide (c ≠ 92) := by simp [plainP, g1, g2]
      rw [this] at h
      exact h
    · have g2 : ¬ c.toNat ≤ 126 := by simp at g2; omega
      (conv => whnf)
      have : plainP c = false := by simp [plainP, g2]
      rw [this] at h
      exact h
  · have g1 : ¬ 33 ≤ c.toNat := by simp at g1; omega
    (conv => whnf)
    have : plainP c = false := by simp [plainP, g1]
    rw [this] at h
    exact h
theorem put1_calls (c : UInt8) (R : AV → List AObj → Prop) (h : R (.val (.bool (noneP c))) []) : ACalls Tryd.prog 23 [.val (.int .u8 c.toNat)] [] R := by
  refine acalls_of_xwp (an := an23) tab_ok Tryd.func23 ?_
  (conv => whnf)
  exact h

def putP (s : B) : B := if s = [] then [45] else signsP (if s = [45] then noneP else plainP) s
theorem Put_calls (s : B) (hs : s.length < 100000) {R} (h : ∀ d, d = ofB (putP s) → R (.val (.string d)) []) : ACalls Tryd.prog 8 [vs s] [] R := by
  refine acalls_of_xwp (an := an8) tab_ok Tryd.func8 ?_
  (conv => whnf)
  refine br_intro (fun g => ?_) (fun g => ?_)
  · have g : ofB s = ofB [] := of_decide_eq_true g
    have g := ofB_inj g
    (conv => whnf)
    refine h _ ?_
    rw [putP, if_pos g]
    rfl
  · have g : s ≠ [] := by
      rintro rfl
      exact of_decide_eq_false g rfl
    (conv => whnf)
    refine br_intro (fun g2 => ?_) (fun g2 => ?_)
    · have g2 : ofB s = ofB [45] := of_decide_eq_true g2
      have g2 := ofB_inj g2
      (conv => whnf)
      refine signs_calls 23 rfl noneP put1_calls s g hs fun d hd => ?_
      (conv => whnf)
      refine h _ ?_
      rw [hd, putP, if_neg g, if_pos g2]
    · have g2 : s ≠ [45] := by
        rintro rfl
        exact of_decide_eq_false g2 rfl
      (conv => whnf)
      refine signs_calls 24 rfl plainP plain_calls s g hs fun d hd => ?_
      (conv => whnf)
      refine h _ ?_
      rw [hd, putP, if_neg g, if_neg g2]

/-! ### what is read -/
def dec : B → Option B
  | [] => some []
  | c :: r => if c ≠ 92 then (dec r).map (c :: ·) else
    match r with
    | a :: b :: r' => (match hexv a, hexv b with
      | some x, some y => (dec r').map (UInt8.ofNat (16 * x + y) :: ·)
      | _, _ => none)
    | _ => none
theorem dec_plain {w : B} {i : Nat} (hi : i < w.length) (h : w[i] ≠ 92) : dec (w.drop i) = (dec (w.drop (i + 1))).map (w[i] :: ·) := by
  rw [List.drop_eq_getElem_cons hi]
  conv => lhs; unfold dec
  rw [if_pos h]
theorem dec_esc {w : B} {i : Nat} (hi : i + 2 < w.length) (h : w[i] = 92) : dec (w.drop i) = (match hexv w[i + 1], hexv w[i + 2] with
      | some x, some y => (dec (w.drop (i + 3))).map (UInt8.ofNat (16 * x + y) :: ·)
      | _, _ => none) := by
  rw [List.drop_eq_getElem_cons (show i < w.length by omega), List.drop_eq_getElem_cons (show i + 1 < w.length by omega), List.drop_eq_getElem_cons (show i + 1 + 1 < w.length by omega), dec, if_neg (not_not_intro h)]
theorem dec_short {w : B} {i : Nat} (hi : i < w.length) (hs : w.length < i + 3) (h : w[i] = 92) : dec (w.drop i) = none := by
  rw [List.drop_eq_getElem_cons hi]
  unfold dec
  rw [if_neg (not_not_intro h)]
  rcases hd : w.drop (i + 1) with _ | ⟨a, _ | ⟨b, r⟩⟩
  · rfl
  · rfl
  · exfalso
    have := congrArg List.length hd
    simp at this
    omega
def getP (w : B) : Option B := match dec w with
  | none => none
  | some o => (fun s : B => if putP s = w then some s else none) (if w = [45] then [] else o)
def vgets (o : Option B) : AV := .tup [vs (o.getD []), .val (.bool o.isSome)]
theorem nib0 : (List.range 16).all (fun x => (List.range 16).all fun y => decide (IntKind.u8.wrap (ibits .or .i64 (IntKind.i64.wrap ((x : Int) * 2 ^ min ((4 : Int)).toNat IntKind.i64.bits)) (y : Int)) = (((UInt8.ofNat (16 * x + y)).toNat : Nat) : Int))) = true := by decide +kernel
theorem nib {x y : Nat} (hx : x < 16) (hy : y < 16) : IntKind.u8.wrap (ibits .or .i64 (IntKind.i64.wrap ((x : Int) * 2 ^ min ((4 : Int)).toNat IntKind.i64.bits)) (y : Int)) = (((UInt8.ofNat (16 * x + y)).toNat : Nat) : Int) :=
  of_decide_eq_true (List.all_eq_true.1 (List.all_eq_true.1 nib0 x (List.mem_range.2 hx)) y (List.mem_range.2 hy))
theorem dec_len : ∀ (n : Nat) (w o : B), w.length ≤ n → dec w = some o → o.length ≤ w.length := by
  intro n
  induction n with
  | zero =>
    intro w o hw h
    have : w = [] := List.eq_nil_of_length_eq_zero (by omega)
    subst this
    simp [dec] at h
    simp [← h]
  | succ n ih =>
    intro w o hw h
    rcases w with _ | ⟨c, r⟩
    · simp [dec] at h; simp [← h]
    · unfold dec at h
      split at h
      · obtain ⟨o', h1, rfl⟩ := Option.map_eq_some_iff.1 h
        have := ih r o' (by simpa using hw) h1
        simpa using this
      · split at h
        · split at h
          · obtain ⟨o', h1, rfl⟩ := Option.map_eq_some_iff.1 h
            have := ih _ o' (by simp at hw; omega) h1
            simp; omega
          · cases h
        · cases h

end Go.Abs
end

section
/- The statements of the digest: the functions. -/
set_option maxRecDepth 100000
set_option linter.unusedVariables false
set_option linter.unusedSimpArgs false
namespace Go.Abs
open Go Go.Proofs Dig
attribute [local irreducible] ibits byteAt strLt

theorem dig0 : dig 0 = 0xe220a8397b1dcdaf#64 := by decide +kernel

end Go.Abs
end

section
/- The statement DigestFolds: the function. -/
set_option maxRecDepth 100000
set_option linter.unusedVariables false
set_option linter.unusedSimpArgs false
namespace Go.Abs
open Go Go.Proofs Dig
attribute [local irreducible] ibits byteAt strLt

theorem fold_split (n : U) (l : List U) (k : Nat) : fold (dBack (fold n (l.take k))) (l.drop k) = fold n l := by
  simp only [fold, dOf_dBack]
  rw [← List.foldl_append, List.take_append_drop]

end Go.Abs
end

section
/- The statement DigestHex: the document's functions, and the statement's. -/
set_option maxRecDepth 100000
set_option linter.unusedVariables false
set_option linter.unusedSimpArgs false
namespace Go.Abs
open Go Go.Proofs Dig
attribute [local irreducible] ibits byteAt strLt firstIdx

theorem u64_div16 (n : Nat) (h : n < 18446744073709551616) : IntKind.u64.wrap ((n : Int).tdiv 16) = ((n / 16 : Nat) : Int) := by
  rw [wrap_u64, Int.tdiv_eq_ediv_of_nonneg (Int.natCast_nonneg _)]
  omega
theorem tmod16 (n : Nat) : ((n : Int)).tmod 16 = ((n % 16 : Nat) : Int) := by
  rw [Int.tmod_eq_emod_of_nonneg (Int.natCast_nonneg _)]; omega

theorem refHex_calls (h : U) {R} (k : ∀ d, d = ofB (hexB h) → R (.val (.string d)) []) : ACalls Tryd.prog 40 [uv h] [] R := by
  refine acalls_of_xwp (an := an40) tab_ok Tryd.func40 ?_
  (conv => whnf)
  refine LoopP.ind3 (fun (i n : Nat) (s : B) => [(0, .val (.int .u64 n)), (3, .val (.string (ofB s))), (4, .val (.int .i64 i))]) (fun _ _ _ => []) (fun i _ _ => 16 - i)
    (fun i n s => i ≤ 16 ∧ n = h.toNat / 16 ^ i ∧ s = hexL h.toNat i) 0 h.toNat [] rfl ⟨by simp, by simp, rfl⟩ ?_
  rintro i n s ⟨h1, h2, h3⟩ IH
  have hn : n < 18446744073709551616 := by have := h.isLt; have := Nat.div_le_self h.toNat (16 ^ i); omega
  have hs : s.length = i := by rw [h3, hexL_length]
  have hsz : (ofB s).size = i := by rw [size_ofB, hs]
  (conv => whnf)
  refine br_intro (fun hc => ?_) (fun hc => ?_)
  · have hc : i < 16 := by simp at hc; omega
    (conv => whnf)
    rw [tmod16, wrap_u64]
    have e1 : (((n % 16 : Nat) : Int) + 1) % 18446744073709551616 = ((n % 16 + 1 : Nat) : Int) := by omega
    rw [e1]
    refine must_intro (decide_eq_true (by omega)) ?_
    refine must_intro (decide_eq_true (by show ((n % 16 + 1 : Nat) : Int) ≤ 16; omega)) ?_
    have e2 : (ByteArray.extract { data := #[48, 49, 50, 51, 52, 53, 54, 55, 56, 57, 97, 98, 99, 100, 101, 102] } ((n % 16 : Nat) : Int).toNat ((n % 16 + 1 : Nat) : Int).toNat) = ofB [hexc (n % 16)] := by
      rw [Int.toNat_natCast, Int.toNat_natCast]
      have key : (List.range 16).all (fun d => decide (ByteArray.extract { data := #[48, 49, 50, 51, 52, 53, 54, 55, 56, 57, 97, 98, 99, 100, 101, 102] } d (d + 1) = ofB [hexc d])) = true := by decide +kernel
      have := List.all_eq_true.1 key (n % 16) (List.mem_range.2 (Nat.mod_lt _ (by omega)))
      simpa using this
    rw [e2]
    (conv => whnf)
    refine must_intro (decide_eq_true (by rw [hsz, size_ofB]; simp; omega)) ?_
    rw [ofB_append]
    (conv => whnf)
    rw [u64_div16 n hn, wrap_i64 (by omega) (by omega)]
    refine IH (i + 1) (n / 16) ([hexc (n % 16)] ++ s) ⟨by omega, ?_, ?_⟩ (by omega)
    · rw [h2, Nat.pow_succ, Nat.div_div_eq_div_mul]
    · rw [h3, h2]; rfl
  · have hc : i = 16 := by simp at hc; omega
    subst hc
    (conv => whnf)
    exact k _ (by rw [h3]; rfl)

theorem hexv_num {c : UInt8} (h : 48 ≤ c.toNat ∧ c.toNat ≤ 57) : hexv c = some (c.toNat - 48) := by simp [hexv, h]
theorem hexv_let {c : UInt8} (h : 97 ≤ c.toNat ∧ c.toNat ≤ 102) : hexv c = some (c.toNat - 87) := by
  unfold hexv
  rw [if_neg (by omega), if_pos h]
theorem hexv_none {c : UInt8} (h1 : ¬ (48 ≤ c.toNat ∧ c.toNat ≤ 57)) (h2 : ¬ (97 ≤ c.toNat ∧ c.toNat ≤ 102)) : hexv c = none := by
  unfold hexv
  rw [if_neg h1, if_neg h2]
theorem wrap_u8 (x : Int) : IntKind.u8.wrap x = x % 256 := by
  simp [IntKind.wrap, IntKind.signed, IntKind.bits]

theorem args_str {ts : List TypeId} {l : List AV} (h : Args tab 12 (9 :: ts) l) : ∃ (x : B) (l' : List AV), l = .val (.string (ofB x)) :: l' ∧ x.length ≤ maxLen ∧ Args tab 12 ts l' := by
  obtain ⟨a, l', rfl, h1, h2⟩ := h
  obtain ⟨x, e, hx⟩ : ∃ x : ByteArray, [a] = [.val (.string x)] ∧ x.size ≤ maxLen := h1
  simp only [List.cons.injEq, and_true] at e
  exact ⟨bs x, l', by rw [e, ofB_bs], by rw [← size_bs]; exact hx, h2⟩
end Go.Abs
end

section
/- Words of texts (escape): the document's functions, the statements EscapePuts and EscapeGets. -/
set_option maxRecDepth 100000
set_option linter.unusedVariables false
set_option linter.unusedSimpArgs false
namespace Go.Abs
open Go Go.Proofs
attribute [local irreducible] ibits byteAt strLt firstIdx

/-! ### signs, parted -/
def okPr (pr : UInt8 → Bool) : Prop := ∀ c, pr c = true → c ≠ 92
theorem ok_plain : okPr plainP := fun c h => by
  unfold plainP at h
  simp only [Bool.and_eq_true, decide_eq_true_eq] at h
  exact h.2.2
theorem ok_none : okPr noneP := fun c h => by cases h
theorem sgn_hex (c : UInt8) : hexv (hexc (c.toNat / 16)) = some (c.toNat / 16) ∧ hexv (hexc (c.toNat % 16)) = some (c.toNat % 16) ∧ UInt8.ofNat (16 * (c.toNat / 16) + c.toNat % 16) = c := by
  have := c.toNat_lt
  refine ⟨hexv_hexc (by omega), hexv_hexc (by omega), ?_⟩
  rw [show 16 * (c.toNat / 16) + c.toNat % 16 = c.toNat by omega]
  simp
theorem dec_sgn {pr : UInt8 → Bool} (hpr : okPr pr) (c : UInt8) (r : B) : dec (sgn pr c ++ r) = (dec r).map (c :: ·) := by
  unfold sgn
  split
  · rename_i h
    show dec (c :: r) = _
    conv => lhs; unfold dec
    rw [if_pos (hpr c h)]
  · show dec (92 :: hexc (c.toNat / 16) :: hexc (c.toNat % 16) :: r) = _
    obtain ⟨h1, h2, h3⟩ := sgn_hex c
    rw [dec, if_neg (by simp), h1, h2]
    simp only [h3]
theorem dec_signs {pr : UInt8 → Bool} (hpr : okPr pr) : ∀ (o : B), dec (signsP pr o) = some o := by
  intro o
  induction o with
  | nil => simp [signsP, dec]
  | cons c o ih =>
    show dec (sgn pr c ++ signsP pr o) = _
    rw [dec_sgn hpr, ih]
    rfl
theorem sgn_pre {pr : UInt8 → Bool} (hpr : okPr pr) {c d : UInt8} {r t : B} (h : sgn pr c ++ r = sgn pr d ++ t) : c = d ∧ r = t := by
  have key : c = d := by
    unfold sgn at h
    split at h
    · rename_i h1
      split at h
      · rename_i h2
        injection h with h
      · injection h with h _
        exact absurd h (hpr c h1)
    · split at h
      · rename_i h2
        injection h with h _
        exact absurd h.symm (hpr d h2)
      · obtain ⟨a1, a2, a3⟩ := sgn_hex c
        obtain ⟨b1, b2, b3⟩ := sgn_hex d
        injection h with _ h
        injection h with e1 h
        injection h with e2 h
        rw [e1, b1] at a1
        rw [e2, b2] at a2
        simp only [Option.some.injEq] at a1 a2
        rw [← a3, ← b3, a1, a2]
  subst key
  exact ⟨rfl, List.append_cancel_left h⟩
theorem signs_pre {pr : UInt8 → Bool} (hpr : okPr pr) : ∀ (out o : B) (rest : B), signsP pr o = signsP pr out ++ rest → ∃ o', o = out ++ o' ∧ rest = signsP pr o' := by
  intro out
  induction out with
  | nil => intro o rest h; exact ⟨o, rfl, by simpa [signsP] using h.symm⟩
  | cons d out ih =>
    intro o rest h
    cases o with
    | nil =>
      exfalso
      have := congrArg List.length h
      have h1 := (sgn_len pr d).1
      simp [signsP] at this
      omega
    | cons c o =>
      have h' : sgn pr c ++ signsP pr o = sgn pr d ++ (signsP pr out ++ rest) := by
        rw [← List.append_assoc]; exact h
      obtain ⟨rfl, h2⟩ := sgn_pre hpr h'
      obtain ⟨o', rfl, h3⟩ := ih o rest h2
      exact ⟨o', rfl, h3⟩
def prW (w : B) : UInt8 → Bool := if w = [92, 50, 100] then noneP else plainP
theorem ok_prW (w : B) : okPr (prW w) := by unfold prW; split; exact ok_none; exact ok_plain
def refGetP (w : B) : Option B := if w = [45] then some [] else match dec w with
  | none => none
  | some o => if signsP (prW w) o = w ∧ o ≠ [] then some o else none
theorem getP_ref (w : B) : getP w = refGetP w := by
  unfold getP refGetP
  by_cases hw : w = [45]
  · subst hw
    decide +kernel
  rw [if_neg hw]
  cases hd : dec w with
  | none => rfl
  | some o =>
    simp only [if_neg hw]
    by_cases ho : o = []
    · subst ho
      rw [if_neg (by intro e; exact hw e.symm), if_neg (by simp)]
    have iff : putP o = w ↔ signsP (prW w) o = w := by
      unfold putP prW
      rw [if_neg ho]
      by_cases h45 : o = [45]
      · subst h45
        rw [if_pos rfl]
        have e1 : signsP noneP [45] = [92, 50, 100] := by decide +kernel
        have e2 : signsP plainP [45] = [45] := by decide +kernel
        constructor
        · intro e
          rw [if_pos (by rw [← e, e1])]
          exact e
        · intro e
          by_cases h2d : w = [92, 50, 100]
          · rw [h2d, e1]
          · rw [if_neg h2d, e2] at e
            exact absurd e.symm hw
      · rw [if_neg h45]
        by_cases h2d : w = [92, 50, 100]
        · subst h2d
          have : dec [92, 50, 100] = some [45] := by decide +kernel
          rw [this] at hd
          exact absurd (Option.some.inj hd).symm h45
        · rw [if_neg h2d]
    by_cases hp : putP o = w
    · rw [if_pos hp, if_pos ⟨iff.1 hp, ho⟩]
    · rw [if_neg hp, if_neg (fun h => hp (iff.2 h.1))]
/-- What is put is read as the text. -/
theorem getP_putP (s : B) : getP (putP s) = some s := by
  unfold getP
  by_cases h0 : s = []
  · subst h0; decide +kernel
  have hp : putP s = signsP (if s = [45] then noneP else plainP) s := by rw [putP, if_neg h0]
  have hok : okPr (if s = [45] then noneP else plainP) := by split; exact ok_none; exact ok_plain
  rw [hp, dec_signs hok]
  have hne : signsP (if s = [45] then noneP else plainP) s ≠ [45] := by
    intro e
    have h1 := dec_signs hok s
    rw [e] at h1
    have h2 : dec [45] = some [45] := by decide +kernel
    rw [h2] at h1
    have h3 : s = [45] := (Option.some.inj h1).symm
    subst h3
    revert e
    decide +kernel
  simp only [if_neg hne]
  rw [hp, if_pos rfl]

/-! ### the document's -/
theorem u8_quo (c : UInt8) : IntKind.u8.wrap (((c.toNat : Nat) : Int).tdiv 16) = ((c.toNat / 16 : Nat) : Int) ∧ (((c.toNat : Nat) : Int)).tmod 16 = ((c.toNat % 16 : Nat) : Int) := by
  have := c.toNat_lt
  rw [wrap_u8, Int.tdiv_eq_ediv_of_nonneg (Int.natCast_nonneg _), Int.tmod_eq_emod_of_nonneg (Int.natCast_nonneg _)]
  omega

theorem sign_calls (c : UInt8) (b : Bool) {R} (h : ∀ d, d = ofB (sgn (if b = true then noneP else plainP) c) → R (.val (.string d)) []) : ACalls Tryd.prog 68 [.val (.int .u8 c.toNat), .val (.bool b)] [] R := by
  refine acalls_of_xwp (an := an68) tab_ok Tryd.func68 ?_
  have hlt := c.toNat_lt
  have e3 : (((c.toNat : Nat) : Int) != 92) = decide (c ≠ 92) := u8_ne (n := 92) (by omega)
  cases b with
  | true =>
    (conv => whnf)
    refine must_intro (decide_eq_true (by rw [(u8_quo c).1]; show ((_ : Nat) : Int) < 16; omega)) ?_
    (conv => whnf)
    refine must_intro (decide_eq_true (by rw [(u8_quo c).2]; show ((_ : Nat) : Int) < 16; omega)) ?_
    (conv => whnf)
    refine ⟨[92, (((hexc (c.toNat / 16)).toNat : Nat) : Int), (((hexc (c.toNat % 16)).toNat : Nat) : Int)], ?_, ?_⟩
    · have k1 : byteAt { data := #[48, 49, 50, 51, 52, 53, 54, 55, 56, 57, 97, 98, 99, 100, 101, 102] } (IntKind.u8.wrap (((c.toNat : Nat) : Int).tdiv 16)).toNat = ((hexc (c.toNat / 16)).toNat : Int) := by
        rw [(u8_quo c).1, Int.toNat_natCast]
        exact at_signs (by omega)
      have k2 : byteAt { data := #[48, 49, 50, 51, 52, 53, 54, 55, 56, 57, 97, 98, 99, 100, 101, 102] } (((c.toNat : Nat) : Int).tmod 16).toNat = ((hexc (c.toNat % 16)).toNat : Int) := by
        rw [(u8_quo c).2, Int.toNat_natCast]
        exact at_signs (by omega)
      rw [k1, k2]
      rfl
    (conv => whnf)
    refine h _ ?_
    have e := strOfNums_ofB [92, hexc (c.toNat / 16), hexc (c.toNat % 16)]
    refine e.trans ?_
    congr 1
  | false =>
    have esc : plainP c = false → [92, hexc (c.toNat / 16), hexc (c.toNat % 16)] = sgn (if false = true then noneP else plainP) c := by
      intro hp
      rw [if_neg (by simp), sgn, hp]
      rfl
    (conv => whnf)
    refine br_intro (fun g1 => ?_) (fun g1 => ?_)
    · have g1 : 33 ≤ c.toNat := by simp at g1; omega
      (conv => whnf)
      refine br_intro (fun g2 => ?_) (fun g2 => ?_)
      · have g2 : c.toNat ≤ 126 := by simp at g2; omega
        (conv => whnf)
        rw [e3]
        refine br_intro (fun g3 => ?_) (fun g3 => ?_)
        · have g3 : c ≠ 92 := of_decide_eq_true g3
          (conv => whnf)
          refine ⟨[((c.toNat : Nat) : Int)], rfl, ?_⟩
          (conv => whnf)
          refine h _ ?_
          have e := strOfNums_ofB [c]
          refine e.trans ?_
          congr 1
          rw [if_neg (by simp), sgn, if_pos (by simp [plainP, g1, g2, g3])]
        · have g3 : c = 92 := by simpa using g3
          have hp : plainP c = false := by rw [g3]; decide
          (conv => whnf)
          refine must_intro (decide_eq_true (by rw [(u8_quo c).1]; show ((_ : Nat) : Int) < 16; omega)) ?_
          (conv => whnf)
          refine must_intro (decide_eq_true (by rw [(u8_quo c).2]; show ((_ : Nat) : Int) < 16; omega)) ?_
          (conv => whnf)
          refine ⟨[92, (((hexc (c.toNat / 16)).toNat : Nat) : Int), (((hexc (c.toNat % 16)).toNat : Nat) : Int)], ?_, ?_⟩
          · have k1 : byteAt { data := #[48, 49, 50, 51, 52, 53, 54, 55, 56, 57, 97, 98, 99, 100, 101, 102] } (IntKind.u8.wrap (((c.toNat : Nat) : Int).tdiv 16)).toNat = ((hexc (c.toNat / 16)).toNat : Int) := by
              rw [(u8_quo c).1, Int.toNat_natCast]
              exact at_signs (by omega)
            have k2 : byteAt { data := #[48, 49, 50, 51, 52, 53, 54, 55, 56, 57, 97, 98, 99, 100, 101, 102] } (((c.toNat : Nat) : Int).tmod 16).toNat = ((hexc (c.toNat % 16)).toNat : Int) := by
              rw [(u8_quo c).2, Int.toNat_natCast]
              exact at_signs (by omega)
            rw [k1, k2]
            rfl
          (conv => whnf)
          refine h _ ?_
          have e := strOfNums_ofB [92, hexc (c.toNat / 16), hexc (c.toNat % 16)]
          refine e.trans ?_
          congr 1
          exact esc hp
      · have hp : plainP c = false := by
          have g2 : ¬ c.toNat ≤ 126 := by simp at g2; omega
          simp [plainP, g2]
        (conv => whnf)
        refine must_intro (decide_eq_true (by rw [(u8_quo c).1]; show ((_ : Nat) : Int) < 16; omega)) ?_
        (conv => whnf)
        refine must_intro (decide_eq_true (by rw [(u8_quo c).2]; show ((_ : Nat) : Int) < 16; omega)) ?_
        (conv => whnf)
        refine ⟨[92, (((hexc (c.toNat / 16)).toNat : Nat) : Int), (((hexc (c.toNat % 16)).toNat : Nat) : Int)], ?_, ?_⟩
        · have k1 : byteAt { data := #[48, 49, 50, 51, 52, 53, 54, 55, 56, 57, 97, 98, 99, 100, 101, 102] } (IntKind.u8.wrap (((c.toNat : Nat) : Int).tdiv 16)).toNat = ((hexc (c.toNat / 16)).toNat : Int) := by
            rw [(u8_quo c).1, Int.toNat_natCast]
            exact at_signs (by omega)
          have k2 : byteAt { data := #[48, 49, 50, 51, 52, 53, 54, 55, 56, 57, 97, 98, 99, 100, 101, 102] } (((c.toNat : Nat) : Int).tmod 16).toNat = ((hexc (c.toNat % 16)).toNat : Int) := by
            rw [(u8_quo c).2, Int.toNat_natCast]
            exact at_signs (by omega)
          rw [k1, k2]
          rfl
        (conv => whnf)
        refine h _ ?_
        have e := strOfNums_ofB [92, hexc (c.toNat / 16), hexc (c.toNat % 16)]
        refine e.trans ?_
        congr 1
        exact esc hp
    · have hp : plainP c = false := by
        have g1 : ¬ 33 ≤ c.toNat := by simp at g1; omega
        simp [plainP, g1]
      (conv => whnf)
      refine must_intro (decide_eq_true (by rw [(u8_quo c).1]; show ((_ : Nat) : Int) < 16; omega)) ?_
      (conv => whnf)
      refine must_intro (decide_eq_true (by rw [(u8_quo c).2]; show ((_ : Nat) : Int) < 16; omega)) ?_
      (conv => whnf)
      refine ⟨[92, (((hexc (c.toNat / 16)).toNat : Nat) : Int), (((hexc (c.toNat % 16)).toNat : Nat) : Int)], ?_, ?_⟩
      · have k1 : byteAt { data := #[48, 49, 50, 51, 52, 53, 54, 55, 56, 57, 97, 98, 99, 100, 101, 102] } (IntKind.u8.wrap (((c.toNat : Nat) : Int).tdiv 16)).toNat = ((hexc (c.toNat / 16)).toNat : Int) := by
          rw [(u8_quo c).1, Int.toNat_natCast]
          exact at_signs (by omega)
        have k2 : byteAt { data := #[48, 49, 50, 51, 52, 53, 54, 55, 56, 57, 97, 98, 99, 100, 101, 102] } (((c.toNat : Nat) : Int).tmod 16).toNat = ((hexc (c.toNat % 16)).toNat : Int) := by
          rw [(u8_quo c).2, Int.toNat_natCast]
          exact at_signs (by omega)
        rw [k1, k2]
        rfl
      (conv => whnf)
      refine h _ ?_
      have e := strOfNums_ofB [92, hexc (c.toNat / 16), hexc (c.toNat % 16)]
      refine e.trans ?_
      congr 1
      exact esc hp
end Go.Abs
end

section
/- Words of texts (escape): the statements. -/
set_option maxRecDepth 100000
set_option linter.unusedVariables false
set_option linter.unusedSimpArgs false
namespace Go.Abs
open Go Go.Proofs
attribute [local irreducible] ibits byteAt strLt firstIdx

theorem refPut_calls (s : B) (hs : s.length < 100000) {R} (h : ∀ d, d = ofB (putP s) → R (.val (.string d)) []) : ACalls Tryd.prog 55 [vs s] [] R := by
  refine acalls_of_xwp (an := an55) tab_ok Tryd.func55 ?_
  have hsz : (ofB s).size = s.length := size_ofB s
  (conv => whnf)
  refine br_intro (fun g => ?_) (fun g => ?_)
  · have g : ofB s = ofB [] := of_decide_eq_true g
    have g := ofB_inj g
    (conv => whnf)
    refine h _ ?_
    rw [putP, if_pos g]
    rfl
  have g : s ≠ [] := by
    rintro rfl
    exact of_decide_eq_false g rfl
  have hb : decide (ofB s = { data := #[45] }) = decide (s = [45]) := decide_eq_decide.2 ⟨fun e => ofB_inj (show ofB s = ofB [45] from e), fun e => by rw [e]; rfl⟩
  have hpr : (if decide (s = [45]) = true then noneP else plainP) = (if s = [45] then noneP else plainP) := by simp
  (conv => whnf)
  refine LoopP.ind2 (fun (i : Nat) (out : B) => [(3, vs out), (4, vi i)]) (fun _ _ => []) (fun i _ => s.length - i) (fun i out => i ≤ s.length ∧ out = signsP (if s = [45] then noneP else plainP) (s.take i)) 0 [] rfl ⟨by omega, by simp [signsP]⟩ ?_
  rintro i out ⟨h0, h1⟩ IH
  have hol : out.length ≤ 3 * i := by
    have := signsP_len (if s = [45] then noneP else plainP) (s.take i)
    rw [← h1, List.length_take] at this
    omega
  (conv => whnf)
  refine br_intro (fun hc => ?_) (fun hc => ?_)
  · have hc := lt_of_decE hsz hc
    have hbt : byteAt (ofB s) ((i : Int)).toNat = ((s[i]).toNat : Int) := by rw [Int.toNat_natCast, byteAt_ofB s hc]
    (conv => whnf); (repeat ((with_reducible refine must_intro ?_ ?_); exact decide_eq_true (by omega); (conv => whnf)))
    rw [hbt, hb]
    refine sign_calls s[i] (decide (s = [45])) fun d hd => ?_
    rw [hpr] at hd
    subst hd
    have h3 := (sgn_len (if s = [45] then noneP else plainP) s[i]).2
    (conv => whnf)
    refine must_intro (decide_eq_true (by rw [size_ofB, size_ofB]; omega)) ?_
    rw [ofB_append]
    (conv => whnf)
    rw [i64_nat (by omega)]
    refine IH (i + 1) (out ++ sgn (if s = [45] then noneP else plainP) s[i]) ⟨by omega, ?_⟩ (by omega)
    rw [h1, List.take_succ_eq_append_getElem hc]
    simp only [signsP, List.flatMap_append, List.flatMap_cons, List.flatMap_nil, List.append_nil]
  · have hc := ge_of_decE hsz hc
    rw [List.take_of_length_le hc] at h1
    (conv => whnf)
    refine h _ ?_
    rw [h1, putP, if_neg g]

theorem u8_of {c : Nat} (h : c < 256) : IntKind.u8.wrap (c : Int) = (((UInt8.ofNat c).toNat : Nat) : Int) := by
  rw [wrap_u8]
  simp
theorem efixed_calls {R} (h : R (.val (.bool true)) []) : ACalls Tryd.prog 7 [] [] R := by
  refine acalls_of_xwp (an := an7) tab_ok Tryd.func7 ?_
  (conv => whnf)
  refine Put_calls [97, 32, 92] (by simp) fun d hd => ?_
  have e1 : putP [97, 32, 92] = [97, 92, 50, 48, 92, 53, 99] := by decide +kernel
  rw [e1] at hd
  subst hd
  (conv => whnf)
  refine Put_calls [] (by simp) fun d hd => ?_
  have e2 : putP [] = [45] := by decide +kernel
  rw [e2] at hd
  subst hd
  (conv => whnf)
  exact h

theorem getP_some {w s : B} (hg : getP w = some s) : s.length ≤ w.length ∧ putP s = w := by
  unfold getP at hg
  cases hd : dec w with
  | none => rw [hd] at hg; cases hg
  | some o =>
    rw [hd] at hg
    have hg : (if putP (if w = [45] then [] else o) = w then some (if w = [45] then [] else o) else none) = some s := hg
    by_cases hp : putP (if w = [45] then [] else o) = w
    · rw [if_pos hp] at hg
      have hg := Option.some.inj hg
      rw [hg] at hp
      refine ⟨?_, hp⟩
      rw [← hg]
      by_cases hw : w = [45]
      · rw [if_pos hw]; simp
      · rw [if_neg hw]; exact dec_len _ _ _ (Nat.le_refl _) hd
    · rw [if_neg hp] at hg; cases hg

theorem hexc_ne {d : Nat} (h : d < 16) : hexc d ≠ 32 ∧ hexc d ≠ 10 := by
  have key : (List.range 16).all (fun d => decide (hexc d ≠ 32 ∧ hexc d ≠ 10)) = true := by decide +kernel
  have h := List.all_eq_true.1 key d (List.mem_range.2 h)
  exact of_decide_eq_true h
theorem signs_mem {pr : UInt8 → Bool} (hpr : ∀ c, pr c = true → c ≠ 32 ∧ c ≠ 10) {s : B} {c : UInt8} (h : c ∈ signsP pr s) : c ≠ 32 ∧ c ≠ 10 := by
  unfold signsP at h
  obtain ⟨x, _, hx⟩ := List.mem_flatMap.1 h
  have hxl := x.toNat_lt
  unfold sgn at hx
  by_cases hp : pr x = true
  · rw [if_pos hp, List.mem_singleton] at hx
    subst hx
    exact hpr _ hp
  · rw [if_neg hp] at hx
    simp only [List.mem_cons, List.not_mem_nil, or_false] at hx
    rcases hx with rfl | rfl | rfl
    · decide
    · exact hexc_ne (by omega)
    · exact hexc_ne (by omega)
theorem putP_mem {s : B} {c : UInt8} (h : c ∈ putP s) : c ≠ 32 ∧ c ≠ 10 := by
  unfold putP at h
  by_cases h0 : s = []
  · rw [if_pos h0, List.mem_singleton] at h
    subst h
    decide
  · rw [if_neg h0] at h
    by_cases h45 : s = [45]
    · rw [if_pos h45] at h
      exact signs_mem (fun c hc => by cases hc) h
    · rw [if_neg h45] at h
      refine signs_mem (fun c hc => ?_) h
      unfold plainP at hc
      rw [Bool.and_eq_true, decide_eq_true_iff] at hc
      refine ⟨fun e => ?_, fun e => ?_⟩ <;> (rw [e] at hc; exact absurd hc.1 (by decide))
theorem firstIdx_none {l : B} {c : UInt8} (h : c ∉ l) : firstIdx (ofB l) c = -1 := by
  unfold firstIdx
  have hn : (List.range (ofB l).size).find? (fun i => (ofB l)[i]! == c) = none := by
    rw [List.find?_eq_none]
    intro i hi
    rw [List.mem_range, size_ofB] at hi
    intro e
    apply h
    have e : (ofB l)[i]! = c := by simpa using e
    have h1 : (ofB l)[i]! = l[i] := by
      have hs : i < (ofB l).size := by rw [size_ofB]; exact hi
      rw [getElem!_pos (ofB l) i hs]
      rfl
    rw [← e, h1]
    exact List.getElem_mem hi
  rw [hn]

end Go.Abs
end

section
/- The statement EscapeWords. -/
set_option maxRecDepth 100000
set_option maxHeartbeats 1000000
set_option linter.unusedVariables false
set_option linter.unusedSimpArgs false
namespace Go.Abs
open Go Go.Proofs
attribute [local irreducible] ibits byteAt strLt firstIdx

/-! ### plain -/
def joinW (l : List B) : B := Lib.join l [32]
theorem joinW_cons (x : B) (l : List B) : joinW (x :: l) = x ++ (l.map fun y => 32 :: y).flatten := by
  unfold joinW
  rw [Lib.join_cons]
  rfl
theorem joinW_snoc {l : List B} (h : l ≠ []) (x : B) : joinW (l ++ [x]) = joinW l ++ 32 :: x := by
  cases l with
  | nil => exact absurd rfl h
  | cons a l => rw [List.cons_append, joinW_cons, joinW_cons]; simp
theorem joinW_split (s : B) : joinW (splitP s 32) = s := by
  induction s with
  | nil => rfl
  | cons x s ih =>
    simp only [splitP]
    split
    · rename_i e
      subst e
      cases hs : splitP s 32 with
      | nil => exact absurd hs (splitP_ne s 32)
      | cons a l =>
        rw [hs, joinW_cons] at ih
        rw [joinW_cons]
        simp [ih]
    · cases hs : splitP s 32 with
      | nil => exact absurd hs (splitP_ne s 32)
      | cons a l =>
        rw [hs, joinW_cons] at ih
        simp only [joinW_cons, List.cons_append, ih]
theorem splitP_append {p q : B} {c : UInt8} (hp : c ∉ p) : splitP (p ++ q) c = match splitP q c with | [] => [p] | a :: l => (p ++ a) :: l := by
  induction p with
  | nil =>
    cases h : splitP q c with
    | nil => exact absurd h (splitP_ne q c)
    | cons a l => simp [h]
  | cons x p ih =>
    simp only [List.mem_cons, not_or] at hp
    simp only [List.cons_append, splitP, if_neg (Ne.symm hp.1), ih hp.2]
    cases h : splitP q c with
    | nil => exact absurd h (splitP_ne q c)
    | cons a l => simp
theorem split_joinW : ∀ (l : List B), l ≠ [] → (∀ w ∈ l, (32 : UInt8) ∉ w) → splitP (joinW l) 32 = l := by
  intro l
  induction l with
  | nil => intro h; exact absurd rfl h
  | cons x l ih =>
    intro _ hw
    cases l with
    | nil =>
      have : joinW [x] = x := by rw [joinW_cons]; simp
      rw [this, splitP_none (hw x (by simp))]
    | cons y l =>
      have e : joinW (x :: y :: l) = x ++ 32 :: joinW (y :: l) := by
        rw [joinW_cons, joinW_cons]; simp
      rw [e, splitP_hit _ (hw x (by simp)), ih (by simp) (fun w h => hw w (by simp [h]))]
theorem joinW_len : ∀ (l : List B) (n : Nat), (∀ w ∈ l, w.length ≤ n) → (joinW l).length ≤ l.length * (n + 1) := by
  intro l n h
  cases l with
  | nil => simp [joinW, Lib.join_nil]
  | cons x l =>
    rw [joinW_cons]
    have hx := h x (by simp)
    have : ∀ (m : List B), (∀ w ∈ m, w.length ≤ n) → ((m.map fun y => (32 : UInt8) :: y).flatten).length ≤ m.length * (n + 1) := by
      intro m
      induction m with
      | nil => simp
      | cons y m ih =>
        intro hm
        have h1 := ih fun w hw => hm w (by simp [hw])
        have h2 := hm y (by simp)
        simp only [List.map_cons, List.flatten_cons, List.length_append, List.length_cons, Nat.succ_mul]
        omega
    have := this l fun w hw => h w (by simp [hw])
    simp only [List.length_append, List.length_cons, Nat.succ_mul]
    omega
theorem splitP_len (s : B) (c : UInt8) : (splitP s c).length ≤ s.length + 1 ∧ ∀ w ∈ splitP s c, w.length ≤ s.length := by
  induction s with
  | nil => simp [splitP]
  | cons x s ih =>
    obtain ⟨h1, h2⟩ := ih
    simp only [splitP]
    split
    · refine ⟨by simp; omega, fun w hw => ?_⟩
      rcases List.mem_cons.1 hw with rfl | hw
      · simp
      · have := h2 w hw; simp; omega
    · cases hs : splitP s c with
      | nil => exact absurd hs (splitP_ne s c)
      | cons a l =>
        rw [hs] at h1 h2
        refine ⟨by simp at h1 ⊢; omega, fun w hw => ?_⟩
        rcases List.mem_cons.1 hw with rfl | hw
        · have := h2 a (by simp); simp; omega
        · have := h2 w (by simp [hw]); simp; omega

theorem Words_calls (s : B) (hs : s.length < 1000000) {R} (h : R (.sl none 1 (strs (splitP s 32))) []) : ACalls Tryd.prog 9 [vs s] [] R := by
  refine acalls_of_xwp (an := an9) tab_ok Tryd.func9 ?_
  (conv => whnf)
  refine Split_calls s 32 hs ?_
  (conv => whnf)
  exact h
theorem eJoin_calls (l : List B) (hl : l.length < 1000000) (hlen : (joinW l).length < 100000000) {R} (h : ∀ d, d = ofB (joinW l) → R (.val (.string d)) []) : ACalls Tryd.prog 12 [.sl none 1 (strs l)] [] R := by
  refine acalls_of_xwp (an := an12) tab_ok Tryd.func12 ?_
  (conv => whnf)
  refine Join_calls l [32] hl hlen fun d hd => ?_
  (conv => whnf)
  exact h d hd

theorem sameW_calls (a b : List B) (ha : a.length < 1000000) {R} (h : ∀ p, p = decide (a = b) → R (.val (.bool p)) []) : ACalls Tryd.prog 10 [.sl none 1 (strs a), .sl none 1 (strs b)] [] R := by
  refine acalls_of_xwp (an := an10) tab_ok Tryd.func10 ?_
  have hsa := strs_length a
  have hsb := strs_length b
  (conv => whnf)
  rw [hsa, hsb]
  refine br_intro (fun hc => ?_) (fun hc => ?_)
  · (conv => whnf)
    refine h false (decide_eq_false ?_).symm
    rintro rfl
    simp at hc
  have hlen : a.length = b.length := by simp at hc; omega
  (conv => whnf)
  refine LoopP.ind1 (fun (i : Nat) => [(5, vi i)]) (fun _ => []) (fun i => a.length - i) (fun i => i ≤ a.length ∧ a.take i = b.take i) 0 rfl ⟨by omega, by simp⟩ ?_
  rintro i ⟨h0, h1⟩ IH
  (conv => whnf)
  refine br_intro (fun hc => ?_) (fun hc => ?_)
  · have hc := lt_of_decE hsa hc
    have hcb : i < b.length := by omega
    (conv => whnf); (repeat ((with_reducible refine must_intro ?_ ?_); exact decide_eq_true (by omega); (conv => whnf)))
    refine idxK_map_intro (show (i : Int).toNat < a.length by simpa using hc) ?_
    rw [show a[(i : Int).toNat]'(by simpa using hc) = a[i] from by congr 1]
    (conv => whnf); (repeat ((with_reducible refine must_intro ?_ ?_); exact decide_eq_true (by omega); (conv => whnf)))
    refine idxK_map_intro (show (i : Int).toNat < b.length by simpa using hcb) ?_
    rw [show b[(i : Int).toNat]'(by simpa using hcb) = b[i] from by congr 1]
    (conv => whnf)
    refine br_intro (fun he => ?_) (fun he => ?_)
    · have he : a[i] ≠ b[i] := by simpa [ofB_eq] using he
      (conv => whnf)
      refine h false (decide_eq_false ?_).symm
      rintro rfl
      exact he rfl
    · have he : a[i] = b[i] := by simpa [ofB_eq] using he
      (conv => whnf)
      rw [i64_nat (by omega)]
      refine IH (i + 1) ⟨by omega, ?_⟩ (by omega)
      rw [List.take_succ_eq_append_getElem hc, List.take_succ_eq_append_getElem hcb, h1, he]
  · have hc := ge_of_decE hsa hc
    rw [List.take_of_length_le hc, List.take_of_length_le (by omega)] at h1
    (conv => whnf)
    exact h true (decide_eq_true h1).symm

theorem joinW_take (l : List B) (i : Nat) : (joinW (l.take i)).length ≤ (joinW l).length := by
  conv => rhs; rw [← List.take_append_drop i l]
  generalize l.take i = p
  generalize l.drop i = q
  cases p with
  | nil => simp [joinW, Lib.join_nil]
  | cons a p =>
    rw [List.cons_append, joinW_cons, joinW_cons]
    simp
theorem refJoin_calls (l : List B) (hl : l.length < 1000000) (hlen : (joinW l).length < 100000000) {R} (h : ∀ d, d = ofB (joinW l) → R (.val (.string d)) []) : ACalls Tryd.prog 13 [.sl none 1 (strs l)] [] R := by
  refine acalls_of_xwp (an := an13) tab_ok Tryd.func13 ?_
  have hsl := strs_length l
  (conv => whnf)
  refine LoopP.ind2 (fun (i : Nat) (o : ByteArray) => [(3, .val (.string o)), (4, vi i)]) (fun _ _ => []) (fun i _ => l.length - i) (fun i o => i ≤ l.length ∧ o = ofB (joinW (l.take i))) 0 (ofB []) rfl ⟨by omega, rfl⟩ ?_
  rintro i o ⟨h0, ho⟩ IH
  (conv => whnf)
  refine br_intro (fun hc => ?_) (fun hc => ?_)
  · have hc := lt_of_decE hsl hc
    have hnx := IH (i + 1) (ofB (joinW (l.take (i + 1)))) ⟨by omega, rfl⟩ (by omega)
    clear IH
    have hob : o.size < 100000000 := by rw [ho, size_ofB]; have := joinW_take l i; omega
    have hil : (ofB l[i]).size < 100000000 := by
      rw [size_ofB]
      have h1 := joinW_take l (i + 1)
      rw [List.take_succ_eq_append_getElem hc] at h1
      by_cases e : l.take i = []
      · rw [e] at h1; simp only [List.nil_append] at h1; rw [joinW_cons] at h1; simp at h1; omega
      · rw [joinW_snoc e] at h1; simp at h1; omega
    (conv => whnf)
    refine br_intro (fun hp => ?_) (fun hp => ?_)
    · have hp : 0 < i := by simpa using hp
      (conv => whnf)
      refine must_intro (decide_eq_true (show o.size + 1 ≤ 9223372036854775807 by omega)) ?_
      (conv => whnf); (repeat ((with_reducible refine must_intro ?_ ?_); exact decide_eq_true (by omega); (conv => whnf)))
      refine idxK_map_intro (show (i : Int).toNat < l.length by simpa using hc) ?_
      rw [show l[(i : Int).toNat]'(by simpa using hc) = l[i] from by congr 1]
      (conv => whnf)
      refine must_intro (decide_eq_true (show (o ++ ({ data := #[32] } : ByteArray)).size + (ofB l[i]).size ≤ 9223372036854775807 by rw [ByteArray.size_append, show ({ data := #[32] } : ByteArray).size = 1 from rfl]; omega)) ?_
      (conv => whnf)
      have e : o ++ ofB [32] ++ ofB l[i] = ofB (joinW (l.take (i + 1))) := by
        rw [ho, List.take_succ_eq_append_getElem hc, joinW_snoc (by intro e; have := congrArg List.length e; rw [List.length_take, List.length_nil] at this; omega), ofB_append, ofB_append]; simp
      have e2 : o ++ { data := #[32] } ++ ofB l[i] = ofB (joinW (l.take (i + 1))) := e
      rw [i64_nat (by omega), e2]
      exact hnx
    · have hp : i = 0 := by simp at hp; omega
      subst hp
      (conv => whnf); (repeat ((with_reducible refine must_intro ?_ ?_); exact decide_eq_true (by omega); (conv => whnf)))
      refine idxK_map_intro (show ((0 : Nat) : Int).toNat < l.length by simpa using hc) ?_
      rw [show l[((0 : Nat) : Int).toNat]'(by simpa using hc) = l[0] from by congr 1]
      (conv => whnf)
      refine must_intro (decide_eq_true (show o.size + (ofB l[0]).size ≤ 9223372036854775807 by omega)) ?_
      (conv => whnf)
      have e : o ++ ofB l[0] = ofB (joinW (l.take (0 + 1))) := by
        rw [ho, List.take_succ_eq_append_getElem hc, ofB_append]; simp [joinW, Lib.join_nil, Lib.join_one]
      rw [i64_nat (by omega), e]
      exact hnx
  · have hc := ge_of_decE hsl hc
    rw [List.take_of_length_le hc] at ho
    (conv => whnf)
    exact h _ ho

theorem refWords_calls (s : B) (hs : s.length < 1000000) {R} (h : R (.sl none 1 (strs (splitP s 32))) []) : ACalls Tryd.prog 11 [vs s] [] R := by
  refine acalls_of_xwp (an := an11) tab_ok Tryd.func11 ?_
  have hsz := size_ofB s
  (conv => whnf)
  refine LoopP.ind3 (fun (i from_ : Nat) (out : List B) => [(3, .sl (some (nameOf 6)) 1 (strs out)), (4, vi from_), (5, vi i)]) (fun i from_ out => [(nameOf 6, .row 9 1 out.length)]) (fun i _ _ => s.length - i)
    (fun i from_ out => i ≤ s.length ∧ from_ ≤ i ∧ out.length ≤ i ∧ (32 : UInt8) ∉ (s.drop from_).take (i - from_) ∧ out ++ splitP (s.drop from_) 32 = splitP s 32) 0 0 [] rfl ⟨by omega, by omega, by simp, by simp, by simp⟩ ?_
  rintro i f out ⟨h0, hf, hol, hno, hS⟩ IH
  have hso := strs_length out
  (conv => whnf)
  refine br_intro (fun hc => ?_) (fun hc => ?_)
  · have hc := lt_of_decE hsz hc
    (conv => whnf); (repeat ((with_reducible refine must_intro ?_ ?_); exact decide_eq_true (by omega); (conv => whnf)))
    rw [show (i : Int).toNat = i from rfl, byteAt_ofB s hc]
    have hsplit : s.drop f = (s.drop f).take (i - f) ++ s[i] :: s.drop (i + 1) := by
      have : s.drop i = s[i] :: s.drop (i + 1) := List.drop_eq_getElem_cons hc
      conv => lhs; rw [← List.take_append_drop (i - f) (s.drop f)]
      rw [List.drop_drop, show f + (i - f) = i by omega, this]
    (conv => whnf)
    refine br_intro (fun hb => ?_) (fun hb => ?_)
    · have hb : s[i] = 32 := by
        have hb : ((s[i].toNat : Nat) : Int) = 32 := by simpa using hb
        exact UInt8.toNat_inj.1 (by simp; omega)
      rw [hb] at hsplit
      (conv => whnf); (repeat ((with_reducible refine must_intro ?_ ?_); exact decide_eq_true (by omega); (conv => whnf)))
      refine ⟨hso.symm, (by rw [hso, bytes_str]; simp; omega), ?_⟩
      (conv => whnf)
      have e1 : strs out ++ [[AV.val (Value.string ((ofB s).extract (f : Int).toNat (i : Int).toNat))]] = strs (out ++ [(s.drop f).take (i - f)]) := by
        rw [ofB_extract, strs_append]
        simp only [strs, vs, List.map_cons, List.map_nil, Int.toNat_natCast]
        rw [List.drop_take]
      have e2 : (strs out).length + [[AV.val (Value.string ((ofB s).extract (f : Int).toNat (i : Int).toNat))]].length = (out ++ [(s.drop f).take (i - f)]).length := by simp [hso]
      rw [e1, e2, i64_nat (by omega)]
      refine IH (i + 1) (i + 1) (out ++ [(s.drop f).take (i - f)]) ⟨by omega, by omega, by simp; omega, by simp, ?_⟩ (by omega)
      rw [← hS]
      conv => rhs; rw [hsplit, splitP_hit _ hno]
      simp
    · have hb : s[i] ≠ 32 := by
        intro e; rw [e] at hb; simp at hb
      (conv => whnf)
      rw [i64_nat (by omega)]
      refine IH (i + 1) f out ⟨by omega, by omega, by omega, ?_, hS⟩ (by omega)
      rw [hsplit, List.take_append]
      simp only [List.mem_append, not_or]
      refine ⟨fun e => hno (List.mem_of_mem_take e), ?_⟩
      have hl : ((s.drop f).take (i - f)).length = i - f := by simp; omega
      rw [hl, show i + 1 - f - (i - f) = 1 by omega]
      intro hm
      rw [List.take_succ_cons, List.take_zero, List.mem_singleton] at hm
      exact hb hm.symm
  · have hc := ge_of_decE hsz hc
    have hno : (32 : UInt8) ∉ s.drop f := by
      rw [List.take_of_length_le (by simp; omega)] at hno; exact hno
    rw [splitP_none hno] at hS
    (conv => whnf); (repeat ((with_reducible refine must_intro ?_ ?_); exact decide_eq_true (by omega); (conv => whnf)))
    refine ⟨hso.symm, (by rw [hso, bytes_str]; simp; omega), ?_⟩
    (conv => whnf)
    have e1 : strs out ++ [[AV.val (Value.string ((ofB s).extract (f : Int).toNat (((ofB s).size : Nat) : Int).toNat))]] = strs (splitP s 32) := by
      rw [ofB_extract, ← hS, strs_append]
      simp only [strs, vs, List.map_cons, List.map_nil, Int.toNat_natCast, hsz, List.take_length]
    rw [e1]
    exact h
theorem args_strs {ts : List TypeId} {l : List AV} (h : Args tab 12 (22 :: ts) l) : ∃ (x : List B) (l' : List AV), l = .sl none 1 (strs x) :: l' ∧ x.length ≤ maxLen ∧ (∀ s ∈ x, s.length ≤ maxLen) ∧ Args tab 12 ts l' := by
  obtain ⟨a, l', rfl, h1, h2⟩ := h
  obtain ⟨x, e, hl, hx⟩ : ∃ x : List (List AV), [a] = [.sl none 1 x] ∧ x.length ≤ maxLen ∧ ∀ y ∈ x, Typed tab 11 9 y := h1
  have key : ∀ x : List (List AV), (∀ y ∈ x, Typed tab 11 9 y) → ∃ ns : List B, x = strs ns ∧ ∀ s ∈ ns, s.length ≤ maxLen := by
    intro x
    induction x with
    | nil => intro _; exact ⟨[], rfl, by simp⟩
    | cons y x ih =>
      intro hx
      obtain ⟨ns, rfl, h2⟩ := ih fun z hz => hx z (by simp [hz])
      obtain ⟨s, hs, hl⟩ : ∃ s : ByteArray, y = [.val (.string s)] ∧ s.size ≤ maxLen := hx y (by simp)
      subst hs
      refine ⟨bs s :: ns, by simp [strs, vs, ofB_bs], fun t ht => ?_⟩
      rcases List.mem_cons.1 ht with rfl | ht
      · rw [← size_bs]; exact hl
      · exact h2 t ht
  obtain ⟨ns, rfl, h3⟩ := key x hx
  simp only [List.cons.injEq, and_true] at e
  subst e
  exact ⟨ns, l', rfl, by simpa [strs] using hl, h3, h2⟩

theorem EscapeWords_calls (line : B) (l : List B) (hll : l.length ≤ maxLen) (hlm : ∀ s ∈ l, s.length ≤ maxLen) {R} (h : R (.val (.bool true)) []) : ACalls Tryd.prog 3 [vs line, .sl none 1 (strs l)] [] R := by
  refine acalls_of_xwp (an := an3) tab_ok Tryd.func3 ?_
  have hsz : (ofB line).size = line.length := size_ofB line
  have hsl := strs_length l
  (conv => whnf)
  refine br_intro (fun hc => ?_) (fun hc => ?_)
  · (conv => whnf)
    refine efixed_calls ?_
    (conv => whnf)
    exact h
  have hl : line.length ≤ 300 := by rw [hsz] at hc; simp at hc; omega
  (conv => whnf)
  refine br_intro (fun hc2 => ?_) (fun hc2 => ?_)
  · (conv => whnf)
    refine efixed_calls ?_
    (conv => whnf)
    exact h
  have hn : l.length ≤ 30 := by rw [hsl] at hc2; simp at hc2; omega
  have hpl : ∀ s : B, s.length ≤ 300 → (putP s).length ≤ 901 := fun s hs => by
    unfold putP
    split
    · simp
    · have := signsP_len (if s = [45] then noneP else plainP) s
      omega
  (conv => whnf)
  refine LoopP.ind2 (fun (i : Nat) (out : List B) => [(5, .sl (some (nameOf 5)) 1 (strs out)), (20, vi i)]) (fun i out => [(nameOf 5, .row 9 1 out.length)]) (fun i _ => l.length - i)
    (fun i out => i ≤ l.length ∧ out = (l.take i).map putP ∧ ∀ s ∈ l.take i, s.length ≤ 300) 0 [] rfl ⟨by omega, rfl, by simp⟩ ?_
  rintro i out ⟨h0, hout, hsh⟩ IH
  have hso := strs_length out
  have hol : out.length = i := by rw [hout]; simp; omega
  (conv => whnf)
  refine br_intro (fun hc => ?_) (fun hc => ?_)
  · have hc := lt_of_decE hsl hc
    (conv => whnf); (repeat ((with_reducible refine must_intro ?_ ?_); exact decide_eq_true (by omega); (conv => whnf)))
    refine idxK_map_intro (show (i : Int).toNat < l.length by simpa using hc) ?_
    rw [show l[(i : Int).toNat]'(by simpa using hc) = l[i] from by congr 1]
    have hls := size_ofB l[i]
    (conv => whnf)
    refine br_intro (fun hb => ?_) (fun hb => ?_)
    · (conv => whnf)
      refine efixed_calls ?_
      (conv => whnf)
      exact h
    · have hb : l[i].length ≤ 300 := by rw [hls] at hb; simp at hb; omega
      (conv => whnf)
      refine Put_calls l[i] (by omega) fun d hd => ?_
      subst hd
      (conv => whnf)
      refine ⟨hso.symm, (by rw [hso, bytes_str]; simp; omega), ?_⟩
      (conv => whnf)
      have e1 : strs out ++ [[AV.val (Value.string (ofB (putP l[i])))]] = strs (out ++ [putP l[i]]) := by simp [strs, vs]
      have e2 : (strs out).length + [[AV.val (Value.string (ofB (putP l[i])))]].length = (out ++ [putP l[i]]).length := by simp [hso]
      rw [e1, e2, i64_nat (by omega)]
      refine IH (i + 1) (out ++ [putP l[i]]) ⟨by omega, ?_, ?_⟩ (by omega)
      · rw [List.take_succ_eq_append_getElem hc, List.map_append, hout]; rfl
      · intro s hs
        rw [List.take_succ_eq_append_getElem hc, List.mem_append, List.mem_singleton] at hs
        rcases hs with hs | rfl
        · exact hsh s hs
        · exact hb
  have hc := ge_of_decE hsl hc
  rw [List.take_of_length_le hc] at hout hsh
  have hw32 : ∀ w ∈ out, (32 : UInt8) ∉ w := by
    intro w hw hm
    rw [hout] at hw
    obtain ⟨s, _, rfl⟩ := List.mem_map.1 hw
    exact (putP_mem hm).1 rfl
  have hwl : (joinW out).length ≤ out.length * 902 := joinW_len out 901 fun w hw => by
    rw [hout] at hw
    obtain ⟨s, hs, rfl⟩ := List.mem_map.1 hw
    exact hpl s (hsh s hs)
  have hll2 : (joinW l).length ≤ l.length * 301 := joinW_len l 300 hsh
  obtain ⟨sp1, sp2⟩ := splitP_len line 32
  clear IH
  (conv => whnf)
  refine Words_calls line (by omega) ?_
  (conv => whnf)
  refine refWords_calls line (by omega) ?_
  (conv => whnf)
  refine sameW_calls _ _ (by omega) fun p hp => ?_
  rw [decide_eq_true rfl] at hp
  subst hp
  (conv => whnf)
  refine eJoin_calls l (by omega) (by omega) fun d hd => ?_
  subst hd
  (conv => whnf)
  refine refJoin_calls l (by omega) (by omega) fun d hd => ?_
  subst hd
  (conv => whnf)
  refine br_false (by simp) ?_
  (conv => whnf)
  have hjs := joinW_split line
  refine eJoin_calls (splitP line 32) (by omega) (by rw [hjs]; omega) fun d hd => ?_
  rw [hjs] at hd
  subst hd
  (conv => whnf)
  refine br_false (by simp) ?_
  (conv => whnf)
  refine efixed_calls ?_
  (conv => whnf)
  refine br_intro (fun hz => ?_) (fun hz => ?_)
  · (conv => whnf)
    exact h
  · have hne : out ≠ [] := by
      intro e
      rw [e] at hol
      rw [hsl] at hz
      have : l.length = 0 := by simp at hol; omega
      simp [this] at hz
    (conv => whnf)
    refine eJoin_calls out (by omega) (by omega) fun d hd => ?_
    subst hd
    (conv => whnf)
    refine Words_calls (joinW out) (by omega) ?_
    rw [split_joinW out hne hw32]
    (conv => whnf)
    refine sameW_calls _ _ (by omega) fun p hp => ?_
    rw [decide_eq_true rfl] at hp
    subst hp
    (conv => whnf)
    exact h
theorem EscapeWords_row (l : List AV) (h : Args tab 12 [9, 22] l) : ACalls Tryd.prog 3 l [] fun r _ => r = .val (.bool true) := by
  obtain ⟨a, l1, rfl, _, h1⟩ := args_str h
  obtain ⟨m, l2, rfl, h2, h3, h4⟩ := args_strs h1
  obtain rfl := args_nil h4
  exact EscapeWords_calls a m h2 h3 rfl
end Go.Abs
end
