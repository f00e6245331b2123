/- Several texts of this claim, one behind the other: D5, E1, D1, D2, C2, E2, E3, E4, E5, E6, E7, J1, EG, J2. -/
import Derived.Test.YtlagdcbgkfaheaaB9
import Derived.Test.YtlagdcbgkfaheaaAT
import Derived.Test.YtlagdcbgkfaheaaAN
import Derived.Test.YtlagdcbgkfaheaaC1
import Derived.Sort.Walk0

section
/- Words for texts: a text is a row of bytes. -/
set_option maxRecDepth 100000
set_option linter.unusedVariables false
set_option linter.unusedSimpArgs false
namespace Go.Abs
open Go Go.Proofs

abbrev B := List UInt8
def ofB (l : B) : ByteArray := ⟨l.toArray⟩
def bs (s : ByteArray) : B := s.data.toList
theorem bs_ofB (l : B) : bs (ofB l) = l := by simp [bs, ofB]
theorem ofB_bs (s : ByteArray) : ofB (bs s) = s := by simp [bs, ofB]
theorem bs_inj {s t : ByteArray} (h : bs s = bs t) : s = t := by rw [← ofB_bs s, h, ofB_bs]
theorem ofB_inj {l m : B} (h : ofB l = ofB m) : l = m := by rw [← bs_ofB l, h, bs_ofB]
theorem ofB_eq {l m : B} : ofB l = ofB m ↔ l = m := ⟨ofB_inj, fun h => by rw [h]⟩
theorem bs_append (s t : ByteArray) : bs (s ++ t) = bs s ++ bs t := by simp [bs]
theorem ofB_append (l m : B) : ofB l ++ ofB m = ofB (l ++ m) := bs_inj (by rw [bs_append, bs_ofB, bs_ofB, bs_ofB])
theorem size_bs (s : ByteArray) : s.size = (bs s).length := by simp [bs]
theorem size_ofB (l : B) : (ofB l).size = l.length := by rw [size_bs, bs_ofB]
theorem bs_extract (s : ByteArray) (a b : Nat) : bs (s.extract a b) = ((bs s).take b).drop a := by
  simp [bs, ByteArray.data_extract, List.drop_take]
theorem ofB_extract (l : B) (a b : Nat) : (ofB l).extract a b = ofB ((l.take b).drop a) := bs_inj (by rw [bs_extract, bs_ofB, bs_ofB])
theorem byteAt_ofB (l : B) {i : Nat} (h : i < l.length) : byteAt (ofB l) i = ((l[i]).toNat : Int) := by
  have hs : i < (ofB l).size := by rw [size_ofB]; exact h
  unfold byteAt
  rw [dif_pos hs]
  rfl
theorem strOfNums_ofB (l : B) : strOfNums (l.map fun b => (b.toNat : Int)) = ofB l := bs_inj (by
  rw [bs_ofB]
  show (strOfNums _).data.toList = _
  rw [strOfNums_data, List.map_map]
  conv => rhs; rw [← List.map_id l]
  refine List.map_congr_left fun b _ => ?_
  simp)
theorem u8_back (b : UInt8) : ((b.toNat : Int)).toNat.toUInt8 = b := by simp
theorem u8_inj {a b : UInt8} : ((a.toNat : Int) = (b.toNat : Int)) ↔ a = b := ⟨fun h => UInt8.toNat_inj.1 (by omega), fun h => by rw [h]⟩

/-! ### hexadecimal digits -/
def signsB : B := [48, 49, 50, 51, 52, 53, 54, 55, 56, 57, 97, 98, 99, 100, 101, 102]
def hexc (d : Nat) : UInt8 := if d < 10 then UInt8.ofNat (48 + d) else UInt8.ofNat (87 + d)
def hexv (c : UInt8) : Option Nat := if 48 ≤ c.toNat ∧ c.toNat ≤ 57 then some (c.toNat - 48) else if 97 ≤ c.toNat ∧ c.toNat ≤ 102 then some (c.toNat - 87) else none
def hexi (c : UInt8) : Int := match hexv c with | some d => d | none => -1
theorem idx_signs0 : (List.range 256).all (fun n => decide (firstIdx (ofB signsB) (UInt8.ofNat n) = hexi (UInt8.ofNat n))) = true := by decide +kernel
theorem idx_signs (c : UInt8) : firstIdx (ofB signsB) c = hexi c := by
  have h := List.all_eq_true.1 idx_signs0 c.toNat (List.mem_range.2 c.toNat_lt)
  simpa using h
theorem at_signs0 : (List.range 16).all (fun d => decide (byteAt (ofB signsB) d = ((hexc d).toNat : Int))) = true := by decide +kernel
theorem at_signs {d : Nat} (h : d < 16) : byteAt (ofB signsB) d = ((hexc d).toNat : Int) := by
  have h := List.all_eq_true.1 at_signs0 d (List.mem_range.2 h)
  simpa using h
theorem hexv_hexc0 : (List.range 16).all (fun d => decide (hexv (hexc d) = some d)) = true := by decide +kernel
theorem hexv_hexc {d : Nat} (h : d < 16) : hexv (hexc d) = some d := by
  have h := List.all_eq_true.1 hexv_hexc0 d (List.mem_range.2 h)
  simpa using h
theorem hexc_hexv {c : UInt8} {d : Nat} (h : hexv c = some d) : hexc d = c ∧ d < 16 := by
  have key : (List.range 256).all (fun n => match hexv (UInt8.ofNat n) with | some d => decide (hexc d = UInt8.ofNat n ∧ d < 16) | none => true) = true := by decide +kernel
  have h1 := List.all_eq_true.1 key c.toNat (List.mem_range.2 c.toNat_lt)
  rw [show UInt8.ofNat c.toNat = c by simp, h] at h1
  simpa using h1

theorem and15 {x : Int} (h0 : 0 ≤ x) (h1 : x < 18446744073709551616) : ibits .and .u64 x 15 = x % 16 := by
  obtain ⟨n, rfl⟩ := Int.eq_ofNat_of_zero_le h0
  have hn : n < 18446744073709551616 := by omega
  have e1 : BitVec.ofInt IntKind.u64.bits (n : Int) = BitVec.ofNat 64 n := by
    show BitVec.ofInt 64 (n : Int) = _
    simp
  have e2 : BitVec.ofInt IntKind.u64.bits 15 = BitVec.ofNat 64 15 := rfl
  simp only [ibits]
  rw [e1, e2, wrap_u64]
  have : ((BitVec.ofNat 64 n &&& BitVec.ofNat 64 15 : BitVec 64)).toNat = n % 16 := by
    rw [BitVec.toNat_and, BitVec.toNat_ofNat, BitVec.toNat_ofNat, Nat.mod_eq_of_lt (show n < 2 ^ 64 by simpa using hn), show 15 % 2 ^ 64 = 2 ^ 4 - 1 from rfl, Nat.and_two_pow_sub_one_eq_mod]
  show (((BitVec.ofNat 64 n &&& BitVec.ofNat 64 15 : BitVec 64).toNat : Int)) % _ = _
  rw [this]
  omega
theorem fdiv_nat (n k : Nat) : ((n : Int)).fdiv (2 ^ k) = ((n / 2 ^ k : Nat) : Int) := by
  rw [Int.fdiv_eq_ediv_of_nonneg _ (by exact Int.le_of_lt (Int.pow_pos (by omega)))]
  simp
theorem and15_of (h : U) (e : Nat) : ibits .and .u64 ((h.toNat : Int).fdiv (2 ^ e)) 15 = ((h.toNat / 2 ^ e % 16 : Nat) : Int) := by
  rw [fdiv_nat, and15 (Int.natCast_nonneg _) (by have := h.isLt; have := Nat.div_le_self h.toNat (2 ^ e); omega)]
  omega

/-- The last 'k' digits. -/
def hexL (n : Nat) : Nat → B
  | 0 => []
  | k + 1 => hexc (n / 16 ^ k % 16) :: hexL n k
theorem hexL_length (n : Nat) : ∀ k, (hexL n k).length = k := by
  intro k
  induction k with
  | zero => rfl
  | succ k ih => simp [hexL, ih]
def hexB (h : U) : B := hexL h.toNat 16
/-- What digits tell: on from a number. -/
def readL : B → Nat → Option Nat
  | [], n => some n
  | c :: l, n => match hexv c with
    | some d => readL l (16 * n + d)
    | none => none
def readB (s : B) : Option U := if s.length = 16 then (readL s 0).map (BitVec.ofNat 64) else none
theorem readL_lt : ∀ (s : B) (n k m : Nat), readL s n = some m → n < 16 ^ k → m < 16 ^ (k + s.length) := by
  intro s
  induction s with
  | nil => intro n k m h hn; simp only [readL, Option.some.injEq] at h; subst h; simpa using hn
  | cons c s ih =>
    intro n k m h hn
    simp only [readL] at h
    split at h
    · rename_i d hd
      have := (hexc_hexv hd).2
      have := ih (16 * n + d) (k + 1) m h (by rw [Nat.pow_succ]; omega)
      rw [List.length_cons, show k + (s.length + 1) = k + 1 + s.length by omega]; exact this
    · cases h
theorem readL_hexL (n : Nat) : ∀ (k m : Nat), readL (hexL n k) m = some (16 ^ k * m + n % 16 ^ k) := by
  intro k
  induction k with
  | zero => intro m; simp [readL, hexL, Nat.mod_one]
  | succ k ih =>
    intro m
    simp only [readL, hexL]
    rw [hexv_hexc (Nat.mod_lt _ (by omega))]
    simp only
    rw [ih]
    congr 1
    have e : n % 16 ^ (k + 1) = n % 16 ^ k + 16 ^ k * (n / 16 ^ k % 16) := by rw [Nat.pow_succ, Nat.mod_mul]
    rw [e, Nat.pow_succ, Nat.mul_add, ← Nat.mul_assoc]
    omega
theorem hexL_readL : ∀ (s : B) (n m : Nat), readL s n = some m → hexL m s.length = s ∧ m / 16 ^ s.length = n := by
  intro s
  induction s with
  | nil => intro n m h; simp only [readL, Option.some.injEq] at h; subst h; simp [hexL]
  | cons c s ih =>
    intro n m h
    simp only [readL] at h
    split at h
    · rename_i d hd
      obtain ⟨h1, h2⟩ := hexc_hexv hd
      obtain ⟨h3, h4⟩ := ih _ _ h
      refine ⟨?_, ?_⟩
      · rw [List.length_cons, hexL, h3, h4, show (16 * n + d) % 16 = d by omega, h1]
      · rw [List.length_cons, Nat.pow_succ, ← Nat.div_div_eq_div_mul, h4]; omega
    · cases h
theorem readB_hexB (h : U) : readB (hexB h) = some h := by
  unfold readB hexB
  rw [if_pos (hexL_length _ _), readL_hexL]
  simp only [Option.map_some, Option.some.injEq]
  apply BitVec.eq_of_toNat_eq
  have := h.isLt
  simp
  omega
theorem hexB_readB {s : B} {h : U} (e : readB s = some h) : hexB h = s := by
  unfold readB at e
  split at e
  · rename_i hl
    obtain ⟨m, h1, rfl⟩ := Option.map_eq_some_iff.1 e
    have h2 := readL_lt s 0 0 m h1 (by simp)
    rw [hl] at h2
    have h3 := (hexL_readL s 0 m h1).1
    rw [hl] at h3
    unfold hexB
    rw [BitVec.toNat_ofNat, Nat.mod_eq_of_lt (by simpa using h2), h3]
  · cases e
end Go.Abs
end

section
/- Tables of texts (intern): the functions. -/
set_option maxRecDepth 100000
set_option linter.unusedVariables false
set_option linter.unusedSimpArgs false
namespace Go.Abs
open Go Go.Proofs
attribute [local irreducible] ibits byteAt strLt firstIdx

def vs (s : B) : AV := .val (.string (ofB s))
def vi (i : Int) : AV := .val (.int .i64 i)
def strs (l : List B) : List (List AV) := l.map fun s => [vs s]
theorem strs_length (l : List B) : (strs l).length = l.length := by simp [strs]
theorem strs_append (l m : List B) : strs (l ++ m) = strs l ++ strs m := by simp [strs]

/-! ### maps of texts, by the order in which they came -/
def tblFrom : List B → Nat → List (ByteArray × AV)
  | [], _ => []
  | s :: l, i => (ofB s, vi i) :: tblFrom l (i + 1)
theorem tblFrom_append (l : List B) (s : B) : ∀ i, tblFrom (l ++ [s]) i = tblFrom l i ++ [(ofB s, vi (i + l.length))] := by
  induction l with
  | nil => intro i; simp [tblFrom]
  | cons a l ih => intro i; simp [tblFrom, ih, Int.add_assoc]; congr 2; omega
theorem mapFind_none {l : List B} {s : B} (h : s ∉ l) : ∀ i, mapFind (tblFrom l i) (ofB s) = none := by
  induction l with
  | nil => intro i; rfl
  | cons a l ih =>
    intro i
    simp only [List.mem_cons, not_or] at h
    simp only [tblFrom, mapFind]
    rw [if_neg (fun e => h.1 (ofB_inj e).symm)]
    exact ih h.2 _
theorem mapFind_some {l : List B} {s : B} (h : s ∈ l) : ∀ i, ∃ j : Int, mapFind (tblFrom l i) (ofB s) = some (vi j) := by
  induction l with
  | nil => cases h
  | cons a l ih =>
    intro i
    simp only [tblFrom, mapFind]
    by_cases e : a = s
    · subst e; rw [if_pos rfl]; exact ⟨_, rfl⟩
    · rw [if_neg (fun e' => e (ofB_inj e'))]
      exact ih (by simpa [Ne.symm e, eq_comm] using h) _
theorem mapPut_new {l : List B} {s : B} {v : AV} (h : s ∉ l) : ∀ i, mapPut (tblFrom l i) (ofB s) v = tblFrom l i ++ [(ofB s, v)] := by
  induction l with
  | nil => intro i; rfl
  | cons a l ih =>
    intro i
    simp only [List.mem_cons, not_or] at h
    simp only [tblFrom, mapPut]
    rw [if_neg (fun e => h.1 (ofB_inj e).symm), ih h.2]
    rfl

/-- A table in memory: fresh, or with texts. -/
def tblF : AObj := .cells 142 [.val (.slice none 0 0), .val (.map none)]
def tblO (n m : Nat) (l : List B) : AObj := .cells 142 [.sl (some n) 1 (strs l), .mapv m]
def tblR (l : List B) : AObj := .row 9 1 l.length
def tblM (l : List B) : AObj := .map (tblFrom l 0)
def tblP (l : List B) (s : B) : List B := if s ∈ l then l else l ++ [s]

theorem bytes_str : (tab.ti 9).bytes = 16 := rfl
theorem put_new (s : B) {R} (h : R (.tup [vi 0, .val (.bool true)]) [tblO 1 2 [s], tblR [s], tblM [s]]) :
    ACalls Try.prog 100 [.ptr 0 0, vs s] [tblF] R := by
  refine acalls_of_xwp (an := an100) tab_ok Try.func100 ?_
  (conv => whnf)
  refine ⟨(by rw [bytes_str]; decide : 1 * ((tab.ti 9).bytes + 1) ≤ 140737488355328), ?_⟩
  (conv => whnf)
  exact h

theorem put_old (l : List B) (s : B) (hs : s ∈ l) {R} (h : ∀ j, R (.tup [vi j, .val (.bool false)]) [tblO 1 2 l, tblR l, tblM l]) :
    ACalls Try.prog 100 [.ptr 0 0, vs s] [tblO 1 2 l, tblR l, tblM l] R := by
  refine acalls_of_xwp (an := an100) tab_ok Try.func100 ?_
  obtain ⟨j, hj⟩ := mapFind_some hs 0
  (conv => whnf)
  rw [hj]
  (conv => whnf)
  exact h j

theorem put_more (l : List B) (s : B) (hl : l.length < 1000000) (hs : s ∉ l) {R} (h : R (.tup [vi l.length, .val (.bool true)]) [tblO 1 2 (l ++ [s]), tblR (l ++ [s]), tblM (l ++ [s])]) :
    ACalls Try.prog 100 [.ptr 0 0, vs s] [tblO 1 2 l, tblR l, tblM l] R := by
  refine acalls_of_xwp (an := an100) tab_ok Try.func100 ?_
  (conv => whnf)
  rw [mapFind_none hs]
  (conv => whnf)
  refine ⟨(strs_length l).symm, ?_, ?_⟩
  · rw [strs_length, bytes_str]; simp; omega
  (conv => whnf)
  have e1 : (strs l ++ [[AV.val (Value.string (ofB s))]]) = strs (l ++ [s]) := (strs_append l [s]).symm
  have e2 : IntKind.i64.wrap (((strs (l ++ [s])).length : Int) - 1) = (l.length : Int) := by
    rw [strs_length, wrap_i64 (by rw [List.length_append]; simp <;> omega) (by rw [List.length_append]; simp <;> omega)]; simp
  have e3 : (strs l).length + [[AV.val (Value.string (ofB s))]].length = (l ++ [s]).length := by simp [strs_length]
  rw [mapPut_new hs, e3, e1, e2, strs_length]
  unfold tblM at h
  rw [tblFrom_append, show (((0 : Nat) : Int) + (l.length : Int)) = l.length by omega] at h
  exact h

/-- Put, whatever there is: tables of texts, each once. -/
theorem tblP_some {l : List B} {s : B} (h : s ∈ l) : tblP l s = l := by simp [tblP, h]
theorem tblP_none {l : List B} {s : B} (h : s ∉ l) : tblP l s = l ++ [s] := by simp [tblP, h]

theorem ID_new (s : B) {R} (h : R (.tup [uv 0, .val (.bool true)]) [tblO 1 2 [s], tblR [s], tblM [s]]) :
    ACalls Try.prog 75 [.ptr 0 0, vs s] [tblF] R := by
  refine acalls_of_xwp (an := an75) tab_ok Try.func75 ?_
  (conv => whnf)
  refine put_new s ?_
  (conv => whnf)
  exact h
theorem ID_old (l : List B) (s : B) (hs : s ∈ l) {R} (h : ∀ j : Int, R (.tup [.val (.int .u64 j), .val (.bool false)]) [tblO 1 2 l, tblR l, tblM l]) :
    ACalls Try.prog 75 [.ptr 0 0, vs s] [tblO 1 2 l, tblR l, tblM l] R := by
  refine acalls_of_xwp (an := an75) tab_ok Try.func75 ?_
  (conv => whnf)
  refine put_old l s hs fun j => ?_
  (conv => whnf)
  exact h _
theorem ID_more (l : List B) (s : B) (hl : l.length < 1000000) (hs : s ∉ l) {R} (h : ∀ j : Int, R (.tup [.val (.int .u64 j), .val (.bool true)]) [tblO 1 2 (l ++ [s]), tblR (l ++ [s]), tblM (l ++ [s])]) :
    ACalls Try.prog 75 [.ptr 0 0, vs s] [tblO 1 2 l, tblR l, tblM l] R := by
  refine acalls_of_xwp (an := an75) tab_ok Try.func75 ?_
  (conv => whnf)
  refine put_more l s hl hs ?_
  (conv => whnf)
  exact h _
theorem Len_old (l : List B) {R} (h : R (vi l.length) [tblO 1 2 l, tblR l, tblM l]) :
    ACalls Try.prog 102 [.ptr 0 0] [tblO 1 2 l, tblR l, tblM l] R := by
  refine acalls_of_xwp (an := an102) tab_ok Try.func102 ?_
  (conv => whnf)
  rw [strs_length]
  exact h

/-- A table, whichever. -/
def tblS (l : List B) : List AObj := match l with | [] => [tblF] | _ => [tblO 1 2 l, tblR l, tblM l]
theorem New_nil {R} (h : R (.ptr 0 0) [tblF]) : ACalls Try.prog 74 [.val (.slice none 0 0)] [] R := by
  refine acalls_of_xwp (an := an74) tab_ok Try.func74 ?_
  (conv => whnf)
  refine LoopP.step ?_
  (conv => whnf)
  exact h
def tblN (l : List B) : List B := l.foldl tblP []
theorem New_calls (a : B) (l : List B) (hl : l.length < 100000) {R} (h : ∀ m, m = tblN (a :: l) → R (.ptr 0 0) [tblO 1 2 m, tblR m, tblM m]) : ACalls Try.prog 74 [.sl none 1 (strs (a :: l))] [] R := by
  refine acalls_of_xwp (an := an74) tab_ok Try.func74 ?_
  (conv => whnf)
  have hsl : (strs (a :: l)).length = l.length + 1 := by rw [strs_length]; rfl
  refine LoopP.step ?_
  (conv => whnf)
  refine br_true (by rw [hsl]; simp <;> omega) ?_
  (conv => whnf)
  refine put_new a ?_
  (conv => whnf)
  refine LoopP.ind2 (fun (i : Nat) (m : List B) => [(10, vi i)]) (fun i m => [(nameOf 7, tblO (freshN 18 0) (freshN 18 1) m), (freshN 18 0, tblR m), (freshN 18 1, tblM m)]) (fun i _ => l.length + 1 - i)
    (fun i m => 1 ≤ i ∧ i ≤ l.length + 1 ∧ m.length ≤ i ∧ (l.drop (i - 1)).foldl tblP m = tblN (a :: l)) 1 [a] rfl ⟨by omega, by omega, by simp, by simp [tblN, tblP]⟩ ?_
  rintro i m ⟨h0, h1, h2, h3⟩ IH
  (conv => whnf)
  refine br_intro (fun hc => ?_) (fun hc => ?_)
  · have hc : i < l.length + 1 := by rw [hsl] at hc; simp at hc; omega
    have hi : i < (a :: l).length := by simpa using hc
    (conv => whnf)
    refine idxK_map_intro (show (i : Int).toNat < (a :: l).length by simpa using hc) ?_
    obtain ⟨s, hs⟩ : ∃ s, s = (a :: l)[(i : Int).toNat]'(by simpa using hc) := ⟨_, rfl⟩
    rw [← hs]
    have hd : l.drop (i - 1) = s :: l.drop i := by
      rw [List.drop_eq_getElem_cons (show i - 1 < l.length by omega), show i - 1 + 1 = i by omega, hs]
      congr 1
      obtain ⟨j, rfl⟩ : ∃ j, i = j + 1 := ⟨i - 1, by omega⟩
      simp
    rw [hd, List.foldl_cons] at h3
    (conv => whnf)
    by_cases hm : s ∈ m
    · refine put_old m s hm fun j => ?_
      rw [tblP_some hm] at h3
      (conv => whnf)
      rw [wrap_i64 (by omega) (by omega)]
      exact IH (i + 1) m ⟨by omega, by omega, by omega, by simpa using h3⟩ (by omega)
    · refine put_more m s (by omega) hm ?_
      rw [tblP_none hm] at h3
      (conv => whnf)
      rw [wrap_i64 (by omega) (by omega)]
      exact IH (i + 1) (m ++ [s]) ⟨by omega, by omega, by simp; omega, by simpa using h3⟩ (by omega)
  · have hc : i = l.length + 1 := by rw [hsl] at hc; simp at hc; omega
    subst hc
    rw [Nat.add_sub_cancel, List.drop_length] at h3
    (conv => whnf)
    exact h m h3
end Go.Abs
end

section
/- The digest's functions, and the document's. -/
set_option maxRecDepth 100000
set_option linter.unusedVariables false
set_option linter.unusedSimpArgs false
namespace Go.Abs
open Go Go.Proofs

/-! ### the plain functions -/
namespace Dig
def plus : U := 0x9e3779b97f4a7c15#64
def first : U := 0xbf58476d1ce4e5b9#64
def other : U := 0x94d049bb133111eb#64
def down (k : Nat) (x : U) : U := x ^^^ (x >>> k)
def dig (n : U) : U := down 31 (down 27 (down 30 (n + plus) * first) * other)
def up (k : Nat) (h : U) : U := h ^^^ ((h ^^^ (h >>> k)) >>> k)
def back (n : U) : U := let b0 := n; let s := fun b : U => b * (2 - n * b); s (s (s (s (s (s b0)))))
def dBack (h : U) : U := up 30 (up 27 (up 31 h * back other) * back first) - plus
def fold (n : U) (l : List U) : U := l.foldl (fun h x => dig (h ^^^ x)) (dig n)

theorem up_down (k : Nat) (hk : 22 ≤ k) (x : U) : up k (down k x) = x := by
  unfold up down
  have h1 : ∀ a b : U, (a ^^^ b) >>> k = (a >>> k) ^^^ (b >>> k) := fun a b => BitVec.ushiftRight_xor_distrib a b k
  have h0 : x >>> k >>> k >>> k = 0#64 := by
    rw [← BitVec.shiftRight_add, ← BitVec.shiftRight_add]
    exact BitVec.ushiftRight_eq_zero (by omega)
  simp only [h1, h0]
  apply BitVec.eq_of_getLsbD_eq
  intro i hi
  simp only [BitVec.getLsbD_xor]
  cases x.getLsbD i <;> cases (x >>> k).getLsbD i <;> cases (x >>> k >>> k).getLsbD i <;> simp
theorem back_first (x : U) : x * first * back first = x := by
  rw [BitVec.mul_assoc]
  have : first * back first = 1#64 := by decide +kernel
  rw [this, BitVec.mul_one]
theorem back_other (x : U) : x * other * back other = x := by
  rw [BitVec.mul_assoc]
  have : other * back other = 1#64 := by decide +kernel
  rw [this, BitVec.mul_one]
theorem first_back (x : U) : x * back first * first = x := by
  rw [BitVec.mul_assoc]
  have : back first * first = 1#64 := by decide +kernel
  rw [this, BitVec.mul_one]
theorem other_back (x : U) : x * back other * other = x := by
  rw [BitVec.mul_assoc]
  have : back other * other = 1#64 := by decide +kernel
  rw [this, BitVec.mul_one]
theorem down_up (k : Nat) (hk : 22 ≤ k) (x : U) : down k (up k x) = x := by
  unfold up down
  have h1 : ∀ a b : U, (a ^^^ b) >>> k = (a >>> k) ^^^ (b >>> k) := fun a b => BitVec.ushiftRight_xor_distrib a b k
  have h0 : x >>> k >>> k >>> k = 0#64 := by
    rw [← BitVec.shiftRight_add, ← BitVec.shiftRight_add]
    exact BitVec.ushiftRight_eq_zero (by omega)
  simp only [h1, h0]
  apply BitVec.eq_of_getLsbD_eq
  intro i hi
  simp only [BitVec.getLsbD_xor]
  cases x.getLsbD i <;> cases (x >>> k).getLsbD i <;> cases (x >>> k >>> k).getLsbD i <;> simp
theorem dBack_dOf (n : U) : dBack (dig n) = n := by
  unfold dBack dig
  rw [up_down 31 (by omega), back_other, up_down 27 (by omega), back_first, up_down 30 (by omega), BitVec.add_sub_cancel]
theorem dOf_dBack (n : U) : dig (dBack n) = n := by
  unfold dBack dig
  rw [BitVec.sub_add_cancel, down_up 30 (by omega), first_back, down_up 27 (by omega), other_back, down_up 31 (by omega)]
theorem dOf_inj {a b : U} (h : dig a = dig b) : a = b := by rw [← dBack_dOf a, h, dBack_dOf]
end Dig
open Dig

/-! ### the steps -/
theorem down_calls (b : Int) {R} (h : R (.fn (.func 83) [] [.cptr [.val (.int .u64 b)] 0]) []) : ACalls Try.prog 58 [.val (.int .u64 b)] [] R := by
  refine acalls_of_xwp (an := an58) tab_ok Try.func58 ?_
  conv => whnf
  exact h
theorem times_calls (b : Int) {R} (h : R (.fn (.func 84) [] [.cptr [.val (.int .u64 b)] 0]) []) : ACalls Try.prog 59 [.val (.int .u64 b)] [] R := by
  refine acalls_of_xwp (an := an59) tab_ok Try.func59 ?_
  conv => whnf
  exact h
theorem up_calls (b : Int) {R} (h : R (.fn (.func 85) [] [.cptr [.val (.int .u64 b)] 0]) []) : ACalls Try.prog 60 [.val (.int .u64 b)] [] R := by
  refine acalls_of_xwp (an := an60) tab_ok Try.func60 ?_
  conv => whnf
  exact h

/-- A function value that does what a plain function does. -/
def Does (e : List AV) (g : U → U) : Prop := ∃ f cs, e = [.fn (.func f) [] [.cptr cs 0]] ∧ tab.fn f = true ∧ ∀ x R, R (uv (g x)) [] → ACalls Try.prog f [uv x, .cptr cs 0] [] R

theorem u_shr' (x : U) (k : Nat) (hk : k ≤ 64) : ((x.toNat : Int)).fdiv (2 ^ min ((k : Int)).toNat IntKind.u64.bits) = ((x >>> k).toNat : Int) := by
  have : min ((k : Int)).toNat IntKind.u64.bits = k := by
    show min ((k : Int)).toNat 64 = k
    simp; omega
  rw [this, u_shr]

theorem down_does (k : Nat) (hk : k ≤ 64) : Does [.fn (.func 83) [] [.cptr [.val (.int .u64 k)] 0]] (down k) := by
  refine ⟨_, _, rfl, rfl, fun x R h => ?_⟩
  refine acalls_of_xwp (an := an83) tab_ok Try.func83 ?_
  conv => whnf
  rw [u_shr' x k hk, u_xor]
  exact h
theorem times_does (n : U) : Does [.fn (.func 84) [] [.cptr [uv n] 0]] (· * n) := by
  refine ⟨_, _, rfl, rfl, fun x R h => ?_⟩
  refine acalls_of_xwp (an := an84) tab_ok Try.func84 ?_
  conv => whnf
  rw [u_mul]
  exact h
/-- 'up': twice, at 22 to 32. -/
theorem up_does (k : Nat) (hk : k = 27 ∨ k = 30 ∨ k = 31) : Does [.fn (.func 85) [] [.cptr [.val (.int .u64 k)] 0]] (up k) := by
  refine ⟨_, _, rfl, rfl, fun x R h => ?_⟩
  refine acalls_of_xwp (an := an85) tab_ok Try.func85 ?_
  have key : ∀ (o : Int), o = (((x ^^^ ((x ^^^ (x >>> k)) >>> k)) : U).toNat : Int) → R (.val (.int .u64 o)) [] := by
    rintro o rfl; exact h
  have e1 : ibits .xor .u64 (x.toNat : Int) ((x.toNat : Int).fdiv (2 ^ min ((k : Int)).toNat IntKind.u64.bits)) = ((x ^^^ (x >>> k)).toNat : Int) := by
    rw [u_shr' x k (by omega), u_xor]
  have e2 : ibits .xor .u64 (x.toNat : Int) ((ibits .xor .u64 (x.toNat : Int) ((x.toNat : Int).fdiv (2 ^ min ((k : Int)).toNat IntKind.u64.bits))).fdiv (2 ^ min ((k : Int)).toNat IntKind.u64.bits)) = ((x ^^^ ((x ^^^ (x >>> k)) >>> k)).toNat : Int) := by
    rw [e1, u_shr' _ k (by omega), u_xor]
  rcases hk with rfl | rfl | rfl
  all_goals
    conv => whnf
    refine LoopP.step ?_
    conv => whnf
    refine LoopP.step ?_
    conv => whnf
    refine LoopP.step ?_
    conv => whnf
    exact key _ e2
end Go.Abs
end

section
/- The digest's functions, and the document's, on. -/
set_option maxRecDepth 100000
set_option linter.unusedVariables false
set_option linter.unusedSimpArgs false
namespace Go.Abs
open Go Go.Proofs Dig
attribute [local irreducible] ibits byteAt strLt

theorem parts_calls (n : U) {R} (h : ∀ e, Does [e] (· * back n) → R e []) : ACalls Try.prog 61 [uv n] [] R := by
  refine acalls_of_xwp (an := an61) tab_ok Try.func61 ?_
  have st : ∀ b : U, IntKind.u64.wrap ((b.toNat : Int) * IntKind.u64.wrap (2 - IntKind.u64.wrap ((n.toNat : Int) * (b.toNat : Int)))) = ((b * (2 - n * b) : U).toNat : Int) := by
    intro b
    rw [u_mul, show (2 : Int) = ((2 : U).toNat : Int) from rfl, u_sub, u_mul]
  conv => whnf
  refine LoopP.step ?_
  conv => whnf
  rw [st]
  refine LoopP.step ?_
  conv => whnf
  rw [st]
  refine LoopP.step ?_
  conv => whnf
  rw [st]
  refine LoopP.step ?_
  conv => whnf
  rw [st]
  refine LoopP.step ?_
  conv => whnf
  rw [st]
  refine LoopP.step ?_
  conv => whnf
  rw [st]
  refine LoopP.step ?_
  conv => whnf
  exact times_calls _ (h _ (times_does _))

theorem idx_some {α : Type} {l : List α} {i : Int} (h0 : 0 ≤ i) (h1 : i < (l.length : Int)) : i.toNat < l.length := by omega

theorem run_calls (x : U) (l : List (List AV)) (gs : List (U → U)) (hl : l.length = gs.length) (hlen : l.length < 1000) (hd : ∀ i (h : i < l.length), Does l[i] (gs[i]'(by omega))) (own : Option Nm) {R} (h : R (uv (gs.foldl (fun h g => g h) x)) []) :
    ACalls Try.prog 57 [uv x, .sl none 1 l] [] R := by
  refine acalls_of_xwp (an := an57) tab_ok Try.func57 ?_
  conv => whnf
  refine LoopP.ind (α := Int × Int) (fun p => [(0, .val (.int .u64 p.2)), (9, .val (.int .i64 p.1))]) (fun _ => []) (fun p => l.length - p.1.toNat)
    (fun p => 0 ≤ p.1 ∧ p.1 ≤ l.length ∧ ∃ y : U, p.2 = (y.toNat : Int) ∧ (gs.drop p.1.toNat).foldl (fun h g => g h) y = gs.foldl (fun h g => g h) x) (0, (x.toNat : Int)) rfl ⟨by simp, by simp, x, rfl, by simp⟩ ?_
  rintro ⟨i, yy⟩ ⟨h0, h1, y, rfl, hy⟩ IH
  simp only at h0 h1 hy IH
  conv => whnf
  refine br_intro (fun hc => ?_) (fun hc => ?_)
  · have hc : i < (l.length : Int) := by simpa using hc
    conv => whnf
    refine must_intro (by simpa using h0) ?_
    refine idxK_intro (idx_some h0 hc) ?_
    obtain ⟨f, cs, e1, e2, e3⟩ := hd i.toNat (idx_some h0 hc)
    rw [e1]
    conv => whnf
    refine must_intro e2 ?_
    refine e3 y _ ?_
    conv => whnf
    rw [wrap_i64 (by omega) (by omega)]
    refine IH (i + 1, _) ⟨?_, ?_, _, rfl, ?_⟩ ?_
    · simp only; omega
    · simp only; omega
    · simp only
      rw [← hy, show (i + 1).toNat = i.toNat + 1 by omega, List.drop_eq_getElem_cons (show i.toNat < gs.length by omega), List.foldl_cons]
    · simp only; omega
  · have hc : i = (l.length : Int) := by simp at hc; omega
    conv => whnf
    have : gs.drop i.toNat = [] := List.drop_eq_nil_of_le (by omega)
    rw [this] at hy
    simp only [List.foldl_nil] at hy
    rw [hy]
    exact h

theorem Of_calls (n : U) {R} (h : ∀ d, d = dig n → R (uv d) []) : ACalls Try.prog 16 [uv n] [] R := by
  refine acalls_of_xwp (an := an16) tab_ok Try.func16 ?_
  conv => whnf
  refine down_calls _ ?_
  conv => whnf
  refine times_calls _ ?_
  conv => whnf
  refine down_calls _ ?_
  conv => whnf
  refine times_calls _ ?_
  conv => whnf
  refine down_calls _ ?_
  conv => whnf
  rw [show (11400714819323198485 : Int) = (plus.toNat : Int) from rfl, u_add]
  refine run_calls _ _ [down 30, (· * first), down 27, (· * other), down 31] rfl (by simp) (fun i hi => ?_) none ?_
  · match i, hi with
    | 0, _ => exact down_does 30 (by omega)
    | 1, _ => exact times_does first
    | 2, _ => exact down_does 27 (by omega)
    | 3, _ => exact times_does other
    | 4, _ => exact down_does 31 (by omega)
  · conv => whnf
    exact h _ rfl

theorem Back_calls (n : U) {R} (h : ∀ d, d = dBack n → R (uv d) []) : ACalls Try.prog 19 [uv n] [] R := by
  refine acalls_of_xwp (an := an19) tab_ok Try.func19 ?_
  conv => whnf
  refine up_calls _ ?_
  conv => whnf
  refine parts_calls other fun e1 h1 => ?_
  obtain ⟨f1, c1, he1, h1', h1''⟩ := h1
  injection he1 with he1
  subst he1
  conv => whnf
  refine up_calls _ ?_
  conv => whnf
  refine parts_calls first fun e2 h2 => ?_
  obtain ⟨f2, c2, he2, h2', h2''⟩ := h2
  injection he2 with he2
  subst he2
  conv => whnf
  refine up_calls _ ?_
  conv => whnf
  refine run_calls _ _ [up 31, (· * back other), up 27, (· * back first), up 30] rfl (by simp) (fun i hi => ?_) none ?_
  · match i, hi with
    | 0, _ => exact up_does 31 (by omega)
    | 1, _ => exact ⟨f1, c1, rfl, h1', h1''⟩
    | 2, _ => exact up_does 27 (by omega)
    | 3, _ => exact ⟨f2, c2, rfl, h2', h2''⟩
    | 4, _ => exact up_does 30 (by omega)
  · conv => whnf
    rw [show (11400714819323198485 : Int) = (plus.toNat : Int) from rfl, u_sub]
    exact h _ rfl

/-- Numbers, read out of a slice. -/
def nums (l : List U) : List (List AV) := l.map fun x => [uv x]

theorem Fold_calls (n : U) (l : List U) (hl : l.length ≤ 1000000) {X : List (List AV)} (hX : X = nums l) {R} (h : ∀ d, d = fold n l → R (uv d) []) : ACalls Try.prog 17 [uv n, .sl none 1 X] [] R := by
  subst hX
  refine acalls_of_xwp (an := an17) tab_ok Try.func17 ?_
  have hnl : (nums l).length = l.length := by simp [nums]
  conv => whnf
  refine Of_calls n fun d0 hd0 => ?_
  conv => whnf
  refine LoopP.ind (α := Int × U) (fun p => [(5, uv p.2), (12, .val (.int .i64 p.1))]) (fun _ => []) (fun p => l.length - p.1.toNat)
    (fun p => 0 ≤ p.1 ∧ p.1 ≤ l.length ∧ (l.drop p.1.toNat).foldl (fun h x => dig (h ^^^ x)) p.2 = fold n l) (0, d0) rfl ⟨by simp, by simp, by simp [fold, hd0]⟩ ?_
  rintro ⟨i, y⟩ ⟨h0, h1, hy⟩ IH
  simp only at h0 h1 hy IH
  conv => whnf
  refine br_intro (fun hc => ?_) (fun hc => ?_)
  · have hc : i < (l.length : Int) := by simpa [hnl] using hc
    conv => whnf
    refine must_intro (by simpa using h0) ?_
    refine idxK_map_intro (idx_some h0 hc) ?_
    conv => whnf
    rw [u_xor]
    refine Of_calls _ fun d hd => ?_
    conv => whnf
    rw [wrap_i64 (by omega) (by omega)]
    refine IH (i + 1, _) ⟨?_, ?_, ?_⟩ ?_
    · simp only; omega
    · simp only; omega
    · show List.foldl _ _ (List.drop (i + 1).toNat l) = _
      rw [← hy, show (i + 1).toNat = i.toNat + 1 by omega, List.drop_eq_getElem_cons (idx_some h0 hc), List.foldl_cons, ← hd]
    · simp only; omega
  · have hc : i = (l.length : Int) := by simp [hnl] at hc; omega
    conv => whnf
    rw [List.drop_eq_nil_of_le (by omega)] at hy
    simp only [List.foldl_nil] at hy
    exact h _ hy

/-! ### the document's -/
theorem u_div (x : U) (k : Nat) (hk : k < 63) {c : Int} (hc : c = 2 ^ k) : IntKind.u64.wrap ((x.toNat : Int).tdiv c) = ((x >>> k).toNat : Int) := by
  subst hc
  rw [wrap_u64]
  have h1 : (x.toNat : Int).tdiv (2 ^ k) = ((x >>> k).toNat : Int) := by
    rw [BitVec.toNat_ushiftRight, Nat.shiftRight_eq_div_pow]
    rw [Int.tdiv_eq_ediv_of_nonneg (by omega)]
    simp
  rw [h1]
  have := (x >>> k).isLt
  omega

theorem refOf_calls (n : U) {R} (h : ∀ d, d = dig n → R (uv d) []) : ACalls Try.prog 18 [uv n] [] R := by
  refine acalls_of_xwp (an := an18) tab_ok Try.func18 ?_
  conv => whnf
  rw [show (11400714819323198485 : Int) = (plus.toNat : Int) from rfl, show (13787848793156543929 : Int) = (first.toNat : Int) from rfl, show (10723151780598845931 : Int) = (other.toNat : Int) from rfl]
  have e30 := fun x => u_div x 30 (by omega) (c := 1073741824) rfl
  have e27 := fun x => u_div x 27 (by omega) (c := 134217728) rfl
  have e31 := fun x => u_div x 31 (by omega) (c := 2147483648) rfl
  rw [u_add, e30, u_xor, u_mul, e27, u_xor, u_mul, e31, u_xor]
  exact h _ rfl

theorem refFold_calls (n : U) (l : List U) (hl : l.length ≤ 1000000) {X : List (List AV)} (hX : X = nums l) {R} (h : ∀ d, d = fold n l → R (uv d) []) : ACalls Try.prog 20 [uv n, .sl none 1 X] [] R := by
  subst hX
  refine acalls_of_xwp (an := an20) tab_ok Try.func20 ?_
  have hnl : (nums l).length = l.length := by simp [nums]
  conv => whnf
  refine refOf_calls n fun d0 hd0 => ?_
  conv => whnf
  refine LoopP.ind (α := Int × U) (fun p => [(5, uv p.2), (6, .val (.int .i64 p.1))]) (fun _ => []) (fun p => l.length - p.1.toNat)
    (fun p => 0 ≤ p.1 ∧ p.1 ≤ l.length ∧ (l.drop p.1.toNat).foldl (fun h x => dig (h ^^^ x)) p.2 = fold n l) (0, d0) rfl ⟨by simp, by simp, by simp [fold, hd0]⟩ ?_
  rintro ⟨i, y⟩ ⟨h0, h1, hy⟩ IH
  simp only at h0 h1 hy IH
  conv => whnf
  refine br_intro (fun hc => ?_) (fun hc => ?_)
  · have hc : i < (l.length : Int) := by simpa [hnl] using hc
    conv => whnf
    refine must_intro (by simpa using h0) ?_
    refine idxK_map_intro (idx_some h0 hc) ?_
    conv => whnf
    rw [u_xor]
    refine refOf_calls _ fun d hd => ?_
    conv => whnf
    rw [wrap_i64 (by omega) (by omega)]
    refine IH (i + 1, _) ⟨?_, ?_, ?_⟩ ?_
    · simp only; omega
    · simp only; omega
    · show List.foldl _ _ (List.drop (i + 1).toNat l) = _
      rw [← hy, show (i + 1).toNat = i.toNat + 1 by omega, List.drop_eq_getElem_cons (idx_some h0 hc), List.foldl_cons, ← hd]
    · simp only; omega
  · have hc : i = (l.length : Int) := by simp [hnl] at hc; omega
    conv => whnf
    rw [List.drop_eq_nil_of_le (by omega)] at hy
    simp only [List.foldl_nil] at hy
    exact h _ hy
end Go.Abs
end

section
/- Arguments that are numbers. -/
set_option maxRecDepth 100000
set_option linter.unusedVariables false
set_option linter.unusedSimpArgs false
namespace Go.Abs
open Go Go.Proofs Dig
theorem args_u64 {ts : List TypeId} {l : List AV} (h : Args tab 12 (22 :: ts) l) : ∃ (x : U) (l' : List AV), l = uv x :: l' ∧ Args tab 12 ts l' := by
  obtain ⟨a, l', rfl, h1, h2⟩ := h
  obtain ⟨x, e, hx⟩ : ∃ x, [a] = [.val (.int .u64 x)] ∧ (Lit.int .u64 x).wf = true := h1
  simp only [Lit.wf, Bool.and_eq_true, decide_eq_true_eq] at hx
  have e1 : IntKind.u64.min = 0 := rfl
  have e2 : IntKind.u64.max = 18446744073709551615 := rfl
  rw [e1, e2] at hx
  refine ⟨BitVec.ofInt 64 x, l', ?_, h2⟩
  simp only [List.cons.injEq, and_true] at e ⊢
  rw [e]
  show _ = AV.val (.int .u64 _)
  congr 2
  exact u_of (by omega) (by omega)
theorem args_nil {l : List AV} (h : Args tab 12 [] l) : l = [] := h
theorem wf_u64 {x : Int} (h : (Lit.int .u64 x).wf = true) : x = ((BitVec.ofInt 64 x : U).toNat : Int) := by
  simp only [Lit.wf, Bool.and_eq_true, decide_eq_true_eq] at h
  have e1 : IntKind.u64.min = 0 := rfl
  have e2 : IntKind.u64.max = 18446744073709551615 := rfl
  rw [e1, e2] at h
  exact u_of (by omega) (by omega)
theorem typed_nums {l : List (List AV)} (h : ∀ x ∈ l, ∃ y, x = [.val (.int .u64 y)] ∧ (Lit.int .u64 y).wf = true) : ∃ ns : List U, l = nums ns := by
  induction l with
  | nil => exact ⟨[], rfl⟩
  | cons x l ih =>
    obtain ⟨ns, rfl⟩ := ih fun y hy => h y (by simp [hy])
    obtain ⟨y, rfl, hy⟩ := h x (by simp)
    exact ⟨BitVec.ofInt 64 y :: ns, by simp only [nums, List.map_cons, uv]; rw [← wf_u64 hy]⟩
theorem args_nums {ts : List TypeId} {l : List AV} (h : Args tab 12 (28 :: ts) l) : ∃ (x : List U) (l' : List AV), l = .sl none 1 (nums x) :: l' ∧ x.length ≤ maxLen ∧ Args tab 12 ts l' := by
  obtain ⟨a, l', rfl, h1, h2⟩ := h
  obtain ⟨x, e, hl, hx⟩ : ∃ x : List (List AV), [a] = [.sl none 1 x] ∧ x.length ≤ maxLen ∧ ∀ y ∈ x, Typed tab 11 22 y := h1
  obtain ⟨ns, rfl⟩ := typed_nums (l := x) hx
  simp only [List.cons.injEq, and_true] at e
  subst e
  exact ⟨ns, l', rfl, by simpa [nums] using hl, h2⟩
theorem args_u8 {ts : List TypeId} {l : List AV} (h : Args tab 12 (5 :: ts) l) : ∃ (x : Int) (l' : List AV), l = .val (.int .u8 x) :: l' ∧ (0 ≤ x ∧ x ≤ 255) ∧ Args tab 12 ts l' := by
  obtain ⟨a, l', rfl, h1, h2⟩ := h
  obtain ⟨x, e, hx⟩ : ∃ x, [a] = [.val (.int .u8 x)] ∧ (Lit.int .u8 x).wf = true := h1
  simp only [Lit.wf, Bool.and_eq_true, decide_eq_true_eq] at hx
  have e1 : IntKind.u8.min = 0 := rfl
  have e2 : IntKind.u8.max = 255 := rfl
  rw [e1, e2] at hx
  simp only [List.cons.injEq, and_true] at e
  exact ⟨x, l', by rw [e], hx, h2⟩
end Go.Abs
end

section
/- Graphs: nodes; what is wrong with one by itself. -/
set_option maxRecDepth 100000
set_option linter.unusedVariables false
set_option linter.unusedSimpArgs false
namespace Go.Abs
open Go Go.Proofs
attribute [local irreducible] ibits byteAt strLt firstIdx

structure Nd where
  name : B
  source : Bool
  rule : U
  deps : List B
def Nd.enc (n : Nd) : List AV := [vs n.name, .val (.bool n.source), uv n.rule, .sl none 1 (strs n.deps)]
def nds (l : List Nd) : List (List AV) := l.map Nd.enc
theorem nds_length (l : List Nd) : (nds l).length = l.length := by simp [nds]
def ints (l : List Nat) : List (List AV) := l.map fun (i : Nat) => [vi (i : Int)]
theorem ints_length (l : List Nat) : (ints l).length = l.length := by simp [ints]

/-! ### names -/
def nameOk (s : B) : Bool := decide (1 ≤ s.length) && decide (s.length ≤ 64)
theorem Name_calls (s : B) {R} (h : R (.val (.bool (nameOk s))) []) : ACalls Try.prog 101 [vs s] [] R := by
  refine acalls_of_xwp (an := an101) tab_ok Try.func101 ?_
  have hsz : (ofB s).size = s.length := size_ofB s
  (conv => whnf)
  rw [hsz]
  refine br_intro (fun hc => ?_) (fun hc => ?_)
  · (conv => whnf)
    have : nameOk s = decide ((s.length : Int) ≤ 64) := by
      unfold nameOk
      rw [hsz] at *
      have hc : 1 ≤ s.length := by simp at hc; omega
      simp [hc]
      omega
    rw [hsz, ← this]
    exact h
  · (conv => whnf)
    have : nameOk s = false := by
      have hc : s.length = 0 := by simp at hc; omega
      simp [nameOk, hc]
    rw [this] at h
    exact h
theorem refName_calls (s : B) {R} (h : R (.val (.bool (nameOk s))) []) : ACalls Try.prog 98 [vs s] [] R := by
  refine acalls_of_xwp (an := an98) tab_ok Try.func98 ?_
  have hsz : (ofB s).size = s.length := size_ofB s
  (conv => whnf)
  refine br_intro (fun hc => ?_) (fun hc => ?_)
  · have hc : s ≠ [] := by
      rintro rfl
      simp at hc
      exact hc rfl
    have hl : 1 ≤ s.length := by cases s with | nil => exact absurd rfl hc | cons a s => simp
    (conv => whnf)
    have : nameOk s = decide ((s.length : Int) < 65) := by
      unfold nameOk
      simp [hl]
      omega
    rw [hsz, ← this]
    exact h
  · have hc : s = [] := by
      simp at hc
      have : ofB s = ofB [] := hc
      exact ofB_inj this
    subst hc
    (conv => whnf)
    exact h

/-! ### places -/
def placeOf : List B → B → Option Nat
  | [], _ => none
  | a :: l, s => if a = s then some 0 else (placeOf l s).map (· + 1)
def placeI (l : List B) (s : B) : Int := match placeOf l s with | some i => i | none => -1
theorem placeOf_none {l : List B} {s : B} : placeOf l s = none ↔ s ∉ l := by
  induction l with
  | nil => simp [placeOf]
  | cons a l ih =>
    simp only [placeOf]
    by_cases h : a = s
    · simp [h]
    · rw [if_neg h]
      simp only [Option.map_eq_none_iff, ih, List.mem_cons, not_or]
      exact ⟨fun h' => ⟨fun e => h e.symm, h'⟩, fun h' => h'.2⟩
theorem placeOf_some {l : List B} {s : B} {i : Nat} (h : placeOf l s = some i) : l[i]? = some s ∧ ∀ j, j < i → l[j]? ≠ some s := by
  induction l generalizing i with
  | nil => simp [placeOf] at h
  | cons a l ih =>
    simp only [placeOf] at h
    by_cases e : a = s
    · rw [if_pos e] at h
      cases h
      subst e
      exact ⟨rfl, fun j hj => by omega⟩
    · rw [if_neg e] at h
      obtain ⟨k, hk, rfl⟩ := Option.map_eq_some_iff.1 h
      obtain ⟨h1, h2⟩ := ih hk
      refine ⟨by simpa using h1, fun j hj => ?_⟩
      cases j with
      | zero => simpa using e
      | succ j => simpa using h2 j (by omega)
theorem placeI_neg {l : List B} {s : B} : placeI l s < 0 ↔ s ∉ l := by
  rw [← placeOf_none]
  unfold placeI
  cases placeOf l s with
  | none => simp
  | some i => simp
theorem placeOf_of {l : List B} {s : B} {i : Nat} (h : l[i]? = some s) (h' : ∀ j, j < i → l[j]? ≠ some s) : placeOf l s = some i := by
  cases e : placeOf l s with
  | none => exact absurd (List.mem_of_getElem? h) (placeOf_none.1 e)
  | some k =>
    obtain ⟨h1, h2⟩ := placeOf_some e
    rcases Nat.lt_trichotomy i k with hl | rfl | hl
    · exact absurd h (h2 _ hl)
    · rfl
    · exact absurd h1 (h' _ hl)

theorem i64_nat {i : Nat} (h : i < 1000000000) : IntKind.i64.wrap ((i : Int) + 1) = ((i + 1 : Nat) : Int) := wrap_i64 (by omega) (by omega)
theorem lt_of_dec {i n : Nat} (h : decide ((i : Int) < (n : Int)) = true) : i < n := by simpa using h
theorem ge_of_dec {i n : Nat} (h : decide ((i : Int) < (n : Int)) = false) : n ≤ i := by simp at h; omega

theorem lt_of_decE {i n m : Nat} (e : m = n) (h : decide ((i : Int) < (m : Int)) = true) : i < n := by subst e; simpa using h
theorem ge_of_decE {i n m : Nat} (e : m = n) (h : decide ((i : Int) < (m : Int)) = false) : n ≤ i := by subst e; simp at h; omega

theorem Place_calls (l : List B) (s : B) (hl : l.length < 1000000) {X : List (List AV)} (hX : X = strs l) {R} (h : ∀ p, p = placeI l s → R (vi p) []) : ACalls Try.prog 99 [.sl none 1 X, vs s] [] R := by
  subst hX
  refine acalls_of_xwp (an := an99) tab_ok Try.func99 ?_
  have hsl := strs_length l
  (conv => whnf)
  refine LoopP.ind1 (fun (i : Nat) => [(5, vi i)]) (fun _ => []) (fun i => l.length - i) (fun i => i ≤ l.length ∧ ∀ j, j < i → l[j]? ≠ some s) 0 rfl ⟨by omega, fun j hj => by omega⟩ ?_
  rintro i ⟨h0, h1⟩ IH
  (conv => whnf)
  rw [hsl]
  refine br_intro (fun hc => ?_) (fun hc => ?_)
  · have hc := lt_of_dec hc
    (conv => whnf); (repeat ((with_reducible refine must_intro ?_ ?_); exact decide_eq_true (by omega); (conv => whnf)))
    refine idxK_map_intro (show (i : Int).toNat < l.length by simpa using hc) ?_
    rw [show l[(i : Int).toNat]'(by simpa using hc) = l[i] from by congr 1]
    (conv => whnf)
    refine br_intro (fun he => ?_) (fun he => ?_)
    · have he : l[i] = s := by simpa [ofB_eq] using he
      (conv => whnf)
      refine h _ ?_
      rw [placeI, placeOf_of (i := i) (by rw [List.getElem?_eq_getElem hc, he]) h1]
    · have he : l[i] ≠ s := by simpa [ofB_eq] using he
      (conv => whnf)
      rw [i64_nat (by omega)]
      refine IH (i + 1) ⟨by omega, fun j hj => ?_⟩ (by omega)
      rcases Nat.lt_or_ge j i with hlt | hge
      · exact h1 j hlt
      · obtain rfl : j = i := by omega
        rw [List.getElem?_eq_getElem hc]
        simpa using he
  · have hc := ge_of_dec hc
    (conv => whnf)
    refine h (-1) ?_
    have : s ∉ l := by
      intro hm
      obtain ⟨j, hj, e⟩ := List.getElem_of_mem hm
      exact h1 j (by omega) (by rw [List.getElem?_eq_getElem hj, e])
    rw [placeI, placeOf_none.2 this]

theorem nPlace_calls (l : List Nd) (s : B) (hl : l.length < 1000000) {X : List (List AV)} (hX : X = nds l) {R} (h : ∀ p, p = placeI (l.map (·.name)) s → R (vi p) []) : ACalls Try.prog 72 [.sl none 4 X, vs s] [] R := by
  subst hX
  refine acalls_of_xwp (an := an72) tab_ok Try.func72 ?_
  have hsl := nds_length l
  (conv => whnf)
  refine LoopP.ind1 (fun (i : Nat) => [(5, vi i)]) (fun _ => []) (fun i => l.length - i) (fun i => i ≤ l.length ∧ ∀ j, j < i → (l.map (·.name))[j]? ≠ some s) 0 rfl ⟨by omega, fun j hj => by omega⟩ ?_
  rintro i ⟨h0, h1⟩ IH
  (conv => whnf)
  rw [hsl]
  refine br_intro (fun hc => ?_) (fun hc => ?_)
  · have hc := lt_of_dec hc
    (conv => whnf); (repeat ((with_reducible refine must_intro ?_ ?_); exact decide_eq_true (by omega); (conv => whnf)))
    refine idxK_map_intro (show (i : Int).toNat < l.length by simpa using hc) ?_
    rw [show l[(i : Int).toNat]'(by simpa using hc) = l[i] from by congr 1]
    (conv => whnf)
    refine br_intro (fun he => ?_) (fun he => ?_)
    · have he : l[i].name = s := by simpa [ofB_eq] using he
      (conv => whnf)
      refine h _ ?_
      rw [placeI, placeOf_of (i := i) (by rw [List.getElem?_map, List.getElem?_eq_getElem hc]; simp [he]) h1]
    · have he : l[i].name ≠ s := by simpa [ofB_eq] using he
      (conv => whnf)
      rw [i64_nat (by omega)]
      refine IH (i + 1) ⟨by omega, fun j hj => ?_⟩ (by omega)
      rcases Nat.lt_or_ge j i with hlt | hge
      · exact h1 j hlt
      · obtain rfl : j = i := by omega
        rw [List.getElem?_map, List.getElem?_eq_getElem hc]
        simpa using he
  · have hc := ge_of_dec hc
    (conv => whnf)
    refine h (-1) ?_
    have : s ∉ l.map (·.name) := by
      intro hm
      obtain ⟨j, hj, e⟩ := List.getElem_of_mem hm
      exact h1 j (by simp at hj; omega) (by rw [List.getElem?_eq_getElem hj, e])
    rw [placeI, placeOf_none.2 this]

theorem in_calls (l : List Nat) (x : Int) (hl : l.length < 1000000) {X : List (List AV)} (hX : X = ints l) {R} (h : ∀ b, b = decide (∃ i ∈ l, (i : Int) = x) → R (.val (.bool b)) []) : ACalls Try.prog 78 [.sl none 1 X, vi x] [] R := by
  subst hX
  refine acalls_of_xwp (an := an78) tab_ok Try.func78 ?_
  have hsl := ints_length l
  (conv => whnf)
  refine LoopP.ind1 (fun (i : Nat) => [(5, vi i)]) (fun _ => []) (fun i => l.length - i) (fun i => i ≤ l.length ∧ ∀ j (hj : j < l.length), j < i → ((l[j] : Nat) : Int) ≠ x) 0 rfl ⟨by omega, fun j hj hlt => by omega⟩ ?_
  rintro i ⟨h0, h1⟩ IH
  (conv => whnf)
  rw [hsl]
  refine br_intro (fun hc => ?_) (fun hc => ?_)
  · have hc := lt_of_dec hc
    (conv => whnf); (repeat ((with_reducible refine must_intro ?_ ?_); exact decide_eq_true (by omega); (conv => whnf)))
    refine idxK_map_intro (show (i : Int).toNat < l.length by simpa using hc) ?_
    rw [show l[(i : Int).toNat]'(by simpa using hc) = l[i] from by congr 1]
    (conv => whnf)
    refine br_intro (fun he => ?_) (fun he => ?_)
    · have he : ((l[i] : Nat) : Int) = x := by simpa using he
      (conv => whnf)
      exact h true (decide_eq_true ⟨l[i], List.getElem_mem hc, he⟩).symm
    · have he : ((l[i] : Nat) : Int) ≠ x := by simpa using he
      (conv => whnf)
      rw [i64_nat (by omega)]
      refine IH (i + 1) ⟨by omega, fun j hj hlt => ?_⟩ (by omega)
      rcases Nat.lt_or_ge j i with hlt | hge
      · exact h1 j hj hlt
      · obtain rfl : j = i := by omega
        exact he
  · have hc := ge_of_dec hc
    (conv => whnf)
    refine h false (decide_eq_false ?_).symm
    rintro ⟨a, ha, e⟩
    obtain ⟨j, hj, rfl⟩ := List.getElem_of_mem ha
    exact h1 j hj (by omega) e

/-! ### which text stands ahead -/
def ltB (a b : B) : Bool := Op.bytesLess a b
theorem strLt_ofB (a b : B) : strLt (ofB a) (ofB b) = ltB a b := by
  unfold strLt ltB
  rw [ByteArray.toList_eq, ByteArray.toList_eq]
  show Op.bytesLess (bs (ofB a)) (bs (ofB b)) = _
  rw [bs_ofB, bs_ofB]
theorem ltB_drop {a b : B} : ∀ {i : Nat}, (∀ j, j < i → a[j]? = b[j]?) → i ≤ a.length → i ≤ b.length → ltB (a.drop i) (b.drop i) = ltB a b := by
  intro i
  induction i generalizing a b with
  | zero => intro _ _ _; simp
  | succ i ih =>
    intro h ha hb
    cases a with
    | nil => simp at ha
    | cons x a =>
      cases b with
      | nil => simp at hb
      | cons y b =>
        have h0 : x = y := by simpa using h 0 (by omega)
        subst h0
        simp only [List.drop_succ_cons]
        rw [ih (fun j hj => by simpa using h (j + 1) (by omega)) (by simpa using ha) (by simpa using hb)]
        simp [ltB, Op.bytesLess]
theorem u8_lt {a b : UInt8} : decide (((a.toNat : Nat) : Int) < ((b.toNat : Nat) : Int)) = decide (a < b) := by
  apply decide_eq_decide.2
  rw [UInt8.lt_iff_toNat_lt]
  omega

theorem Less_calls (a b : B) (ha : a.length < 1000000) (hb : b.length < 1000000) {R} (h : ∀ p, p = ltB a b → R (.val (.bool p)) []) : ACalls Try.prog 79 [vs a, vs b] [] R := by
  refine acalls_of_xwp (an := an79) tab_ok Try.func79 ?_
  have hsa := size_ofB a
  have hsb := size_ofB b
  (conv => whnf)
  refine LoopP.ind1 (fun (i : Nat) => [(5, vi i)]) (fun _ => []) (fun i => a.length - i) (fun i => i ≤ a.length ∧ i ≤ b.length ∧ ∀ j, j < i → a[j]? = b[j]?) 0 rfl ⟨by omega, by omega, fun j hj => by omega⟩ ?_
  rintro i ⟨h0, h0', h1⟩ IH
  have hend : (a.length ≤ i ∨ b.length ≤ i) → ltB a b = decide ((a.length : Int) < (b.length : Int)) := by
    intro hc
    rw [← ltB_drop h1 h0 h0']
    rcases hc with hc | hc
    · rw [List.drop_eq_nil_of_le hc]
      cases hd : b.drop i with
      | nil =>
        have := List.drop_eq_nil_iff.1 hd
        simp [ltB, Op.bytesLess]; omega
      | cons y l =>
        have : i < b.length := by
          rcases Nat.lt_or_ge i b.length with h | h
          · exact h
          · rw [List.drop_eq_nil_of_le h] at hd; cases hd
        simp [ltB, Op.bytesLess]; omega
    · rw [List.drop_eq_nil_of_le hc]
      have : ltB (a.drop i) [] = false := by cases a.drop i <;> rfl
      rw [this]
      simp; omega
  (conv => whnf)
  rw [hsa]
  refine br_intro (fun hc => ?_) (fun hc => ?_)
  · have hc := lt_of_dec hc
    (conv => whnf)
    rw [hsb]
    refine br_intro (fun hc' => ?_) (fun hc' => ?_)
    · have hc' := lt_of_dec hc'
      have ea : byteAt (ofB a) (i : Int).toNat = ((a[i]).toNat : Int) := by rw [Int.toNat_natCast, byteAt_ofB a hc]
      have eb : byteAt (ofB b) (i : Int).toNat = ((b[i]).toNat : Int) := by rw [Int.toNat_natCast, byteAt_ofB b hc']
      (conv => whnf); (repeat ((with_reducible refine must_intro ?_ ?_); exact decide_eq_true (by omega); (conv => whnf)))
      rw [ea, eb]
      refine br_intro (fun he => ?_) (fun he => ?_)
      · have he : a[i] ≠ b[i] := by
          intro e
          rw [e] at he
          simp at he
        (conv => whnf); (repeat ((with_reducible refine must_intro ?_ ?_); exact decide_eq_true (by omega); (conv => whnf)))
        rw [ea, eb, u8_lt]
        refine h _ ?_
        rw [← ltB_drop h1 h0 h0', List.drop_eq_getElem_cons hc, List.drop_eq_getElem_cons hc']
        simp [ltB, Op.bytesLess, he]
      · have he : a[i] = b[i] := by
          simp at he
          exact u8_inj.1 he
        (conv => whnf)
        rw [i64_nat (by omega)]
        refine IH (i + 1) ⟨by omega, by omega, fun j hj => ?_⟩ (by omega)
        rcases Nat.lt_or_ge j i with hlt | hge
        · exact h1 j hlt
        · obtain rfl : j = i := by omega
          rw [List.getElem?_eq_getElem hc, List.getElem?_eq_getElem hc', he]
    · have hc' := ge_of_dec hc'
      (conv => whnf)
      rw [hsa, hsb]
      exact h _ (hend (.inr hc')).symm
  · have hc := ge_of_dec hc
    (conv => whnf)
    rw [hsa, hsb]
    exact h _ (hend (.inl hc)).symm
end Go.Abs
end

section
/- Graphs: what is wrong with a node by itself; places. -/
set_option maxRecDepth 100000
set_option linter.unusedVariables false
set_option linter.unusedSimpArgs false
namespace Go.Abs
open Go Go.Proofs
attribute [local irreducible] ibits byteAt strLt firstIdx

theorem tblP_foldl : ∀ (l m : List B), (l.foldl tblP m).length ≤ m.length + l.length ∧ ((l.foldl tblP m).length = m.length + l.length ↔ l.Nodup ∧ ∀ x ∈ l, x ∉ m) := by
  intro l
  induction l with
  | nil => intro m; simp
  | cons a l ih =>
    intro m
    rw [List.foldl_cons]
    obtain ⟨h1, h2⟩ := ih (tblP m a)
    by_cases ha : a ∈ m
    · rw [tblP_some ha] at h1 h2 ⊢
      refine ⟨by simp; omega, ⟨fun h => by simp at h; omega, fun h => absurd ha (h.2 a (by simp))⟩⟩
    · rw [tblP_none ha] at h1 h2 ⊢
      simp only [List.length_append, List.length_cons, List.length_nil] at h1 h2 ⊢
      refine ⟨by omega, ?_⟩
      rw [show (List.foldl tblP (m ++ [a]) l).length = m.length + (l.length + 1) ↔ (List.foldl tblP (m ++ [a]) l).length = m.length + (0 + 1) + l.length by omega, h2]
      simp only [List.nodup_cons, List.mem_append, List.mem_cons, List.not_mem_nil, or_false, not_or]
      constructor
      · rintro ⟨g1, g2⟩
        exact ⟨⟨fun h => (g2 a h).2 rfl, g1⟩, fun x hx => by
          rcases hx with rfl | hx
          · exact ha
          · exact (g2 x hx).1⟩
      · rintro ⟨⟨g1, g2⟩, g3⟩
        exact ⟨g2, fun x hx => ⟨g3 x (.inr hx), fun e => g1 (e ▸ hx)⟩⟩
theorem tblN_len (l : List B) : ((tblN l).length : Int) = l.length ↔ l.Nodup := by
  have := (tblP_foldl l []).2
  unfold tblN
  rw [show (((List.foldl tblP [] l).length : Nat) : Int) = ((l.length : Nat) : Int) ↔ (List.foldl tblP [] l).length = ([] : List B).length + l.length by simp; omega, this]
  simp

def oneBad (n : Nd) : Bool := !nameOk n.name || (n.source && (decide (0 < n.deps.length) || !decide (n.rule = 0)))
def oneP (n : Nd) : Int := if oneBad n = true then 1 else if ¬ (n.name :: n.deps).Nodup then 1 else if 16 < n.deps.length then 5 else 0

theorem one_calls (n : Nd) (hn : n.deps.length < 10000) {R} (h : ∀ e, e = oneP n → R (vi e) []) : ACalls Try.prog 76 [.agg n.enc] [] R := by
  refine acalls_of_xwp (an := an76) tab_ok Try.func76 ?_
  have hsl := strs_length n.deps
  have bad : oneBad n = true → R (vi 1) [] := fun hb => h 1 (by simp [oneP, hb])
  have len : (strs n.deps).length = n.deps.length := strs_length _
  (conv => whnf)
  refine Name_calls n.name ?_
  (conv => whnf)
  refine br_intro (fun h1 => ?_) (fun h1 => ?_)
  · (conv => whnf)
    exact bad (by simp at h1; simp [oneBad, h1])
  have h1 : nameOk n.name = true := by simpa using h1
  have rest : oneBad n = false → (∀ m, m = tblN (n.name :: n.deps) → ((m.length : Int) = n.deps.length + 1 ↔ (n.name :: n.deps).Nodup)) := fun hb m hm => by
    subst hm
    have := tblN_len (n.name :: n.deps)
    rw [List.length_cons] at this
    push_cast at this
    exact this
  (conv => whnf)
  refine br_intro (fun h2 => ?_) (fun h2 => ?_)
  · (conv => whnf)
    refine br_intro (fun h3 => ?_) (fun h3 => ?_)
    · (conv => whnf)
      refine bad ?_
      have h3 : 0 < n.deps.length := by rw [len] at h3; simp at h3; omega
      simp [oneBad, h2, h3]
    · (conv => whnf)
      have h3 : n.deps.length = 0 := by rw [len] at h3; simpa using h3
      refine br_intro (fun h4 => ?_) (fun h4 => ?_)
      · (conv => whnf)
        refine bad ?_
        have h4 : ¬ n.rule = 0 := by
          rintro e
          rw [e] at h4
          simp at h4
        unfold oneBad
        rw [h1, h2, decide_eq_false h4]
        simp
      · (conv => whnf)
        have h4 : n.rule = 0 := by
          have : ((n.rule.toNat : Nat) : Int) = ((0 : U).toNat : Int) := by simpa using h4
          exact u_inj.1 this
        have hb : oneBad n = false := by
          unfold oneBad
          rw [h1, h2, h3, h4]
          simp
        refine ⟨rfl, (show (1 + (strs n.deps).length) * ((tab.ti 9).bytes + 1) ≤ 140737488355328 by rw [len, bytes_str]; omega), ?_⟩
        (conv => whnf)
        refine New_calls n.name n.deps (by omega) fun m hm => ?_
        have hm' := rest hb m hm
        (conv => whnf)
        refine Len_old m ?_
        (conv => whnf)
        have fin : ∀ p : Bool, p = decide (¬ (n.name :: n.deps).Nodup) → oneP n = (if p = true then 1 else if 16 < n.deps.length then 5 else 0) := by
          rintro p rfl
          unfold oneP
          rw [if_neg (by rw [hb]; simp)]
          by_cases hd : (n.name :: n.deps).Nodup
          · have hdd : decide (¬ (n.name :: n.deps).Nodup) = false := decide_eq_false (not_not_intro hd)
            rw [if_neg (not_not_intro hd)]
            simp only [hdd, Bool.false_eq_true, if_false]
          · rw [if_pos hd, if_pos (decide_eq_true hd)]
        rw [len, wrap_i64 (by omega) (by omega)]
        refine br_intro (fun g1 => ?_) (fun g1 => ?_)
        · (conv => whnf)
          refine h 1 ?_
          rw [fin true]
          · simp
          · symm
            apply decide_eq_true
            rw [← hm']
            intro e
            rw [e] at g1
            simp at g1
        · have g1 : (n.name :: n.deps).Nodup := by
            rw [← hm']
            simpa using g1
          have fin := fin false (by simp only [g1, not_true, decide_false])
          (conv => whnf)
          rw [len]
          refine br_intro (fun g2 => ?_) (fun g2 => ?_)
          · (conv => whnf)
            refine h 5 ?_
            rw [fin]
            have : 16 < n.deps.length := by simp at g2; omega
            simp [this]
          · (conv => whnf)
            refine h 0 ?_
            rw [fin]
            have : ¬ 16 < n.deps.length := by simp at g2; omega
            simp [this]
  · (conv => whnf)
    have hb : oneBad n = false := by
      unfold oneBad
      rw [h1, h2]
      simp
    refine ⟨rfl, (show (1 + (strs n.deps).length) * ((tab.ti 9).bytes + 1) ≤ 140737488355328 by rw [len, bytes_str]; omega), ?_⟩
    (conv => whnf)
    refine New_calls n.name n.deps (by omega) fun m hm => ?_
    have hm' := rest hb m hm
    (conv => whnf)
    refine Len_old m ?_
    (conv => whnf)
    have fin : ∀ p : Bool, p = decide (¬ (n.name :: n.deps).Nodup) → oneP n = (if p = true then 1 else if 16 < n.deps.length then 5 else 0) := by
      rintro p rfl
      unfold oneP
      rw [if_neg (by rw [hb]; simp)]
      by_cases hd : (n.name :: n.deps).Nodup
      · have hdd : decide (¬ (n.name :: n.deps).Nodup) = false := decide_eq_false (not_not_intro hd)
        rw [if_neg (not_not_intro hd)]
        simp only [hdd, Bool.false_eq_true, if_false]
      · rw [if_pos hd, if_pos (decide_eq_true hd)]
    rw [len, wrap_i64 (by omega) (by omega)]
    refine br_intro (fun g1 => ?_) (fun g1 => ?_)
    · (conv => whnf)
      refine h 1 ?_
      rw [fin true]
      · simp
      · symm
        apply decide_eq_true
        rw [← hm']
        intro e
        rw [e] at g1
        simp at g1
    · have g1 : (n.name :: n.deps).Nodup := by
        rw [← hm']
        simpa using g1
      have fin := fin false (by simp only [g1, not_true, decide_false])
      (conv => whnf)
      rw [len]
      refine br_intro (fun g2 => ?_) (fun g2 => ?_)
      · (conv => whnf)
        refine h 5 ?_
        rw [fin]
        have : 16 < n.deps.length := by simp at g2; omega
        simp [this]
      · (conv => whnf)
        refine h 0 ?_
        rw [fin]
        have : ¬ 16 < n.deps.length := by simp at g2; omega
        simp [this]

theorem nodup_take {a : B} {l : List B} {i : Nat} (hi : i < l.length) : (a :: l.take (i + 1)).Nodup ↔ (a :: l.take i).Nodup ∧ l[i] ≠ a ∧ l[i] ∉ l.take i := by
  rw [List.take_succ_eq_append_getElem hi]
  simp only [List.nodup_cons, List.mem_append, List.mem_singleton, not_or, List.nodup_append, List.nodup_nil, and_true, List.not_mem_nil, not_false_eq_true]
  constructor
  · rintro ⟨⟨h1, h2⟩, h3, h4, h5⟩
    exact ⟨⟨h1, h3⟩, fun e => h2 e.symm, fun hm => h5 _ hm _ rfl rfl⟩
  · rintro ⟨⟨h1, h3⟩, h2, h5⟩
    exact ⟨⟨h1, fun e => h2 e.symm⟩, h3, trivial, fun x hx y hy e => h5 (by rw [← hy, ← e]; exact hx)⟩

theorem refOne_calls (n : Nd) (hn : n.deps.length < 10000) {R} (h : ∀ e, e = oneP n → R (vi e) []) : ACalls Try.prog 73 [.agg n.enc] [] R := by
  refine acalls_of_xwp (an := an73) tab_ok Try.func73 ?_
  have bad : oneBad n = true → R (vi 1) [] := fun hb => h 1 (by simp [oneP, hb])
  have len : (strs n.deps).length = n.deps.length := strs_length _
  (conv => whnf)
  refine refName_calls n.name ?_
  (conv => whnf)
  refine br_intro (fun h1 => ?_) (fun h1 => ?_)
  · (conv => whnf)
    exact bad (by simp at h1; simp [oneBad, h1])
  have h1 : nameOk n.name = true := by simpa using h1
  (conv => whnf)
  refine br_intro (fun h2 => ?_) (fun h2 => ?_)
  · (conv => whnf)
    refine br_intro (fun h3 => ?_) (fun h3 => ?_)
    · (conv => whnf)
      refine bad ?_
      have h3 : 0 < n.deps.length := by rw [len] at h3; simp at h3; omega
      simp [oneBad, h2, h3]
    · (conv => whnf)
      have h3 : n.deps.length = 0 := by rw [len] at h3; simpa using h3
      refine br_intro (fun h4 => ?_) (fun h4 => ?_)
      · (conv => whnf)
        refine bad ?_
        have h4 : ¬ n.rule = 0 := by
          rintro e
          rw [e] at h4
          simp at h4
        unfold oneBad
        rw [h1, h2, decide_eq_false h4]
        simp
      · (conv => whnf)
        have h4 : n.rule = 0 := by
          have : ((n.rule.toNat : Nat) : Int) = ((0 : U).toNat : Int) := by simpa using h4
          exact u_inj.1 this
        have hb : oneBad n = false := by
          unfold oneBad
          rw [h1, h2, h3, h4]
          simp
        refine LoopP.ind1 (fun (i : Nat) => [(3, vi i)]) (fun _ => []) (fun i => n.deps.length - i) (fun i => i ≤ n.deps.length ∧ (n.name :: n.deps.take i).Nodup) 0 rfl ⟨by omega, by simp⟩ ?_
        rintro i ⟨h0, hd⟩ IH
        (conv => whnf)
        refine br_intro (fun hc => ?_) (fun hc => ?_)
        · have hc := lt_of_decE len hc
          have dup : ¬ (n.name :: n.deps.take (i + 1)).Nodup → R (vi 1) [] := by
            intro hn
            refine h 1 ?_
            have : ¬ (n.name :: n.deps).Nodup := by
              intro hd'
              apply hn
              have : (n.name :: n.deps.take (i + 1)).Sublist (n.name :: n.deps) := List.Sublist.cons_cons _ (List.take_sublist _ _)
              exact hd'.sublist this
            unfold oneP
            rw [if_neg (by rw [hb]; simp), if_pos this]
          (conv => whnf); (repeat ((with_reducible refine must_intro ?_ ?_); exact decide_eq_true (by omega); (conv => whnf)))
          refine idxK_map_intro (show (i : Int).toNat < n.deps.length by simpa using hc) ?_
          rw [show n.deps[(i : Int).toNat]'(by simpa using hc) = n.deps[i] from by congr 1]
          (conv => whnf)
          refine br_intro (fun he => ?_) (fun he => ?_)
          · have he : n.deps[i] = n.name := by simpa [ofB_eq] using he
            (conv => whnf)
            exact dup (by rw [nodup_take hc]; intro hh; exact hh.2.1 he)
          · have he : n.deps[i] ≠ n.name := by simpa [ofB_eq] using he
            (conv => whnf); (repeat ((with_reducible refine must_intro ?_ ?_); exact decide_eq_true (by omega); (conv => whnf)))
            refine idxK_map_intro (show (i : Int).toNat < n.deps.length by simpa using hc) ?_
            rw [show n.deps[(i : Int).toNat]'(by simpa using hc) = n.deps[i] from by congr 1]
            (conv => whnf)
            refine Place_calls (n.deps.take i) n.deps[i] (by simp; omega) (by simp [strs, List.map_take]) fun p hp => ?_
            (conv => whnf)
            refine br_intro (fun hg => ?_) (fun hg => ?_)
            · have hg : n.deps[i] ∈ n.deps.take i := by
                have : 0 ≤ p := by simpa using hg
                rw [hp] at this
                exact Classical.byContradiction fun e => by have := placeI_neg.2 e; omega
              (conv => whnf)
              exact dup (by rw [nodup_take hc]; intro hh; exact hh.2.2 hg)
            · have hg : n.deps[i] ∉ n.deps.take i := by
                have : p < 0 := by simpa using hg
                rw [hp] at this
                exact placeI_neg.1 this
              (conv => whnf)
              rw [i64_nat (by omega)]
              exact IH (i + 1) ⟨by omega, (nodup_take hc).2 ⟨hd, he, hg⟩⟩ (by omega)
        · have hc := ge_of_decE len hc
          rw [List.take_of_length_le hc] at hd
          have fin : oneP n = (if 16 < n.deps.length then 5 else 0) := by
            unfold oneP
            rw [if_neg (by rw [hb]; simp), if_neg (not_not_intro hd)]
          (conv => whnf)
          rw [len]
          refine br_intro (fun g2 => ?_) (fun g2 => ?_)
          · (conv => whnf)
            refine h 5 ?_
            rw [fin]
            have : 16 < n.deps.length := by simp at g2; omega
            simp [this]
          · (conv => whnf)
            refine h 0 ?_
            rw [fin]
            have : ¬ 16 < n.deps.length := by simp at g2; omega
            simp [this]
  · (conv => whnf)
    have hb : oneBad n = false := by
      unfold oneBad
      rw [h1, h2]
      simp
    refine LoopP.ind1 (fun (i : Nat) => [(3, vi i)]) (fun _ => []) (fun i => n.deps.length - i) (fun i => i ≤ n.deps.length ∧ (n.name :: n.deps.take i).Nodup) 0 rfl ⟨by omega, by simp⟩ ?_
    rintro i ⟨h0, hd⟩ IH
    (conv => whnf)
    refine br_intro (fun hc => ?_) (fun hc => ?_)
    · have hc := lt_of_decE len hc
      have dup : ¬ (n.name :: n.deps.take (i + 1)).Nodup → R (vi 1) [] := by
        intro hn
        refine h 1 ?_
        have : ¬ (n.name :: n.deps).Nodup := by
          intro hd'
          apply hn
          have : (n.name :: n.deps.take (i + 1)).Sublist (n.name :: n.deps) := List.Sublist.cons_cons _ (List.take_sublist _ _)
          exact hd'.sublist this
        unfold oneP
        rw [if_neg (by rw [hb]; simp), if_pos this]
      (conv => whnf); (repeat ((with_reducible refine must_intro ?_ ?_); exact decide_eq_true (by omega); (conv => whnf)))
      refine idxK_map_intro (show (i : Int).toNat < n.deps.length by simpa using hc) ?_
      rw [show n.deps[(i : Int).toNat]'(by simpa using hc) = n.deps[i] from by congr 1]
      (conv => whnf)
      refine br_intro (fun he => ?_) (fun he => ?_)
      · have he : n.deps[i] = n.name := by simpa [ofB_eq] using he
        (conv => whnf)
        exact dup (by rw [nodup_take hc]; intro hh; exact hh.2.1 he)
      · have he : n.deps[i] ≠ n.name := by simpa [ofB_eq] using he
        (conv => whnf); (repeat ((with_reducible refine must_intro ?_ ?_); exact decide_eq_true (by omega); (conv => whnf)))
        refine idxK_map_intro (show (i : Int).toNat < n.deps.length by simpa using hc) ?_
        rw [show n.deps[(i : Int).toNat]'(by simpa using hc) = n.deps[i] from by congr 1]
        (conv => whnf)
        refine Place_calls (n.deps.take i) n.deps[i] (by simp; omega) (by simp [strs, List.map_take]) fun p hp => ?_
        (conv => whnf)
        refine br_intro (fun hg => ?_) (fun hg => ?_)
        · have hg : n.deps[i] ∈ n.deps.take i := by
            have : 0 ≤ p := by simpa using hg
            rw [hp] at this
            exact Classical.byContradiction fun e => by have := placeI_neg.2 e; omega
          (conv => whnf)
          exact dup (by rw [nodup_take hc]; intro hh; exact hh.2.2 hg)
        · have hg : n.deps[i] ∉ n.deps.take i := by
            have : p < 0 := by simpa using hg
            rw [hp] at this
            exact placeI_neg.1 this
          (conv => whnf)
          rw [i64_nat (by omega)]
          exact IH (i + 1) ⟨by omega, (nodup_take hc).2 ⟨hd, he, hg⟩⟩ (by omega)
    · have hc := ge_of_decE len hc
      rw [List.take_of_length_le hc] at hd
      have fin : oneP n = (if 16 < n.deps.length then 5 else 0) := by
        unfold oneP
        rw [if_neg (by rw [hb]; simp), if_neg (not_not_intro hd)]
      (conv => whnf)
      rw [len]
      refine br_intro (fun g2 => ?_) (fun g2 => ?_)
      · (conv => whnf)
        refine h 5 ?_
        rw [fin]
        have : 16 < n.deps.length := by simp at g2; omega
        simp [this]
      · (conv => whnf)
        refine h 0 ?_
        rw [fin]
        have : ¬ 16 < n.deps.length := by simp at g2; omega
        simp [this]

/-! ### maps of texts, whatever stands in them -/
def KeyMap (Pv : AV → Prop) (es : List (ByteArray × AV)) (S : B → Prop) : Prop := ∀ s, (S s → ∃ v, mapFind es (ofB s) = some v ∧ Pv v) ∧ (¬ S s → mapFind es (ofB s) = none)
theorem mapFind_put (es : List (ByteArray × AV)) (k k' : ByteArray) (v : AV) : mapFind (mapPut es k v) k' = if k = k' then some v else mapFind es k' := by
  induction es with
  | nil => simp [mapPut, mapFind]
  | cons e es ih =>
    obtain ⟨s, u⟩ := e
    simp only [mapPut]
    by_cases h : s = k
    · subst h
      rw [if_pos rfl]
      simp only [mapFind]
      split <;> simp_all
    · rw [if_neg h]
      simp only [mapFind, ih]
      by_cases h1 : s = k'
      · subst h1
        rw [if_pos rfl, if_neg (Ne.symm h), if_pos rfl]
      · rw [if_neg h1, if_neg h1]
theorem KeyMap.nil (Pv : AV → Prop) : KeyMap Pv [] fun _ => False := fun s => ⟨fun h => h.elim, fun _ => rfl⟩
theorem KeyMap.put {Pv : AV → Prop} {es : List (ByteArray × AV)} {S S' : B → Prop} (h : KeyMap Pv es S) (k : B) {v : AV} (hv : Pv v) (hS : ∀ s, S' s ↔ S s ∨ s = k) : KeyMap Pv (mapPut es (ofB k) v) S' := by
  intro s
  rw [mapFind_put]
  by_cases e : k = s
  · subst e
    rw [if_pos rfl]
    exact ⟨fun _ => ⟨v, rfl, hv⟩, fun hn => absurd ((hS k).2 (.inr rfl)) hn⟩
  · rw [if_neg (fun e' => e (ofB_inj e'))]
    refine ⟨fun hs => (h s).1 (((hS s).1 hs).resolve_right (fun e' => e e'.symm)), fun hs => (h s).2 fun hs' => hs ((hS s).2 (.inl hs'))⟩

theorem places_calls (l : List Nd) (hl : l.length < 1000000) {R} (h : ∀ es, KeyMap (fun v => ∃ j, v = vi j) es (fun s => s ∈ l.map (·.name)) → R (.mapv 0) [.map es]) : ACalls Try.prog 77 [.sl none 4 (nds l)] [] R := by
  refine acalls_of_xwp (an := an77) tab_ok Try.func77 ?_
  have hsl := nds_length l
  (conv => whnf)
  refine LoopP.ind2 (fun (i : Nat) (es : List (ByteArray × AV)) => [(9, vi i)]) (fun _ es => [(nameOf 6, .map es)]) (fun i _ => l.length - i) (fun i es => i ≤ l.length ∧ KeyMap (fun v => ∃ j, v = vi j) es (fun s => s ∈ (l.take i).map (·.name))) 0 [] rfl ⟨by omega, by simpa using KeyMap.nil _⟩ ?_
  rintro i es ⟨h0, h1⟩ IH
  (conv => whnf)
  refine br_intro (fun hc => ?_) (fun hc => ?_)
  · have hc := lt_of_decE hsl hc
    (conv => whnf); (repeat ((with_reducible refine must_intro ?_ ?_); exact decide_eq_true (by omega); (conv => whnf)))
    refine idxK_map_intro (show (i : Int).toNat < l.length by simpa using hc) ?_
    rw [show l[(i : Int).toNat]'(by simpa using hc) = l[i] from by congr 1]
    (conv => whnf)
    rw [i64_nat (by omega)]
    refine IH (i + 1) (mapPut es (ofB l[i].name) (vi i)) ⟨by omega, ?_⟩ (by omega)
    refine h1.put l[i].name ⟨_, rfl⟩ fun s => ?_
    rw [List.take_succ_eq_append_getElem hc]
    simp only [List.map_append, List.map_cons, List.map_nil, List.mem_append, List.mem_singleton]
  · have hc := ge_of_decE hsl hc
    (conv => whnf)
    refine h es ?_
    rwa [List.take_of_length_le hc] at h1
end Go.Abs
end

section
/- Graphs: the order. -/
set_option maxRecDepth 100000
set_option linter.unusedVariables false
set_option linter.unusedSimpArgs false
namespace Go.Abs
open Go Go.Proofs
attribute [local irreducible] ibits byteAt strLt firstIdx

/-- The name of a place. -/
def nm (l : List Nd) (i : Nat) : B := ((l[i]?).map (·.name)).getD []
theorem nm_eq {l : List Nd} {i : Nat} (h : i < l.length) : nm l i = l[i].name := by simp [nm, List.getElem?_eq_getElem h]
def dps (l : List Nd) (i : Nat) : List B := ((l[i]?).map (·.deps)).getD []
theorem dps_eq {l : List Nd} {i : Nat} (h : i < l.length) : dps l i = l[i].deps := by simp [dps, List.getElem?_eq_getElem h]
def ready (l : List Nd) (D : List B) (i : Nat) : Bool := decide (nm l i ∉ D) && decide (∀ d ∈ dps l i, d ∈ D)
def bstep (l : List Nd) (D : List B) (best : Option Nat) (i : Nat) : Option Nat :=
  if ready l D i = true ∧ (∀ b, best = some b → ltB (nm l i) (nm l b) = true) then some i else best
def best (l : List Nd) (D : List B) (k : Nat) : Option Nat := (List.range k).foldl (bstep l D) none
theorem best_succ (l : List Nd) (D : List B) (k : Nat) : best l D (k + 1) = bstep l D (best l D k) k := by simp [best, List.range_succ]
theorem best_some {l : List Nd} {D : List B} : ∀ {k b : Nat}, best l D k = some b → b < k ∧ ready l D b = true := by
  intro k
  induction k with
  | zero => intro b h; simp [best] at h
  | succ k ih =>
    intro b h
    rw [best_succ] at h
    unfold bstep at h
    split at h
    · rename_i hc
      simp only [Option.some.injEq] at h
      subst h
      exact ⟨by omega, hc.1⟩
    · have := ih h
      exact ⟨by omega, this.2⟩
def bestI (o : Option Nat) : Int := match o with | none => -1 | some b => b
def rowFrom (l : List Nd) : Nat → List Nat → List Nat
  | 0, out => out
  | k + 1, out => match best l (out.map (nm l)) l.length with
    | none => out
    | some b => rowFrom l k (out ++ [b])
def rowP (l : List Nd) : List Nat := rowFrom l l.length []

/-! ### closures over what is done -/
abbrev isT (v : AV) : Prop := v = .val (.bool true)
theorem rowf_calls (s : B) (D : List B) (es : List (ByteArray × AV)) (hk : KeyMap isT es (· ∈ D)) {R} (h : R (.val (.bool (decide (s ∉ D)))) [.cells 71 [.mapv 1], .map es]) :
    ACalls Try.prog 97 [vs s, .ptr 0 0] [.cells 71 [.mapv 1], .map es] R := by
  refine acalls_of_xwp (an := an97) tab_ok Try.func97 ?_
  by_cases hs : s ∈ D
  · obtain ⟨v, h1, rfl⟩ := (hk s).1 hs
    (conv => whnf)
    rw [h1]
    rw [decide_eq_false (not_not_intro hs)] at h
    (conv => whnf)
    exact h
  · have h1 := (hk s).2 hs
    (conv => whnf)
    rw [h1]
    rw [decide_eq_true hs] at h
    (conv => whnf)
    exact h

theorem rowIdx_calls (l : List B) (hl : l.length < 1000000) (D : List B) (es : List (ByteArray × AV)) (hk : KeyMap isT es (· ∈ D)) {R} (h : ∀ p : Int, (0 ≤ p ↔ ∃ d ∈ l, d ∉ D) → R (vi p) [.cells 71 [.mapv 1], .map es]) :
    ACalls Try.prog 109 [.sl none 1 (strs l), .fn (.func 97) [] [.ptr 0 0]] [.cells 71 [.mapv 1], .map es] R := by
  refine acalls_of_xwp (an := an109) tab_ok Try.func109 ?_
  have hsl := strs_length l
  (conv => whnf)
  refine LoopP.ind1 (fun (i : Nat) => [(8, vi i)]) (fun _ => [(0, .cells 71 [.mapv 1]), (1, .map es)]) (fun i => l.length - i) (fun i => i ≤ l.length ∧ ∀ d ∈ l.take i, d ∈ D) 0 rfl ⟨by omega, by simp⟩ ?_
  rintro i ⟨h0, h1⟩ IH
  (conv => whnf)
  refine br_intro (fun hc => ?_) (fun hc => ?_)
  · have hc := lt_of_decE hsl hc
    (conv => whnf); (repeat ((with_reducible refine must_intro ?_ ?_); exact decide_eq_true (by omega); (conv => whnf)))
    refine idxK_map_intro (show (i : Int).toNat < l.length by simpa using hc) ?_
    rw [show l[(i : Int).toNat]'(by simpa using hc) = l[i] from by congr 1]
    (conv => whnf)
    refine rowf_calls l[i] D es hk ?_
    (conv => whnf)
    refine br_intro (fun he => ?_) (fun he => ?_)
    · have he : l[i] ∉ D := of_decide_eq_true he
      (conv => whnf)
      exact h _ ⟨fun _ => ⟨_, List.getElem_mem hc, he⟩, fun _ => by omega⟩
    · have he : l[i] ∈ D := by simpa using he
      (conv => whnf)
      rw [i64_nat (by omega)]
      refine IH (i + 1) ⟨by omega, fun d hd => ?_⟩ (by omega)
      rw [List.take_succ_eq_append_getElem hc, List.mem_append, List.mem_singleton] at hd
      rcases hd with hd | rfl
      · exact h1 d hd
      · exact he
  · have hc := ge_of_decE hsl hc
    rw [List.take_of_length_le hc] at h1
    (conv => whnf)
    exact h (-1) ⟨fun hh => by omega, fun ⟨d, hd, hn⟩ => absurd (h1 d hd) hn⟩

theorem rowAny_calls (l : List B) (hl : l.length < 1000000) (D : List B) (es : List (ByteArray × AV)) (hk : KeyMap isT es (· ∈ D)) {R} (h : ∀ b, b = decide (∃ d ∈ l, d ∉ D) → R (.val (.bool b)) [.cells 71 [.mapv 1], .map es]) :
    ACalls Try.prog 96 [.sl none 1 (strs l), .fn (.func 97) [] [.ptr 0 0]] [.cells 71 [.mapv 1], .map es] R := by
  refine acalls_of_xwp (an := an96) tab_ok Try.func96 ?_
  (conv => whnf)
  refine rowIdx_calls l hl D es hk fun p hp => ?_
  (conv => whnf)
  refine h _ ?_
  exact decide_eq_decide.2 hp

def small (l : List Nd) : Prop := l.length < 100000 ∧ ∀ n ∈ l, n.deps.length < 10000 ∧ n.name.length < 10000 ∧ ∀ d ∈ n.deps, d.length < 10000

theorem row_calls (l : List Nd) (hl : small l) {R} (h : ∀ r, r = rowP l → R (.sl none 1 (ints r)) []) : ACalls Try.prog 71 [.sl none 4 (nds l)] [] R := by
  refine acalls_of_xwp (an := an71) tab_ok Try.func71 ?_
  obtain ⟨hlen, hsm⟩ := hl
  have hsl := nds_length l
  (conv => whnf)
  refine LoopP.ind2 (fun (out : List Nat) (es : List (ByteArray × AV)) => [(4, .sl (some (nameOf 4)) 1 (ints out)), (12, vi out.length)]) (fun out es => [(nameOf 3, .cells 71 [.mapv (nameOf 9)]), (nameOf 4, .row 3 1 out.length), (nameOf 9, .map es)])
    (fun out _ => l.length - out.length) (fun out es => out.length ≤ l.length ∧ rowFrom l (l.length - out.length) out = rowP l ∧ KeyMap isT es (· ∈ out.map (nm l)) ∧ ∀ b ∈ out, b < l.length) [] [] rfl ⟨by simp, rfl, by simpa using KeyMap.nil _, by simp⟩ ?_
  rintro out es ⟨h0, h1, hk, hb⟩ IH
  have hol := ints_length out
  (conv => whnf)
  refine br_intro (fun hc => ?_) (fun hc => ?_)
  · have hc := lt_of_decE hsl hc
    (conv => whnf)
    refine LoopP.ind1 (fun (k : Nat) => [(5, vi (bestI (best l (out.map (nm l)) k))), (16, vi k)]) (fun _ => [(nameOf 3, .cells 71 [.mapv (nameOf 9)]), (nameOf 4, .row 3 1 out.length), (nameOf 9, .map es)]) (fun k => l.length - k) (fun k => k ≤ l.length) 0 rfl (by omega) ?_
    rintro k hk0 IH2
    (conv => whnf)
    refine br_intro (fun hc2 => ?_) (fun hc2 => ?_)
    · have hc2 := lt_of_decE hsl hc2
      (conv => whnf); (repeat ((with_reducible refine must_intro ?_ ?_); exact decide_eq_true (by omega); (conv => whnf)))
      refine idxK_map_intro (show (k : Int).toNat < l.length by simpa using hc2) ?_
      rw [show l[(k : Int).toNat]'(by simpa using hc2) = l[k] from by congr 1]
      (conv => whnf)
      have same : ready l (out.map (nm l)) k = false → bestI (best l (out.map (nm l)) k) = bestI (best l (out.map (nm l)) (k + 1)) := by
        intro hr
        rw [best_succ]
        unfold bstep
        rw [if_neg (by rw [hr]; simp)]
      by_cases hs : l[k].name ∈ out.map (nm l)
      · obtain ⟨v, e1, rfl⟩ := (hk _).1 hs
        have hr : ready l (out.map (nm l)) k = false := by
          unfold ready
          rw [nm_eq hc2, decide_eq_false (not_not_intro hs), Bool.false_and]
        rw [e1, same hr]
        (conv => whnf)
        rw [i64_nat (by omega)]
        exact IH2 (k + 1) (by omega) (by omega)
      · rw [(hk _).2 hs]
        (conv => whnf)
        refine rowAny_calls l[k].deps (by have := (hsm _ (List.getElem_mem hc2)).1; omega) (out.map (nm l)) es hk fun b hbq => ?_
        (conv => whnf)
        refine br_intro (fun hb1 => ?_) (fun hb1 => ?_)
        · have hb1 : b = false := by simpa using hb1
          have hr : ready l (out.map (nm l)) k = true := by
            unfold ready
            rw [nm_eq hc2, dps_eq hc2, decide_eq_true hs, Bool.true_and]
            apply decide_eq_true
            intro d hd
            rw [hb1] at hbq
            have := of_decide_eq_false hbq.symm
            exact Classical.byContradiction fun hn => this ⟨d, hd, hn⟩
          cases hbk : best l (out.map (nm l)) k with
          | none =>
            have e2 : best l (out.map (nm l)) (k + 1) = some k := by
              rw [best_succ, hbk]
              unfold bstep
              rw [if_pos ⟨hr, fun b hb => by cases hb⟩]
            (conv => whnf)
            rw [i64_nat (by omega)]
            have := IH2 (k + 1) (by omega) (by omega)
            rw [e2] at this
            exact this
          | some b0 =>
            obtain ⟨g1, g2⟩ := best_some hbk
            have g1 : b0 < l.length := by omega
            rw [show bestI (some b0) = (b0 : Int) from rfl]
            (conv => whnf); (repeat ((with_reducible refine must_intro ?_ ?_); exact decide_eq_true (by omega); (conv => whnf)))
            refine idxK_map_intro (show (b0 : Int).toNat < l.length by simpa using g1) ?_
            rw [show l[(b0 : Int).toNat]'(by simpa using g1) = l[b0] from by congr 1]
            (conv => whnf)
            rw [strLt_ofB]
            refine br_intro (fun hlt => ?_) (fun hlt => ?_)
            · have e2 : best l (out.map (nm l)) (k + 1) = some k := by
                rw [best_succ, hbk]
                unfold bstep
                rw [if_pos ⟨hr, fun b hb => by cases hb; rw [nm_eq hc2, nm_eq g1]; exact hlt⟩]
              (conv => whnf)
              rw [i64_nat (by omega)]
              have := IH2 (k + 1) (by omega) (by omega)
              rw [e2] at this
              exact this
            · have e2 : best l (out.map (nm l)) (k + 1) = some b0 := by
                rw [best_succ, hbk]
                unfold bstep
                rw [if_neg (fun hh => by have := hh.2 b0 rfl; rw [nm_eq hc2, nm_eq g1, hlt] at this; cases this)]
              (conv => whnf)
              rw [i64_nat (by omega)]
              have := IH2 (k + 1) (by omega) (by omega)
              rw [e2] at this
              exact this
        · have hb1 : b = true := by simpa using hb1
          have hr : ready l (out.map (nm l)) k = false := by
            unfold ready
            rw [dps_eq hc2, Bool.and_eq_false_iff]
            right
            apply decide_eq_false
            intro hall
            rw [hb1] at hbq
            obtain ⟨d, hd, hn⟩ := of_decide_eq_true hbq.symm
            exact hn (hall d hd)
          rw [same hr]
          (conv => whnf)
          rw [i64_nat (by omega)]
          exact IH2 (k + 1) (by omega) (by omega)
    · have hc2 := ge_of_decE hsl hc2
      obtain rfl : k = l.length := by omega
      obtain ⟨j, hj⟩ : ∃ j, l.length - out.length = j + 1 := ⟨l.length - out.length - 1, by omega⟩
      rw [hj, rowFrom] at h1
      cases hbk : best l (out.map (nm l)) l.length with
      | none =>
        rw [hbk] at h1
        (conv => whnf)
        exact h _ h1
      | some b =>
        rw [hbk] at h1
        obtain ⟨g1, g2⟩ := best_some hbk
        rw [show bestI (some b) = (b : Int) from rfl]
        (conv => whnf); (repeat ((with_reducible refine must_intro ?_ ?_); exact decide_eq_true (by omega); (conv => whnf)))
        refine idxK_map_intro (show (b : Int).toNat < l.length by simpa using g1) ?_
        rw [show l[(b : Int).toNat]'(by simpa using g1) = l[b] from by congr 1]
        (conv => whnf)
        refine ⟨hol.symm, ?_, ?_⟩
        · rw [hol]
          show (out.length + 1) * (8 + 1) ≤ _
          omega
        (conv => whnf)
        have e1 : ints out ++ [[AV.val (Value.int IntKind.i64 (b : Int))]] = ints (out ++ [b]) := by simp [ints, vi]
        have e2 : (ints out).length + [[AV.val (Value.int IntKind.i64 (b : Int))]].length = (out ++ [b]).length := by simp [hol]
        rw [e1, e2, i64_nat (by omega), show out.length + 1 = (out ++ [b]).length by simp]
        refine IH (out ++ [b]) (mapPut es (ofB l[b].name) (.val (.bool true))) ⟨by simp; omega, ?_, ?_, ?_⟩ (by simp; omega)
        · rw [← h1]
          congr 1
          simp; omega
        · refine hk.put l[b].name rfl fun s => ?_
          simp only [List.map_append, List.map_cons, List.map_nil, List.mem_append, List.mem_singleton, nm_eq g1]
        · intro x hx
          rw [List.mem_append, List.mem_singleton] at hx
          rcases hx with hx | rfl
          · exact hb x hx
          · exact g1
  · have hc := ge_of_decE hsl hc
    (conv => whnf)
    refine h out ?_
    rw [show l.length - out.length = 0 by omega] at h1
    exact h1
end Go.Abs
end

section
/- Graphs: the document's order. -/
set_option maxRecDepth 100000
set_option linter.unusedVariables false
set_option linter.unusedSimpArgs false
namespace Go.Abs
open Go Go.Proofs
attribute [local irreducible] ibits byteAt strLt firstIdx

theorem nm_inj {l : List Nd} (hd : (l.map (·.name)).Nodup) {i j : Nat} (hi : i < l.length) (hj : j < l.length) (h : nm l i = nm l j) : i = j := by
  rw [nm_eq hi, nm_eq hj] at h
  have h1 : (l.map (·.name))[i]'(by simpa using hi) = (l.map (·.name))[j]'(by simpa using hj) := by simpa using h
  exact (List.getElem_inj hd).1 h1
theorem mem_out {l : List Nd} (hd : (l.map (·.name)).Nodup) {out : List Nat} (hb : ∀ b ∈ out, b < l.length) {i : Nat} (hi : i < l.length) : i ∈ out ↔ l[i].name ∈ out.map (nm l) := by
  rw [List.mem_map]
  constructor
  · exact fun h => ⟨i, h, nm_eq hi⟩
  · rintro ⟨j, hj, e⟩
    rw [← nm_eq hi] at e
    rw [← nm_inj hd (hb j hj) hi e]
    exact hj
/-- Stands the place of a name among the places that are out? -/
theorem place_out {l : List Nd} (hd : (l.map (·.name)).Nodup) {out : List Nat} (hb : ∀ b ∈ out, b < l.length) (d : B) : (∃ i ∈ out, (i : Int) = placeI (l.map (·.name)) d) ↔ d ∈ out.map (nm l) := by
  unfold placeI
  cases e : placeOf (l.map (·.name)) d with
  | none =>
    simp only
    refine ⟨fun ⟨i, _, hi⟩ => by omega, fun h => ?_⟩
    obtain ⟨j, hj, e'⟩ := List.mem_map.1 h
    rw [nm_eq (hb j hj)] at e'
    exact absurd (List.mem_map.2 ⟨_, List.getElem_mem (hb j hj), e'⟩) (placeOf_none.1 e)
  | some p =>
    simp only
    obtain ⟨h1, h2⟩ := placeOf_some e
    have hp : p < l.length := by
      have := (List.getElem?_eq_some_iff.1 h1).1
      simpa using this
    have hn : l[p].name = d := by
      rw [List.getElem?_map, List.getElem?_eq_getElem hp] at h1
      simpa using h1
    rw [← hn, ← mem_out hd hb hp]
    exact ⟨fun ⟨i, hi, e⟩ => by have : i = p := by omega
                                rwa [← this], fun h => ⟨p, h, rfl⟩⟩

theorem refRow_calls (l : List Nd) (hl : small l) (hd : (l.map (·.name)).Nodup) {R} (h : ∀ r, r = rowP l → R (.sl none 1 (ints r)) []) : ACalls Try.prog 48 [.sl none 4 (nds l)] [] R := by
  refine acalls_of_xwp (an := an48) tab_ok Try.func48 ?_
  obtain ⟨hlen, hsm⟩ := hl
  have hsl := nds_length l
  (conv => whnf)
  refine LoopP.ind1 (fun (out : List Nat) => [(3, .sl (some (nameOf 8)) 1 (ints out))]) (fun out => [(nameOf 8, .row 3 1 out.length)])
    (fun out => l.length - out.length) (fun out => out.length ≤ l.length ∧ rowFrom l (l.length - out.length) out = rowP l ∧ out.Nodup ∧ ∀ b ∈ out, b < l.length) [] rfl ⟨by simp, rfl, by simp, by simp⟩ ?_
  rintro out ⟨h0, h1, hnd, hb⟩ IH
  have hol := ints_length out
  (conv => whnf)
  refine LoopP.ind1 (fun (k : Nat) => [(4, vi (bestI (best l (out.map (nm l)) k))), (5, vi k)]) (fun _ => [(nameOf 8, .row 3 1 out.length)]) (fun k => l.length - k) (fun k => k ≤ l.length) 0 rfl (by omega) ?_
  rintro k hk0 IH2
  (conv => whnf)
  refine br_intro (fun hc2 => ?_) (fun hc2 => ?_)
  · have hc2 := lt_of_decE hsl hc2
    have hsl2 := strs_length l[k].deps
    obtain ⟨hs1, hs2, hs3⟩ := hsm _ (List.getElem_mem hc2)
    (conv => whnf)
    refine in_calls out k (by omega) rfl fun b hbq => ?_
    have hbq : b = decide (l[k].name ∈ out.map (nm l)) := by
      rw [hbq]
      apply decide_eq_decide.2
      rw [← mem_out hd hb hc2]
      exact ⟨fun ⟨i, hi, e⟩ => by have : i = k := by omega
                                  rwa [← this], fun h => ⟨k, h, rfl⟩⟩
    (conv => whnf)
    refine LoopP.ind2 (fun (j : Nat) (r : Bool) => [(6, .val (.bool r)), (7, vi j)]) (fun _ _ => [(nameOf 8, .row 3 1 out.length)]) (fun j _ => l[k].deps.length - j)
      (fun j r => j ≤ l[k].deps.length ∧ (r = true ↔ (l[k].name ∉ out.map (nm l) ∧ ∀ d ∈ l[k].deps.take j, d ∈ out.map (nm l)))) 0 (!b) rfl ⟨by omega, by rw [hbq]; simp⟩ ?_
    rintro j r ⟨hj0, hr⟩ IH3
    (conv => whnf); (repeat ((with_reducible refine must_intro ?_ ?_); exact decide_eq_true (by omega); (conv => whnf)))
    refine idxK_map_intro (show (k : Int).toNat < l.length by simpa using hc2) ?_
    rw [show l[(k : Int).toNat]'(by simpa using hc2) = l[k] from by congr 1]
    (conv => whnf)
    refine br_intro (fun hc3 => ?_) (fun hc3 => ?_)
    · have hc3 := lt_of_decE hsl2 hc3
      have hr' : ∀ r' : Bool, (r' = true ↔ (r = true ∧ l[k].deps[j] ∈ out.map (nm l))) → (r' = true ↔ (l[k].name ∉ out.map (nm l) ∧ ∀ d ∈ l[k].deps.take (j + 1), d ∈ out.map (nm l))) := by
        intro r' e
        rw [e, hr, List.take_succ_eq_append_getElem hc3]
        constructor
        · rintro ⟨⟨g1, g2⟩, g3⟩
          refine ⟨g1, fun d hd => ?_⟩
          rw [List.mem_append, List.mem_singleton] at hd
          rcases hd with hd | rfl
          · exact g2 d hd
          · exact g3
        · rintro ⟨g1, g2⟩
          exact ⟨⟨g1, fun d hd => g2 d (List.mem_append_left _ hd)⟩, g2 _ (List.mem_append_right _ (by simp))⟩
      (conv => whnf)
      refine br_intro (fun hc4 => ?_) (fun hc4 => ?_)
      · (conv => whnf); (repeat ((with_reducible refine must_intro ?_ ?_); exact decide_eq_true (by omega); (conv => whnf)))
        refine idxK_map_intro (show (k : Int).toNat < l.length by simpa using hc2) ?_
        rw [show l[(k : Int).toNat]'(by simpa using hc2) = l[k] from by congr 1]
        (conv => whnf); (repeat ((with_reducible refine must_intro ?_ ?_); exact decide_eq_true (by omega); (conv => whnf)))
        refine idxK_map_intro (show (j : Int).toNat < l[k].deps.length by simpa using hc3) ?_
        rw [show l[k].deps[(j : Int).toNat]'(by simpa using hc3) = l[k].deps[j] from by congr 1]
        (conv => whnf)
        refine nPlace_calls l l[k].deps[j] (by omega) rfl fun p hp => ?_
        (conv => whnf)
        refine in_calls out p (by omega) rfl fun b' hb' => ?_
        (conv => whnf)
        rw [i64_nat (by omega)]
        refine IH3 (j + 1) b' ⟨by omega, hr' b' ?_⟩ (by omega)
        rw [hb', decide_eq_true_iff, hp, place_out hd hb]
        exact ⟨fun h => ⟨hc4, h⟩, fun h => h.2⟩
      · (conv => whnf)
        rw [i64_nat (by omega)]
        refine IH3 (j + 1) false ⟨by omega, hr' false ?_⟩ (by omega)
        have hc4 : r = false := hc4
        rw [hc4]
        simp
    · have hc3 := ge_of_decE hsl2 hc3
      rw [List.take_of_length_le hc3] at hr
      have hrr : ready l (out.map (nm l)) k = r := by
        unfold ready
        rw [nm_eq hc2, dps_eq hc2, Bool.eq_iff_iff, Bool.and_eq_true, decide_eq_true_iff, decide_eq_true_iff, hr]
      (conv => whnf)
      refine br_intro (fun hc4 => ?_) (fun hc4 => ?_)
      · have hr2 : ready l (out.map (nm l)) k = true := hrr.trans hc4
        cases hbk : best l (out.map (nm l)) k with
        | none =>
          have e2 : best l (out.map (nm l)) (k + 1) = some k := by
            rw [best_succ, hbk]
            unfold bstep
            rw [if_pos ⟨hr2, fun b hb => by cases hb⟩]
          (conv => whnf)
          rw [i64_nat (by omega)]
          have := IH2 (k + 1) (by omega) (by omega)
          rw [e2] at this
          exact this
        | some b0 =>
          obtain ⟨g1, g2⟩ := best_some hbk
          have g1 : b0 < l.length := by omega
          rw [show bestI (some b0) = (b0 : Int) from rfl]
          (conv => whnf); (repeat ((with_reducible refine must_intro ?_ ?_); exact decide_eq_true (by omega); (conv => whnf)))
          refine idxK_map_intro (show (k : Int).toNat < l.length by simpa using hc2) ?_
          rw [show l[(k : Int).toNat]'(by simpa using hc2) = l[k] from by congr 1]
          (conv => whnf); (repeat ((with_reducible refine must_intro ?_ ?_); exact decide_eq_true (by omega); (conv => whnf)))
          refine idxK_map_intro (show (b0 : Int).toNat < l.length by simpa using g1) ?_
          rw [show l[(b0 : Int).toNat]'(by simpa using g1) = l[b0] from by congr 1]
          (conv => whnf)
          refine Less_calls l[k].name l[b0].name (by omega) (by have := (hsm _ (List.getElem_mem g1)).2.1; omega) fun p hp => ?_
          (conv => whnf)
          refine br_intro (fun hlt => ?_) (fun hlt => ?_)
          · have hlt : p = true := hlt
            have e2 : best l (out.map (nm l)) (k + 1) = some k := by
              rw [best_succ, hbk]
              unfold bstep
              rw [if_pos ⟨hr2, fun b hb => by cases hb; rw [nm_eq hc2, nm_eq g1, ← hp]; exact hlt⟩]
            (conv => whnf)
            rw [i64_nat (by omega)]
            have := IH2 (k + 1) (by omega) (by omega)
            rw [e2] at this
            exact this
          · have hlt : p = false := hlt
            have e2 : best l (out.map (nm l)) (k + 1) = some b0 := by
              rw [best_succ, hbk]
              unfold bstep
              rw [if_neg (fun hh => by have := hh.2 b0 rfl; rw [nm_eq hc2, nm_eq g1, ← hp, hlt] at this; cases this)]
            (conv => whnf)
            rw [i64_nat (by omega)]
            have := IH2 (k + 1) (by omega) (by omega)
            rw [e2] at this
            exact this
      · have hr2 : ready l (out.map (nm l)) k = false := hrr.trans hc4
        have e2 : best l (out.map (nm l)) (k + 1) = best l (out.map (nm l)) k := by
          rw [best_succ]
          unfold bstep
          rw [if_neg (by rw [hr2]; simp)]
        (conv => whnf)
        rw [i64_nat (by omega)]
        have := IH2 (k + 1) (by omega) (by omega)
        rw [e2] at this
        exact this
  · have hc2 := ge_of_decE hsl hc2
    obtain rfl : k = l.length := by omega
    cases hbk : best l (out.map (nm l)) l.length with
    | none =>
      have hr : rowFrom l (l.length - out.length) out = out := by
        cases l.length - out.length with
        | zero => rfl
        | succ j => rw [rowFrom, hbk]
      (conv => whnf)
      exact h _ (hr.symm.trans h1)
    | some b =>
      obtain ⟨g1, g2⟩ := best_some hbk
      have hbn : b ∉ out := by
        unfold ready at g2
        rw [Bool.and_eq_true, decide_eq_true_iff, nm_eq g1] at g2
        intro hm
        exact g2.1 ((mem_out hd hb g1).1 hm)
      have hlt : out.length < l.length := by
        have hnd' : (b :: out).Nodup := List.nodup_cons.2 ⟨hbn, hnd⟩
        have hsub : (b :: out) ⊆ List.range l.length := by
          intro x hx
          rw [List.mem_cons] at hx
          rcases hx with rfl | hx
          · exact List.mem_range.2 g1
          · exact List.mem_range.2 (hb x hx)
        have := hnd'.length_le_of_subset hsub
        rw [List.length_range, List.length_cons] at this
        omega
      obtain ⟨j, hj⟩ : ∃ j, l.length - out.length = j + 1 := ⟨l.length - out.length - 1, by omega⟩
      rw [hj, rowFrom, hbk] at h1
      rw [show bestI (some b) = (b : Int) from rfl]
      (conv => whnf)
      refine ⟨hol.symm, ?_, ?_⟩
      · rw [hol]
        show (out.length + 1) * (8 + 1) ≤ _
        omega
      (conv => whnf)
      have e1 : ints out ++ [[AV.val (Value.int IntKind.i64 (b : Int))]] = ints (out ++ [b]) := by simp [ints, vi]
      have e2 : (ints out).length + [[AV.val (Value.int IntKind.i64 (b : Int))]].length = (out ++ [b]).length := by simp [hol]
      rw [e1, e2]
      refine IH (out ++ [b]) ⟨by simp; omega, ?_, ?_, ?_⟩ (by simp; omega)
      · rw [← h1]
        congr 1
        simp; omega
      · rw [List.nodup_append]
        exact ⟨hnd, by simp, fun x hx y hy e => hbn (by rw [List.mem_singleton] at hy; rw [← hy, ← e]; exact hx)⟩
      · intro x hx
        rw [List.mem_append, List.mem_singleton] at hx
        rcases hx with hx | rfl
        · exact hb x hx
        · exact g1
end Go.Abs
end

section
/- Graphs: what is wrong with nodes. -/
set_option maxRecDepth 100000
set_option linter.unusedVariables false
set_option linter.unusedSimpArgs false
namespace Go.Abs
open Go Go.Proofs
attribute [local irreducible] ibits byteAt strLt firstIdx

/-- What is wrong with nodes, one by one. -/
def chk1 : List Nd → List B → Int
  | [], _ => 0
  | n :: r, seen => if n.name ∈ seen then 1 else if oneP n ≠ 0 then oneP n else chk1 r (seen ++ [n.name])
def depsOk (l : List Nd) : Bool := l.all fun n => n.deps.all fun d => decide (d ∈ l.map (·.name))
def checkP (l : List Nd) : Int := if 64 < l.length then 5 else if chk1 l [] ≠ 0 then chk1 l [] else if depsOk l = false then 6 else if (rowP l).length < l.length then 9 else 0
theorem chk1_nodup : ∀ (l : List Nd) (seen : List B), chk1 l seen = 0 → (l.map (·.name)).Nodup ∧ ∀ n ∈ l, n.name ∉ seen := by
  intro l
  induction l with
  | nil => intro seen _; simp
  | cons n r ih =>
    intro seen h
    unfold chk1 at h
    split at h
    · cases h
    · rename_i hn
      split at h
      · rename_i h0; exact absurd h h0
      · obtain ⟨h1, h2⟩ := ih _ h
        refine ⟨?_, fun m hm => ?_⟩
        · rw [List.map_cons, List.nodup_cons]
          refine ⟨fun hm => ?_, h1⟩
          obtain ⟨m, hm, e⟩ := List.mem_map.1 hm
          exact h2 m hm (by rw [e]; simp)
        · rw [List.mem_cons] at hm
          rcases hm with rfl | hm
          · exact hn
          · exact fun hs => h2 m hm (by simp [hs])
/-- On from a place. -/
theorem chk1_drop {l : List Nd} {i : Nat} (hi : i < l.length) (seen : List B) : chk1 (l.drop i) seen = if l[i].name ∈ seen then 1 else if oneP l[i] ≠ 0 then oneP l[i] else chk1 (l.drop (i + 1)) (seen ++ [l[i].name]) := by
  rw [List.drop_eq_getElem_cons hi, chk1]
def names (l : List Nd) : List B := l.map (·.name)
theorem names_take {l : List Nd} {i : Nat} (hi : i < l.length) : names (l.take (i + 1)) = names (l.take i) ++ [l[i].name] := by
  unfold names
  rw [List.take_succ_eq_append_getElem hi, List.map_append]
  rfl

theorem depsOk_false {l : List Nd} {i j : Nat} (hi : i < l.length) (hj : j < l[i].deps.length) (h : l[i].deps[j] ∉ names l) : depsOk l = false := by
  unfold depsOk
  apply Bool.eq_false_iff.2
  intro hall
  have := List.all_eq_true.1 (List.all_eq_true.1 hall _ (List.getElem_mem hi)) _ (List.getElem_mem hj)
  exact h (of_decide_eq_true this)
theorem depsOk_true {l : List Nd} (h : ∀ n ∈ l, ∀ d ∈ n.deps, d ∈ names l) : depsOk l = true := by
  unfold depsOk
  rw [List.all_eq_true]
  intro n hn
  rw [List.all_eq_true]
  intro d hd
  exact decide_eq_true (h n hn d hd)


theorem Check_calls (l : List Nd) (hl : small l) {R} (h : ∀ e, e = checkP l → R (vi e) []) : ACalls Try.prog 46 [.sl none 4 (nds l)] [] R := by
  refine acalls_of_xwp (an := an46) tab_ok Try.func46 ?_
  have hl' := hl
  obtain ⟨hlen, hsm⟩ := hl
  have hsl := nds_length l
  (conv => whnf)
  refine br_intro (fun hc => ?_) (fun hc => ?_)
  · (conv => whnf)
    refine h 5 ?_
    have : 64 < l.length := by rw [hsl] at hc; simp at hc; omega
    simp [checkP, this]
  have h64 : ¬ 64 < l.length := by rw [hsl] at hc; simp at hc; omega
  have bad1 : ∀ e, e ≠ 0 → chk1 l [] = e → R (vi e) [] := fun e hb he => h _ (by unfold checkP; rw [if_neg h64, if_pos (by rw [he]; exact hb), he])
  (conv => whnf)
  refine New_nil ?_
  (conv => whnf)
  refine LoopP.step ?_
  (conv => whnf)
  refine br_intro (fun hc => ?_) (fun hc => ?_)
  · have hc : 0 < l.length := lt_of_decE (i := 0) hsl hc
    obtain ⟨hs1, hs2, hs3⟩ := hsm _ (List.getElem_mem hc)
    have hd0 := chk1_drop hc []
    rw [List.drop_zero, if_neg (by simp)] at hd0
    (conv => whnf); (repeat ((with_reducible refine must_intro ?_ ?_); exact decide_eq_true (by omega); (conv => whnf)))
    refine idxK_map_intro (show (0 : Int).toNat < l.length by simpa using hc) ?_
    rw [show l[(0 : Int).toNat]'(by simpa using hc) = l[0] from by congr 1]
    (conv => whnf)
    refine ID_new l[0].name ?_
    (conv => whnf)
    refine one_calls l[0] (by omega) fun e he => ?_
    (conv => whnf)
    refine br_intro (fun g => ?_) (fun g => ?_)
    · have g : e ≠ 0 := by simpa using g
      (conv => whnf)
      exact bad1 e g (by rw [hd0, ← he, if_pos g])
    · have g : e = 0 := by simpa using g
      rw [← he, if_neg (by rw [g]; simp)] at hd0
      have e0 : names (l.take 1) = [l[0].name] := names_take (i := 0) hc
      (conv => whnf)
      refine LoopP.ind1 (fun (i : Nat) => [(22, vi i)]) (fun i => [(freshN 19 0, tblO (freshN 30 0) (freshN 30 1) (names (l.take i))), (freshN 30 0, tblR (names (l.take i))), (freshN 30 1, tblM (names (l.take i)))]) (fun i => l.length - i) (fun i => i ≤ l.length ∧ chk1 (l.drop i) (names (l.take i)) = chk1 l []) 1 ?_ ⟨by omega, ?_⟩ ?_
      · rw [e0]; rfl
      · rw [e0]; exact hd0.symm
      rintro i ⟨h0, hch⟩ IH
      have hnl : (names (l.take i)).length ≤ l.length := by simp [names]; omega
      (conv => whnf)
      refine br_intro (fun hc => ?_) (fun hc => ?_)
      · have hc := lt_of_decE hsl hc
        obtain ⟨hs1, hs2, hs3⟩ := hsm _ (List.getElem_mem hc)
        rw [chk1_drop hc] at hch
        (conv => whnf); (repeat ((with_reducible refine must_intro ?_ ?_); exact decide_eq_true (by omega); (conv => whnf)))
        refine idxK_map_intro (show (i : Int).toNat < l.length by simpa using hc) ?_
        rw [show l[(i : Int).toNat]'(by simpa using hc) = l[i] from by congr 1]
        (conv => whnf)
        by_cases hm : l[i].name ∈ names (l.take i)
        · rw [if_pos hm] at hch
          refine ID_old _ _ hm fun j => ?_
          (conv => whnf)
          exact bad1 1 (by omega) hch.symm
        · rw [if_neg hm] at hch
          refine ID_more _ _ (by omega) hm fun j => ?_
          (conv => whnf)
          refine one_calls l[i] (by omega) fun e he => ?_
          rw [← he] at hch
          (conv => whnf)
          refine br_intro (fun g => ?_) (fun g => ?_)
          · have g : e ≠ 0 := by simpa using g
            rw [if_pos g] at hch
            (conv => whnf)
            exact bad1 e g hch.symm
          · have g : e = 0 := by simpa using g
            rw [if_neg (by rw [g]; simp), ← names_take hc] at hch
            (conv => whnf)
            rw [i64_nat (by omega), ← names_take hc]
            exact IH (i + 1) ⟨by omega, hch⟩ (by omega)
      · have hc := ge_of_decE hsl hc
        rw [List.drop_eq_nil_of_le hc, chk1] at hch
        have hchk := hch.symm
        (conv => whnf)
        refine places_calls l (by omega) fun es hes => ?_
        (conv => whnf)
        refine LoopP.ind1 (fun (i : Nat) => [(45, vi i)]) (fun _ => [(freshN 42 0, .map es)]) (fun i => l.length - i) (fun i => i ≤ l.length ∧ ∀ n ∈ l.take i, ∀ d ∈ n.deps, d ∈ names l) 0 rfl ⟨by omega, by simp⟩ ?_
        rintro i ⟨h0, hdo⟩ IH
        (conv => whnf)
        refine br_intro (fun hc => ?_) (fun hc => ?_)
        · have hc := lt_of_decE hsl hc
          have hsl3 := strs_length l[i].deps
          obtain ⟨hs1, hs2, hs3⟩ := hsm _ (List.getElem_mem hc)
          (conv => whnf); (repeat ((with_reducible refine must_intro ?_ ?_); exact decide_eq_true (by omega); (conv => whnf)))
          refine idxK_map_intro (show (i : Int).toNat < l.length by simpa using hc) ?_
          rw [show l[(i : Int).toNat]'(by simpa using hc) = l[i] from by congr 1]
          (conv => whnf)
          refine LoopP.ind1 (fun (j : Nat) => [(52, vi j)]) (fun _ => [(freshN 42 0, .map es)]) (fun j => l[i].deps.length - j) (fun j => j ≤ l[i].deps.length ∧ ∀ d ∈ l[i].deps.take j, d ∈ names l) 0 rfl ⟨by omega, by simp⟩ ?_
          rintro j ⟨hj0, hjo⟩ IH2
          (conv => whnf)
          refine br_intro (fun hc2 => ?_) (fun hc2 => ?_)
          · have hc2 := lt_of_decE hsl3 hc2
            (conv => whnf); (repeat ((with_reducible refine must_intro ?_ ?_); exact decide_eq_true (by omega); (conv => whnf)))
            refine idxK_map_intro (show (j : Int).toNat < l[i].deps.length by simpa using hc2) ?_
            rw [show l[i].deps[(j : Int).toNat]'(by simpa using hc2) = l[i].deps[j] from by congr 1]
            (conv => whnf)
            by_cases hm : l[i].deps[j] ∈ names l
            · obtain ⟨v, e1, x, rfl⟩ := (hes _).1 hm
              rw [e1]
              (conv => whnf)
              rw [i64_nat (by omega)]
              refine IH2 (j + 1) ⟨by omega, fun d hd => ?_⟩ (by omega)
              rw [List.take_succ_eq_append_getElem hc2, List.mem_append, List.mem_singleton] at hd
              rcases hd with hd | rfl
              · exact hjo d hd
              · exact hm
            · rw [(hes _).2 hm]
              (conv => whnf)
              refine h 6 ?_
              unfold checkP
              rw [if_neg h64, if_neg (by rw [hchk]; simp), if_pos (depsOk_false hc hc2 hm)]
          · have hc2 := ge_of_decE hsl3 hc2
            rw [List.take_of_length_le hc2] at hjo
            (conv => whnf)
            rw [i64_nat (by omega)]
            refine IH (i + 1) ⟨by omega, fun n hn => ?_⟩ (by omega)
            rw [List.take_succ_eq_append_getElem hc, List.mem_append, List.mem_singleton] at hn
            rcases hn with hn | rfl
            · exact hdo n hn
            · exact hjo
        · have hc := ge_of_decE hsl hc
          rw [List.take_of_length_le hc] at hdo
          (conv => whnf)
          refine row_calls l hl' fun r hr => ?_
          have hrl := ints_length r
          have fin : checkP l = if r.length < l.length then 9 else 0 := by
            unfold checkP
            rw [if_neg h64, if_neg (by rw [hchk]; simp), if_neg (by rw [depsOk_true hdo]; simp), hr]
          (conv => whnf)
          rw [hrl, hsl]
          refine br_intro (fun g2 => ?_) (fun g2 => ?_)
          · (conv => whnf)
            exact h 9 (by rw [fin, if_pos (lt_of_dec g2)])
          · (conv => whnf)
            exact h 0 (by rw [fin, if_neg (by have := ge_of_dec g2; omega)])
  · have hc : l.length ≤ 0 := ge_of_decE (i := 0) hsl hc
    have hnil : l = [] := List.eq_nil_of_length_eq_zero (by omega)
    have hchk : chk1 l [] = 0 := by rw [hnil]; rfl
    (conv => whnf)
    refine places_calls l (by omega) fun es hes => ?_
    (conv => whnf)
    refine LoopP.ind1 (fun (i : Nat) => [(45, vi i)]) (fun _ => [(freshN 42 0, .map es)]) (fun i => l.length - i) (fun i => i ≤ l.length ∧ ∀ n ∈ l.take i, ∀ d ∈ n.deps, d ∈ names l) 0 rfl ⟨by omega, by simp⟩ ?_
    rintro i ⟨h0, hdo⟩ IH
    (conv => whnf)
    refine br_intro (fun hc => ?_) (fun hc => ?_)
    · have hc := lt_of_decE hsl hc
      have hsl3 := strs_length l[i].deps
      obtain ⟨hs1, hs2, hs3⟩ := hsm _ (List.getElem_mem hc)
      (conv => whnf); (repeat ((with_reducible refine must_intro ?_ ?_); exact decide_eq_true (by omega); (conv => whnf)))
      refine idxK_map_intro (show (i : Int).toNat < l.length by simpa using hc) ?_
      rw [show l[(i : Int).toNat]'(by simpa using hc) = l[i] from by congr 1]
      (conv => whnf)
      refine LoopP.ind1 (fun (j : Nat) => [(52, vi j)]) (fun _ => [(freshN 42 0, .map es)]) (fun j => l[i].deps.length - j) (fun j => j ≤ l[i].deps.length ∧ ∀ d ∈ l[i].deps.take j, d ∈ names l) 0 rfl ⟨by omega, by simp⟩ ?_
      rintro j ⟨hj0, hjo⟩ IH2
      (conv => whnf)
      refine br_intro (fun hc2 => ?_) (fun hc2 => ?_)
      · have hc2 := lt_of_decE hsl3 hc2
        (conv => whnf); (repeat ((with_reducible refine must_intro ?_ ?_); exact decide_eq_true (by omega); (conv => whnf)))
        refine idxK_map_intro (show (j : Int).toNat < l[i].deps.length by simpa using hc2) ?_
        rw [show l[i].deps[(j : Int).toNat]'(by simpa using hc2) = l[i].deps[j] from by congr 1]
        (conv => whnf)
        by_cases hm : l[i].deps[j] ∈ names l
        · obtain ⟨v, e1, x, rfl⟩ := (hes _).1 hm
          rw [e1]
          (conv => whnf)
          rw [i64_nat (by omega)]
          refine IH2 (j + 1) ⟨by omega, fun d hd => ?_⟩ (by omega)
          rw [List.take_succ_eq_append_getElem hc2, List.mem_append, List.mem_singleton] at hd
          rcases hd with hd | rfl
          · exact hjo d hd
          · exact hm
        · rw [(hes _).2 hm]
          (conv => whnf)
          refine h 6 ?_
          unfold checkP
          rw [if_neg h64, if_neg (by rw [hchk]; simp), if_pos (depsOk_false hc hc2 hm)]
      · have hc2 := ge_of_decE hsl3 hc2
        rw [List.take_of_length_le hc2] at hjo
        (conv => whnf)
        rw [i64_nat (by omega)]
        refine IH (i + 1) ⟨by omega, fun n hn => ?_⟩ (by omega)
        rw [List.take_succ_eq_append_getElem hc, List.mem_append, List.mem_singleton] at hn
        rcases hn with hn | rfl
        · exact hdo n hn
        · exact hjo
    · have hc := ge_of_decE hsl hc
      rw [List.take_of_length_le hc] at hdo
      (conv => whnf)
      refine row_calls l hl' fun r hr => ?_
      have hrl := ints_length r
      have fin : checkP l = if r.length < l.length then 9 else 0 := by
        unfold checkP
        rw [if_neg h64, if_neg (by rw [hchk]; simp), if_neg (by rw [depsOk_true hdo]; simp), hr]
      (conv => whnf)
      rw [hrl, hsl]
      refine br_intro (fun g2 => ?_) (fun g2 => ?_)
      · (conv => whnf)
        exact h 9 (by rw [fin, if_pos (lt_of_dec g2)])
      · (conv => whnf)
        exact h 0 (by rw [fin, if_neg (by have := ge_of_dec g2; omega)])
end Go.Abs
end

section
/- The statement GraphChecks: the document's check, the order, the statement. -/
set_option maxRecDepth 100000
set_option linter.unusedVariables false
set_option linter.unusedSimpArgs false
namespace Go.Abs
open Go Go.Proofs
attribute [local irreducible] ibits byteAt strLt firstIdx

theorem refCheck_calls (l : List Nd) (hl : small l) {R} (h : ∀ e, e = checkP l → R (vi e) []) : ACalls Try.prog 45 [.sl none 4 (nds l)] [] R := by
  refine acalls_of_xwp (an := an45) tab_ok Try.func45 ?_
  have hl' := hl
  obtain ⟨hlen, hsm⟩ := hl
  have hsl := nds_length l
  (conv => whnf)
  refine br_intro (fun hc => ?_) (fun hc => ?_)
  · (conv => whnf)
    refine h 5 ?_
    have : 64 < l.length := by rw [hsl] at hc; simp at hc; omega
    simp [checkP, this]
  have h64 : ¬ 64 < l.length := by rw [hsl] at hc; simp at hc; omega
  have bad1 : ∀ e, e ≠ 0 → chk1 l [] = e → R (vi e) [] := fun e hb he => h _ (by unfold checkP; rw [if_neg h64, if_pos (by rw [he]; exact hb), he])
  (conv => whnf)
  refine LoopP.ind1 (fun (i : Nat) => [(3, vi i)]) (fun i => []) (fun i => l.length - i) (fun i => i ≤ l.length ∧ chk1 (l.drop i) (names (l.take i)) = chk1 l []) 0 rfl ⟨by omega, by simp [names]⟩ ?_
  rintro i ⟨h0, hch⟩ IH
  (conv => whnf)
  refine br_intro (fun hc => ?_) (fun hc => ?_)
  · have hc := lt_of_decE hsl hc
    obtain ⟨hs1, hs2, hs3⟩ := hsm _ (List.getElem_mem hc)
    rw [chk1_drop hc] at hch
    (conv => whnf); (repeat ((with_reducible refine must_intro ?_ ?_); exact decide_eq_true (by omega); (conv => whnf)))
    refine idxK_map_intro (show (i : Int).toNat < l.length by simpa using hc) ?_
    rw [show l[(i : Int).toNat]'(by simpa using hc) = l[i] from by congr 1]
    (conv => whnf)
    refine nPlace_calls (l.take i) l[i].name (by simp; omega) (by simp [nds, List.map_take]) fun p hp => ?_
    have hp : p = placeI (names (l.take i)) l[i].name := hp
    (conv => whnf)
    refine br_intro (fun hg => ?_) (fun hg => ?_)
    · have hm : l[i].name ∈ names (l.take i) := by
        have : 0 ≤ p := by simpa using hg
        rw [hp] at this
        exact Classical.byContradiction fun e => by have := placeI_neg.2 e; omega
      rw [if_pos hm] at hch
      (conv => whnf)
      exact bad1 1 (by omega) hch.symm
    · have hm : l[i].name ∉ names (l.take i) := by
        have : p < 0 := by simpa using hg
        rw [hp] at this
        exact placeI_neg.1 this
      rw [if_neg hm] at hch
      (conv => whnf); (repeat ((with_reducible refine must_intro ?_ ?_); exact decide_eq_true (by omega); (conv => whnf)))
      refine idxK_map_intro (show (i : Int).toNat < l.length by simpa using hc) ?_
      rw [show l[(i : Int).toNat]'(by simpa using hc) = l[i] from by congr 1]
      (conv => whnf)
      refine refOne_calls l[i] (by omega) fun e he => ?_
      rw [← he] at hch
      (conv => whnf)
      refine br_intro (fun g => ?_) (fun g => ?_)
      · have g : e ≠ 0 := by simpa using g
        rw [if_pos g] at hch
        (conv => whnf)
        exact bad1 e g hch.symm
      · have g : e = 0 := by simpa using g
        rw [if_neg (by rw [g]; simp), ← names_take hc] at hch
        (conv => whnf)
        rw [i64_nat (by omega)]
        exact IH (i + 1) ⟨by omega, hch⟩ (by omega)
  · have hc := ge_of_decE hsl hc
    rw [List.drop_eq_nil_of_le hc, chk1] at hch
    have hchk := hch.symm
    clear IH
    (conv => whnf)
    refine LoopP.ind1 (fun (i : Nat) => [(5, vi i)]) (fun _ => []) (fun i => l.length - i) (fun i => i ≤ l.length ∧ ∀ n ∈ l.take i, ∀ d ∈ n.deps, d ∈ names l) 0 rfl ⟨by omega, by simp⟩ ?_
    rintro i ⟨h0, hdo⟩ IH
    (conv => whnf)
    refine br_intro (fun hc => ?_) (fun hc => ?_)
    · have hc := lt_of_decE hsl hc
      have hsl3 := strs_length l[i].deps
      obtain ⟨hs1, hs2, hs3⟩ := hsm _ (List.getElem_mem hc)
      (conv => whnf)
      refine LoopP.ind1 (fun (j : Nat) => [(6, vi j)]) (fun _ => []) (fun j => l[i].deps.length - j) (fun j => j ≤ l[i].deps.length ∧ ∀ d ∈ l[i].deps.take j, d ∈ names l) 0 rfl ⟨by omega, by simp⟩ ?_
      rintro j ⟨hj0, hjo⟩ IH2
      (conv => whnf); (repeat ((with_reducible refine must_intro ?_ ?_); exact decide_eq_true (by omega); (conv => whnf)))
      refine idxK_map_intro (show (i : Int).toNat < l.length by simpa using hc) ?_
      rw [show l[(i : Int).toNat]'(by simpa using hc) = l[i] from by congr 1]
      (conv => whnf)
      refine br_intro (fun hc2 => ?_) (fun hc2 => ?_)
      · have hc2 := lt_of_decE hsl3 hc2
        (conv => whnf); (repeat ((with_reducible refine must_intro ?_ ?_); exact decide_eq_true (by omega); (conv => whnf)))
        refine idxK_map_intro (show (i : Int).toNat < l.length by simpa using hc) ?_
        rw [show l[(i : Int).toNat]'(by simpa using hc) = l[i] from by congr 1]
        (conv => whnf); (repeat ((with_reducible refine must_intro ?_ ?_); exact decide_eq_true (by omega); (conv => whnf)))
        refine idxK_map_intro (show (j : Int).toNat < l[i].deps.length by simpa using hc2) ?_
        rw [show l[i].deps[(j : Int).toNat]'(by simpa using hc2) = l[i].deps[j] from by congr 1]
        (conv => whnf)
        refine nPlace_calls l l[i].deps[j] (by omega) rfl fun p hp => ?_
        have hp : p = placeI (names l) l[i].deps[j] := hp
        (conv => whnf)
        refine br_intro (fun hg => ?_) (fun hg => ?_)
        · have hm : l[i].deps[j] ∉ names l := by
            have : p < 0 := by simpa using hg
            rw [hp] at this
            exact placeI_neg.1 this
          (conv => whnf)
          refine h 6 ?_
          unfold checkP
          rw [if_neg h64, if_neg (by rw [hchk]; simp), if_pos (depsOk_false hc hc2 hm)]
        · have hm : l[i].deps[j] ∈ names l := by
            have : 0 ≤ p := by simpa using hg
            rw [hp] at this
            exact Classical.byContradiction fun e => by have := placeI_neg.2 e; omega
          (conv => whnf)
          rw [i64_nat (by omega)]
          refine IH2 (j + 1) ⟨by omega, fun d hd => ?_⟩ (by omega)
          rw [List.take_succ_eq_append_getElem hc2, List.mem_append, List.mem_singleton] at hd
          rcases hd with hd | rfl
          · exact hjo d hd
          · exact hm
      · have hc2 := ge_of_decE hsl3 hc2
        rw [List.take_of_length_le hc2] at hjo
        (conv => whnf)
        rw [i64_nat (by omega)]
        refine IH (i + 1) ⟨by omega, fun n hn => ?_⟩ (by omega)
        rw [List.take_succ_eq_append_getElem hc, List.mem_append, List.mem_singleton] at hn
        rcases hn with hn | rfl
        · exact hdo n hn
        · exact hjo
    · have hc := ge_of_decE hsl hc
      rw [List.take_of_length_le hc] at hdo
      (conv => whnf)
      refine refRow_calls l hl' (chk1_nodup l [] hchk).1 fun r hr => ?_
      have hrl := ints_length r
      have fin : checkP l = if r.length < l.length then 9 else 0 := by
        unfold checkP
        rw [if_neg h64, if_neg (by rw [hchk]; simp), if_neg (by rw [depsOk_true hdo]; simp), hr]
      (conv => whnf)
      rw [hrl, hsl]
      refine br_intro (fun g2 => ?_) (fun g2 => ?_)
      · (conv => whnf)
        exact h 9 (by rw [fin, if_pos (lt_of_dec g2)])
      · (conv => whnf)
        exact h 0 (by rw [fin, if_neg (by have := ge_of_dec g2; omega)])

/-- The order, or none. -/
def orderP (l : List Nd) : List Nat := if checkP l = 0 then rowP l else []
theorem Order_calls (l : List Nd) (hl : small l) {R} (h : ∀ o e, o = orderP l → e = checkP l → R (.tup [.sl none 1 (ints o), vi e]) []) : ACalls Try.prog 44 [.sl none 4 (nds l)] [] R := by
  refine ACalls.res ?_
  refine acalls_of_xwp (an := an44) tab_ok Try.func44 ?_
  (conv => whnf)
  refine Check_calls l hl fun e he => ?_
  (conv => whnf)
  refine br_intro (fun g => ?_) (fun g => ?_)
  · have g : e ≠ 0 := by simpa using g
    (conv => whnf)
    refine res_le (le_tup (leL.cons (le_nil 1) (leL.cons (.refl _) leL.nil))) rfl (h [] e ?_ he)
    unfold orderP
    rw [← he, if_neg g]
  · have g : e = 0 := by simpa using g
    (conv => whnf)
    refine row_calls l hl fun r hr => ?_
    (conv => whnf)
    refine res_same ?_
    have := h r 0 (by unfold orderP; rw [← he, if_pos g, hr]) (by rw [← he, g])
    exact this

theorem Same_calls (a b : List Nat) (ha : a.length < 1000000) {R} (h : ∀ p, p = decide (a = b) → R (.val (.bool p)) []) : ACalls Try.prog 47 [.sl none 1 (ints a), .sl none 1 (ints b)] [] R := by
  refine acalls_of_xwp (an := an47) tab_ok Try.func47 ?_
  have hsa := ints_length a
  have hsb := ints_length b
  (conv => whnf)
  rw [hsa, hsb]
  refine br_intro (fun hc => ?_) (fun hc => ?_)
  · (conv => whnf)
    refine h false (decide_eq_false ?_).symm
    rintro rfl
    simp at hc
  have hlen : a.length = b.length := by simp at hc; omega
  (conv => whnf)
  refine LoopP.ind1 (fun (i : Nat) => [(5, vi i)]) (fun _ => []) (fun i => a.length - i) (fun i => i ≤ a.length ∧ a.take i = b.take i) 0 rfl ⟨by omega, by simp⟩ ?_
  rintro i ⟨h0, h1⟩ IH
  (conv => whnf)
  refine br_intro (fun hc => ?_) (fun hc => ?_)
  · have hc := lt_of_decE hsa hc
    have hcb : i < b.length := by omega
    (conv => whnf); (repeat ((with_reducible refine must_intro ?_ ?_); exact decide_eq_true (by omega); (conv => whnf)))
    refine idxK_map_intro (show (i : Int).toNat < a.length by simpa using hc) ?_
    rw [show a[(i : Int).toNat]'(by simpa using hc) = a[i] from by congr 1]
    (conv => whnf); (repeat ((with_reducible refine must_intro ?_ ?_); exact decide_eq_true (by omega); (conv => whnf)))
    refine idxK_map_intro (show (i : Int).toNat < b.length by simpa using hcb) ?_
    rw [show b[(i : Int).toNat]'(by simpa using hcb) = b[i] from by congr 1]
    (conv => whnf)
    refine br_intro (fun he => ?_) (fun he => ?_)
    · have he : ¬ ((a[i] : Nat) : Int) = ((b[i] : Nat) : Int) := by simpa using he
      have he : a[i] ≠ b[i] := fun e => he (by rw [e])
      (conv => whnf)
      refine h false (decide_eq_false ?_).symm
      rintro rfl
      exact he rfl
    · have he : ((a[i] : Nat) : Int) = ((b[i] : Nat) : Int) := by simpa using he
      have he : a[i] = b[i] := by omega
      (conv => whnf)
      rw [i64_nat (by omega)]
      refine IH (i + 1) ⟨by omega, ?_⟩ (by omega)
      rw [List.take_succ_eq_append_getElem hc, List.take_succ_eq_append_getElem hcb, h1, he]
  · have hc := ge_of_decE hsa hc
    rw [List.take_of_length_le hc, List.take_of_length_le (by omega)] at h1
    (conv => whnf)
    exact h true (decide_eq_true h1).symm

def fixNd : List Nd := [⟨[98], false, 0, [[97]]⟩, ⟨[97], true, 0, []⟩]
theorem fix_order : orderP fixNd = [1, 0] := by decide +kernel
theorem fix_check : checkP fixNd = 0 := by decide +kernel
theorem fix_small : small fixNd := by
  refine ⟨by decide, ?_⟩
  simp [fixNd]
theorem gfixed_calls {R} (h : R (.val (.bool true)) []) : ACalls Try.prog 43 [] [] R := by
  refine acalls_of_xwp (an := an43) tab_ok Try.func43 ?_
  (conv => whnf)
  refine ACalls.args ?_ (Order_calls fixNd fix_small fun o e ho he => ?_)
  · refine leL.cons (le_sl _ _ (leE.cons (leL.refl _) rfl (leE.cons ?_ rfl leE.nil))) leL.nil
    exact leL.cons (.refl _) (leL.cons (.refl _) (leL.cons (.refl _) (leL.cons (le_nil 1) leL.nil)))
  rw [fix_order] at ho
  rw [fix_check] at he
  subst ho he
  (conv => whnf)
  refine Same_calls [1, 0] [1, 0] (by simp) fun p hp => ?_
  have hp : p = true := by rw [hp]; decide
  subst hp
  (conv => whnf)
  exact h

/-- What is not too great is small. -/
theorem Great_calls (l : List Nd) (hl : l.length ≤ maxLen) (hn : ∀ n ∈ l, n.deps.length ≤ maxLen) {R} (h : ∀ b : Bool, (b = false → l.length ≤ 80 ∧ ∀ n ∈ l, n.deps.length ≤ 30 ∧ n.name.length ≤ 100 ∧ ∀ d ∈ n.deps, d.length ≤ 100) → R (.val (.bool b)) []) :
    ACalls Try.prog 42 [.sl none 4 (nds l)] [] R := by
  refine acalls_of_xwp (an := an42) tab_ok Try.func42 ?_
  have hsl := nds_length l
  have yes : R (.val (.bool true)) [] := h true (fun e => by cases e)
  (conv => whnf)
  refine LoopP.ind1 (fun (i : Nat) => [(9, vi i)]) (fun _ => []) (fun i => l.length - i) (fun i => i ≤ l.length ∧ ∀ n ∈ l.take i, n.deps.length ≤ 30 ∧ n.name.length ≤ 100 ∧ ∀ d ∈ n.deps, d.length ≤ 100) 0 rfl ⟨by omega, by simp⟩ ?_
  rintro i ⟨h0, hdo⟩ IH
  (conv => whnf)
  refine br_intro (fun hc => ?_) (fun hc => ?_)
  · have hc := lt_of_decE hsl hc
    have hsl3 := strs_length l[i].deps
    have hm := hn _ (List.getElem_mem hc)
    have hmx : maxLen ≤ 9223372036854775807 := by decide
    (conv => whnf); (repeat ((with_reducible refine must_intro ?_ ?_); exact decide_eq_true (by omega); (conv => whnf)))
    refine idxK_map_intro (show (i : Int).toNat < l.length by simpa using hc) ?_
    rw [show l[(i : Int).toNat]'(by simpa using hc) = l[i] from by congr 1]
    (conv => whnf)
    rw [hsl3]
    refine br_intro (fun g1 => ?_) (fun g1 => ?_)
    · (conv => whnf)
      exact yes
    have g1 : l[i].deps.length ≤ 30 := by simp at g1; omega
    have hsn := size_ofB l[i].name
    (conv => whnf)
    rw [hsn]
    refine br_intro (fun g2 => ?_) (fun g2 => ?_)
    · (conv => whnf)
      exact yes
    have g2 : l[i].name.length ≤ 100 := by simp at g2; omega
    (conv => whnf)
    refine LoopP.ind1 (fun (j : Nat) => [(26, vi j)]) (fun _ => []) (fun j => l[i].deps.length - j) (fun j => j ≤ l[i].deps.length ∧ ∀ d ∈ l[i].deps.take j, d.length ≤ 100) 0 rfl ⟨by omega, by simp⟩ ?_
    rintro j ⟨hj0, hjo⟩ IH2
    (conv => whnf)
    refine br_intro (fun hc2 => ?_) (fun hc2 => ?_)
    · have hc2 := lt_of_decE hsl3 hc2
      (conv => whnf); (repeat ((with_reducible refine must_intro ?_ ?_); exact decide_eq_true (by omega); (conv => whnf)))
      refine idxK_map_intro (show (j : Int).toNat < l[i].deps.length by simpa using hc2) ?_
      rw [show l[i].deps[(j : Int).toNat]'(by simpa using hc2) = l[i].deps[j] from by congr 1]
      have hsd := size_ofB l[i].deps[j]
      (conv => whnf)
      rw [hsd]
      refine br_intro (fun g3 => ?_) (fun g3 => ?_)
      · (conv => whnf)
        exact yes
      have g3 : l[i].deps[j].length ≤ 100 := by simp at g3; omega
      (conv => whnf)
      rw [i64_nat (by omega)]
      refine IH2 (j + 1) ⟨by omega, fun d hd => ?_⟩ (by omega)
      rw [List.take_succ_eq_append_getElem hc2, List.mem_append, List.mem_singleton] at hd
      rcases hd with hd | rfl
      · exact hjo d hd
      · exact g3
    · have hc2 := ge_of_decE hsl3 hc2
      rw [List.take_of_length_le hc2] at hjo
      (conv => whnf)
      rw [wrap_i64 (by omega) (by omega), show ((i : Int) + 1) = ((i + 1 : Nat) : Int) by omega]
      refine IH (i + 1) ⟨by omega, fun n hn => ?_⟩ (by omega)
      rw [List.take_succ_eq_append_getElem hc, List.mem_append, List.mem_singleton] at hn
      rcases hn with hn | rfl
      · exact hdo n hn
      · exact ⟨g1, g2, hjo⟩
  · have hc := ge_of_decE hsl hc
    rw [List.take_of_length_le hc] at hdo
    (conv => whnf)
    rw [hsl]
    refine h _ fun e => ⟨?_, hdo⟩
    simp at e
    omega

theorem typed_strs {n : Nat} {l : List (List AV)} (h : ∀ x ∈ l, Typed tab (n + 1) 9 x) : ∃ m : List B, l = strs m := by
  induction l with
  | nil => exact ⟨[], rfl⟩
  | cons x l ih =>
    obtain ⟨m, rfl⟩ := ih fun y hy => h y (by simp [hy])
    obtain ⟨s, rfl, hs⟩ : ∃ s : ByteArray, x = [.val (.string s)] ∧ s.size ≤ maxLen := h x (by simp)
    exact ⟨bs s :: m, by simp only [strs, List.map_cons, vs, ofB_bs]⟩
theorem typed_node {n : Nat} {x : List AV} (h : Typed tab (n + 3) 42 x) : ∃ nd : Nd, x = nd.enc ∧ nd.deps.length ≤ maxLen := by
  obtain ⟨a1, r1, rfl, ⟨s, rfl, hs⟩, a2, r2, rfl, ⟨b, rfl⟩, a3, r3, rfl, ⟨u, rfl, hu⟩, a4, r4, rfl, ⟨l, rfl, hl, hx⟩, rfl⟩ : ∃ a r, x = a ++ r ∧ (∃ s : ByteArray, a = [.val (.string s)] ∧ s.size ≤ maxLen) ∧
      ∃ a r', r = a ++ r' ∧ (∃ b, a = [.val (.bool b)]) ∧ ∃ a r'', r' = a ++ r'' ∧ (∃ y, a = [.val (.int .u64 y)] ∧ (Lit.int .u64 y).wf = true) ∧
      ∃ a r''', r'' = a ++ r''' ∧ (∃ l : List (List AV), a = [.sl none 1 l] ∧ l.length ≤ maxLen ∧ ∀ x ∈ l, Typed tab (n + 1) 9 x) ∧ r''' = [] := h
  obtain ⟨m, rfl⟩ := typed_strs hx
  refine ⟨⟨bs s, b, BitVec.ofInt 64 u, m⟩, ?_, by simpa [strs] using hl⟩
  simp only [Nd.enc, vs, ofB_bs, uv, List.cons_append, List.nil_append]
  rw [← wf_u64 hu]
theorem typed_nodes {n : Nat} {l : List (List AV)} (h : ∀ x ∈ l, Typed tab (n + 3) 42 x) : ∃ m : List Nd, l = nds m ∧ ∀ nd ∈ m, nd.deps.length ≤ maxLen := by
  induction l with
  | nil => exact ⟨[], rfl, by simp⟩
  | cons x l ih =>
    obtain ⟨m, rfl, hm⟩ := ih fun y hy => h y (by simp [hy])
    obtain ⟨nd, rfl, hn⟩ := typed_node (h x (by simp))
    exact ⟨nd :: m, rfl, by
      intro y hy
      rw [List.mem_cons] at hy
      rcases hy with rfl | hy
      · exact hn
      · exact hm y hy⟩
theorem args_nodes {ts : List TypeId} {l : List AV} (h : Args tab 12 (61 :: ts) l) : ∃ (x : List Nd) (l' : List AV), l = .sl none 4 (nds x) :: l' ∧ x.length ≤ maxLen ∧ (∀ n ∈ x, n.deps.length ≤ maxLen) ∧ Args tab 12 ts l' := by
  obtain ⟨a, l', rfl, h1, h2⟩ := h
  obtain ⟨x, e, hl, hx⟩ : ∃ x : List (List AV), [a] = [.sl none 4 x] ∧ x.length ≤ maxLen ∧ ∀ y ∈ x, Typed tab 11 42 y := h1
  obtain ⟨m, rfl, hm⟩ := typed_nodes (n := 8) hx
  simp only [List.cons.injEq, and_true] at e
  subst e
  exact ⟨m, l', rfl, by simpa [nds] using hl, hm, h2⟩
theorem args_node {ts : List TypeId} {l : List AV} (h : Args tab 12 (42 :: ts) l) : ∃ (x : Nd) (l' : List AV), l = .agg x.enc :: l' ∧ x.deps.length ≤ maxLen ∧ Args tab 12 ts l' := by
  obtain ⟨a, l', rfl, h1, h2⟩ := h
  obtain ⟨x, rfl, hx⟩ : ∃ x, a = .agg x ∧ Typed tab 12 42 x := h1
  obtain ⟨n, rfl, hn⟩ := typed_node (n := 9) hx
  exact ⟨n, l', rfl, hn, h2⟩
end Go.Abs
end

section
/- The order of a graph: plain. -/
set_option linter.unusedVariables false
set_option linter.unusedSimpArgs false
namespace Go.Abs
open Go Go.Proofs

theorem sub_len {D l : List B} (hnd : D.Nodup) (h : ∀ x ∈ D, x ∈ l) : D.length ≤ l.length := by
  induction D generalizing l with
  | nil => simp
  | cons a D ih =>
    have ha := h a (by simp)
    have hn := List.nodup_cons.1 hnd
    have h2 := ih (l := l.erase a) hn.2 fun x hx => by
      have hxa : x ≠ a := fun e => hn.1 (e ▸ hx)
      exact (List.mem_erase_of_ne hxa).2 (h x (by simp [hx]))
    have h3 := List.length_erase_of_mem ha
    have h4 := List.length_pos_of_mem ha
    simp; omega

theorem best_none {l : List Nd} {D : List B} : ∀ {k : Nat}, best l D k = none → ∀ i, i < k → ready l D i = false := by
  intro k
  induction k with
  | zero => intro _ i hi; omega
  | succ k ih =>
    intro h i hi
    rw [best_succ] at h
    unfold bstep at h
    split at h
    · cases h
    · rename_i hc
      rcases Nat.lt_or_ge i k with hik | hik
      · exact ih h i hik
      · obtain rfl : i = k := by omega
        refine Bool.eq_false_iff.2 fun e => hc ⟨e, fun b hb => ?_⟩
        rw [h] at hb; cases hb

/-- Each place comes when it is ready. -/
def RowOk (l : List Nd) (out : List Nat) : Prop := ∀ k b, out[k]? = some b → b < l.length ∧ ready l ((out.take k).map (nm l)) b = true
theorem RowOk.snoc {l : List Nd} {out : List Nat} {b : Nat} (h : RowOk l out) (hb : b < l.length) (hr : ready l (out.map (nm l)) b = true) : RowOk l (out ++ [b]) := by
  intro k c hc
  rcases Nat.lt_or_ge k out.length with hk | hk
  · rw [List.getElem?_append_left hk] at hc
    rw [List.take_append_of_le_length (by omega)]
    exact h k c hc
  · have hk' := (List.getElem?_eq_some_iff.1 hc).1
    have e : k = out.length := by simp at hk'; omega
    subst e
    simp at hc
    subst hc
    rw [List.take_left']
    · exact ⟨hb, hr⟩
    · rfl
theorem rowFrom_ok {l : List Nd} : ∀ (k : Nat) (out : List Nat), RowOk l out → RowOk l (rowFrom l k out) ∧ ((rowFrom l k out).length = out.length + k ∨ ((rowFrom l k out).length < out.length + k ∧ best l ((rowFrom l k out).map (nm l)) l.length = none)) := by
  intro k
  induction k with
  | zero => intro out h; exact ⟨h, .inl rfl⟩
  | succ k ih =>
    intro out h
    unfold rowFrom
    cases hb : best l (out.map (nm l)) l.length with
    | none => exact ⟨h, .inr ⟨by simp, hb⟩⟩
    | some b =>
      obtain ⟨h1, h2⟩ := best_some hb
      obtain ⟨i1, i2⟩ := ih (out ++ [b]) (h.snoc h1 h2)
      refine ⟨i1, ?_⟩
      simp only [List.length_append, List.length_cons, List.length_nil] at i2
      rcases i2 with i2 | ⟨i2, i3⟩
      · exact .inl (by simp only [i2]; omega)
      · exact .inr ⟨by show (rowFrom l k (out ++ [b])).length < _; omega, i3⟩
theorem row_ok (l : List Nd) : RowOk l (rowP l) ∧ ((rowP l).length = l.length ∨ ((rowP l).length < l.length ∧ best l ((rowP l).map (nm l)) l.length = none)) := by
  have := rowFrom_ok (l := l) l.length [] (fun k b h => by simp at h)
  simpa [rowP] using this
theorem RowOk.nodup {l : List Nd} {out : List Nat} (h : RowOk l out) : (out.map (nm l)).Nodup := by
  refine List.pairwise_iff_getElem.2 fun i j hi hj hij e => ?_
  simp only [List.length_map] at hi hj
  have h2 := (h j out[j] (List.getElem?_eq_getElem hj)).2
  simp only [ready, Bool.and_eq_true, decide_eq_true_eq] at h2
  refine h2.1 ?_
  simp only [List.getElem_map] at e
  rw [← e]
  refine List.mem_map.2 ⟨out[i], ?_, rfl⟩
  rw [List.mem_take_iff_getElem]
  exact ⟨i, by omega, rfl⟩
theorem RowOk.deps {l : List Nd} {out : List Nat} (h : RowOk l out) {k : Nat} (hk : k < out.length) {d : B} (hd : d ∈ dps l out[k]) : ∃ j, ∃ (hj : j < out.length), j < k ∧ nm l out[j] = d := by
  have h2 := (h k out[k] (List.getElem?_eq_getElem hk)).2
  simp only [ready, Bool.and_eq_true, decide_eq_true_eq] at h2
  obtain ⟨b, hb, rfl⟩ := List.mem_map.1 (h2.2 d hd)
  rw [List.mem_take_iff_getElem] at hb
  obtain ⟨j, hj, rfl⟩ := hb
  exact ⟨j, by omega, by omega, rfl⟩

theorem oneP_vals (n : Nd) : oneP n = 0 ∨ oneP n = 1 ∨ oneP n = 5 := by
  unfold oneP
  split
  · exact .inr (.inl rfl)
  · split
    · exact .inr (.inl rfl)
    · split
      · exact .inr (.inr rfl)
      · exact .inl rfl
theorem chk1_vals : ∀ (l : List Nd) (seen : List B), chk1 l seen = 0 ∨ chk1 l seen = 1 ∨ chk1 l seen = 5
  | [], _ => .inl rfl
  | n :: r, seen => by
    unfold chk1
    split
    · exact .inr (.inl rfl)
    · split
      · exact oneP_vals n
      · exact chk1_vals r _
theorem depsOk_all {l : List Nd} (h : depsOk l ≠ false) : ∀ n ∈ l, ∀ d ∈ n.deps, d ∈ names l := fun n hn d hd => by
  have h : depsOk l = true := by simpa using h
  exact of_decide_eq_true (List.all_eq_true.1 (List.all_eq_true.1 h n hn) d hd)
theorem check_zero {l : List Nd} (h : checkP l = 0) : (l.map (·.name)).Nodup ∧ (rowP l).length = l.length ∧ (∀ n ∈ l, ∀ d ∈ n.deps, d ∈ names l) ∧ l.length ≤ 64 := by
  unfold checkP at h
  split at h
  · cases h
  · split at h
    · rename_i h1 h2; exact absurd h h2
    · rename_i h1 h2
      have h2 : chk1 l [] = 0 := Classical.byContradiction fun e => h2 e
      split at h
      · cases h
      · rename_i h3
        split at h
        · cases h
        · rename_i h4
          refine ⟨(chk1_nodup l [] h2).1, ?_, depsOk_all h3, by omega⟩
          rcases (row_ok l).2 with e | ⟨e, _⟩
          · exact e
          · exact absurd e h4
theorem check_nine {l : List Nd} (h : checkP l = 9) : (l.map (·.name)).Nodup ∧ (rowP l).length < l.length ∧ (∀ n ∈ l, ∀ d ∈ n.deps, d ∈ names l) := by
  unfold checkP at h
  split at h
  · cases h
  · split at h
    · rcases chk1_vals l [] with e | e | e <;> rw [e] at h <;> cases h
    · rename_i h1 h2
      have h2 : chk1 l [] = 0 := Classical.byContradiction fun e => h2 e
      split at h
      · cases h
      · rename_i h3
        split at h
        · rename_i h4
          exact ⟨(chk1_nodup l [] h2).1, h4, depsOk_all h3⟩
        · cases h

end Go.Abs
end

section
/- The statement GraphChecks. -/
set_option maxRecDepth 100000
set_option linter.unusedVariables false
set_option linter.unusedSimpArgs false
namespace Go.Abs
open Go Go.Proofs
attribute [local irreducible] ibits byteAt strLt firstIdx

theorem GraphChecks_calls (l : List Nd) (hl : l.length ≤ maxLen) (hn : ∀ n ∈ l, n.deps.length ≤ maxLen) {R} (h : R (.val (.bool true)) []) : ACalls Try.prog 11 [.sl none 4 (nds l)] [] R := by
  refine acalls_of_xwp (an := an11) tab_ok Try.func11 ?_
  (conv => whnf)
  refine Great_calls l hl hn fun b hb => ?_
  (conv => whnf)
  refine br_intro (fun g => ?_) (fun g => ?_)
  · (conv => whnf)
    refine gfixed_calls ?_
    (conv => whnf)
    exact h
  obtain ⟨b1, b2⟩ := hb g
  have hs : small l := ⟨by omega, fun n hn => by
    obtain ⟨g1, g2, g3⟩ := b2 n hn
    exact ⟨by omega, by omega, fun d hd => by have := g3 d hd; omega⟩⟩
  (conv => whnf)
  refine Order_calls l hs fun o e ho he => ?_
  (conv => whnf)
  refine refCheck_calls l hs fun e' he' => ?_
  (conv => whnf)
  refine br_false (by rw [he, he']; simp) ?_
  (conv => whnf)
  refine Check_calls l hs fun e2 he2 => ?_
  (conv => whnf)
  refine br_false (by rw [he, he2]; simp) ?_
  (conv => whnf)
  refine br_intro (fun g => ?_) (fun g => ?_)
  · have g : e ≠ 0 := by simpa using g
    have ho : o = [] := by rw [ho, orderP, if_neg (by rw [← he]; exact g)]
    subst ho
    (conv => whnf)
    refine gfixed_calls ?_
    (conv => whnf)
    exact h
  · have g : e = 0 := by simpa using g
    have hc : checkP l = 0 := by rw [← he, g]
    have ho : o = rowP l := by rw [ho, orderP, if_pos hc]
    have h64 : l.length ≤ 64 := by
      unfold checkP at hc
      split at hc
      · cases hc
      · omega
    have hnd : (l.map (·.name)).Nodup := by
      refine (chk1_nodup l [] ?_).1
      unfold checkP at hc
      split at hc
      · cases hc
      · split at hc
        · rename_i h1 h2; exact absurd hc h2
        · rename_i h1 h2; exact Classical.byContradiction fun e => h2 e
    have hrl : ∀ (k : Nat) (out : List Nat), (rowFrom l k out).length ≤ out.length + k := by
      intro k
      induction k with
      | zero => intro out; simp [rowFrom]
      | succ k ih =>
        intro out
        unfold rowFrom
        split
        · omega
        · have := ih (out ++ [‹Nat›])
          simp at this
          omega
    (conv => whnf)
    refine gfixed_calls ?_
    (conv => whnf)
    refine refRow_calls l hs hnd fun r hr => ?_
    (conv => whnf)
    refine Same_calls o r (by have := hrl l.length []; rw [ho, rowP]; simp at this; omega) fun p hp => ?_
    have hp : p = true := by rw [hp]; exact decide_eq_true (by rw [ho, hr])
    subst hp
    (conv => whnf)
    exact h

theorem GraphChecks_row (l : List AV) (h : Args tab 12 [61] l) : ACalls Try.prog 11 l [] fun r _ => r = .val (.bool true) := by
  obtain ⟨a, l1, rfl, h1, h2, h3⟩ := args_nodes h
  obtain rfl : l1 = [] := h3
  exact GraphChecks_calls a h1 h2 rfl
end Go.Abs
end

section
/- The order of a graph whose nodes are turned; the statement GraphAhead. -/
set_option maxRecDepth 100000
set_option maxHeartbeats 1000000
set_option linter.unusedVariables false
set_option linter.unusedSimpArgs false
namespace Go.Abs
open Go Go.Proofs
attribute [local irreducible] ibits byteAt strLt firstIdx

theorem ltB_dec (a b : B) : ltB a b = decide (a < b) := bytesLess_eq a b
theorem best_least {l : List Nd} {D : List B} : ∀ {k b : Nat}, best l D k = some b → ∀ i, i < k → ready l D i = true → ¬ nm l i < nm l b := by
  intro k
  induction k with
  | zero => intro b _ i hi; omega
  | succ k ih =>
    intro b h i hi hr
    rw [best_succ] at h
    unfold bstep at h
    split at h
    · rename_i hc
      simp only [Option.some.injEq] at h
      subst h
      rcases Nat.lt_or_ge i k with hik | hik
      · cases hb : best l D k with
        | none => have := best_none hb i hik; rw [hr] at this; cases this
        | some b0 =>
          have h1 := hc.2 b0 hb
          rw [ltB_dec] at h1
          exact fun h2 => ih hb i hik hr (List.lt_trans h2 (of_decide_eq_true h1))
      · obtain rfl : i = k := by omega
        exact List.lt_irrefl _
    · rename_i hc
      rcases Nat.lt_or_ge i k with hik | hik
      · exact ih h i hik hr
      · obtain rfl : i = k := by omega
        intro h2
        refine hc ⟨hr, fun b' hb' => ?_⟩
        rw [h] at hb'
        cases hb'
        rw [ltB_dec]
        exact decide_eq_true h2
theorem ready_node {l : List Nd} {D : List B} {i : Nat} (hi : i < l.length) : ready l D i = true ↔ l[i].name ∉ D ∧ ∀ d ∈ l[i].deps, d ∈ D := by
  rw [ready, nm_eq hi, dps_eq hi, Bool.and_eq_true, decide_eq_true_eq, decide_eq_true_eq]
theorem ready_move {l m : List Nd} (h : ∀ n, n ∈ l → n ∈ m) {D : List B} {i : Nat} (hi : i < l.length) (hr : ready l D i = true) : ∃ j, ∃ (hj : j < m.length), ready m D j = true ∧ nm m j = nm l i := by
  obtain ⟨j, hj, e⟩ := List.getElem_of_mem (h _ (List.getElem_mem hi))
  refine ⟨j, hj, ?_, by rw [nm_eq hj, nm_eq hi, e]⟩
  rw [ready_node hj, e, ← ready_node hi]
  exact hr
theorem rows_names {l m : List Nd} (h : ∀ n, n ∈ l ↔ n ∈ m) : ∀ (k : Nat) (out out' : List Nat), out.map (nm l) = out'.map (nm m) → (rowFrom l k out).map (nm l) = (rowFrom m k out').map (nm m) := by
  intro k
  induction k with
  | zero => intro out out' e; exact e
  | succ k ih =>
    intro out out' e
    unfold rowFrom
    rw [← e]
    generalize hD : out.map (nm l) = D
    cases hb : best l D l.length with
    | none =>
      cases hb' : best m D m.length with
      | none => simp only [hD, ← e]
      | some b' =>
        obtain ⟨h1, h2⟩ := best_some hb'
        obtain ⟨j, hj, hr, _⟩ := ready_move (fun n hn => (h n).2 hn) h1 h2
        have := best_none hb j hj
        rw [hr] at this; cases this
    | some b =>
      obtain ⟨h1, h2⟩ := best_some hb
      cases hb' : best m D m.length with
      | none =>
        obtain ⟨j, hj, hr, _⟩ := ready_move (fun n hn => (h n).1 hn) h1 h2
        have := best_none hb' j hj
        rw [hr] at this; cases this
      | some b' =>
        obtain ⟨h1', h2'⟩ := best_some hb'
        obtain ⟨j, hj, hr, hjn⟩ := ready_move (fun n hn => (h n).1 hn) h1 h2
        obtain ⟨j', hj', hr', hjn'⟩ := ready_move (fun n hn => (h n).2 hn) h1' h2'
        have g1 := best_least hb' j hj hr
        have g2 := best_least hb j' hj' hr'
        rw [hjn] at g1
        rw [hjn'] at g2
        have hbb : nm l b = nm m b' := List.le_antisymm (show nm l b ≤ nm m b' from g2) (show nm m b' ≤ nm l b from g1)
        exact ih _ _ (by rw [List.map_append, List.map_append, hD, ← e, hD]; simp [hbb])
theorem chk1_zero : ∀ (l : List Nd) (seen : List B), (l.map (·.name)).Nodup → (∀ n ∈ l, n.name ∉ seen) → (∀ n ∈ l, oneP n = 0) → chk1 l seen = 0 := by
  intro l
  induction l with
  | nil => intro _ _ _ _; rfl
  | cons n r ih =>
    intro seen h1 h2 h3
    rw [List.map_cons, List.nodup_cons] at h1
    unfold chk1
    rw [if_neg (h2 n (by simp)), if_neg (by simp [h3 n (by simp)])]
    refine ih _ h1.2 (fun m hm hs => ?_) fun m hm => h3 m (by simp [hm])
    rw [List.mem_append, List.mem_singleton] at hs
    rcases hs with hs | hs
    · exact h2 m (by simp [hm]) hs
    · exact h1.1 (by rw [← hs]; exact List.mem_map_of_mem hm)
theorem chk1_ones : ∀ (l : List Nd) (seen : List B), chk1 l seen = 0 → ∀ n ∈ l, oneP n = 0 := by
  intro l
  induction l with
  | nil => intro seen _ n hn; simp at hn
  | cons a r ih =>
    intro seen h n hn
    unfold chk1 at h
    split at h
    · cases h
    · split at h
      · rename_i h0; exact absurd h h0
      · rename_i h0
        rw [List.mem_cons] at hn
        rcases hn with rfl | hn
        · exact Classical.byContradiction fun e => h0 e
        · exact ih _ h n hn
theorem check_iff (l : List Nd) : checkP l = 0 ↔ l.length ≤ 64 ∧ (l.map (·.name)).Nodup ∧ (∀ n ∈ l, oneP n = 0) ∧ (∀ n ∈ l, ∀ d ∈ n.deps, d ∈ names l) ∧ l.length ≤ (rowP l).length := by
  constructor
  · intro h
    obtain ⟨c1, c2, c3, c4⟩ := check_zero h
    refine ⟨c4, c1, ?_, c3, by omega⟩
    unfold checkP at h
    split at h
    · cases h
    · split at h
      · rename_i h1 h2; exact absurd h h2
      · rename_i h1 h2
        exact chk1_ones l [] (Classical.byContradiction fun e => h2 e)
  · rintro ⟨h1, h2, h3, h4, h5⟩
    unfold checkP
    rw [if_neg (by omega), if_neg (by simp [chk1_zero l [] h2 (by simp) h3]), if_neg (by rw [depsOk_true h4]; simp), if_neg (by omega)]
theorem perm_rows {l m : List Nd} (h : l.Perm m) : (rowP l).map (nm l) = (rowP m).map (nm m) := by
  have := rows_names (fun n => h.mem_iff) l.length [] [] rfl
  rw [rowP, rowP, ← h.length_eq]
  exact this
theorem perm_check {l m : List Nd} (h : l.Perm m) : checkP l = 0 ↔ checkP m = 0 := by
  have key : ∀ {l m : List Nd}, l.Perm m → checkP l = 0 → checkP m = 0 := fun {l m} h h0 => by
    obtain ⟨h1, h2, h3, h4, h5⟩ := (check_iff l).1 h0
    refine (check_iff m).2 ⟨by rw [← h.length_eq]; exact h1, (h.map _).nodup_iff.1 h2, fun n hn => h3 n (h.mem_iff.2 hn), fun n hn d hd => ((h.map _).mem_iff).1 (h4 n (h.mem_iff.2 hn) d hd), ?_⟩
    have := congrArg List.length (perm_rows h)
    simp only [List.length_map] at this
    rw [← h.length_eq, ← this]
    exact h5
  exact ⟨key h, key h.symm⟩

def swapN (m : List Nd) (a b : Nat) : List Nd := match m[a]?, m[b]? with
  | some x, some y => (m.set a y).set b x
  | _, _ => m
theorem swapN_eq {m : List Nd} {a b : Nat} (ha : a < m.length) (hb : b < m.length) : swapN m a b = (m.set a m[b]).set b m[a] := by
  simp [swapN, List.getElem?_eq_getElem ha, List.getElem?_eq_getElem hb]
theorem swapN_perm {m : List Nd} {a b : Nat} (ha : a < m.length) (hb : b < m.length) : (swapN m a b).Perm m := by
  rw [swapN_eq ha hb]
  exact List.set_set_perm ha hb

theorem GraphAhead_calls (l : List Nd) (hl : l.length ≤ maxLen) (hn : ∀ n ∈ l, n.deps.length ≤ maxLen) (t : List (List AV)) (htl : t.length ≤ maxLen) (ht : ∀ e ∈ t, ∃ x : Int, e = [.val (.int .u8 x)] ∧ 0 ≤ x ∧ x ≤ 255) {R} (h : R (.val (.bool true)) []) :
    ACalls Try.prog 12 [.sl none 4 (nds l), .sl none 1 t] [] R := by
  refine acalls_of_xwp (an := an12) tab_ok Try.func12 ?_
  have hmx : maxLen ≤ 9223372036854775807 := by decide
  (conv => whnf)
  refine Great_calls l hl hn fun b hb => ?_
  (conv => whnf)
  refine br_intro (fun g => ?_) (fun g => ?_)
  · (conv => whnf)
    refine gfixed_calls ?_
    (conv => whnf)
    exact h
  obtain ⟨b1, b2⟩ := hb g
  have hs : small l := ⟨by omega, fun n hn => by
    obtain ⟨g1, g2, g3⟩ := b2 n hn
    exact ⟨by omega, by omega, fun d hd => by have := g3 d hd; omega⟩⟩
  have hsl := nds_length l
  (conv => whnf)
  refine br_intro (fun g2 => ?_) (fun g2 => ?_)
  · (conv => whnf)
    refine gfixed_calls ?_
    (conv => whnf)
    exact h
  have g2 : t.length ≤ 100 := by have := of_decide_eq_false g2; omega
  have hbt : (tab.ti 42).bytes = 56 := rfl
  (conv => whnf)
  refine ⟨⟨rfl, rfl, Nat.le_refl _⟩, (by rw [hbt, hsl]; omega), ?_⟩
  (conv => whnf)
  rw [show List.take 0 [] ++ nds l = nds l from rfl, show 0 + (nds l).length = l.length by rw [hsl]; omega]
  refine LoopP.ind2 (fun (i : Nat) (m : List Nd) => [(5, .slv (nameOf 27) 4 1 0 l.length), (32, vi i)]) (fun i m => [(nameOf 27, .vec 42 4 (nds m) 1)]) (fun i _ => t.length - i)
    (fun i m => i ≤ t.length ∧ m.Perm l) 0 l rfl ⟨by omega, .refl _⟩ ?_
  rintro i m ⟨h0, hperm⟩ IH
  have hml : m.length = l.length := hperm.length_eq
  have hsm := nds_length m
  (conv => whnf)
  refine br_intro (fun hc => ?_) (fun hc => ?_)
  · have hc : i < t.length := by have := of_decide_eq_true hc; omega
    obtain ⟨x0, hx, hx0, hx1⟩ := ht _ (List.getElem_mem hc)
    obtain ⟨x, rfl⟩ : ∃ x : Nat, x0 = (x : Int) := ⟨x0.toNat, by omega⟩
    (conv => whnf); (repeat ((with_reducible refine must_intro ?_ ?_); exact decide_eq_true (by omega); (conv => whnf)))
    refine idxK_intro (show (i : Int).toNat < t.length by simpa using hc) ?_
    rw [show t[(i : Int).toNat]'(by simpa using hc) = [.val (.int .u8 (x : Int))] from by rw [← hx]; congr 1]
    (conv => whnf)
    refine br_intro (fun hg => ?_) (fun hg => ?_)
    · have hg : 0 < l.length := by have := of_decide_eq_true hg; omega
      have hne : ((nds l).length : Int) ≠ 0 := by omega
      (conv => whnf)
      refine must_intro (by first | exact decide_eq_true hne | (simp; intro e; rw [e] at hsl; simp at hsl; omega)) ?_
      (conv => whnf)
      refine must_intro (by first | exact decide_eq_true hne | (simp; intro e; rw [e] at hsl; simp at hsl; omega)) ?_
      rw [wrap_i64 (by omega) (by omega)]
      obtain ⟨p, hp, hpl⟩ : ∃ p : Nat, (i : Int).tmod ((nds l).length : Int) = (p : Int) ∧ p < l.length := by
        refine ⟨i % l.length, ?_, Nat.mod_lt _ hg⟩
        rw [Int.tmod_eq_emod_of_nonneg (by omega), hsl]
        rfl
      obtain ⟨q, hq, hql⟩ : ∃ q : Nat, (x : Int).tmod ((nds l).length : Int) = (q : Int) ∧ q < l.length := by
        refine ⟨x % l.length, ?_, Nat.mod_lt _ hg⟩
        rw [Int.tmod_eq_emod_of_nonneg (by omega), hsl]
        rfl
      rw [hp, hq]
      have hpm : p < m.length := by omega
      have hqm : q < m.length := by omega
      (conv => whnf); (repeat ((with_reducible refine must_intro ?_ ?_); exact decide_eq_true (by omega); (conv => whnf)))
      refine ⟨rfl, idxK_map_intro (show 0 + (q : Int).toNat < m.length by simpa using hqm) ?_⟩
      rw [show m[0 + (q : Int).toNat]'(by simpa using hqm) = m[q] from by congr 1; simp]
      (conv => whnf); (repeat ((with_reducible refine must_intro ?_ ?_); exact decide_eq_true (by omega); (conv => whnf)))
      refine ⟨rfl, idxK_map_intro (show 0 + (p : Int).toNat < m.length by simpa using hpm) ?_⟩
      rw [show m[0 + (p : Int).toNat]'(by simpa using hpm) = m[p] from by congr 1; simp]
      (conv => whnf); (repeat ((with_reducible refine must_intro ?_ ?_); exact decide_eq_true (by omega); (conv => whnf)))
      refine ⟨rfl, idxK_map_intro (show 0 + (p : Int).toNat < m.length by simpa using hpm) ?_⟩
      rw [show m[0 + (p : Int).toNat]'(by simpa using hpm) = m[p] from by congr 1; simp]
      (conv => whnf)
      rw [show (nds m).set (0 + (p : Int).toNat) [AV.val (Value.string (ofB m[q].name)), AV.val (Value.bool m[q].source), AV.val (Value.int IntKind.u64 (m[q].rule.toNat : Int)), AV.sl none 1 (strs m[q].deps)] = nds (m.set p m[q]) from by
        rw [Nat.zero_add, Int.toNat_natCast, nds, nds, List.map_set]; rfl]
      have hqm2 : q < (m.set p m[q]).length := by simpa using hqm
      (conv => whnf); (repeat ((with_reducible refine must_intro ?_ ?_); exact decide_eq_true (by omega); (conv => whnf)))
      refine ⟨rfl, idxK_map_intro (show 0 + (q : Int).toNat < (m.set p m[q]).length by simpa using hqm) ?_⟩
      rw [show (m.set p m[q])[0 + (q : Int).toNat]'(by simpa using hqm) = (m.set p m[q])[q] from by congr 1; simp]
      (conv => whnf)
      rw [show (nds (m.set p m[q])).set (0 + (q : Int).toNat) [AV.val (Value.string (ofB m[p].name)), AV.val (Value.bool m[p].source), AV.val (Value.int IntKind.u64 (m[p].rule.toNat : Int)), AV.sl none 1 (strs m[p].deps)] = nds (swapN m p q) from by
        rw [swapN_eq hpm hqm, Nat.zero_add, Int.toNat_natCast]; simp only [nds, List.map_set]; rfl]
      rw [i64_nat (by omega)]
      exact IH (i + 1) _ ⟨by omega, (swapN_perm hpm hqm).trans hperm⟩ (by omega)
    · (conv => whnf)
      rw [i64_nat (by omega)]
      exact IH (i + 1) m ⟨by omega, hperm⟩ (by omega)
  · clear IH
    (conv => whnf)
    refine Order_calls l hs fun o e ho he => ?_
    have hsm' : small m := ⟨by rw [hml]; exact hs.1, fun n hn => hs.2 n (hperm.mem_iff.1 hn)⟩
    have hpc := perm_check hperm
    have hpr := perm_rows hperm
    have hol := ints_length o
    (conv => whnf)
    refine ⟨⟨rfl, rfl, by omega⟩, ?_⟩
    (conv => whnf)
    refine Order_calls m hsm' fun o2 e2 ho2 he2 => ?_
    have hol2 := ints_length o2
    (conv => whnf)
    refine br_intro (fun g5 => ?_) (fun g5 => ?_)
    · have g5 : e ≠ 0 := by simpa using g5
      have g6 : e2 ≠ 0 := fun e0 => g5 (by rw [he, ← hpc, ← he2, e0])
      have ho0 : o = [] := by rw [ho, orderP, if_neg (by rw [← he]; exact g5)]
      have ho20 : o2 = [] := by rw [ho2, orderP, if_neg (by rw [← he2]; exact g6)]
      subst ho0 ho20
      (conv => whnf)
      refine gfixed_calls ?_
      (conv => whnf)
      refine br_true (bne_iff_ne.2 g6) ?_
      (conv => whnf)
      exact h
    have g5 : e = 0 := by simpa using g5
    have hz : checkP l = 0 := by rw [← he, g5]
    have g6 : e2 = 0 := by rw [he2]; exact hpc.2 hz
    have hor : o = rowP l := by rw [ho, orderP, if_pos hz]
    have hor2 : o2 = rowP m := by rw [ho2, orderP, if_pos (hpc.2 hz)]
    have hL := (check_zero hz).2.1
    have hL2 : o2.length = l.length := by rw [hor2, (check_zero (hpc.2 hz)).2.1, hml]
    have hL1 : o.length = l.length := by rw [hor]; exact hL
    have hok : RowOk l o := by rw [hor]; exact (row_ok l).1
    have hok2 : RowOk m o2 := by rw [hor2]; exact (row_ok m).1
    rw [← hor, ← hor2] at hpr
    have hnd := hok.nodup
    (conv => whnf)
    refine br_false (by rw [g6]; rfl) ?_
    (conv => whnf)
    refine br_false (by rw [hol, hsl, hL1]; simp) ?_
    (conv => whnf)
    refine br_false (by rw [hol2, hsl, hL2]; simp) ?_
    (conv => whnf)
    refine LoopP.ind2 (fun (i : Nat) (es : List (ByteArray × AV)) => [(108, vi i)]) (fun i es => [(nameOf 105, .map es)]) (fun i _ => o.length - i) (fun i es => i ≤ o.length ∧ KeyMap (fun v => v = .val (.bool true)) es (fun s => s ∈ (o.take i).map (nm l))) 0 [] rfl
      ⟨by omega, by simpa using KeyMap.nil _⟩ ?_
    rintro i es ⟨h0, hk⟩ IH
    (conv => whnf)
    refine br_intro (fun hc => ?_) (fun hc => ?_)
    · have hc := lt_of_decE hol hc
      have hc2 : i < o2.length := by omega
      have hoi := (hok i _ (List.getElem?_eq_getElem hc)).1
      have hoi2 := (hok2 i _ (List.getElem?_eq_getElem hc2)).1
      have hrdy := (hok i _ (List.getElem?_eq_getElem hc)).2
      rw [ready_node hoi] at hrdy
      have hnm : l[o[i]].name = m[o2[i]].name := by
        have := congrArg (fun q => q[i]?) hpr
        simp only [List.getElem?_map, List.getElem?_eq_getElem hc, List.getElem?_eq_getElem hc2, Option.map_some, Option.some.injEq] at this
        rw [← nm_eq hoi, ← nm_eq hoi2, this]
      obtain ⟨n, hne⟩ : ∃ n, n = l[o[i]] := ⟨_, rfl⟩
      obtain ⟨n2, hne2⟩ : ∃ n2, n2 = m[o2[i]] := ⟨_, rfl⟩
      obtain ⟨u, hu⟩ : ∃ u, u = o[i] := ⟨_, rfl⟩
      obtain ⟨u2, hu2⟩ : ∃ u2, u2 = o2[i] := ⟨_, rfl⟩
      have hul : u < l.length := by omega
      have hul2 : u2 < m.length := by omega
      have hlu : l[u] = n := by rw [hne]; congr 1
      have hlu2 : m[u2] = n2 := by rw [hne2]; congr 1
      rw [← hne, ← hne2] at hnm
      rw [← hne] at hrdy
      have hsd := strs_length n.deps
      have hnl : n ∈ l := by rw [← hlu]; exact List.getElem_mem hul
      have hfn : mapFind es (ofB n.name) = none := (hk _).2 hrdy.1
      have hnx : (o.take (i + 1)).map (nm l) = (o.take i).map (nm l) ++ [n.name] := by
        rw [List.take_succ_eq_append_getElem hc, List.map_append, hne, ← nm_eq hoi]; rfl
      (conv => whnf); (repeat ((with_reducible refine must_intro ?_ ?_); exact decide_eq_true (by omega); (conv => whnf)))
      refine idxK_map_intro (show (i : Int).toNat < o.length by simpa using hc) ?_
      rw [show o[(i : Int).toNat]'(by simpa using hc) = u from by rw [hu]; congr 1]
      (conv => whnf)
      refine br_false (by rw [hsl]; simp; omega) ?_
      (conv => whnf); (repeat ((with_reducible refine must_intro ?_ ?_); exact decide_eq_true (by omega); (conv => whnf)))
      (conv => whnf); (repeat ((with_reducible refine must_intro ?_ ?_); exact decide_eq_true (by omega); (conv => whnf)))
      refine idxK_map_intro (show (i : Int).toNat < o2.length by simpa using hc2) ?_
      rw [show o2[(i : Int).toNat]'(by simpa using hc2) = u2 from by rw [hu2]; congr 1]
      (conv => whnf)
      (conv => whnf); (repeat ((with_reducible refine must_intro ?_ ?_); exact decide_eq_true (by omega); (conv => whnf)))
      refine idxK_map_intro (show (i : Int).toNat < o2.length by simpa using hc2) ?_
      rw [show o2[(i : Int).toNat]'(by simpa using hc2) = u2 from by rw [hu2]; congr 1]
      (conv => whnf)
      refine br_false (by rw [hsl]; simp; omega) ?_
      (conv => whnf)
      (conv => whnf); (repeat ((with_reducible refine must_intro ?_ ?_); exact decide_eq_true (by omega); (conv => whnf)))
      refine idxK_map_intro (show ((u : Nat) : Int).toNat < l.length by simpa using hul) ?_
      rw [show l[((u : Nat) : Int).toNat]'(by simpa using hul) = n from by rw [← hlu]; congr 1]
      (conv => whnf); (repeat ((with_reducible refine must_intro ?_ ?_); exact decide_eq_true (by omega); (conv => whnf)))
      (conv => whnf); (repeat ((with_reducible refine must_intro ?_ ?_); exact decide_eq_true (by omega); (conv => whnf)))
      refine idxK_map_intro (show (i : Int).toNat < o2.length by simpa using hc2) ?_
      rw [show o2[(i : Int).toNat]'(by simpa using hc2) = u2 from by rw [hu2]; congr 1]
      (conv => whnf); (repeat ((with_reducible refine must_intro ?_ ?_); exact decide_eq_true (by omega); (conv => whnf)))
      refine idxK_map_intro (show ((u2 : Nat) : Int).toNat < m.length by simpa using hul2) ?_
      rw [show m[((u2 : Nat) : Int).toNat]'(by simpa using hul2) = n2 from by rw [← hlu2]; congr 1]
      (conv => whnf)
      refine br_false (by rw [hnm]; simp) ?_
      (conv => whnf)
      (conv => whnf); (repeat ((with_reducible refine must_intro ?_ ?_); exact decide_eq_true (by omega); (conv => whnf)))
      refine idxK_map_intro (show ((u : Nat) : Int).toNat < l.length by simpa using hul) ?_
      rw [show l[((u : Nat) : Int).toNat]'(by simpa using hul) = n from by rw [← hlu]; congr 1]
      (conv => whnf)
      rw [hfn]
      (conv => whnf)
      (conv => whnf); (repeat ((with_reducible refine must_intro ?_ ?_); exact decide_eq_true (by omega); (conv => whnf)))
      refine idxK_map_intro (show ((u : Nat) : Int).toNat < l.length by simpa using hul) ?_
      rw [show l[((u : Nat) : Int).toNat]'(by simpa using hul) = n from by rw [← hlu]; congr 1]
      (conv => whnf)
      refine LoopP.ind1 (fun (j : Nat) => [(168, vi j)]) (fun _ => [(nameOf 105, .map es)]) (fun j => n.deps.length - j) (fun j => j ≤ n.deps.length) 0 rfl (by omega) ?_
      rintro j hj0 IH2
      have hdl := (hs.2 n hnl).1
      (conv => whnf)
      refine br_intro (fun hc3 => ?_) (fun hc3 => ?_)
      · have hc3 := lt_of_decE hsd hc3
        (conv => whnf); (repeat ((with_reducible refine must_intro ?_ ?_); exact decide_eq_true (by omega); (conv => whnf)))
        refine idxK_map_intro (show (j : Int).toNat < n.deps.length by simpa using hc3) ?_
        rw [show n.deps[(j : Int).toNat]'(by simpa using hc3) = n.deps[j] from by congr 1]
        obtain ⟨v, hv1, hv2⟩ := (hk n.deps[j]).1 (hrdy.2 _ (List.getElem_mem hc3))
        subst hv2
        (conv => whnf)
        rw [hv1]
        (conv => whnf)
        rw [i64_nat (by omega)]
        exact IH2 (j + 1) (by omega) (by omega)
      · (conv => whnf)
        (conv => whnf); (repeat ((with_reducible refine must_intro ?_ ?_); exact decide_eq_true (by omega); (conv => whnf)))
        refine idxK_map_intro (show ((u : Nat) : Int).toNat < l.length by simpa using hul) ?_
        rw [show l[((u : Nat) : Int).toNat]'(by simpa using hul) = n from by rw [← hlu]; congr 1]
        (conv => whnf)
        rw [i64_nat (by omega)]
        exact IH (i + 1) _ ⟨by omega, hk.put n.name rfl fun s => by rw [hnx, List.mem_append, List.mem_singleton]⟩ (by omega)
    · (conv => whnf)
      refine gfixed_calls ?_
      (conv => whnf)
      exact h
theorem args_bytes {ts : List TypeId} {l : List AV} (h : Args tab 12 (70 :: ts) l) : ∃ (x : List (List AV)) (l' : List AV), l = .sl none 1 x :: l' ∧ x.length ≤ maxLen ∧ (∀ e ∈ x, ∃ y : Int, e = [.val (.int .u8 y)] ∧ 0 ≤ y ∧ y ≤ 255) ∧ Args tab 12 ts l' := by
  obtain ⟨a, l', rfl, h1, h2⟩ := h
  obtain ⟨x, e, hl, hx⟩ : ∃ x : List (List AV), [a] = [.sl none 1 x] ∧ x.length ≤ maxLen ∧ ∀ y ∈ x, Typed tab 11 5 y := h1
  simp only [List.cons.injEq, and_true] at e
  subst e
  refine ⟨x, l', rfl, hl, fun e he => ?_, h2⟩
  obtain ⟨y, e1, hy⟩ : ∃ y, e = [.val (.int .u8 y)] ∧ (Lit.int .u8 y).wf = true := hx e he
  simp only [Lit.wf, Bool.and_eq_true, decide_eq_true_eq] at hy
  have e2 : IntKind.u8.min = 0 := rfl
  have e3 : IntKind.u8.max = 255 := rfl
  rw [e2, e3] at hy
  exact ⟨y, e1, hy.1, hy.2⟩
theorem GraphAhead_row (l : List AV) (h : Args tab 12 [61, 70] l) : ACalls Try.prog 12 l [] fun r _ => r = .val (.bool true) := by
  obtain ⟨a, l1, rfl, h1, h2, h3⟩ := args_nodes h
  obtain ⟨t, l2, rfl, h4, h5, h6⟩ := args_bytes h3
  obtain rfl := args_nil h6
  exact GraphAhead_calls a h1 h2 t h4 h5 rfl
end Go.Abs
end
