/- Several texts of this claim, one behind the other: D5, E1, L0, SH, H1, K1, K2, L1, E8, L2, L3, L4, L5, L6, L7, D1, D2, C2, E2, L8, L9, LA, LB, LC. -/
import Derived.Test.YthgjcmfbfigpbaaB9
import Derived.Test.YthgjcmfbfigpbaaAT
import Derived.Test.YthgjcmfbfigpbaaAN
import Derived.Sort.OwnSorted
import Derived.Below
import Derived.Shelf.Small.Bits
import Derived.Shelf.Strconv.Itoa0
import Derived.Shelf.Sort.Plain
import Derived.Shelf.Slices.In.SortNone
import Derived.Test.YthgjcmfbfigpbaaProg
import Derived.RangeFuncBound
import Derived.RangeFuncGives
import Derived.RangeFuncSeq
import Derived.Sort.MapsRangeIn
import Derived.Sort.KeysCollected
import Derived.Maps.AppendAt
import Derived.Shelf.Abstract
import Derived.WalkKit
import Derived.OwnWalkIn
import Derived.TacticsInMore
import Derived.RegionIn
import Derived.LoopNIn
import Derived.LoopIn
import Derived.Shelf.RegionOpenPlain
import Derived.Lib.Builder
import Derived.Lib.UnsafeStr
import Derived.Lib.Strings
import Derived.Lib.Slices
import Derived.Lib.Walk
import Derived.Laws.Externs
import Derived.MapKept
import Derived.Lib.SliceRun
import Derived.Lib.AppendZerosOnto
import Derived.Test.YthgjcmfbfigpbaaC1

section
/- Words for texts: a text is a row of bytes. -/
set_option maxRecDepth 100000
set_option linter.unusedVariables false
set_option linter.unusedSimpArgs false
namespace Go.Abs
open Go Go.Proofs

abbrev B := List UInt8
def ofB (l : B) : ByteArray := ⟨l.toArray⟩
def bs (s : ByteArray) : B := s.data.toList
theorem bs_ofB (l : B) : bs (ofB l) = l := by simp [bs, ofB]
theorem ofB_bs (s : ByteArray) : ofB (bs s) = s := by simp [bs, ofB]
theorem bs_inj {s t : ByteArray} (h : bs s = bs t) : s = t := by rw [← ofB_bs s, h, ofB_bs]
theorem ofB_inj {l m : B} (h : ofB l = ofB m) : l = m := by rw [← bs_ofB l, h, bs_ofB]
theorem ofB_eq {l m : B} : ofB l = ofB m ↔ l = m := ⟨ofB_inj, fun h => by rw [h]⟩
theorem bs_append (s t : ByteArray) : bs (s ++ t) = bs s ++ bs t := by simp [bs]
theorem ofB_append (l m : B) : ofB l ++ ofB m = ofB (l ++ m) := bs_inj (by rw [bs_append, bs_ofB, bs_ofB, bs_ofB])
theorem size_bs (s : ByteArray) : s.size = (bs s).length := by simp [bs]
theorem size_ofB (l : B) : (ofB l).size = l.length := by rw [size_bs, bs_ofB]
theorem bs_extract (s : ByteArray) (a b : Nat) : bs (s.extract a b) = ((bs s).take b).drop a := by
  simp [bs, ByteArray.data_extract, List.drop_take]
theorem ofB_extract (l : B) (a b : Nat) : (ofB l).extract a b = ofB ((l.take b).drop a) := bs_inj (by rw [bs_extract, bs_ofB, bs_ofB])
theorem byteAt_ofB (l : B) {i : Nat} (h : i < l.length) : byteAt (ofB l) i = ((l[i]).toNat : Int) := by
  have hs : i < (ofB l).size := by rw [size_ofB]; exact h
  unfold byteAt
  rw [dif_pos hs]
  rfl
theorem strOfNums_ofB (l : B) : strOfNums (l.map fun b => (b.toNat : Int)) = ofB l := bs_inj (by
  rw [bs_ofB]
  show (strOfNums _).data.toList = _
  rw [strOfNums_data, List.map_map]
  conv => rhs; rw [← List.map_id l]
  refine List.map_congr_left fun b _ => ?_
  simp)
theorem u8_back (b : UInt8) : ((b.toNat : Int)).toNat.toUInt8 = b := by simp
theorem u8_inj {a b : UInt8} : ((a.toNat : Int) = (b.toNat : Int)) ↔ a = b := ⟨fun h => UInt8.toNat_inj.1 (by omega), fun h => by rw [h]⟩

/-! ### hexadecimal digits -/
def signsB : B := [48, 49, 50, 51, 52, 53, 54, 55, 56, 57, 97, 98, 99, 100, 101, 102]
def hexc (d : Nat) : UInt8 := if d < 10 then UInt8.ofNat (48 + d) else UInt8.ofNat (87 + d)
def hexv (c : UInt8) : Option Nat := if 48 ≤ c.toNat ∧ c.toNat ≤ 57 then some (c.toNat - 48) else if 97 ≤ c.toNat ∧ c.toNat ≤ 102 then some (c.toNat - 87) else none
def hexi (c : UInt8) : Int := match hexv c with | some d => d | none => -1
theorem idx_signs0 : (List.range 256).all (fun n => decide (firstIdx (ofB signsB) (UInt8.ofNat n) = hexi (UInt8.ofNat n))) = true := by decide +kernel
theorem idx_signs (c : UInt8) : firstIdx (ofB signsB) c = hexi c := by
  have h := List.all_eq_true.1 idx_signs0 c.toNat (List.mem_range.2 c.toNat_lt)
  simpa using h
theorem at_signs0 : (List.range 16).all (fun d => decide (byteAt (ofB signsB) d = ((hexc d).toNat : Int))) = true := by decide +kernel
theorem at_signs {d : Nat} (h : d < 16) : byteAt (ofB signsB) d = ((hexc d).toNat : Int) := by
  have h := List.all_eq_true.1 at_signs0 d (List.mem_range.2 h)
  simpa using h
theorem hexv_hexc0 : (List.range 16).all (fun d => decide (hexv (hexc d) = some d)) = true := by decide +kernel
theorem hexv_hexc {d : Nat} (h : d < 16) : hexv (hexc d) = some d := by
  have h := List.all_eq_true.1 hexv_hexc0 d (List.mem_range.2 h)
  simpa using h
theorem hexc_hexv {c : UInt8} {d : Nat} (h : hexv c = some d) : hexc d = c ∧ d < 16 := by
  have key : (List.range 256).all (fun n => match hexv (UInt8.ofNat n) with | some d => decide (hexc d = UInt8.ofNat n ∧ d < 16) | none => true) = true := by decide +kernel
  have h1 := List.all_eq_true.1 key c.toNat (List.mem_range.2 c.toNat_lt)
  rw [show UInt8.ofNat c.toNat = c by simp, h] at h1
  simpa using h1

theorem and15 {x : Int} (h0 : 0 ≤ x) (h1 : x < 18446744073709551616) : ibits .and .u64 x 15 = x % 16 := by
  obtain ⟨n, rfl⟩ := Int.eq_ofNat_of_zero_le h0
  have hn : n < 18446744073709551616 := by omega
  have e1 : BitVec.ofInt IntKind.u64.bits (n : Int) = BitVec.ofNat 64 n := by
    show BitVec.ofInt 64 (n : Int) = _
    simp
  have e2 : BitVec.ofInt IntKind.u64.bits 15 = BitVec.ofNat 64 15 := rfl
  simp only [ibits]
  rw [e1, e2, wrap_u64]
  have : ((BitVec.ofNat 64 n &&& BitVec.ofNat 64 15 : BitVec 64)).toNat = n % 16 := by
    rw [BitVec.toNat_and, BitVec.toNat_ofNat, BitVec.toNat_ofNat, Nat.mod_eq_of_lt (show n < 2 ^ 64 by simpa using hn), show 15 % 2 ^ 64 = 2 ^ 4 - 1 from rfl, Nat.and_two_pow_sub_one_eq_mod]
  show (((BitVec.ofNat 64 n &&& BitVec.ofNat 64 15 : BitVec 64).toNat : Int)) % _ = _
  rw [this]
  omega
theorem fdiv_nat (n k : Nat) : ((n : Int)).fdiv (2 ^ k) = ((n / 2 ^ k : Nat) : Int) := by
  rw [Int.fdiv_eq_ediv_of_nonneg _ (by exact Int.le_of_lt (Int.pow_pos (by omega)))]
  simp
theorem and15_of (h : U) (e : Nat) : ibits .and .u64 ((h.toNat : Int).fdiv (2 ^ e)) 15 = ((h.toNat / 2 ^ e % 16 : Nat) : Int) := by
  rw [fdiv_nat, and15 (Int.natCast_nonneg _) (by have := h.isLt; have := Nat.div_le_self h.toNat (2 ^ e); omega)]
  omega

/-- The last 'k' digits. -/
def hexL (n : Nat) : Nat → B
  | 0 => []
  | k + 1 => hexc (n / 16 ^ k % 16) :: hexL n k
theorem hexL_length (n : Nat) : ∀ k, (hexL n k).length = k := by
  intro k
  induction k with
  | zero => rfl
  | succ k ih => simp [hexL, ih]
def hexB (h : U) : B := hexL h.toNat 16
/-- What digits tell: on from a number. -/
def readL : B → Nat → Option Nat
  | [], n => some n
  | c :: l, n => match hexv c with
    | some d => readL l (16 * n + d)
    | none => none
def readB (s : B) : Option U := if s.length = 16 then (readL s 0).map (BitVec.ofNat 64) else none
theorem readL_lt : ∀ (s : B) (n k m : Nat), readL s n = some m → n < 16 ^ k → m < 16 ^ (k + s.length) := by
  intro s
  induction s with
  | nil => intro n k m h hn; simp only [readL, Option.some.injEq] at h; subst h; simpa using hn
  | cons c s ih =>
    intro n k m h hn
    simp only [readL] at h
    split at h
    · rename_i d hd
      have := (hexc_hexv hd).2
      have := ih (16 * n + d) (k + 1) m h (by rw [Nat.pow_succ]; omega)
      rw [List.length_cons, show k + (s.length + 1) = k + 1 + s.length by omega]; exact this
    · cases h
theorem readL_hexL (n : Nat) : ∀ (k m : Nat), readL (hexL n k) m = some (16 ^ k * m + n % 16 ^ k) := by
  intro k
  induction k with
  | zero => intro m; simp [readL, hexL, Nat.mod_one]
  | succ k ih =>
    intro m
    simp only [readL, hexL]
    rw [hexv_hexc (Nat.mod_lt _ (by omega))]
    simp only
    rw [ih]
    congr 1
    have e : n % 16 ^ (k + 1) = n % 16 ^ k + 16 ^ k * (n / 16 ^ k % 16) := by rw [Nat.pow_succ, Nat.mod_mul]
    rw [e, Nat.pow_succ, Nat.mul_add, ← Nat.mul_assoc]
    omega
theorem hexL_readL : ∀ (s : B) (n m : Nat), readL s n = some m → hexL m s.length = s ∧ m / 16 ^ s.length = n := by
  intro s
  induction s with
  | nil => intro n m h; simp only [readL, Option.some.injEq] at h; subst h; simp [hexL]
  | cons c s ih =>
    intro n m h
    simp only [readL] at h
    split at h
    · rename_i d hd
      obtain ⟨h1, h2⟩ := hexc_hexv hd
      obtain ⟨h3, h4⟩ := ih _ _ h
      refine ⟨?_, ?_⟩
      · rw [List.length_cons, hexL, h3, h4, show (16 * n + d) % 16 = d by omega, h1]
      · rw [List.length_cons, Nat.pow_succ, ← Nat.div_div_eq_div_mul, h4]; omega
    · cases h
theorem readB_hexB (h : U) : readB (hexB h) = some h := by
  unfold readB hexB
  rw [if_pos (hexL_length _ _), readL_hexL]
  simp only [Option.map_some, Option.some.injEq]
  apply BitVec.eq_of_toNat_eq
  have := h.isLt
  simp
  omega
theorem hexB_readB {s : B} {h : U} (e : readB s = some h) : hexB h = s := by
  unfold readB at e
  split at e
  · rename_i hl
    obtain ⟨m, h1, rfl⟩ := Option.map_eq_some_iff.1 e
    have h2 := readL_lt s 0 0 m h1 (by simp)
    rw [hl] at h2
    have h3 := (hexL_readL s 0 m h1).1
    rw [hl] at h3
    unfold hexB
    rw [BitVec.toNat_ofNat, Nat.mod_eq_of_lt (by simpa using h2), h3]
  · cases e
end Go.Abs
end

section
/- Tables of texts (intern): the functions. -/
set_option maxRecDepth 100000
set_option linter.unusedVariables false
set_option linter.unusedSimpArgs false
namespace Go.Abs
open Go Go.Proofs
attribute [local irreducible] ibits byteAt strLt firstIdx

def vs (s : B) : AV := .val (.string (ofB s))
def vi (i : Int) : AV := .val (.int .i64 i)
def strs (l : List B) : List (List AV) := l.map fun s => [vs s]
theorem strs_length (l : List B) : (strs l).length = l.length := by simp [strs]
theorem strs_append (l m : List B) : strs (l ++ m) = strs l ++ strs m := by simp [strs]

/-! ### maps of texts, by the order in which they came -/
def tblFrom : List B → Nat → List (ByteArray × AV)
  | [], _ => []
  | s :: l, i => (ofB s, vi i) :: tblFrom l (i + 1)
theorem tblFrom_append (l : List B) (s : B) : ∀ i, tblFrom (l ++ [s]) i = tblFrom l i ++ [(ofB s, vi (i + l.length))] := by
  induction l with
  | nil => intro i; simp [tblFrom]
  | cons a l ih => intro i; simp [tblFrom, ih, Int.add_assoc]; congr 2; omega
theorem mapFind_none {l : List B} {s : B} (h : s ∉ l) : ∀ i, mapFind (tblFrom l i) (ofB s) = none := by
  induction l with
  | nil => intro i; rfl
  | cons a l ih =>
    intro i
    simp only [List.mem_cons, not_or] at h
    simp only [tblFrom, mapFind]
    rw [if_neg (fun e => h.1 (ofB_inj e).symm)]
    exact ih h.2 _
theorem mapFind_some {l : List B} {s : B} (h : s ∈ l) : ∀ i, ∃ j : Int, mapFind (tblFrom l i) (ofB s) = some (vi j) := by
  induction l with
  | nil => cases h
  | cons a l ih =>
    intro i
    simp only [tblFrom, mapFind]
    by_cases e : a = s
    · subst e; rw [if_pos rfl]; exact ⟨_, rfl⟩
    · rw [if_neg (fun e' => e (ofB_inj e'))]
      exact ih (by simpa [Ne.symm e, eq_comm] using h) _
theorem mapPut_new {l : List B} {s : B} {v : AV} (h : s ∉ l) : ∀ i, mapPut (tblFrom l i) (ofB s) v = tblFrom l i ++ [(ofB s, v)] := by
  induction l with
  | nil => intro i; rfl
  | cons a l ih =>
    intro i
    simp only [List.mem_cons, not_or] at h
    simp only [tblFrom, mapPut]
    rw [if_neg (fun e => h.1 (ofB_inj e).symm), ih h.2]
    rfl

def tblR (l : List B) : AObj := .row 9 1 l.length
def tblM (l : List B) : AObj := .map (tblFrom l 0)
def tblP (l : List B) (s : B) : List B := if s ∈ l then l else l ++ [s]

theorem bytes_str : (tab.ti 9).bytes = 16 := rfl
/-- Put, whatever there is: tables of texts, each once. -/
theorem tblP_some {l : List B} {s : B} (h : s ∈ l) : tblP l s = l := by simp [tblP, h]
theorem tblP_none {l : List B} {s : B} (h : s ∉ l) : tblP l s = l ++ [s] := by simp [tblP, h]

def tblN (l : List B) : List B := l.foldl tblP []
end Go.Abs
end

section
/- Contracts at the level of worlds: how they are told of abstract values. -/
set_option maxRecDepth 100000
set_option linter.unusedVariables false
set_option linter.unusedSimpArgs false
namespace Go.Abs
open Go Go.Proofs Go.Sort

def entryS (G : Gh) (w : World) : Entry := ⟨G, w, fun b => ∃ n, G.at n b, True⟩
theorem invS {G : Gh} {os : List AObj} {w : World} (hW : WR G (numbered 0 os) w) : Inv (entryS G w) ⟨[], numbered 0 os⟩ G { tmps := #[], defers := [] } w :=
  ⟨by simp [RepL], Marks.nil _ _ _, hW, Gh.le.refl _, ⟨rfl, rfl, rfl, Nat.le_refl _, fun _ _ _ => rfl, fun _ _ _ _ => rfl⟩, fun n b hb => .inl ⟨n, hb⟩⟩
theorem packS {P : Program} {f : FuncId} {args : List AV} {os : List AObj} {R : AV → List AObj → Prop}
    (h : ∀ (G : Gh) (w : World) (vals : List Value), WR G (numbered 0 os) w → RepL G args vals → Calls P f vals.toArray w fun e w' => ∃ (v : Value) (r : AV) (os' : List AObj) (G' : Gh), e = .returned v ∧ R r os' ∧ Rep G' r v ∧
      Inv (entryS G w) ⟨[], numbered 0 os'⟩ G' { tmps := #[], defers := [] } w' ∧ (∀ (i : Nat) (o : AObj), os'[i]? = some o → ∀ m ∈ objNames o, m < os'.length) ∧ ∀ m ∈ r.names, m < os'.length) : ACalls P f args os R :=
  ⟨fun G w vals hW hA => (h G w vals hW hA).mono fun e w' ⟨v, r, os', G', h1, h2, h3, h4, h5, h6⟩ => ⟨v, r, os', G', h1, h2, h3, h4.wr, h4.le, h4.ext, h4.newb, h5, h6⟩⟩

def sortB (l : List B) : List B := l.mergeSort fun x y => decide (x ≤ y)
theorem strs_flat (G : Gh) (l : List B) (vs : List Value) : RepL G (strs l).flatten vs ↔ vs = l.map encStr := by
  induction l generalizing vs with
  | nil => simp [strs, RepL]
  | cons s l ih =>
    simp only [strs, List.map_cons, List.flatten_cons, List.cons_append, List.nil_append, RepL, Rep]
    constructor
    · rintro ⟨v, us, rfl, h, h2⟩
      have := (ih us).1 h2
      simp only [vs] at h
      rw [this, h]
      rfl
    · rintro rfl
      exact ⟨_, _, rfl, rfl, (ih _).2 rfl⟩


theorem repE_strs {K : Nat → Nat → Option Value} {ob : Nm → Option GO} {g : Nat} : ∀ (ss : List B) (i : Nat), (∀ j s, ss[j]? = some s → K g (i + j) = some (encStr s)) → RepE ⟨K, ob⟩ 1 (some ⟨g, 0, none⟩) i (strs ss)
  | [], _, _ => trivial
  | s :: ss, i, h => by
    refine ⟨⟨g, 0, rfl, rfl, rfl, ⟨encStr s, by have := h 0 s rfl; simpa using this, rfl⟩, trivial⟩, repE_strs ss (i + 1) fun j s' hs => ?_⟩
    have := h (j + 1) s' (by simpa using hs)
    rw [show i + 1 + j = i + (j + 1) by omega]
    exact this

/-- A library function that answers plain values, and changes nothing that lay there. -/
theorem acalls_pure {P : Program} {f : FuncId} {args : List AV} {R : AV → List AObj → Prop}
    (h : ∀ (G : Gh) (w : World) (vals : List Value), WR G (numbered 0 []) w → RepL G args vals → ∃ (v : Value) (r : AV), R r [] ∧ r.names = [] ∧ Rep G r v ∧ Calls P f vals.toArray w fun e w' => e = .returned v ∧ Go.RowKit.Below w.heap.size w w') : ACalls P f args [] R := by
  refine packS fun G w vals hW hA => ?_
  have hI := invS hW
  obtain ⟨v, r, h1, h2, h3, h4⟩ := h G w vals hW hA
  refine h4.mono ?_
  rintro e w' ⟨rfl, hbl⟩
  obtain ⟨hI', hle⟩ := hI.grow (w' := w') (K' := G.K) hbl.os hbl.tape hbl.output hbl.size (fun b hb => hbl.block b hb) (fun _ _ _ => rfl) (fun b o v hb ev => by have := hI.wr.kltb ev; omega)
  exact ⟨_, r, [], G, rfl, h1, h3, hI', (by intro i o ho; cases ho), by rw [h2]; simp⟩
end Go.Abs
end

section
/-
  DERIVED: THE SHELF's CONTRACTS AT THIS DUMP, IN PLAIN WORDS (tools/lay-plain.mjs out of 'TryShelf.lean', which tools/lay-shelf.mjs wrote): THE SAME DECLARATIONS UNDER THE SAME NAMES: 'import', 'namespace', 'open', 'def', 'theorem' AND NOTHING ELSE: no command of the shelf's: FOR A HAND-IN. Each laying: the table of numbers ('.._ren') and one theorem, a field a fact of the dump's own or the kernel's comparison; each contract: ONE APPLICATION.
-/
namespace Go.Proofs
open Go.Shelf
def Try.lays128_ren : Go.Shelf.Ren := ⟨fun | 128 => 54 | n => n, fun | 51 => 82 | 3 => 3 | 4 => 4 | 46 => 72 | 5 => 5 | 9 => 9 | n => n, fun | n => n⟩
theorem Try.lays128 : Go.Proofs.Lays.n128 Try.prog Try.lays128_ren := {
  mixed := by kernel_rfl
  f128 := Try.func54.trans (congrArg some (by kernel_rfl))
  t3 := Try.underlying3
  a3 := Try.isAgg3
  z3 := Try.sizeOf3
  v3 := Try.zeroValue3
  t4 := Try.underlying4
  a4 := Try.isAgg4
  z4 := Try.sizeOf4
  v4 := Try.zeroValue4
  t5 := Try.underlying5
  a5 := Try.isAgg5
  z5 := Try.sizeOf5
  v5 := Try.zeroValue5
  t9 := Try.underlying9
  a9 := Try.isAgg9
  z9 := Try.sizeOf9
  v9 := Try.zeroValue9
  t46 := Try.underlying72
  a46 := Try.isAgg72
  z46 := Try.sizeOf72
  v46 := Try.zeroValue72
  t51 := Try.underlying82
  a51 := Try.isAgg82
  z51 := Try.sizeOf82
  v51 := Try.zeroValue82 }
/-- bits.Len32: "Len32 returns the minimum number of bits required to represent x; the result is 0 for x == 0.": IT RETURNS 'Lib.bitLen x'; the world is as it was. ('h0', 'h1': x is a uint32.) (LAID: no walk: one application.) -/
theorem Try.bits_Len32 (x : Int) (w : World) (h0 : 0 ≤ x) (h1 : x ≤ 4294967295) :
    Calls Try.prog 54 #[.int .u32 x] w fun e w' => e = .returned (.int .i64 (Lib.bitLen x.toNat)) ∧ w' = w := Any.bits_Len32 Try.lays128 x w h0 h1
def Try.lays125_ren : Go.Shelf.Ren := ⟨fun | 125 => 44 | 128 => 54 | 129 => 55 | n => n, fun | 46 => 72 | 3 => 3 | 51 => 82 | 53 => 84 | 4 => 4 | 5 => 5 | 9 => 9 | n => n, fun | n => n⟩
theorem Try.lays125 : Go.Proofs.Lays.n125 Try.prog Try.lays125_ren := {
  mixed := by kernel_rfl
  f125 := Try.func44.trans (congrArg some (by kernel_rfl))
  f128 := Try.func54.trans (congrArg some (by kernel_rfl))
  f129 := Try.func55.trans (congrArg some (by kernel_rfl))
  t3 := Try.underlying3
  a3 := Try.isAgg3
  z3 := Try.sizeOf3
  v3 := Try.zeroValue3
  t4 := Try.underlying4
  a4 := Try.isAgg4
  z4 := Try.sizeOf4
  v4 := Try.zeroValue4
  t5 := Try.underlying5
  a5 := Try.isAgg5
  z5 := Try.sizeOf5
  v5 := Try.zeroValue5
  t9 := Try.underlying9
  a9 := Try.isAgg9
  z9 := Try.sizeOf9
  v9 := Try.zeroValue9
  t46 := Try.underlying72
  a46 := Try.isAgg72
  z46 := Try.sizeOf72
  v46 := Try.zeroValue72
  t51 := Try.underlying82
  a51 := Try.isAgg82
  z51 := Try.sizeOf82
  v51 := Try.zeroValue82
  t53 := Try.underlying84
  a53 := Try.isAgg84
  z53 := Try.sizeOf84
  v53 := Try.zeroValue84 }
/-- bits.Len: "Len returns the minimum number of bits required to represent x; the result is 0 for x == 0.": IT RETURNS 'Lib.bitLen x'; the world is as it was. (A uint has 64 bits in the model.) ITS CALLEE bits.Len64 IS MET BY ITS OWN CONTRACT OFF THE SHELF (lay that first). (LAID: no walk: one application.) -/
theorem Try.bits_Len (x : Int) (w : World) (h0 : 0 ≤ x) (h1 : x ≤ 18446744073709551615) :
    Calls Try.prog 44 #[.int .u64 x] w fun e w' => e = .returned (.int .i64 (Lib.bitLen x.toNat)) ∧ w' = w := Any.bits_Len Try.lays125 x w h0 h1
def Try.lays129_ren : Go.Shelf.Ren := ⟨fun | 129 => 55 | n => n, fun | 53 => 84 | 3 => 3 | 4 => 4 | 46 => 72 | 5 => 5 | 9 => 9 | n => n, fun | n => n⟩
theorem Try.lays129 : Go.Proofs.Lays.n129 Try.prog Try.lays129_ren := {
  mixed := by kernel_rfl
  f129 := Try.func55.trans (congrArg some (by kernel_rfl))
  t3 := Try.underlying3
  a3 := Try.isAgg3
  z3 := Try.sizeOf3
  v3 := Try.zeroValue3
  t4 := Try.underlying4
  a4 := Try.isAgg4
  z4 := Try.sizeOf4
  v4 := Try.zeroValue4
  t5 := Try.underlying5
  a5 := Try.isAgg5
  z5 := Try.sizeOf5
  v5 := Try.zeroValue5
  t9 := Try.underlying9
  a9 := Try.isAgg9
  z9 := Try.sizeOf9
  v9 := Try.zeroValue9
  t46 := Try.underlying72
  a46 := Try.isAgg72
  z46 := Try.sizeOf72
  v46 := Try.zeroValue72
  t53 := Try.underlying84
  a53 := Try.isAgg84
  z53 := Try.sizeOf84
  v53 := Try.zeroValue84 }
/-- bits.Len64: "Len64 returns the minimum number of bits required to represent x; the result is 0 for x == 0.": IT RETURNS 'Lib.bitLen x'; the world is as it was. ('h0', 'h1': x is a uint64.) (LAID: no walk: one application.) -/
theorem Try.bits_Len64 (x : Int) (w : World) (h0 : 0 ≤ x) (h1 : x ≤ 18446744073709551615) :
    Calls Try.prog 55 #[.int .u64 x] w fun e w' => e = .returned (.int .i64 (Lib.bitLen x.toNat)) ∧ w' = w := Any.bits_Len64 Try.lays129 x w h0 h1
def Try.lays190_ren : Go.Shelf.Ren := ⟨fun | 190 => 38 | 125 => 44 | 258 => 43 | 128 => 54 | 129 => 55 | 302 => 45 | 303 => 46 | 304 => 47 | 305 => 48 | 306 => 49 | 307 => 50 | 308 => 51 | 309 => 52 | 310 => 53 | 333 => 56 | 329 => 57 | 330 => 58 | 334 => 59 | 335 => 60 | 336 => 61 | 344 => 62 | n => n, fun | 31 => 34 | 9 => 9 | 3 => 3 | 46 => 72 | 0 => 0 | 51 => 82 | 53 => 84 | 4 => 4 | 183 => 75 | 182 => 74 | 131 => 65 | 5 => 5 | 218 => 85 | 222 => 89 | 228 => 91 | 229 => 92 | n => n, fun | n => n⟩
theorem Try.lays190 : Go.Proofs.Lays.n190 Try.prog Try.lays190_ren := {
  mixed := by kernel_rfl
  f125 := Try.func44.trans (congrArg some (by kernel_rfl))
  f128 := Try.func54.trans (congrArg some (by kernel_rfl))
  f129 := Try.func55.trans (congrArg some (by kernel_rfl))
  f190 := Try.func38.trans (congrArg some (by kernel_rfl))
  f258 := Try.func43.trans (congrArg some (by kernel_rfl))
  f302 := Try.func45.trans (congrArg some (by kernel_rfl))
  f303 := Try.func46.trans (congrArg some (by kernel_rfl))
  f304 := Try.func47.trans (congrArg some (by kernel_rfl))
  f305 := Try.func48.trans (congrArg some (by kernel_rfl))
  f306 := Try.func49.trans (congrArg some (by kernel_rfl))
  f307 := Try.func50.trans (congrArg some (by kernel_rfl))
  f308 := Try.func51.trans (congrArg some (by kernel_rfl))
  f309 := Try.func52.trans (congrArg some (by kernel_rfl))
  f310 := Try.func53.trans (congrArg some (by kernel_rfl))
  f329 := Try.func57.trans (congrArg some (by kernel_rfl))
  f330 := Try.func58.trans (congrArg some (by kernel_rfl))
  f333 := Try.func56.trans (congrArg some (by kernel_rfl))
  f334 := Try.func59.trans (congrArg some (by kernel_rfl))
  f335 := Try.func60.trans (congrArg some (by kernel_rfl))
  f336 := Try.func61.trans (congrArg some (by kernel_rfl))
  f344 := Try.func62.trans (congrArg some (by kernel_rfl))
  t0 := Try.underlying0
  a0 := Try.isAgg0
  z0 := Try.sizeOf0
  v0 := Try.zeroValue0
  t3 := Try.underlying3
  a3 := Try.isAgg3
  z3 := Try.sizeOf3
  v3 := Try.zeroValue3
  t4 := Try.underlying4
  a4 := Try.isAgg4
  z4 := Try.sizeOf4
  v4 := Try.zeroValue4
  t5 := Try.underlying5
  a5 := Try.isAgg5
  z5 := Try.sizeOf5
  v5 := Try.zeroValue5
  t9 := Try.underlying9
  a9 := Try.isAgg9
  z9 := Try.sizeOf9
  v9 := Try.zeroValue9
  t31 := Try.underlying34
  a31 := Try.isAgg34
  z31 := Try.sizeOf34
  v31 := Try.zeroValue34
  t46 := Try.underlying72
  a46 := Try.isAgg72
  z46 := Try.sizeOf72
  v46 := Try.zeroValue72
  t51 := Try.underlying82
  a51 := Try.isAgg82
  z51 := Try.sizeOf82
  v51 := Try.zeroValue82
  t53 := Try.underlying84
  a53 := Try.isAgg84
  z53 := Try.sizeOf84
  v53 := Try.zeroValue84
  t131 := Try.underlying65
  a131 := Try.isAgg65
  z131 := Try.sizeOf65
  v131 := Try.zeroValue65
  t182 := Try.underlying74
  a182 := Try.isAgg74
  z182 := Try.sizeOf74
  v182 := Try.zeroValue74
  t183 := Try.underlying75
  a183 := Try.isAgg75
  z183 := Try.sizeOf75
  v183 := Try.zeroValue75
  t218 := Try.underlying85
  a218 := Try.isAgg85
  z218 := Try.sizeOf85
  v218 := Try.zeroValue85
  t222 := Try.underlying89
  a222 := Try.isAgg89
  z222 := Try.sizeOf89
  v222 := Try.zeroValue89
  t228 := Try.underlying91
  a228 := Try.isAgg91
  z228 := Try.sizeOf91
  v228 := Try.zeroValue91
  t229 := Try.underlying92
  a229 := Try.isAgg92
  z229 := Try.sizeOf92
  v229 := Try.zeroValue92 }
open Go.Sort Go.RowKit in
theorem Try.slices_Sort_string (blk off cap : Nat) (ss : List (List UInt8)) (w : World) (hH : Holds encStr w blk off ss.toArray) (hblk : blk < w.heap.size) (hsz : ss.length < 4611686018427387904) :
    Calls Try.prog 38 #[.slice (some ⟨blk, off, none⟩) ss.length cap] w fun e w' =>
      e = .returned (.tuple #[]) ∧ ∃ n os, w' = grow (putRow encStr (Sort.ahead w n) blk off (ss.mergeSort fun x y => decide (x ≤ y)).toArray) os := Any.slices_Sort_string Try.lays190 blk off cap ss w hH hblk hsz
open Go.RowKit Go.Sort in
/-- .. and plain. (LAID: no walk: one application.) -/
theorem Try.slices_Sort_string_none (p : Option Addr) (cap : Nat) (w : World) :
    Calls Try.prog 38 #[.slice p 0 cap] w fun e w' => e = .returned (.tuple #[]) ∧ w' = w := Any.slices_Sort_string_none Try.lays190 p cap w
end Go.Proofs
end

section
/- slices.Sort of texts: the kit's contract, told of a row whose elements may change. -/
set_option maxRecDepth 100000
set_option linter.unusedVariables false
set_option linter.unusedSimpArgs false
namespace Go.Abs
open Go Go.Proofs Go.Sort

theorem Sort_calls (l : List B) (ver : Nat) (hl : l.length < 1000000) {R} (h : R (.tup []) [.vec 9 1 (strs (sortB l)) ver]) :
    ACalls Try.prog 38 [.slv 0 1 ver 0 l.length] [.vec 9 1 (strs l) ver] R := by
  refine packS fun G w vals hW hA => ?_
  have hI := invS hW
  obtain ⟨u, xs, e1, e2, e3, e4, e5⟩ := hW.obj 0 (.vec 9 1 (strs l) ver) rfl
  have hsl := strs_length l
  have hx : xs = l.map encStr := (strs_flat G l xs).1 e3
  subst hx
  simp only [RepL, Rep] at hA
  obtain ⟨v, _, rfl, ⟨_, u', top, q1, q2, q3⟩, rfl⟩ := hA
  rw [e1] at q1
  injection q1 with q1
  injection q1 with q1 q1'
  subst q1 q1'
  rw [hsl] at e2
  have hv : v = u := by
    obtain ⟨A, L, c, A', hu, hL, hLc, hve, hA0, _⟩ := q3 rfl
    have hA0 := hA0 rfl
    have hLl : L = l.length := by
      rcases e2.2 with ⟨hn, h0⟩ | ⟨g, cap, cur, hn, _⟩
      · rw [hn] at hu; injection hu with _ q2 _; omega
      · rw [hn] at hu; injection hu with _ q2 _; omega
    rw [hve, hu, hLl, hA0]; rfl
  subst hv
  have hsort : (sortB l).length = l.length := by simp [sortB]
  have hsls := strs_length (sortB l)
  have hok : ∀ e ∈ strs (sortB l), e.length = 1 ∧ okCells e = true := fun e he => by
    obtain ⟨s, _, rfl⟩ := List.mem_map.1 he
    exact ⟨rfl, rfl⟩
  rcases e2.2 with ⟨rfl, hz⟩ | ⟨g, cap, cur, rfl, hbase, hgb, r1, r2, r3, r4⟩
  · have hnil : l = [] := List.eq_nil_of_length_eq_zero hz
    subst hnil
    refine (Try.slices_Sort_string_none none 0 w).mono ?_
    rintro e w' ⟨rfl, rfl⟩
    refine ⟨_, .tup [], _, G, rfl, h, by simp only [Rep]; exact ⟨[], rfl, by simp [RepL]⟩, ?_, ?_, by simp [AV.names, namesL]⟩
    · have : sortB ([] : List B) = [] := by simp [sortB]
      rw [this]
      exact hI
    · intro i o ho m hm
      cases i with
      | zero => simp at ho; subst ho; simp [objNames] at hm
      | succ i => simp at ho
  · have hH := holds_of_block (w := w) (ss := l) hgb (by simpa using r4)
    have hglt : g < w.heap.size := (Array.getElem?_eq_some_iff.1 hgb).1
    refine (Try.slices_Sort_string g 0 cap l w hH hglt (by omega)).mono ?_
    rintro e w' ⟨rfl, n, os, rfl⟩
    have hown := ownsRow_sorted (n := n) (os := os) (ss := l) (ts := sortB l) hsort hbase hgb r1 r2 (by simpa using r3)
    have hgr := grownBy_sorted (w := w) (g := g) (n := n) (os := os) (sortB l).toArray
    have hat : ∀ b, G.at 0 b ↔ b = g := fun b => by
      constructor
      · rintro (h1 | ⟨u1, t1, h1, h2⟩)
        · rw [e1] at h1; cases h1
        · rw [e1] at h1; cases h1; simp [Value.ownBlock] at h2; exact h2.symm
      · rintro rfl; exact .inr ⟨_, _, e1, rfl⟩
    have heq : (⟨G.K, addOb G.ob 0 (.rowv (.slice (some ⟨g, 0, none⟩) l.length cap) ver)⟩ : Gh) = G := by
      cases G with
      | mk K ob =>
        congr 1
        funext m
        by_cases hm : m = 0
        · subst hm; simp [addOb]; exact e1.symm
        · simp [addOb, hm]
    have hI' := hI.setObj (w' := grow (putRow encStr (Sort.ahead w n) g 0 (sortB l).toArray) os) (n := 0) (o := .vec 9 1 (strs l) ver) (o' := .vec 9 1 (strs (sortB l)) ver) (objs' := numbered 0 [.vec 9 1 (strs (sortB l)) ver]) (g := .rowv (.slice (some ⟨g, 0, none⟩) l.length cap) ver) (K' := G.K)
      rfl hgr.os hgr.tape hgr.output hgr.size (fun b hb hnat => hgr.block b hb (fun e => hnat ((hat b).2 (by injection e)))) (fun _ _ _ _ => rfl)
      (by rw [heq]; exact Gh.le.refl G)
      (fun b o v hb ev => by
        rcases hb with hb | hb
        · have := hI.wr.kltb ev; omega
        · rw [(hat b).1 hb, e5 g rfl o] at ev; cases ev)
      (fun m => by
        by_cases hm : m = 0
        · subst hm; rfl
        · simp only [hm, if_false]
          have : Nat.beq 0 m = false := by
            cases m with
            | zero => exact absurd rfl hm
            | succ m => rfl
          simp [numbered, objGet, this])
      (by
        rw [heq]
        refine ⟨_, (sortB l).map encStr, e1, by rw [hsls, hsort]; exact hown, (strs_flat _ _ _).2 rfl, hok, fun g' hg' o => ?_⟩
        simp [Value.ownBlock] at hg'
        subst hg'
        exact e5 _ rfl o)
      (fun b hb => by rw [heq] at hb; exact .inr hb)
    rw [heq] at hI'
    refine ⟨_, .tup [], _, G, rfl, h, by simp only [Rep]; exact ⟨[], rfl, by simp [RepL]⟩, hI', ?_, by simp [AV.names, namesL]⟩
    intro i o ho m hm
    cases i with
    | zero => simp at ho; subst ho; simp [objNames] at hm
    | succ i => simp at ho
end Go.Abs
end

section
/- slices.Sorted(maps.Keys(m)), at the level of worlds (after the kit's worked proofs of the same library functions). -/
set_option linter.unusedVariables false
set_option linter.unusedSimpArgs false
namespace Go.Proofs
open Go.RowKit Go.Maps Go.Sort Go.Shelf

theorem Kx.law26 : Keyed Try.prog 9 := string_keyed Try.underlying9


/-! ### slices.AppendSeq(nil, seq), AGAINST WHATEVER ITERATOR -/


def Kx.apAssign : Code := (Code.region 2 #[{ dst := some 5, op := Op.assign (Operand.tmp 7), type := 9, pos := "iter.go:51", after := #[], guard := none }] false)
def Kx.apBody : Code := (Code.block 1 (Code.region 3 #[{ dst := some 8, op := Op.load 34 (Operand.tmp 2), type := 34, pos := "iter.go:52", after := #[], guard := none }, { dst := some 9, op := Op.move (Operand.tmp 5), type := 9, pos := "iter.go:52", after := #[], guard := none }, { dst := some 10, op := Op.buildSlice 34 1 #[(0, Operand.tmp 9)], type := 34, pos := "iter.go:52", after := #[{ on := 1, ground := Ground.data }], guard := none }, { dst := some 11, op := Op.call { callee := Callee.builtin Builtin.append, args := #[Operand.tmp 8, Operand.tmp 10], argTypes := #[34, 34] }, type := 34, pos := "iter.go:52", after := #[{ on := 0, ground := Ground.data }, { on := 2, ground := Ground.data }], guard := none }, { dst := none, op := Op.store 34 (Operand.tmp 2) (Operand.tmp 11), type := 0, pos := "iter.go:52", after := #[{ on := 3, ground := Ground.data }, { on := 3, ground := Ground.chain }, { on := 0, ground := Ground.phase }, { on := 1, ground := Ground.phase }, { on := 2, ground := Ground.phase }, { on := 3, ground := Ground.phase }], guard := none }] false))
/-- The loop's record: AppendSeq's temporaries as they stood at the entering: 's' boxed in block Bs; sv: the iterator's value. -/
def Kx.apRec (fn : FuncId) (sv : Value) (Bs D : Nat) (st : LoopState) (pend : Option Code) : Loop :=
  { state := st, pending := pend, fn, tmps := #[.slice none 0 0, sv, .pointer (some ⟨Bs, 0, none⟩), undef, .slice none 0 0, undef, sv, undef, undef, undef, undef, undef, undef], params := #[7], assign := Kx.apAssign, body := Kx.apBody, defers := D }

/-- BETWEEN TWO ROUNDS: the box holds a slice that owns, in a block of the call's own, what has come so far; IT IS nil JUST AS LONG AS NOTHING HAS COME; nothing that lay before the call has turned. -/
structure Kx.ApAt (w0 : World) (fn : FuncId) (sv : Value) (Bs l D : Nat) (ss : List (List UInt8)) (W : World) : Prop where
  box : ∃ v, W.heap[Bs]? = some (.cells #[v] 34 (0, 0)) ∧ W.ownsRow w0.heap.size 9 1 v ss.length (ss.map encStr) ∧ (v = .slice none 0 0 ↔ ss = [])
  L : W.heap[l]? = some (.loop (Kx.apRec fn sv Bs D .ready none))
  K : W.heap[D]? = some (.deferred (some []))
  below : Below w0.heap.size w0 W

/-- A slice's own row is no walk's object: it abides an iterator's step. -/
theorem kx_ownsRow_abides {W W' : World} {row : Option Nat} {base : Nat} {e : TypeId} {size : Nat} {v : Value} {k : Nat} {xs : List Value} (h : W.ownsRow base e size v k xs) (hg : W.grownBy W' row)
    (hrow : ∀ r, row = some r → ∃ o : Obj, W.heap[r]? = some o ∧ o.isWalk = true) : W'.ownsRow base e size v k xs := by
  refine h.kept hg ?_
  rcases h.2 with ⟨rfl, _⟩ | ⟨g, cap, cur, rfl, _, hgb, _⟩
  · exact .inl rfl
  · refine .inr fun e' => ?_
    obtain ⟨o, ho, hw⟩ := hrow g (by simpa [Value.ownBlock] using e'.symm)
    rw [hgb] at ho; cases ho; cases hw

theorem Kx.ap_abides (w0 : World) (fn : FuncId) (sv : Value) (Bs l D B : Nat) (hB : w0.heap.size ≤ B) : AbidesFrom B (Kx.ApAt w0 fn sv Bs l D) := fun s W W' row h hg hrow => by
  have hrow' : ∀ r, row = some r → ∃ o : Obj, W.heap[r]? = some o ∧ o.isWalk = true := fun r e => (hrow r e).2
  obtain ⟨v, hv, hr, hn⟩ := h.box
  exact ⟨⟨v, (grownBy_keeps hg hrow' hv rfl).trans hv, kx_ownsRow_abides hr hg hrow', hn⟩, (grownBy_keeps hg hrow' h.L rfl).trans h.L, (grownBy_keeps hg hrow' h.K rfl).trans h.K,
    h.below.grown hg h.below.size (fun k e => Nat.le_trans hB (hrow k e).1)⟩

theorem kx_grownBy_putObj (W : World) (l : Nat) (o : Obj) : W.grownBy (W.putObj l o) (some l) :=
  ⟨rfl, rfl, rfl, by simp, fun k _ hk => World.putObj_heap_other (fun e => hk (by rw [e]))⟩
theorem kx_grownBy_setCell0 (W : World) (b : Nat) (v : Value) : W.grownBy (W.setCell ⟨b, 0, none⟩ v) (some b) :=
  ⟨rfl, rfl, rfl, (KeepsWalks.setCell W _ v).size, fun k _ hk => Below.heap_setCell _ _ _ k (fun e => hk (by rw [e]))⟩
/-- A slice's own row is not a block that holds something else than cells of its element's type. -/
theorem kx_ownsRow_ne {W : World} {base : Nat} {e : TypeId} {size : Nat} {v : Value} {k : Nat} {xs : List Value} (h : W.ownsRow base e size v k xs) {j : Nat} {o : Obj} (hj : W.heap[j]? = some o) (hno : ∀ cur, o ≠ .cells cur e (0, 0)) :
    v.ownBlock = none ∨ v.ownBlock ≠ some j := by
  rcases h.2 with ⟨rfl, _⟩ | ⟨g, cap, cur, rfl, _, hgb, _⟩
  · exact .inl rfl
  · refine .inr fun e' => ?_
    have : g = j := by simpa [Value.ownBlock] using e'
    subst this; rw [hgb] at hj; cases hj; exact hno cur rfl
theorem kx_cell_of_box {W : World} {B : Nat} {v : Value} {t : TypeId} (h : W.heap[B]? = some (.cells #[v] t (0, 0))) : W.cell? ⟨B, 0, none⟩ = some v ∧ W.frozen? ⟨B, 0, none⟩ = false := by
  constructor <;> simp [World.cell?, World.frozen?, h]

theorem kx_heap_setCell_box {W : World} {B : Nat} {v : Value} {t : TypeId} (v' : Value) (h : W.heap[B]? = some (.cells #[v] t (0, 0))) : (W.setCell ⟨B, 0, none⟩ v').heap[B]? = some (.cells #[v'] t (0, 0)) := by
  obtain ⟨hlt, hk⟩ := Array.getElem?_eq_some_iff.1 h
  show (W.heap.modify B _)[B]? = _
  rw [Array.getElem?_eq_getElem (by rw [Array.size_modify]; exact hlt), Array.getElem_modify_self, hk]
  rfl
theorem kx_ownsRow_not_walk {W : World} {base : Nat} {e : TypeId} {size : Nat} {v : Value} {k : Nat} {xs : List Value} (h : W.ownsRow base e size v k xs) : ∀ (j : Nat) (o : Obj), v.ownBlock = some j → W.heap[j]? = some o → o.isWalk = false := by
  intro j o hj ho
  rcases h.2 with ⟨rfl, _⟩ | ⟨g, cap, cur, rfl, _, hgb, _⟩
  · simp [Value.ownBlock] at hj
  · have : g = j := by simpa [Value.ownBlock] using hj
    subst this; rw [hgb] at ho; cases ho; rfl

theorem Kx.info26 : (Try.prog.info? 9).map (fun i => (i.zero, i.size, i.bytes)) = some (some (.string ⟨#[]⟩), 1, 16) := by kernel_rfl

set_option maxRecDepth 100000 in
set_option maxHeartbeats 2000000 in
theorem Kx.apYield (F : Fence) (m : Nat) (w0 : World) (fn : FuncId) (hfn : F.fn fn) (sv : Value) (Bs l D : Nat) (hBl : Bs ≠ l) (hDl : D ≠ l) (hDB : D ≠ Bs) (h0B : w0.heap.size ≤ Bs) (h0l : w0.heap.size ≤ l)
    (N : Nat) (hN : N ≤ maxLen) (hNb : N * 16 ≤ 140737488355328) (ss : List (List UInt8)) (x : List UInt8) (W : World) (h : Kx.ApAt w0 fn sv Bs l D ss W) (hlen : ss.length < N) :
    YieldAt F m Try.prog l #[encStr x] W fun e W' => e = .returned (.bool true) ∧ Kx.ApAt w0 fn sv Bs l D (ss ++ [x]) W' ∧ KeepsWalks W W' := by
  obtain ⟨i0, hi, hz0, hz1, hz2⟩ := info_parts Kx.info26
  obtain ⟨v, hv, hrow, _⟩ := h.box
  refine ⟨fn, #[.slice none 0 0, sv, .pointer (some ⟨Bs, 0, none⟩), undef, .slice none 0 0, undef, sv, encStr x, undef, undef, undef, undef, undef], Kx.apAssign, Kx.apBody, by simpa [Kx.apRec] using run_yield (P := Try.prog) (args := #[encStr x]) h.L rfl, roundIn_of_wpIn hfn ?_⟩
  have hl : l < W.heap.size := (Array.getElem?_eq_some_iff.1 h.L).1
  have hbr := run_beginRound (P := Try.prog) h.L rfl
  obtain ⟨W2, hW2⟩ : ∃ W2, W.putObj l (.loop { Kx.apRec fn sv Bs D .ready none with state := .busy }) = W2 := ⟨_, rfl⟩
  rw [hW2] at hbr
  have hg2 : W.grownBy W2 (some l) := by rw [← hW2]; exact kx_grownBy_putObj _ _ _
  have hk2 : KeepsWalks W W2 := by rw [← hW2]; exact KeepsWalks.putObj _ h.L rfl
  have hv2 : W2.heap[Bs]? = some (.cells #[v] 34 (0, 0)) := by rw [← hW2]; exact (World.putObj_heap_other hBl).trans hv
  have hK2 : W2.heap[D]? = some (.deferred (some [])) := by rw [← hW2]; exact (World.putObj_heap_other hDl).trans h.K
  have hL2 : W2.heap[l]? = some (.loop { Kx.apRec fn sv Bs D .ready none with state := .busy }) := by rw [← hW2]; exact World.putObj_heap_same hl
  have hrow2 : W2.ownsRow w0.heap.size 9 1 v ss.length (ss.map encStr) := hrow.kept hg2 (kx_ownsRow_ne hrow h.L (fun cur e => by cases e))
  have hb2 : Below w0.heap.size w0 W2 := h.below.grown hg2 h.below.size (fun k e => by cases e; exact h0l)
  obtain ⟨hc2, hf2⟩ := kx_cell_of_box hv2
  have hBlt : Bs < W2.heap.size := (Array.getElem?_eq_some_iff.1 hv2).1
  have hl2 : l < W2.heap.size := (Array.getElem?_eq_some_iff.1 hL2).1
  have hDlt : D < W2.heap.size := (Array.getElem?_eq_some_iff.1 hK2).1
  have ne_of : ∀ {j : Nat} {o : Obj}, W2.heap[j]? = some o → (∀ cur, o ≠ .cells cur 9 (0, 0)) → some j ≠ v.ownBlock := fun hj hno => by
    rcases kx_ownsRow_ne hrow2 hj hno with e | e
    · rw [e]; simp
    · exact fun e' => e e'.symm
  clear hW2
  unfold Kx.apAssign
  gi_wp2_with (rw [Oper.semAt_eq _ _ _ (fun c h => by cases h)]; go_simp; try go_bits)
  unfold Kx.apBody
  gi_wp2_with (first
    | (gi_at_builtin; refine wpListIn_append_own _ rfl _ _ 34 rfl w0.heap.size 9 i0 (.string ⟨#[]⟩) 1 16 Try.underlying34 hi hz0 hz1 hz2 rfl (by decide) _ _ _ rfl (hrow2.alloc _) ⟨W2.heap.size, 0, none⟩ 1 1 [encStr x] rfl rfl (cell_one_new _ _ _) (by simp [Value.oneCell', encStr]) (by omega) (by omega) (by have := hb2.size; simp; omega) ?_; intro v' w3 hown' hg3 hnil3
       have hv3 : w3.heap[Bs]? = some (.cells #[v] 34 (0, 0)) := (hg3.block Bs (by simp; omega) (ne_of hv2 (fun cur e => by cases e))).trans ((Below.heap_alloc _ _ Bs hBlt).trans hv2)
       obtain ⟨hc3, hf3⟩ := kx_cell_of_box hv3
       obtain ⟨g', cap', cur', rfl, hbase', hgb', hr1, hr2, hr3, hr4⟩ : ∃ g' cap' cur', v' = .slice (some ⟨g', 0, none⟩) (ss.length + 1) cap' ∧ w0.heap.size ≤ g' ∧ w3.heap[g']? = some (.cells cur' 9 (0, 0)) ∧ ss.length + 1 ≤ cap' ∧ cap' ≤ maxLen ∧ cur'.size = cap' * 1 ∧ cur'.toList.take ((ss.length + 1) * 1) = ss.map encStr ++ [encStr x] := by
         rcases hown'.2 with ⟨_, h0⟩ | h'
         · exact absurd h0 (by omega)
         · exact h'
       go_frame)
    | (rw [Oper.semAt_eq _ _ _ (fun c h => by cases h)]; go_simp; try go_bits))
  have hg3' : (W2.alloc (.cells #[encStr x] 9)).grownBy w3 v.ownBlock := hg3
  have hL3 : w3.heap[l]? = some (.loop { Kx.apRec fn sv Bs D .ready none with state := .busy }) := (hg3'.block l (by simp; omega) (ne_of hL2 (fun cur e => by cases e))).trans ((Below.heap_alloc _ _ l hl2).trans hL2)
  have hK3 : w3.heap[D]? = some (.deferred (some [])) := (hg3'.block D (by simp; omega) (ne_of hK2 (fun cur e => by cases e))).trans ((Below.heap_alloc _ _ D hDlt).trans hK2)
  obtain ⟨w4, hw4⟩ : ∃ w4, w3.setCell ⟨Bs, 0, none⟩ (.slice (some ⟨g', 0, none⟩) (ss.length + 1) cap') = w4 := ⟨_, rfl⟩
  rw [hw4]
  have hg4 : w3.grownBy w4 (some Bs) := by rw [← hw4]; exact kx_grownBy_setCell0 _ _ _
  have hv4 : w4.heap[Bs]? = some (.cells #[.slice (some ⟨g', 0, none⟩) (ss.length + 1) cap'] 34 (0, 0)) := by rw [← hw4]; exact kx_heap_setCell_box _ hv3
  have hL4 : w4.heap[l]? = some (.loop { Kx.apRec fn sv Bs D .ready none with state := .busy }) := (hg4.block l (Array.getElem?_eq_some_iff.1 hL3).1 (fun e => hBl (by cases e; rfl))).trans hL3
  have hK4 : w4.heap[D]? = some (.deferred (some [])) := (hg4.block D (Array.getElem?_eq_some_iff.1 hK3).1 (fun e => hDB (by cases e; rfl))).trans hK3
  have hrow4 := hown'.kept hg4 (kx_ownsRow_ne hown' hv3 (fun cur e => by cases e))
  have hl4 : l < w4.heap.size := (Array.getElem?_eq_some_iff.1 hL4).1
  have hb3 : Below w0.heap.size w0 w3 := (hb2.alloc hb2.size _).grown hg3' (by have := hb2.size; simp; omega) (fun k e => (hrow2.lt k e).1)
  have hb4 : Below w0.heap.size w0 w4 := hb3.grown hg4 hb3.size (fun k e => by cases e; exact h0B)
  have hk4 : KeepsWalks W w4 := ((hk2.trans (KeepsWalks.alloc _ _)).trans (KeepsWalks.of_grownBy hg3' (kx_ownsRow_not_walk (hrow2.alloc _)))).trans (by rw [← hw4]; exact KeepsWalks.setCell _ _ _)
  clear hw4
  refine ⟨_, _, run_endRound none hL4, rfl, ⟨⟨_, (World.putObj_heap_other hBl).trans hv4, ?_, by simp⟩, World.putObj_heap_same hl4, (World.putObj_heap_other hDl).trans hK4, hb4.grown (kx_grownBy_putObj _ _ _) hb4.size (fun k e => by cases e; exact h0l)⟩, hk4.trans (KeepsWalks.putObj _ hL4 rfl)⟩
  have := hrow4.kept (kx_grownBy_putObj w4 l (.loop { { Kx.apRec fn sv Bs D .ready none with state := .busy } with state := if (none : Option Code).isNone then .ready else .done, pending := none })) (kx_ownsRow_ne hrow4 hL4 (fun cur e => by cases e))
  simpa using this


set_option maxRecDepth 100000 in
set_option maxHeartbeats 2000000 in
/-- **slices.AppendSeq(nil, seq), AGAINST WHATEVER ITERATOR VALUE THAT 'SeqGives'**: it hands back a slice that owns, in a block of the call's own, JUST WHAT THE ITERATOR GAVE, IN THAT ORDER; nil JUST WHERE IT GAVE NOTHING (as Go: 'slices.Collect' of nothing is nil); nothing that lay before the call has turned. -/
theorem Kx.appendSeq_in (F : Fence) (n : Nat) (h11 : F.fn 42) (hro : F.round = none) (hn : 2 ≤ n) (g : Nat) (lb : Array Value) (hFg : F.fn g) (eg : ∀ args w, (callFunc g args).run Try.prog w = .ok (.enter g args) w)
    (S : List (List UInt8) → Prop) (N : Nat) (hN : N ≤ maxLen) (hNb : N * 16 ≤ 140737488355328) (w : World) (hseq : SeqGives F (n - 1) Try.prog g lb encStr S N w) :
    CallsIn F n Try.prog 42 #[.slice none 0 0, .func (.func g) #[] lb] w fun e w' => ∃ (v : Value) (ss : List (List UInt8)), e = .returned v ∧ S ss ∧ w'.ownsRow w.heap.size 9 1 v ss.length (ss.map encStr) ∧ (v = .slice none 0 0 ↔ ss = []) ∧ Below w.heap.size w w' := by
  have h1 : 1 ≤ n := by omega
  refine callsIn_of_wp_marks Try.func42 rfl h11 ?_ hro
  simp only [Try.ntmps42, List.size_toArray, List.length_cons, List.length_nil, Nat.reduceAdd, Nat.reduceSub, Array.replicate_succ, Array.replicate_zero, List.push_toArray, List.append_toArray, List.nil_append, List.cons_append]
  gi_wp2
  refine wpIn_rangeFunc ?_
  intro fn hfn
  rw [hro]
  obtain ⟨W0, hW0⟩ : ∃ W0, w.alloc (.cells #[.slice none 0 0] 34) = W0 := ⟨_, rfl⟩
  have hs0 : W0.heap.size = w.heap.size + 1 := by rw [← hW0]; simp
  have hv0 : W0.heap[w.heap.size]? = some (.cells #[.slice none 0 0] 34 (0, 0)) := by rw [← hW0]; exact World.alloc_heap_new w _
  have hb0 : Below w.heap.size w W0 := by rw [← hW0]; exact (Below.refl _ w).alloc (Nat.le_refl _) _
  rw [hW0]
  obtain ⟨W1, hW1⟩ : ∃ W1, (W0.alloc (.deferred (some []))).alloc (.loop (Kx.apRec fn (.func (.func g) #[] lb) w.heap.size W0.heap.size .ready none)) = W1 := ⟨_, rfl⟩
  have hold : ∀ k, k < W0.heap.size → W1.heap[k]? = W0.heap[k]? := fun k hk => by
    rw [← hW1]; exact (Below.heap_alloc _ _ k (by simp; omega)).trans (Below.heap_alloc _ _ k hk)
  have hb1 : Below w.heap.size w W1 := by rw [← hW1]; exact (hb0.alloc hb0.size _).alloc (by have := hb0.size; simp; omega) _
  have hs1 : W1.heap.size = W0.heap.size + 2 := by rw [← hW1]; simp
  have hM : Kx.ApAt w fn (.func (.func g) #[] lb) w.heap.size (W0.heap.size + 1) W0.heap.size [] W1 :=
    ⟨⟨_, (hold w.heap.size (by omega)).trans hv0, ⟨rfl, .inl ⟨rfl, rfl⟩⟩, by simp⟩,
     by rw [← hW1]; have := World.alloc_heap_new (W0.alloc (.deferred (some []))) (.loop (Kx.apRec fn (.func (.func g) #[] lb) w.heap.size W0.heap.size .ready none)); rwa [World.size_alloc] at this,
     by rw [← hW1]; exact (Below.heap_alloc _ _ _ (by simp)).trans (World.alloc_heap_new W0 _), hb1⟩
  refine ⟨W0.heap.size + 1, [{ target := .collected W0.heap.size, args := #[] }], W1, { target := .fn (.func g) lb, args := #[.func (.yield (W0.heap.size + 1)) #[] #[]] }, W1, g,
    #[.func (.yield (W0.heap.size + 1)) #[] #[]] ++ lb, W1, ?_, ?_, ?_, ?_, fun _ => h1, ?_⟩
  · rw [← hW1]; exact run_enterLoop_outer _ _ _ _ _
  · simp [resolve, go_sem]
  · intro f' hf'; simp [Target.leads] at hf'; subst hf'; exact hFg
  · simp [invoke, go_sem, eg]
  · refine (hseq (W0.heap.size + 1) (Kx.ApAt w fn (.func (.func g) #[] lb) w.heap.size (W0.heap.size + 1) W0.heap.size) W1 hb1 (Kx.ap_abides _ _ _ _ _ _ _ hb1.size)
      (fun pre x W hJ hl => Kx.apYield F (n - 1 - 1) w fn hfn _ w.heap.size (W0.heap.size + 1) W0.heap.size (by omega) (by omega) (by omega) (Nat.le_refl _) (by omega) N hN hNb pre x W hJ hl) hM).mono ?_
    rintro e W2 ⟨⟨v0, rfl⟩, ss, hS, h2⟩
    obtain ⟨v, hv, hrow, hnil⟩ := h2.box
    have hend := run_endLoop (P := Try.prog) h2.L (by simp [Kx.apRec])
    obtain ⟨W3, hW3⟩ : ∃ W3, W2.putObj (W0.heap.size + 1) (.loop { Kx.apRec fn (.func (.func g) #[] lb) w.heap.size W0.heap.size .ready none with state := .exhausted }) = W3 := ⟨_, rfl⟩
    rw [hW3] at hend
    have hg3 : W2.grownBy W3 (some (W0.heap.size + 1)) := by rw [← hW3]; exact kx_grownBy_putObj _ _ _
    have hv3 : W3.heap[w.heap.size]? = some (.cells #[v] 34 (0, 0)) := by rw [← hW3]; exact (World.putObj_heap_other (by omega)).trans hv
    have hK3 : W3.heap[W0.heap.size]? = some (.deferred (some [])) := by rw [← hW3]; exact (World.putObj_heap_other (by omega)).trans h2.K
    have hrow3 := hrow.kept hg3 (kx_ownsRow_ne hrow h2.L (fun cur e => by cases e))
    have hb3 : Below w.heap.size w W3 := h2.below.grown hg3 h2.below.size (fun k e => by cases e; omega)
    obtain ⟨hc3, hf3⟩ := kx_cell_of_box hv3
    clear hW3
    refine ⟨none, W3, hend, ?_⟩
    gi_wp2
    rw [← hs0]
    refine ⟨by simp, .inl ⟨_, _, rfl, run_takeDeferred hK3, ?_⟩⟩
    exact ⟨_, results_tmp rfl _ _ _, v, ss, rfl, hS, hrow3.kept (kx_grownBy_putObj _ _ _) (kx_ownsRow_ne hrow3 hK3 (fun cur e => by cases e)), hnil, hb3.grown (kx_grownBy_putObj _ _ _) hb3.size (fun k e => by cases e; omega)⟩


set_option maxHeartbeats 1000000 in
/-- **slices.Collect(seq), AGAINST WHATEVER ITERATOR VALUE.** -/
theorem Kx.collect_in (F : Fence) (n : Nat) (h8 : F.fn 37) (h11 : F.fn 42) (hro : F.round = none) (hn : 3 ≤ n) (g : Nat) (lb : Array Value) (hFg : F.fn g) (eg : ∀ args w, (callFunc g args).run Try.prog w = .ok (.enter g args) w)
    (S : List (List UInt8) → Prop) (N : Nat) (hN : N ≤ maxLen) (hNb : N * 16 ≤ 140737488355328) (w : World) (hseq : SeqGives F (n - 1 - 1) Try.prog g lb encStr S N w) :
    CallsIn F n Try.prog 37 #[.func (.func g) #[] lb] w fun e w' => ∃ (v : Value) (ss : List (List UInt8)), e = .returned v ∧ S ss ∧ w'.ownsRow w.heap.size 9 1 v ss.length (ss.map encStr) ∧ (v = .slice none 0 0 ↔ ss = []) ∧ Below w.heap.size w w' := by
  have h1 : 1 ≤ n := by omega
  refine callsIn_of_wp Try.func37 rfl h8 ?_ hro
  simp only [Try.ntmps37, List.size_toArray, List.length_cons, List.length_nil, Nat.reduceAdd, Nat.reduceSub, Array.replicate_succ, Array.replicate_zero, List.push_toArray, List.append_toArray, List.nil_append, List.cons_append]
  gi_wp2_with (gi_at_call 42; refine (Kx.appendSeq_in F (n - 1) h11 hro (by omega) g lb hFg eg S N hN hNb _ hseq).mono ?_; rintro e w' ⟨v, ss, rfl, hS, hrow, hnil, hb⟩)
  go_ret
  exact ⟨v, ss, rfl, hS, hrow, hnil, hb⟩

theorem kx_ownsRow_base {W : World} {base base' : Nat} {e : TypeId} {size : Nat} {v : Value} {k : Nat} {xs : List Value} (h : W.ownsRow base e size v k xs) (hb : base' ≤ base) : W.ownsRow base' e size v k xs := by
  refine ⟨h.1, ?_⟩
  rcases h.2 with hn | ⟨g, cap, cur, hv, hbg, rest⟩
  · exact .inl hn
  · exact .inr ⟨g, cap, cur, hv, Nat.le_trans hb hbg, rest⟩


/-- slices.Sort[[]K, K]'s two contracts, inside a fence: what slices.Sorted leans on. -/
def Kx.SortsIn (F : Fence) (m : Nat) : Prop :=
  (∀ (blk off cap : Nat) (ss : List (List UInt8)) (W : World), Holds encStr W blk off ss.toArray → blk < W.heap.size → ss.length < 4611686018427387904 →
    CallsIn F m Try.prog 38 #[.slice (some ⟨blk, off, none⟩) ss.length cap] W fun e w' => e = .returned (.tuple #[]) ∧ ∃ k os, w' = grow (putRow encStr (Sort.ahead W k) blk off (ss.mergeSort fun x y => decide (x ≤ y)).toArray) os) ∧
  (∀ (p : Option Addr) (cap : Nat) (W : World), CallsIn F m Try.prog 38 #[.slice p 0 cap] W fun e w' => e = .returned (.tuple #[]) ∧ w' = W)

set_option maxRecDepth 100000 in
set_option maxHeartbeats 2000000 in
/-- **slices.Sorted(seq), AGAINST WHATEVER ITERATOR VALUE**: a new slice that holds what the iterator gave, SORTED. -/
theorem Kx.sorted_in (F : Fence) (n : Nat) (h6 : F.fn 25) (h8 : F.fn 37) (h9 : F.fn 38) (h11 : F.fn 42) (hro : F.round = none) (hn : 4 ≤ n) (hsort : Kx.SortsIn F (n - 1)) (g : Nat) (lb : Array Value) (hFg : F.fn g) (eg : ∀ args w, (callFunc g args).run Try.prog w = .ok (.enter g args) w)
    (S : List (List UInt8) → Prop) (N : Nat) (hN : N ≤ maxLen) (hNb : N * 16 ≤ 140737488355328) (w : World) (hseq : SeqGives F (n - 1 - 1 - 1) Try.prog g lb encStr S N w) :
    CallsIn F n Try.prog 25 #[.func (.func g) #[] lb] w fun e w' => ∃ (v : Value) (ss : List (List UInt8)), e = .returned v ∧ S ss ∧
      w'.ownsRow w.heap.size 9 1 v ss.length ((ss.mergeSort (fun x y => decide (x ≤ y))).map encStr) ∧ (v = .slice none 0 0 ↔ ss = []) ∧ Below w.heap.size w w' := by
  have h1 : 1 ≤ n := by omega
  refine callsIn_of_wp Try.func25 rfl h6 ?_ hro
  simp only [Try.ntmps25, List.size_toArray, List.length_cons, List.length_nil, Nat.reduceAdd, Nat.reduceSub, Array.replicate_succ, Array.replicate_zero, List.push_toArray, List.append_toArray, List.nil_append, List.cons_append]
  gi_wp2_with (gi_at_call 37; refine (Kx.collect_in F (n - 1) h8 h11 hro (by omega) g lb hFg eg _ N hN hNb _ hseq.bounded).mono ?_; rintro e W ⟨v, ss, rfl, ⟨hS, hlen⟩, hrow, hnil, hb⟩)
  rcases hrow.2 with ⟨rfl, hz⟩ | ⟨gb, cap, cur, rfl, hbase, hgb, r1, r2, r3, r4⟩
  · -- nothing came: the nil slice is sorted and handed back
    have hss : ss = [] := List.eq_nil_of_length_eq_zero hz
    subst hss
    gi_wp2_with (gi_at_call 38; refine (hsort.2 none 0 W).mono ?_; rintro e w' ⟨rfl, rfl⟩)
    go_ret
    exact ⟨.slice none 0 0, [], rfl, hS, by simpa using hrow, by simp, hb⟩
  · have hH : Holds encStr W gb 0 ss.toArray := holds_of_block hgb (by simpa using r4)
    have hgl : gb < W.heap.size := (Array.getElem?_eq_some_iff.1 hgb).1
    have hsz : ss.length < 4611686018427387904 := by omega
    have cS := hsort.1 gb 0 cap ss W hH hgl hsz
    gi_wp2_with (gi_at_call 38; refine cS.mono ?_; rintro e w' ⟨rfl, nn, os, rfl⟩)
    go_ret
    exact ⟨_, ss, rfl, hS, ownsRow_sorted (by simp) hbase hgb r1 r2 r3, hnil, hb.grown (grownBy_sorted _) hb.size (fun j hj => by cases hj; exact hbase)⟩


end Go.Proofs
end

section
/- slices.Sorted(maps.Keys(m)) of a set of texts. -/
set_option maxRecDepth 100000
set_option maxHeartbeats 1000000
set_option linter.unusedVariables false
set_option linter.unusedSimpArgs false
namespace Go.Abs
open Go Go.Proofs Go.Sort Go.Maps

def bmap (l : List B) : List (ByteArray × AV) := l.map fun s => (ofB s, .val (.bool true))
theorem bmap_find (l : List B) (s : B) : mapFind (bmap l) (ofB s) = if s ∈ l then some (.val (.bool true)) else none := by
  induction l with
  | nil => rfl
  | cons a l ih =>
    unfold bmap at ih ⊢
    simp only [List.map_cons, mapFind, ih]
    by_cases e : a = s
    · subst e; simp
    · have : ofB a ≠ ofB s := fun x => e (ofB_inj x)
      simp [this, Ne.symm e]
theorem bmap_put {l : List B} {s : B} (h : s ∉ l) : mapPut (bmap l) (ofB s) (.val (.bool true)) = bmap (l ++ [s]) := by
  induction l with
  | nil => rfl
  | cons a l ih =>
    have h1 : ofB a ≠ ofB s := fun x => h (by rw [ofB_inj x]; simp)
    have h2 : s ∉ l := fun x => h (by simp [x])
    show (if ofB a = ofB s then _ else _) = _
    rw [if_neg h1]
    show _ :: mapPut (bmap l) (ofB s) _ = _
    rw [ih h2]
    rfl

theorem sorts_wide (m : Nat) : Kx.SortsIn Fence.wide m :=
  ⟨fun blk off cap ss W hH hblk hsz => callsIn_wide.2 (Try.slices_Sort_string blk off cap ss W hH hblk hsz),
   fun p cap W => callsIn_wide.2 (Try.slices_Sort_string_none p cap W)⟩

theorem bmap_keys {G : Gh} : ∀ {l : List B} {ms : List MapEntry}, MapR G (bmap l) ms → ms.map (·.key) = l.map encStr ∧ ∀ x ∈ ms, x.val = .bool true
  | [], [], _ => ⟨rfl, by simp⟩
  | [], _ :: _, h => by simp [bmap, MapR] at h
  | _ :: _, [], h => by simp [bmap, MapR] at h
  | a :: l, m :: ms, h => by
    obtain ⟨⟨h1, _⟩, h2, h3⟩ : (m.key = .string (ofB a) ∧ _) ∧ Rep G (.val (.bool true)) m.val ∧ MapR G (bmap l) ms := h
    obtain ⟨i1, i2⟩ := bmap_keys h3
    refine ⟨?_, fun x hx => ?_⟩
    · rw [List.map_cons, List.map_cons, i1, h1]
      rfl
    · rcases List.mem_cons.1 hx with rfl | hx
      · simpa [Rep] using h2
      · exact i2 x hx

theorem owns_of {H : Type} {G : Gh} {w : World} {b : Nat} {ms : Array MapEntry} {clock : Nat} {l : List B} (hb : w.heap[b]? = some (.map ms clock)) (hr : MapR G (bmap l) ms.toList) (hok : MapOk ms clock) (hnd : l.Nodup)
    (hl : l.length ≤ maxLen) (hs : ∀ s ∈ l, s.length ≤ maxLen) : ∃ D0 : DataW H, w.ownsMap Try.prog 9 (plainElem Try.prog 4) b l.length D0 ∧ Maps.size D0 = l.length ∧ (strKeys D0).Perm l := by
  obtain ⟨k1, k2⟩ := bmap_keys hr
  have hsz : ms.size = l.length := by
    have := congrArg List.length k1
    simpa using this
  have hread : ∀ x ∈ ms.toList, ∃ s ∈ l, x.key = encStr s ∧ Go.WideElems.rd Try.prog 9 (plainElem (H := H) Try.prog 4) x = some (Lit.string s, DataW.lit (.bool true)) := fun x hx => by
    have hk : x.key ∈ l.map encStr := by rw [← k1]; exact List.mem_map_of_mem hx
    obtain ⟨s, hsl, hsk⟩ := List.mem_map.1 hk
    refine ⟨s, hsl, hsk.symm, ?_⟩
    have h1 : keyOf Try.prog 9 x.key = some (.string s) := by
      rw [← hsk]
      have := hs s hsl
      simp [keyOf, mapKey, Try.underlying9, encStr]
      exact this
    have h2 : plainElem (H := H) Try.prog 4 x.val = some (.lit (.bool true), []) := by rw [k2 x hx]; exact plainElem_bool Try.underlying4 true
    simp [Go.WideElems.rd, h1, h2]
  have hfit : Go.WideElems.Fit Try.prog 9 (plainElem (H := H) Try.prog 4) ms clock := by
    refine ⟨by omega, ⟨hok.2, hok.1, ?_⟩, fun x hx => ?_⟩
    · rw [k1]
      refine (List.pairwise_map.2 (hnd.imp fun hne e => hne (encStr_inj e)))
    · obtain ⟨s, _, _, h⟩ := hread x hx
      exact ⟨_, h⟩
  refine ⟨_, ⟨ms, clock, hb, hfit, by omega, rfl⟩, ?_, ?_⟩
  · simp [Maps.size, length_sorted, hsz]
  · show (((ms.toList.map _).foldr DataW.insert []).map fun p => strOf p.1).Perm l
    refine ((Go.WideShapes.sorted_perm _).map _).trans ?_
    rw [List.map_map]
    have : (ms.toList.map ((fun p : Lit × DataW H => strOf p.1) ∘ Go.WideElems.rg Try.prog 9 (plainElem (H := H) Try.prog 4))) = l := by
      have h1 : ∀ x ∈ ms.toList, encStr (((fun p : Lit × DataW H => strOf p.1) ∘ Go.WideElems.rg Try.prog 9 (plainElem (H := H) Try.prog 4)) x) = x.key := fun x hx => by
        obtain ⟨s, _, h2, h3⟩ := hread x hx
        simp only [Function.comp]
        rw [Go.WideElems.rg_of h3, h2]
        rfl
      have h2 : (ms.toList.map ((fun p : Lit × DataW H => strOf p.1) ∘ Go.WideElems.rg Try.prog 9 (plainElem (H := H) Try.prog 4))).map encStr = l.map encStr := by
        rw [← k1, List.map_map]
        exact List.map_congr_left h1
      exact List.map_inj_right (f := encStr) (fun _ _ e => encStr_inj e) |>.1 h2
    rw [this]

end Go.Abs
end

section
/- Maps as rows of pairs; the file system as plain data (no program in sight). -/
set_option maxRecDepth 100000
set_option linter.unusedVariables false
set_option linter.unusedSimpArgs false
namespace Go.Abs
open Go Go.Proofs

section assoc
variable {α : Type}
def amap (e : α → AV) (m : List (B × α)) : List (ByteArray × AV) := m.map fun p => (ofB p.1, e p.2)
def lk : List (B × α) → B → Option α
  | [], _ => none
  | (s, v) :: m, k => if s = k then some v else lk m k
def pt : List (B × α) → B → α → List (B × α)
  | [], k, v => [(k, v)]
  | (s, u) :: m, k, v => if s = k then (k, v) :: m else (s, u) :: pt m k v
def dl : List (B × α) → B → List (B × α)
  | [], _ => []
  | (s, u) :: m, k => if s = k then m else (s, u) :: dl m k
def kys (m : List (B × α)) : List B := m.map (·.1)
theorem amap_find (e : α → AV) (m : List (B × α)) (k : B) : mapFind (amap e m) (ofB k) = (lk m k).map e := by
  induction m with
  | nil => rfl
  | cons p m ih =>
    obtain ⟨s, v⟩ := p
    show (if ofB s = ofB k then some (e v) else mapFind (amap e m) (ofB k)) = _
    rw [ih]
    by_cases h : s = k
    · subst h; simp [lk]
    · have : ofB s ≠ ofB k := fun x => h (ofB_inj x)
      simp [lk, h, this]
theorem amap_put (e : α → AV) (m : List (B × α)) (k : B) (v : α) : mapPut (amap e m) (ofB k) (e v) = amap e (pt m k v) := by
  induction m with
  | nil => rfl
  | cons p m ih =>
    obtain ⟨s, u⟩ := p
    show (if ofB s = ofB k then (ofB k, e v) :: amap e m else (ofB s, e u) :: mapPut (amap e m) (ofB k) (e v)) = _
    rw [ih]
    by_cases h : s = k
    · subst h; simp [pt, amap]
    · have : ofB s ≠ ofB k := fun x => h (ofB_inj x)
      simp [pt, h, this, amap]
theorem amap_del (e : α → AV) (m : List (B × α)) (k : B) : mapDel (amap e m) (ofB k) = amap e (dl m k) := by
  induction m with
  | nil => rfl
  | cons p m ih =>
    obtain ⟨s, u⟩ := p
    show (if ofB s = ofB k then amap e m else (ofB s, e u) :: mapDel (amap e m) (ofB k)) = _
    rw [ih]
    by_cases h : s = k
    · subst h; simp [dl, amap]
    · have : ofB s ≠ ofB k := fun x => h (ofB_inj x)
      simp [dl, h, this, amap]
theorem amap_length (e : α → AV) (m : List (B × α)) : (amap e m).length = m.length := by simp [amap]
theorem lk_some {m : List (B × α)} {k : B} {v : α} (h : lk m k = some v) : (k, v) ∈ m := by
  induction m with
  | nil => cases h
  | cons p m ih =>
    obtain ⟨s, u⟩ := p
    simp only [lk] at h
    split at h
    · rename_i e; subst e; cases h; simp
    · exact List.mem_cons_of_mem _ (ih h)
theorem lk_none {m : List (B × α)} {k : B} : lk m k = none ↔ k ∉ kys m := by
  induction m with
  | nil => simp [lk, kys]
  | cons p m ih =>
    obtain ⟨s, u⟩ := p
    by_cases e : s = k
    · subst e; simp [lk, kys]
    · have : k ≠ s := fun x => e x.symm
      simp only [lk, e, if_false, ih, kys, List.map_cons, List.mem_cons, this, false_or]
theorem lk_mem {m : List (B × α)} {k : B} (h : k ∈ kys m) : ∃ v, lk m k = some v := by
  cases e : lk m k with
  | none => exact absurd h (lk_none.1 e)
  | some v => exact ⟨v, rfl⟩
theorem lk_key {m : List (B × α)} {k : B} {v : α} (h : lk m k = some v) : k ∈ kys m := List.mem_map_of_mem (f := (·.1)) (lk_some h)
theorem lk_pt (m : List (B × α)) (k j : B) (v : α) : lk (pt m k v) j = if k = j then some v else lk m j := by
  induction m with
  | nil => simp [pt, lk]
  | cons p m ih =>
    obtain ⟨s, u⟩ := p
    by_cases e : s = k
    · subst e
      simp only [pt, if_true, lk]
      split <;> rfl
    · simp only [pt, e, if_false, lk, ih]
      by_cases e2 : s = j
      · subst e2; simp [Ne.symm e]
      · simp [e2]
theorem kys_pt {m : List (B × α)} {k : B} {v : α} (h : k ∈ kys m) : kys (pt m k v) = kys m := by
  induction m with
  | nil => simp [kys] at h
  | cons p m ih =>
    obtain ⟨s, u⟩ := p
    by_cases e : s = k
    · subst e; simp [pt, kys]
    · have h2 : k ∈ kys m := by
        simp only [kys, List.map_cons, List.mem_cons] at h
        exact h.resolve_left (Ne.symm e)
      have := ih h2
      unfold kys at this ⊢
      simp only [pt, e, if_false, List.map_cons, this]
theorem kys_pt_new {m : List (B × α)} {k : B} {v : α} (h : k ∉ kys m) : pt m k v = m ++ [(k, v)] := by
  induction m with
  | nil => rfl
  | cons p m ih =>
    obtain ⟨s, u⟩ := p
    have h1 : s ≠ k := fun e => h (by simp [kys, e])
    have h2 : k ∉ kys m := fun e => h (by unfold kys at e ⊢; simp [e])
    simp [pt, h1, ih h2]
theorem mem_kys_pt {m : List (B × α)} {k j : B} {v : α} : j ∈ kys (pt m k v) ↔ j = k ∨ j ∈ kys m := by
  by_cases h : k ∈ kys m
  · rw [kys_pt h]
    exact ⟨fun x => .inr x, fun x => x.elim (fun e => e ▸ h) id⟩
  · rw [kys_pt_new h]; unfold kys; simp [or_comm]
theorem nodup_pt {m : List (B × α)} {k : B} {v : α} (hn : (kys m).Nodup) : (kys (pt m k v)).Nodup := by
  by_cases h : k ∈ kys m
  · rw [kys_pt h]; exact hn
  · rw [kys_pt_new h]
    unfold kys at *
    simp only [List.map_append, List.map_cons, List.map_nil]
    exact List.nodup_append.2 ⟨hn, by simp, fun a ha b hb => by
      simp only [List.mem_cons, List.not_mem_nil, or_false] at hb
      subst hb
      exact fun e => h (e ▸ ha)⟩
theorem dl_sub {m : List (B × α)} {k : B} : (dl m k).Sublist m := by
  induction m with
  | nil => simp [dl]
  | cons p m ih =>
    obtain ⟨s, u⟩ := p
    simp only [dl]
    split
    · exact List.sublist_cons_self _ _
    · exact ih.cons_cons _
theorem nodup_dl {m : List (B × α)} {k : B} (hn : (kys m).Nodup) : (kys (dl m k)).Nodup := (dl_sub.map _).nodup hn
theorem lk_dl {m : List (B × α)} {k : B} (hn : (kys m).Nodup) (j : B) : lk (dl m k) j = if k = j then none else lk m j := by
  induction m with
  | nil => simp [dl, lk]
  | cons p m ih =>
    obtain ⟨s, u⟩ := p
    have hn1 : (s :: kys m).Nodup := hn
    obtain ⟨h1, h2⟩ := List.nodup_cons.1 hn1
    by_cases e : s = k
    · subst e
      simp only [dl, if_true, lk]
      by_cases e2 : s = j
      · subst e2; simp [lk_none.2 h1]
      · simp [e2]
    · simp only [dl, e, if_false, lk, ih h2]
      by_cases e2 : s = j
      · subst e2; simp [Ne.symm e]
      · simp [e2]
theorem mem_kys_dl {m : List (B × α)} {k j : B} (hn : (kys m).Nodup) : j ∈ kys (dl m k) ↔ j ≠ k ∧ j ∈ kys m := by
  have h1 : j ∈ kys (dl m k) ↔ lk (dl m k) j ≠ none := by rw [Ne, lk_none]; simp
  have h2 : j ∈ kys m ↔ lk m j ≠ none := by rw [Ne, lk_none]; simp
  rw [h1, h2, lk_dl hn]
  by_cases e : k = j
  · subst e; simp
  · simp [e, Ne.symm e]
theorem pt_length (m : List (B × α)) (k : B) (v : α) : (pt m k v).length ≤ m.length + 1 := by
  induction m with
  | nil => simp [pt]
  | cons p m ih =>
    obtain ⟨s, u⟩ := p
    simp only [pt]
    split <;> simp; omega
theorem dl_length (m : List (B × α)) (k : B) : (dl m k).length ≤ m.length := dl_sub.length_le
theorem pt_mem {m : List (B × α)} {k : B} {v : α} {p : B × α} (h : p ∈ pt m k v) : p = (k, v) ∨ p ∈ m := by
  induction m with
  | nil => simpa [pt] using h
  | cons q m ih =>
    obtain ⟨s, u⟩ := q
    simp only [pt] at h
    split at h
    · rcases List.mem_cons.1 h with h | h
      · exact .inl h
      · exact .inr (List.mem_cons_of_mem _ h)
    · rcases List.mem_cons.1 h with h | h
      · exact .inr (by rw [h]; simp)
      · exact (ih h).imp id (List.mem_cons_of_mem _)
end assoc

/-! ### the file system -/
structure Fl where
  b : B
  safe : Nat
def flZ : Fl := ⟨[], 0⟩
abbrev FM := List (B × Fl)
def gF (m : FM) (k : B) : Fl := (lk m k).getD flZ
structure FSt where
  fs : FM
  fail : Int
  fall : Int
  down : Bool
def fs0 : FSt := ⟨[], -1, -1, false⟩
/-- A count, one less. -/
def cnt (a : Int) : Int := if a - 1 < -1 then -1 else a - 1
/-- An act: what is there then, and the error. -/
def FSt.act (s : FSt) (late : Bool) (g : FM → FM) : FSt × Int :=
  if s.fall = 0 then (⟨if late then g s.fs else s.fs, cnt s.fail, cnt s.fall, true⟩, 7)
  else if s.fail = 0 then (⟨s.fs, cnt s.fail, cnt s.fall, s.down⟩, 8)
  else (⟨g s.fs, cnt s.fail, cnt s.fall, s.down⟩, 0)
def addF (name b : B) (m : FM) : FM := pt m name ⟨(gF m name).b ++ b, (gF m name).safe⟩
def cutF (name : B) (size : Nat) (m : FM) : FM := pt m name ⟨(gF m name).b.take size, min (gF m name).safe size⟩
def syncF (name : B) (m : FM) : FM := pt m name ⟨(gF m name).b, (gF m name).b.length⟩
def renF (a b : B) (m : FM) : FM := pt (dl m a) b (gF m a)
def FSt.may (s : FSt) (name : B) : Int := if s.down then 7 else if (lk s.fs name).isNone then 6 else 0
def FSt.append (s : FSt) (name b : B) : FSt × Int := if s.down then (s, 7) else s.act true (addF name b)
def FSt.truncate (s : FSt) (name : B) (size : Int) : FSt × Int :=
  if s.may name ≠ 0 then (s, s.may name) else if size < 0 ∨ ((gF s.fs name).b.length : Int) < size then (s, 1) else s.act false (cutF name size.toNat)
def FSt.sync (s : FSt) (name : B) : FSt × Int := if s.may name ≠ 0 then (s, s.may name) else s.act false (syncF name)
def FSt.rename (s : FSt) (a b : B) : FSt × Int := if s.may a ≠ 0 then (s, s.may a) else s.act false (renF a b)
def FSt.remove (s : FSt) (name : B) : FSt × Int := if s.may name ≠ 0 then (s, s.may name) else s.act false fun m => dl m name
/-- A crash, name by name. -/
def crashF : List B → List Int → FM → FM
  | [], _, m => m
  | n :: l, keep, m =>
    if (gF m n).safe = (gF m n).b.length then crashF l keep m
    else match keep with
      | [] => crashF l [] (pt m n ⟨(gF m n).b.take (gF m n).safe, (gF m n).safe⟩)
      | k :: keep => crashF l keep (pt m n ⟨(gF m n).b.take ((gF m n).safe + (min (max k 0) ((gF m n).b.length - (gF m n).safe : Int)).toNat), (gF m n).safe + (min (max k 0) ((gF m n).b.length - (gF m n).safe : Int)).toNat⟩)
def FSt.names (s : FSt) : List B := sortB (kys s.fs)
def FSt.crash (s : FSt) (keep : List Int) : FSt := ⟨crashF s.names keep s.fs, -1, -1, false⟩

/-- What holds of the files of every file system that can be. -/
structure MOk (m : FM) (nb fb : Nat) : Prop where
  nodup : (kys m).Nodup
  safe : ∀ p ∈ m, p.2.safe ≤ p.2.b.length
  len : m.length ≤ nb
  bytes : ∀ p ∈ m, p.2.b.length ≤ fb
  names : ∀ n ∈ kys m, n.length < 1000000
def okN (a : Int) : Prop := -1 ≤ a ∧ a < 9223372036854775808
structure FOk (s : FSt) (nb fb : Nat) : Prop where
  m : MOk s.fs nb fb
  fail : okN s.fail
  fall : okN s.fall
theorem MOk.mono {m : FM} {nb fb nb' fb' : Nat} (h : MOk m nb fb) (h1 : nb ≤ nb') (h2 : fb ≤ fb') : MOk m nb' fb' :=
  ⟨h.nodup, h.safe, Nat.le_trans h.len h1, fun p hp => Nat.le_trans (h.bytes p hp) h2, h.names⟩
theorem MOk.get {m : FM} {nb fb : Nat} (h : MOk m nb fb) (k : B) : (gF m k).safe ≤ (gF m k).b.length ∧ (gF m k).b.length ≤ fb := by
  unfold gF
  cases e : lk m k with
  | none => simp [flZ]
  | some v => exact ⟨h.safe _ (lk_some e), h.bytes _ (lk_some e)⟩
theorem MOk.put {m : FM} {nb fb fb' : Nat} (h : MOk m nb fb) {k : B} {v : Fl} (hk : k.length < 1000000) (hs : v.safe ≤ v.b.length) (hb : v.b.length ≤ fb') (hf : fb ≤ fb') : MOk (pt m k v) (nb + 1) fb' := by
  refine ⟨nodup_pt h.nodup, fun p hp => ?_, Nat.le_trans (pt_length m k v) (Nat.succ_le_succ h.len), fun p hp => ?_, fun n hn => ?_⟩
  · rcases pt_mem hp with rfl | hp
    · exact hs
    · exact h.safe p hp
  · rcases pt_mem hp with rfl | hp
    · exact hb
    · exact Nat.le_trans (h.bytes p hp) hf
  · rcases mem_kys_pt.1 hn with rfl | hn
    · exact hk
    · exact h.names n hn
theorem MOk.put_old {m : FM} {nb fb fb' : Nat} (h : MOk m nb fb) {k : B} {v : Fl} (hk : k ∈ kys m) (hs : v.safe ≤ v.b.length) (hb : v.b.length ≤ fb') (hf : fb ≤ fb') : MOk (pt m k v) nb fb' := by
  have h1 := h.put (h.names k hk) hs hb hf
  refine ⟨h1.nodup, h1.safe, ?_, h1.bytes, h1.names⟩
  have := congrArg List.length (kys_pt (v := v) hk)
  simp only [kys, List.length_map] at this
  rw [this]; exact h.len
theorem MOk.del {m : FM} {nb fb : Nat} (h : MOk m nb fb) (k : B) : MOk (dl m k) nb fb :=
  ⟨nodup_dl h.nodup, fun p hp => h.safe p (dl_sub.subset hp), Nat.le_trans (dl_length m k) h.len, fun p hp => h.bytes p (dl_sub.subset hp), fun n hn => h.names n ((dl_sub.map _).subset hn)⟩
theorem cnt_ok {a : Int} (h : okN a) : okN (cnt a) := by
  unfold okN cnt at *; split <;> omega
theorem gF_pt (m : FM) (k j : B) (v : Fl) : gF (pt m k v) j = if k = j then v else gF m j := by
  unfold gF; rw [lk_pt]; split <;> rfl
theorem gF_dl {m : FM} {k : B} (hn : (kys m).Nodup) (j : B) : gF (dl m k) j = if k = j then flZ else gF m j := by
  unfold gF; rw [lk_dl hn]; split <;> rfl
theorem addF_ok {m : FM} {nb fb : Nat} (h : MOk m nb fb) {name b : B} (hn : name.length < 1000000) : MOk (addF name b m) (nb + 1) (fb + b.length) := by
  have := h.get name
  exact h.put hn (by simp; omega) (by simp; omega) (by omega)
theorem cutF_ok {m : FM} {nb fb : Nat} (h : MOk m nb fb) {name : B} (hn : name ∈ kys m) {size : Nat} (hs : size ≤ (gF m name).b.length) : MOk (cutF name size m) nb fb := by
  have := h.get name
  exact h.put_old hn (by simp; omega) (by simp; omega) (by omega)
theorem syncF_ok {m : FM} {nb fb : Nat} (h : MOk m nb fb) {name : B} (hn : name ∈ kys m) : MOk (syncF name m) nb fb := by
  have := h.get name
  exact h.put_old hn (by simp) (by simp; omega) (by omega)
theorem renF_ok {m : FM} {nb fb : Nat} (h : MOk m nb fb) {a b : B} (hb : b.length < 1000000) : MOk (renF a b m) (nb + 1) fb := by
  have := h.get a
  exact (h.del a).put hb (by omega) (by omega) (by omega)
theorem act_ok {s : FSt} {nb fb nb' fb' : Nat} (h : FOk s nb fb) (late : Bool) {g : FM → FM} (hg : MOk (g s.fs) nb' fb') (h1 : nb ≤ nb') (h2 : fb ≤ fb') : FOk (s.act late g).1 nb' fb' := by
  unfold FSt.act
  have := h.m.mono h1 h2
  split
  · exact ⟨by cases late <;> assumption, cnt_ok h.fail, cnt_ok h.fall⟩
  · split
    · exact ⟨this, cnt_ok h.fail, cnt_ok h.fall⟩
    · exact ⟨hg, cnt_ok h.fail, cnt_ok h.fall⟩
theorem FOk.mono {s : FSt} {nb fb nb' fb' : Nat} (h : FOk s nb fb) (h1 : nb ≤ nb') (h2 : fb ≤ fb') : FOk s nb' fb' := ⟨h.m.mono h1 h2, h.fail, h.fall⟩
theorem may_mem {s : FSt} {name : B} (h : ¬ s.may name ≠ 0) : s.down = false ∧ name ∈ kys s.fs := by
  unfold FSt.may at h
  split at h
  · simp at h
  · rename_i hd
    split at h
    · simp at h
    · rename_i hl
      refine ⟨by simpa using hd, ?_⟩
      cases e : lk s.fs name with
      | none => simp [e] at hl
      | some v => exact lk_key e
theorem append_ok {s : FSt} {nb fb : Nat} (h : FOk s nb fb) {name b : B} (hn : name.length < 1000000) : FOk (s.append name b).1 (nb + 1) (fb + b.length) := by
  unfold FSt.append
  split
  · exact h.mono (by omega) (by omega)
  · exact act_ok h true (addF_ok h.m hn) (by omega) (by omega)
theorem truncate_ok {s : FSt} {nb fb : Nat} (h : FOk s nb fb) {name : B} {size : Int} : FOk (s.truncate name size).1 nb fb := by
  unfold FSt.truncate
  split
  · exact h
  · rename_i hm
    split
    · exact h
    · exact act_ok h false (cutF_ok h.m (may_mem hm).2 (by omega)) (by omega) (by omega)
theorem sync_ok {s : FSt} {nb fb : Nat} (h : FOk s nb fb) {name : B} : FOk (s.sync name).1 nb fb := by
  unfold FSt.sync
  split
  · exact h
  · rename_i hm
    exact act_ok h false (syncF_ok h.m (may_mem hm).2) (by omega) (by omega)
theorem rename_ok {s : FSt} {nb fb : Nat} (h : FOk s nb fb) {a b : B} (hb : b.length < 1000000) : FOk (s.rename a b).1 (nb + 1) fb := by
  unfold FSt.rename
  split
  · exact h.mono (by omega) (by omega)
  · exact act_ok h false (renF_ok h.m hb) (by omega) (by omega)
theorem remove_ok {s : FSt} {nb fb : Nat} (h : FOk s nb fb) {name : B} : FOk (s.remove name).1 nb fb := by
  unfold FSt.remove
  split
  · exact h
  · exact act_ok h false (h.m.del name) (by omega) (by omega)
theorem crashF_spec {nb fb : Nat} : ∀ (l : List B) (keep : List Int) (m : FM), l.Nodup → (∀ n ∈ l, n ∈ kys m) → MOk m nb fb →
    MOk (crashF l keep m) nb fb ∧ kys (crashF l keep m) = kys m ∧
      (∀ n ∈ l, ∃ k, (gF m n).safe ≤ k ∧ k ≤ (gF m n).b.length ∧ gF (crashF l keep m) n = ⟨(gF m n).b.take k, k⟩) ∧ ∀ n, n ∉ l → gF (crashF l keep m) n = gF m n := by
  intro l
  induction l with
  | nil => intro keep m _ _ h; exact ⟨h, rfl, by simp, fun n _ => rfl⟩
  | cons a l ih =>
    intro keep m hnd hmem h
    obtain ⟨ha, hnd⟩ := List.nodup_cons.1 hnd
    have hg := h.get a
    have ham := hmem a (by simp)
    have key : ∀ (k : Nat) (keep' : List Int), (gF m a).safe ≤ k → k ≤ (gF m a).b.length →
        MOk (crashF l keep' (pt m a ⟨(gF m a).b.take k, k⟩)) nb fb ∧ kys (crashF l keep' (pt m a ⟨(gF m a).b.take k, k⟩)) = kys m ∧
        (∀ n ∈ a :: l, ∃ k', (gF m n).safe ≤ k' ∧ k' ≤ (gF m n).b.length ∧ gF (crashF l keep' (pt m a ⟨(gF m a).b.take k, k⟩)) n = ⟨(gF m n).b.take k', k'⟩) ∧
        ∀ n, n ∉ a :: l → gF (crashF l keep' (pt m a ⟨(gF m a).b.take k, k⟩)) n = gF m n := by
      intro k keep' h1 h2
      obtain ⟨i1, i2, i3, i4⟩ := ih keep' (pt m a ⟨(gF m a).b.take k, k⟩) hnd (fun n hn => by rw [kys_pt ham]; exact hmem n (by simp [hn])) (h.put_old ham (by simp; omega) (by simp; omega) (by omega))
      refine ⟨i1, by rw [i2, kys_pt ham], fun n hn => ?_, fun n hn => ?_⟩
      · rcases List.mem_cons.1 hn with rfl | hn
        · exact ⟨k, h1, h2, by rw [i4 n ha, gF_pt, if_pos rfl]⟩
        · have hne : a ≠ n := fun e => ha (e ▸ hn)
          obtain ⟨k', e1, e2, e3⟩ := i3 n hn
          rw [gF_pt, if_neg hne] at e1 e2 e3
          exact ⟨k', e1, e2, e3⟩
      · have hne : a ≠ n := fun e => hn (by simp [e])
        rw [i4 n (fun e => hn (by simp [e])), gF_pt, if_neg hne]
    unfold crashF
    split
    · rename_i hs
      obtain ⟨i1, i2, i3, i4⟩ := ih keep m hnd (fun n hn => hmem n (by simp [hn])) h
      refine ⟨i1, i2, fun n hn => ?_, fun n hn => i4 n fun e => hn (by simp [e])⟩
      rcases List.mem_cons.1 hn with rfl | hn
      · refine ⟨(gF m n).b.length, by omega, Nat.le_refl _, ?_⟩
        rw [i4 n ha, List.take_length, ← hs]
      · exact i3 n hn
    · cases keep with
      | nil => exact key _ _ (Nat.le_refl _) hg.1
      | cons k keep => exact key _ _ (by omega) (by omega)
theorem names_perm (s : FSt) : s.names.Perm (kys s.fs) := List.mergeSort_perm _ _
theorem crash_spec {s : FSt} {nb fb : Nat} (h : FOk s nb fb) (keep : List Int) : FOk (s.crash keep) nb fb ∧ kys (s.crash keep).fs = kys s.fs ∧
    ∀ n ∈ kys s.fs, ∃ k, (gF s.fs n).safe ≤ k ∧ k ≤ (gF s.fs n).b.length ∧ gF (s.crash keep).fs n = ⟨(gF s.fs n).b.take k, k⟩ := by
  have hp := names_perm s
  obtain ⟨i1, i2, i3, i4⟩ := crashF_spec s.names keep s.fs (hp.nodup_iff.2 h.m.nodup) (fun n hn => hp.mem_iff.1 hn) h.m
  have hm1 : okN (-1) := by unfold okN; omega
  exact ⟨⟨i1, hm1, hm1⟩, i2, fun n hn => i3 n (hp.mem_iff.2 hn)⟩
end Go.Abs
end

section
/- The library's strings.Builder: what its functions do in memory. -/
set_option linter.unusedVariables false
set_option linter.unusedSimpArgs false
namespace Go.Abs
open Go Go.Proofs Go.Shelf Go.RowKit

theorem sb_cells : Try.prog.cellsOf 5 = 1 := by kernel_rfl

/-! ### contracts by hand -/
def entry (G : Gh) (w : World) : Entry := ⟨G, w, fun b => ∃ n, G.at n b, True⟩
theorem inv0 {G : Gh} {os : List AObj} {w : World} (hW : WR G (numbered 0 os) w) : Inv (entry G w) ⟨[], numbered 0 os⟩ G { tmps := #[], defers := [] } w :=
  ⟨by simp [RepL], Marks.nil _ _ _, hW, Gh.le.refl _, ⟨rfl, rfl, rfl, Nat.le_refl _, fun _ _ _ => rfl, fun _ _ _ _ => rfl⟩, fun n b hb => .inl ⟨n, hb⟩⟩
theorem acalls_pack {P : Program} {f : FuncId} {args : List AV} {os : List AObj} {R : AV → List AObj → Prop}
    (h : ∀ (G : Gh) (w : World) (vals : List Value), WR G (numbered 0 os) w → RepL G args vals → Calls P f vals.toArray w fun e w' => ∃ (v : Value) (r : AV) (os' : List AObj) (G' : Gh), e = .returned v ∧ R r os' ∧ Rep G' r v ∧
      Inv (entry G w) ⟨[], numbered 0 os'⟩ G' { tmps := #[], defers := [] } w' ∧ (∀ (i : Nat) (o : AObj), os'[i]? = some o → ∀ m ∈ objNames o, m < os'.length) ∧ ∀ m ∈ r.names, m < os'.length) : ACalls P f args os R :=
  ⟨fun G w vals hW hA => (h G w vals hW hA).mono fun e w' ⟨v, r, os', G', h1, h2, h3, h4, h5, h6⟩ => ⟨v, r, os', G', h1, h2, h3, h4.wr, h4.le, h4.ext, h4.newb, h5, h6⟩⟩

def closedOs (os : List AObj) : Prop := ∀ (i : Nat) (o : AObj), os[i]? = some o → ∀ m ∈ objNames o, m < os.length
theorem addOb_same {ob : Nm → Option GO} {n : Nm} {g : GO} (h : ob n = some g) : addOb ob n g = ob := by
  funext m
  unfold addOb
  split
  · rename_i e; subst e; exact h.symm
  · rfl

def byteEls (l : B) : List (List AV) := l.map fun c => [.val (.int .u8 c.toNat)]
theorem freeze_other (w : World) (g n b : Nat) (h : b ≠ g) : (w.freeze ⟨g, 0, none⟩ n).heap[b]? = w.heap[b]? := by
  unfold World.freeze
  split
  · rfl
  · simp [Array.getElem?_modify, Ne.symm h]
theorem freeze_same (w : World) (g n : Nat) (cur : Array Value) (e : TypeId) (h : w.heap[g]? = some (.cells cur e (0, 0))) : ∃ fz, (w.freeze ⟨g, 0, none⟩ n).heap[g]? = some (.cells cur e fz) := by
  unfold World.freeze
  split
  · exact ⟨_, h⟩
  · exact ⟨(0, 0 + n), by simp [Array.getElem?_modify, h]⟩
theorem freeze_size (w : World) (g n : Nat) : (w.freeze ⟨g, 0, none⟩ n).heap.size = w.heap.size := by
  unfold World.freeze
  split
  · rfl
  · simp
theorem freeze_os (w : World) (g n : Nat) : (w.freeze ⟨g, 0, none⟩ n).os = w.os ∧ (w.freeze ⟨g, 0, none⟩ n).tape = w.tape ∧ (w.freeze ⟨g, 0, none⟩ n).output = w.output := by
  unfold World.freeze
  split <;> exact ⟨rfl, rfl, rfl⟩

end Go.Abs
end

section
/- Acts of a file system, as plain data; what the statements VfsSafe and VfsFails say of them. -/
set_option maxRecDepth 100000
set_option linter.unusedVariables false
set_option linter.unusedSimpArgs false
namespace Go.Abs
open Go Go.Proofs

structure Ac where
  kind : Int
  name : B
  to : B
  body : B
  n : Int
  keep : List Int
def intsZ (l : List Int) : List (List AV) := l.map fun i => [vi i]
theorem intsZ_length (l : List Int) : (intsZ l).length = l.length := by simp [intsZ]
def Ac.enc (a : Ac) : List AV := [vi a.kind, vs a.name, vs a.to, .sl none 1 (byteEls a.body), vi a.n, .sl none 1 (intsZ a.keep)]
def acs (l : List Ac) : List (List AV) := l.map Ac.enc
theorem acs_length (l : List Ac) : (acs l).length = l.length := by simp [acs]
def capN (n : Int) : Int := if n < -1 then -1 else n
def doP (s : FSt) (a : Ac) : FSt × Int :=
  if a.kind = 0 then s.append a.name a.body
  else if a.kind = 1 then s.truncate a.name a.n
  else if a.kind = 2 then s.sync a.name
  else if a.kind = 3 then s.rename a.name a.to
  else if a.kind = 4 then s.remove a.name
  else if a.kind = 5 then (⟨s.fs, capN a.n, s.fall, s.down⟩, 0)
  else if a.kind = 6 then (⟨s.fs, s.fail, capN a.n, s.down⟩, 0)
  else if a.kind = 7 then (s.crash a.keep, 0)
  else (s, 0)
structure AcOk (a : Ac) : Prop where
  body : a.body.length ≤ 300
  name : a.name.length ≤ 100
  to : a.to.length ≤ 100
  keep : a.keep.length ≤ 40
  n : -9223372036854775808 ≤ a.n ∧ a.n < 9223372036854775808
theorem capN_ok {n : Int} (h : -9223372036854775808 ≤ n ∧ n < 9223372036854775808) : okN (capN n) := by
  unfold okN capN; split <;> omega
theorem doP_ok {s : FSt} {nb fb : Nat} (h : FOk s nb fb) {a : Ac} (ha : AcOk a) : FOk (doP s a).1 (nb + 1) (fb + 300) := by
  have := ha.body
  have := ha.name
  have := ha.to
  unfold doP
  split
  · exact (append_ok h (by omega)).mono (by omega) (by omega)
  split
  · exact (truncate_ok h).mono (by omega) (by omega)
  split
  · exact (sync_ok h).mono (by omega) (by omega)
  split
  · exact (rename_ok h (by omega)).mono (by omega) (by omega)
  split
  · exact (remove_ok h).mono (by omega) (by omega)
  split
  · exact ⟨h.m.mono (by omega) (by omega), capN_ok ha.n, h.fall⟩
  split
  · exact ⟨h.m.mono (by omega) (by omega), h.fail, capN_ok ha.n⟩
  split
  · exact (crash_spec h a.keep).1.mono (by omega) (by omega)
  · exact h.mono (by omega) (by omega)

/-! ### VfsFails -/
/-- What an act does, if it comes to one at all. -/
inductive Did (s : FSt) (late : Bool) (r : FSt × Int) : Prop where
  | no (h : r.1 = s) (e : ((r.2 = 1 ∨ r.2 = 6) ∧ s.down = false) ∨ (r.2 = 7 ∧ s.down = true))
  | act (hd : s.down = false) (g : FM → FM) (h : r = s.act late g)
theorem may_did {s : FSt} {name : B} (hm : s.may name ≠ 0) : ((s.may name = 1 ∨ s.may name = 6) ∧ s.down = false) ∨ (s.may name = 7 ∧ s.down = true) := by
  unfold FSt.may at hm ⊢
  cases hd : s.down with
  | true => exact .inr ⟨by simp, rfl⟩
  | false =>
    rw [hd] at hm
    refine .inl ⟨.inr ?_, rfl⟩
    simp only [Bool.false_eq_true, if_false] at hm ⊢
    split at hm
    · rename_i h; rw [if_pos h]
    · exact absurd rfl hm
theorem do_did (s : FSt) (a : Ac) (h0 : 0 ≤ a.kind) (h4 : a.kind ≤ 4) : Did s (decide (a.kind = 0)) (doP s a) := by
  have key : ∀ (name : B) (g : FM → FM) (late : Bool), Did s late (if s.may name ≠ 0 then (s, s.may name) else s.act late g) := by
    intro name g late
    by_cases hm : s.may name ≠ 0
    · rw [if_pos hm]; exact .no rfl (may_did hm)
    · rw [if_neg hm]; exact .act (may_mem hm).1 g rfl
  unfold doP
  by_cases k0 : a.kind = 0
  · rw [if_pos k0, decide_eq_true k0]
    unfold FSt.append
    cases hd : s.down with
    | true => exact .no rfl (.inr ⟨rfl, hd⟩)
    | false => exact .act hd _ rfl
  rw [if_neg k0, decide_eq_false k0]
  by_cases k1 : a.kind = 1
  · rw [if_pos k1]
    unfold FSt.truncate
    by_cases hm : s.may a.name ≠ 0
    · rw [if_pos hm]; exact .no rfl (may_did hm)
    · rw [if_neg hm]
      split
      · exact .no rfl (.inl ⟨.inl rfl, (may_mem hm).1⟩)
      · exact .act (may_mem hm).1 _ rfl
  rw [if_neg k1]
  by_cases k2 : a.kind = 2
  · rw [if_pos k2]; exact key _ _ _
  rw [if_neg k2]
  by_cases k3 : a.kind = 3
  · rw [if_pos k3]; exact key _ _ _
  rw [if_neg k3]
  by_cases k4 : a.kind = 4
  · rw [if_pos k4]; exact key _ _ _
  · exfalso; omega
/-- Where the counts stand behind so many acts. -/
structure Cnt (s : FSt) (n : Nat) (falls : Bool) (c : Nat) : Prop where
  fall : s.fall = if falls then (if c ≤ n then ((n : Int) - c) else -1) else -1
  fail : s.fail = if falls then -1 else (if c ≤ n then ((n : Int) - c) else -1)
  down : s.down = (falls && decide (n < c))
theorem cnt_pred (n c : Nat) : cnt (if c ≤ n then ((n : Int) - c) else -1) = if c + 1 ≤ n then ((n : Int) - ((c + 1 : Nat) : Int)) else -1 := by
  unfold cnt
  split <;> split <;> split <;> omega
theorem cnt_neg : cnt (-1) = -1 := by decide
/-- What VfsFails asks of an act. -/
structure Asks (s : FSt) (r : FSt × Int) (n : Nat) (falls : Bool) (c : Nat) (k0 : Bool) (c' : Nat) : Prop where
  cnt : Cnt r.1 n falls c'
  le : c' = c ∨ c' = c + 1
  acted : decide (c' = c + 1) = (decide (r.2 = 0) || decide (r.2 = 8) || (decide (r.2 = 7) && !s.down))
  io : decide (r.2 = 8) = (decide (c' = c + 1) && decide (c = n) && !falls)
  dn : decide (r.2 = 7) = (s.down || (decide (c' = c + 1) && decide (c = n) && falls))
  now : r.1.down = decide (r.2 = 7)
  keep : (r.2 ≠ 0 ∧ (decide (c' = c + 1) && decide (c = n) && k0) = false) ∨ r.2 = 8 → r.1.fs = s.fs
theorem asks {s : FSt} {n c : Nat} {falls late : Bool} (hc : Cnt s n falls c) {r : FSt × Int} (h : Did s late r) : ∃ c', Asks s r n falls c late c' := by
  have h0 : ¬ c = c + 1 := by omega
  cases h with
  | no hs he =>
    refine ⟨c, by rw [hs]; exact hc, .inl rfl, ?_, ?_, ?_, ?_, fun _ => by rw [hs]⟩ <;> (try rw [decide_eq_false h0]) <;> rcases he with ⟨he | he, hd⟩ | ⟨he, hd⟩ <;> simp [he, hd, hs]
  | act hd g he =>
    obtain ⟨h1, h2, h3⟩ := hc
    have hp := cnt_pred n c
    have hn := cnt_neg
    have hout : ∃ F D e, s.act late g = (⟨F, cnt s.fail, cnt s.fall, D⟩, e) ∧ ((falls = false ∧ c = n ∧ F = s.fs ∧ D = false ∧ e = 8) ∨ (falls = true ∧ c = n ∧ (late = false → F = s.fs) ∧ D = true ∧ e = 7) ∨ (c ≠ n ∧ D = false ∧ e = 0)) ∧ (falls = true → c ≤ n) := by
      unfold FSt.act
      cases falls with
      | false =>
        simp only [Bool.false_eq_true, if_false] at h1 h2
        rw [if_neg (by rw [h1]; omega)]
        by_cases e : s.fail = 0
        · rw [if_pos e]
          have : c = n := by rw [h2] at e; split at e <;> omega
          exact ⟨_, _, _, rfl, .inl ⟨rfl, this, rfl, hd, rfl⟩, by simp⟩
        · rw [if_neg e]
          have : c ≠ n := by intro x; apply e; rw [h2, x]; simp
          exact ⟨_, _, _, rfl, .inr (.inr ⟨this, hd, rfl⟩), by simp⟩
      | true =>
        simp only [if_true] at h1 h2
        rw [hd, Bool.true_and] at h3
        have hcn : c ≤ n := by have := of_decide_eq_false h3.symm; omega
        rw [if_pos hcn] at h1
        by_cases e : s.fall = 0
        · rw [if_pos e]
          exact ⟨_, _, _, rfl, .inr (.inl ⟨rfl, by omega, fun hl => by rw [hl]; simp, rfl, rfl⟩), fun _ => hcn⟩
        · rw [if_neg e, if_neg (by rw [h2]; omega)]
          exact ⟨_, _, _, rfl, .inr (.inr ⟨by omega, hd, rfl⟩), fun _ => hcn⟩
    obtain ⟨F, D, e, hact, hcase, hle⟩ := hout
    have hcnt : (D = (falls && decide (n < c + 1))) → Cnt ⟨F, cnt s.fail, cnt s.fall, D⟩ n falls (c + 1) := fun hD => by
      refine ⟨?_, ?_, hD⟩
      · show cnt s.fall = _
        rw [h1]
        cases falls
        · simpa using hn
        · simpa using hp
      · show cnt s.fail = _
        rw [h2]
        cases falls
        · simpa using hp
        · simpa using hn
    rw [he, hact]
    refine ⟨c + 1, hcnt ?_, .inr rfl, ?_, ?_, ?_, ?_, ?_⟩
    · rcases hcase with ⟨q1, q2, _, q4, _⟩ | ⟨q1, q2, _, q4, _⟩ | ⟨q2, q4, _⟩
      · rw [q1, q4]; rfl
      · rw [q1, q4, q2]; simp
      · rw [q4]
        cases falls with
        | false => rfl
        | true =>
          have := hle rfl
          rw [Bool.true_and]
          exact (decide_eq_false (by omega)).symm
    all_goals rcases hcase with ⟨q1, q2, q3, q4, q5⟩ | ⟨q1, q2, q3, q4, q5⟩ | ⟨q2, q4, q5⟩
    all_goals simp [q5, q4, hd]
    all_goals first
      | (simp [q1, q2]; done)
      | (simp [q2]; done)
      | (exact fun hq => q3 (by cases late; rfl; simp [q2] at hq))
      | (intro hq; exact q3)
      | omega
      | skip
end Go.Abs
end

section
/- slices.Sorted(maps.Keys(m)) of the files' names: written by genL3.py out of K1 and K2. -/
set_option maxRecDepth 100000
set_option maxHeartbeats 1000000
set_option linter.unusedVariables false
set_option linter.unusedSimpArgs false
namespace Go.Proofs
open Go.RowKit Go.Maps Go.Sort Go.Shelf
/-- An element that is not read. -/
def vElem {H : Type} : Value → Option (DataW H × List MemPlace) := fun _ => some (.lit (.bool true), [])
set_option maxHeartbeats 1000000 in
/-- **maps.Keys(m)**: the map is boxed; the function value captures the box. -/
theorem Fx.keys_in (F : Fence) (n : Nat) (h7 : F.fn 26) (hro : F.round = none) (mb : Option Nat) (w : World) :
    CallsIn F n Try.prog 26 #[.map mb] w fun e w' => e = .returned (.func (.func 39) #[] #[.pointer (some ⟨w.heap.size, 0, none⟩)]) ∧ w' = w.alloc (.cells #[.map mb] 46) := by
  refine callsIn_of_wp Try.func26 rfl h7 ?_ hro
  simp only [Try.ntmps26, List.size_toArray, List.length_cons, List.length_nil, Nat.reduceAdd, Nat.reduceSub, Array.replicate_succ, Array.replicate_zero, List.push_toArray, List.append_toArray, List.nil_append, List.cons_append]
  gi_wp2
  go_ret
  exact ⟨rfl, rfl⟩


set_option maxRecDepth 100000 in
set_option maxHeartbeats 1000000 in
/-- **'func(yield func(K) bool) { for k := range m { if !yield(k) { return } } }'**: whatever J the caller keeps between rounds, so it abides the iterator's steps; whatever the rounds do, so they hand back true, carry J on by the key, and leave maps and iterators alone: THE KEYS COME, EACH ONCE, IN SOME ORDER. (As 'Kx.keys1_in'; AND THE ROUND IS TOLD THAT FEWER KEYS HAVE COME THAN THE MAP HOLDS.) -/
theorem Fx.keys1N_in {H : Type} (F : Fence) (n : Nat) (h10 : F.fn 39) (hro : F.round = none) (hn : 1 ≤ n) (l Bm b nn : Nat) (D0 : DataW H) (J : List (List UInt8) → World → Prop)
    (hY : ∀ pre x W, J pre W → pre.length < Maps.size D0 → YieldAt F (n - 1) Try.prog l #[encStr x] W fun e W' => e = .returned (.bool true) ∧ J (pre ++ [x]) W' ∧ KeepsWalks W W')
    (W : World) (hJ : AbidesFrom W.heap.size J) (hm : W.cell? ⟨Bm, 0, none⟩ = some (.map (some b))) (hown : W.ownsMap Try.prog 9 vElem b nn D0) (h0 : J [] W) :
    CallsIn F n Try.prog 39 #[.func (.yield l) #[] #[], .pointer (some ⟨Bm, 0, none⟩)] W fun e W' => (∃ v, e = .returned v) ∧ ∃ ss : List (List UInt8), ss.Perm (strKeys D0) ∧ J ss W' := by
  refine callsIn_of_wp Try.func39 rfl h10 ?_ hro
  simp only [Try.ntmps39, List.size_toArray, List.length_cons, List.length_nil, Nat.reduceAdd, Nat.reduceSub, Array.replicate_succ, Array.replicate_zero, List.push_toArray, List.append_toArray, List.nil_append, List.cons_append]
  gi_wp2_with (first
    | (gi_at_range; refine wpListIn_range_own _ rfl _ 46 rfl 9 53 Kx.law26 Try.underlying46 _ b nn _ rfl hown ?_; intro w0 hrg0 hg0 hs0)
    | gi_in)
  go_frame
  gi_loopw [3] (fun _ wr => ∃ (left : Lit → Bool) (cnt : Nat) (ss : List (List UInt8)), wr.ranges Try.prog 9 vElem b W.heap.size nn D0 left cnt ∧ ss.length + cnt ≤ Maps.size D0 ∧ Collected D0 left ss ∧ J ss wr)
    (fun _ wr => wr.rangeLeft b W.heap.size)
  case atStart =>
    exact ⟨_, _, [], hrg0, by simp, Collected.start D0, hJ [] W w0 none h0 hg0 (fun r e => by cases e)⟩
  case round =>
    obtain ⟨left, cnt, ss, hrg, hcs, hC, hJs⟩ := hrel
    gi_wp2_with (first
      | (gi_at_next; refine wpListIn_next_ranges _ rfl _ rfl 9 Kx.law26 vElem encStr (fun v : Value => v) (fun key kl hk => by obtain ⟨x, hx, _⟩ := Maps.keyOf_str Try.underlying9 hk; exact ⟨x, hx⟩) (fun v y hv => ⟨v, rfl⟩) b W.heap.size nn _ _ _ rfl hrg ?_ ?_)
      | gi_in)
    · -- NOTHING IS LEFT
      intro hc0 hl0
      gi_wp2
      go_end0
      exact ⟨⟨_, rfl⟩, ss, hC.perm hown Kx.law26 Try.underlying9 hl0, hJs⟩
    · -- AN ENTRY HAS COME: yield(k)
      intro x c kl yd yp w2 cnt2 hkey hlk hv hat hrg2 hlt hg2 hs2 hen
      obtain ⟨x', ex, rfl, _⟩ := Maps.keyOf_str Try.underlying9 hkey
      obtain rfl : x = x' := encStr_inj ex
      have hJ2 : J ss w2 := hJ ss wr w2 (some W.heap.size) hJs hg2 (fun r e => by cases e; exact ⟨Nat.le_refl _, hrg.iter_walk⟩)
      obtain ⟨fn, tmps, assign, body, hy, hR⟩ := hY ss x w2 hJ2 (by omega)
      clear hs2
      gi_wp2
      refine hR.mono ?_
      rintro e W3 ⟨rfl, hJ3, hk3⟩
      gi_wp2
      have hrg3 := hrg2.of_walks hk3
      go_roundw
      case rel => exact ⟨_, cnt2, ss ++ [x], hrg3, by simp; omega, hC.step hlk hat, hJ3⟩
      case measure => rw [hrg3.left_eq, hrg.left_eq]; exact hlt


/-- **maps.Keys(m) HANDS BACK AN ITERATOR OVER m's KEYS**: in the world behind the call. -/
theorem Fx.keys_gives {H : Type} (F : Fence) (n : Nat) (h10 : F.fn 39) (hro : F.round = none) (hn : 1 ≤ n) (Bm b nn : Nat) (D0 : DataW H) (w : World) (hBm : Bm < w.heap.size)
    (hm : w.cell? ⟨Bm, 0, none⟩ = some (.map (some b))) (hown : w.ownsMap Try.prog 9 vElem b nn D0) :
    SeqGives F n Try.prog 39 #[.pointer (some ⟨Bm, 0, none⟩)] encStr (fun ss => ss.Perm (strKeys D0)) (Maps.size D0) w := fun l J W hW hJ hY h0 => by
  have hown' : W.ownsMap Try.prog 9 vElem b nn D0 := by
    have hbl := hown.lt
    obtain ⟨es, clock, hb, Ft, hs, hD⟩ := hown
    exact ⟨es, clock, (hW.block b hbl).trans hb, Ft, hs, hD⟩
  exact Fx.keys1N_in F n h10 hro hn l Bm b nn D0 J hY W hJ ((hW.cell (p := ⟨Bm, 0, none⟩) hBm).trans hm) hown' h0

end Go.Proofs
namespace Go.Abs
open Go Go.Proofs Go.Sort Go.Maps
def fEnc (x : Fl) : AV := .agg [.sl none 1 (byteEls x.b), vi (x.safe : Int)]
theorem fmap_keys {G : Gh} : ∀ {m : FM} {ms : List MapEntry}, MapR G (amap fEnc m) ms → ms.map (·.key) = (kys m).map encStr
  | [], [], _ => rfl
  | [], _ :: _, h => by simp [amap, MapR] at h
  | _ :: _, [], h => by simp [amap, MapR] at h
  | a :: m, x :: ms, h => by
    obtain ⟨⟨h1, _⟩, h2, h3⟩ : (x.key = .string (ofB a.1) ∧ _) ∧ Rep G (fEnc a.2) x.val ∧ MapR G (amap fEnc m) ms := h
    have i1 := fmap_keys h3
    rw [List.map_cons, i1, h1]
    rfl
theorem fKeys_calls (es : List (ByteArray × AV)) {R} (h : R (.fn (.func 39) [] [.ptr 1 0]) [.map es, .cells 46 [.mapv 0]]) :
    ACalls Try.prog 26 [.mapv 0] [.map es] R := by
  refine acalls_of_xwp (an := an26) tab_ok Try.func26 ?_
  (conv => whnf)
  exact h

theorem fowns_of {H : Type} {G : Gh} {w : World} {b : Nat} {ms : Array MapEntry} {clock : Nat} {m : FM} (hb : w.heap[b]? = some (.map ms clock)) (hr : MapR G (amap fEnc m) ms.toList) (hok : MapOk ms clock) (hnd : (kys m).Nodup)
    (hl : (kys m).length ≤ maxLen) (hs : ∀ s ∈ (kys m), s.length ≤ maxLen) : ∃ D0 : DataW H, w.ownsMap Try.prog 9 vElem b (kys m).length D0 ∧ Maps.size D0 = (kys m).length ∧ (strKeys D0).Perm (kys m) := by
  have k1 := fmap_keys hr
  have hsz : ms.size = (kys m).length := by
    have := congrArg List.length k1
    simpa using this
  have hread : ∀ x ∈ ms.toList, ∃ s ∈ (kys m), x.key = encStr s ∧ Go.WideElems.rd Try.prog 9 (vElem (H := H)) x = some (Lit.string s, DataW.lit (.bool true)) := fun x hx => by
    have hk : x.key ∈ (kys m).map encStr := by rw [← k1]; exact List.mem_map_of_mem hx
    obtain ⟨s, hsl, hsk⟩ := List.mem_map.1 hk
    refine ⟨s, hsl, hsk.symm, ?_⟩
    have h1 : keyOf Try.prog 9 x.key = some (.string s) := by
      rw [← hsk]
      have := hs s hsl
      simp [keyOf, mapKey, Try.underlying9, encStr]
      exact this
    have h2 : vElem (H := H) x.val = some (.lit (.bool true), []) := rfl
    simp [Go.WideElems.rd, h1, h2]
  have hfit : Go.WideElems.Fit Try.prog 9 (vElem (H := H)) ms clock := by
    refine ⟨by omega, ⟨hok.2, hok.1, ?_⟩, fun x hx => ?_⟩
    · rw [k1]
      refine (List.pairwise_map.2 (hnd.imp fun hne e => hne (encStr_inj e)))
    · obtain ⟨s, _, _, h⟩ := hread x hx
      exact ⟨_, h⟩
  refine ⟨_, ⟨ms, clock, hb, hfit, by omega, rfl⟩, ?_, ?_⟩
  · simp [Maps.size, length_sorted, hsz]
  · show (((ms.toList.map _).foldr DataW.insert []).map fun p => strOf p.1).Perm (kys m)
    refine ((Go.WideShapes.sorted_perm _).map _).trans ?_
    rw [List.map_map]
    have : (ms.toList.map ((fun p : Lit × DataW H => strOf p.1) ∘ Go.WideElems.rg Try.prog 9 (vElem (H := H)))) = (kys m) := by
      have h1 : ∀ x ∈ ms.toList, encStr (((fun p : Lit × DataW H => strOf p.1) ∘ Go.WideElems.rg Try.prog 9 (vElem (H := H))) x) = x.key := fun x hx => by
        obtain ⟨s, _, h2, h3⟩ := hread x hx
        simp only [Function.comp]
        rw [Go.WideElems.rg_of h3, h2]
        rfl
      have h2 : (ms.toList.map ((fun p : Lit × DataW H => strOf p.1) ∘ Go.WideElems.rg Try.prog 9 (vElem (H := H)))).map encStr = (kys m).map encStr := by
        rw [← k1, List.map_map]
        exact List.map_congr_left h1
      exact List.map_inj_right (f := encStr) (fun _ _ e => encStr_inj e) |>.1 h2
    rw [this]

theorem fSorted_calls (m : FM) (hl : (kys m).length < 1000000) (hs : ∀ s ∈ (kys m), s.length < 1000000) (hnd : (kys m).Nodup) {R} (h : R (.sl none 1 (strs (sortB (kys m)))) [.cells 46 [.mapv 1], .map (amap fEnc m)]) :
    ACalls Try.prog 25 [.fn (.func 39) [] [.ptr 0 0]] [.cells 46 [.mapv 1], .map (amap fEnc m)] R := by
  have h47 : 1000000 ≤ maxLen := by unfold maxLen; omega
  refine packS fun G w vals hW hA => ?_
  have hI := invS hW
  obtain ⟨bm, vs, e1, e2, e3, e4⟩ := hW.obj 0 (.cells 46 [.mapv 1]) rfl
  obtain ⟨b, ms, clock, m1, m2, m3, m4, m5⟩ := hW.obj 1 (.map (amap fEnc m)) rfl
  simp only [RepL, Rep] at hA e3
  obtain ⟨_, _, rfl, ⟨vf, us, rfl, rfl, v1, us1, rfl, ⟨b', hb', rfl⟩, rfl⟩, rfl⟩ := hA
  obtain ⟨_, _, rfl, ⟨b2, hb2, rfl⟩, rfl⟩ := e3
  rw [e1] at hb'; cases hb'
  rw [m1] at hb2; cases hb2
  obtain ⟨D0, hown, hDs, hDk⟩ := fowns_of (H := Unit) m2 m3 m5 hnd (by omega) (fun s hx => by have := hs s hx; omega)
  have hbm : bm < w.heap.size := (Array.getElem?_eq_some_iff.1 e2).1
  have hcell : w.cell? ⟨bm, 0, none⟩ = some (.map (some b)) := by rw [cell_row e2 0]; rfl
  have hseq := Fx.keys_gives Fence.wide (6 - 1 - 1 - 1) trivial rfl (by omega) bm b (kys m).length D0 w hbm hcell hown
  refine (callsIn_wide.1 (Kx.sorted_in Fence.wide 6 trivial trivial trivial trivial rfl (by omega) (sorts_wide _) _ _ trivial (enters_of Try.func39 (by kernel_rfl) rfl) _ _ (by omega) (by omega) w hseq)).mono ?_
  rintro e w' ⟨v, ss, rfl, hperm, hrow, hnil, hbl⟩
  have hpl : ss.Perm (kys m) := hperm.trans hDk
  have hsort : (ss.mergeSort fun x y => decide (x ≤ y)) = sortB (kys m) := mergeSort_of_perm hpl
  rw [hsort] at hrow
  have hlen : ss.length = (sortB (kys m)).length := by rw [hpl.length_eq]; simp [sortB]
  rw [hlen] at hrow
  have hsls := strs_length (sortB (kys m))
  have hob : ∀ (i : Nat) (o : AObj), [AObj.cells 46 [.mapv 1], .map (amap fEnc m)][i]? = some o → ∀ m ∈ objNames o, m < 2 := by
    intro i o ho m hm
    match i, ho with
    | 0, ho => simp at ho; subst ho; have hm : m = 1 := by simpa [objNames, namesL, AV.names] using hm
               subst hm; decide
    | 1, ho => simp at ho; subst ho; simp [objNames] at hm
  rcases hrow.2 with ⟨rfl, hz⟩ | ⟨g, cap, cur, rfl, hbase, hgb, r1, r2, r3, r4⟩
  · have hnil : sortB (kys m) = [] := List.eq_nil_of_length_eq_zero hz
    obtain ⟨hI', hle⟩ := hI.grow (w' := w') (K' := G.K) hbl.os hbl.tape hbl.output hbl.size (fun b hb => hbl.block b hb) (fun _ _ _ => rfl) (fun b o v hb ev => by have := hI.wr.kltb ev; omega)
    refine ⟨_, _, _, _, rfl, h, ?_, hI', hob, by simp [AV.names]⟩
    rw [hnil]
    simp only [Rep, strs, List.map_nil]
    exact ⟨⟨none, 0, rfl, Nat.le_refl _, trivial⟩, trivial⟩
  · have htake : ∀ (j : Nat) (s : B), (sortB (kys m))[j]? = some s → cur[j]? = some (encStr s) := fun j s hj => by
      have h1 : (cur.toList.take ((sortB (kys m)).length * 1))[j]? = some (encStr s) := by rw [r4]; simp [hj]
      have hjl := (List.getElem?_eq_some_iff.1 hj).1
      rw [List.getElem?_take, if_pos (by omega)] at h1
      simpa using h1
    obtain ⟨hI', hle⟩ := hI.grow (w' := w') (K' := addK G.K g cur.toList) hbl.os hbl.tape hbl.output hbl.size (fun b hb => hbl.block b hb) (fun b o hb => by
        have : b ≠ g := by omega
        show (if b = g then _ else _) = _
        rw [if_neg this]) (fun b o v hb ev => by
        by_cases e : b = g
        · subst e
          simp only [addK, if_true] at ev
          rw [cell_row hgb]
          simpa using ev
        · simp only [addK, e, if_false] at ev
          have := hI.wr.kltb ev; omega)
    refine ⟨_, _, _, _, rfl, h, ?_, hI', hob, by simp [AV.names]⟩
    simp only [Rep]
    rw [hsls]
    refine ⟨⟨_, cap, rfl, r1, repE_strs _ _ fun j s hj => ?_⟩, trivial⟩
    simp [addK, htake j s hj]
end Go.Abs
end

section
/- slices.Clone, slices.Grow, slices.Concat of bytes; maps.Clone of the files. -/
set_option maxRecDepth 100000
set_option maxHeartbeats 2000000
set_option linter.unusedVariables false
set_option linter.unusedSimpArgs false
namespace Go.Abs
open Go Go.Proofs Go.RowKit Go.Lib
attribute [local irreducible] ibits byteAt strLt firstIdx

theorem bel_length (l : B) : (byteEls l).length = l.length := by simp [byteEls]
theorem bel_append (l m : B) : byteEls (l ++ m) = byteEls l ++ byteEls m := by simp [byteEls]
theorem bel_bytes : (tab.ti 5).bytes = 1 := rfl
theorem bel_nil {b : B} (h : byteEls b = []) : b = [] := by
  cases b with
  | nil => rfl
  | cons a l => simp [byteEls] at h
theorem bClone_calls (b : B) (hb : b.length < 100000000) {R} (h : R (.sl none 1 (byteEls b)) []) : ACalls Try.prog 27 [.sl none 1 (byteEls b)] [] R := by
  refine ACalls.res ?_
  refine acalls_of_xwp (an := an27) tab_ok Try.func27 ?_
  have hsl := bel_length b
  (conv => whnf)
  intro p hp
  refine br_intro (fun g => ?_) (fun g => ?_)
  · have e := bel_nil (hp g)
    subst e
    (conv => whnf)
    exact res_le (le_nil 1) rfl h
  · (conv => whnf)
    refine ⟨rfl, (by show (0 + (byteEls b).length) * (1 + 1) ≤ _; omega), ?_⟩
    (conv => whnf)
    rw [show [] ++ byteEls b = byteEls b from rfl]
    exact res_same h

/-! ### slices.Grow(nil, n) -/
theorem u8_info : (Try.prog.info? 5).map (fun i => (i.zero, i.size, i.bytes)) = some (some (.int .u8 0), 1, 1) := by kernel_rfl
theorem grow_room (w : World) : Calls Try.prog 41 #[.slice none 0 0, .int .i64 0] w fun e w' => e = .returned (.slice none 0 0) ∧ w' = w := by
  have mixed := mixed_ok
  go_enter Try.func41, Try.ntmps41
  go_wp2
  go_ret
  exact ⟨rfl, rfl⟩
theorem grow_new (n : Nat) (h0 : 0 < n) (hn : n ≤ 1000000000) (w : World) : Calls Try.prog 41 #[.slice none 0 0, .int .i64 n] w fun e w' =>
    e = .returned (.slice (some ⟨w.heap.size, 0, none⟩) 0 (grownCap w n 0 5)) ∧ ∃ cur, w' = w.drew.alloc (.cells cur 5) ∧ cur.size = grownCap w n 0 5 := by
  obtain ⟨i0, hi, hz0, hz1, hz2⟩ := info_parts u8_info
  have mixed := mixed_ok
  have h1 : ¬ ((n : Int) < 0) := by omega
  have h2 : wrap64 ((n : Int) - wrap64 (((0 : Nat) : Int) - ((0 : Nat) : Int))) = (n : Int) := by unfold wrap64; omega
  have h4 : (n : Int) > 0 := by omega
  have hold : (Builtin.firstCells i0.size 0 (.slice none 0 0)).run Try.prog w.drew = .ok ([] : List Value).toArray w.drew := run_firstCells_none w.drew i0.size 0 0 0
  have hrz : ∀ ty, (Builtin.append_ #[28, 3] ty #[.slice none 0 0, .int .i64 (n : Int)]).run Try.prog w =
      .ok (.slice (some ⟨w.heap.size, 0, none⟩) n (grownCap w n 0 5)) (w.drew.alloc (.cells (([] : List Value).toArray ++ Builtin.zeroCells (Value.int .u8 0).cells n ++ Builtin.zeroCells (Value.int .u8 0).cells (grownCap w n 0 5 - n)) 5)) := fun ty => by
    have h := Lib.run_append_grow_zeros w 28 3 ty 5 i0 (.int .u8 0) .i64 .i64 Try.underlying28 Try.underlying3 hi hz0 none 0 0 [] hold n h0 (by omega) (by omega) (by omega)
      (by rw [hz2]; omega) (by rw [Nat.zero_add]; exact growslice_fits (by omega) (by rw [hz2]; omega))
    simpa using h
  have hGn : n ≤ grownCap w n 0 5 := grownCap_ge w _ _ _
  obtain ⟨G, hG⟩ : ∃ G, G = grownCap w n 0 5 := ⟨_, rfl⟩
  rw [← hG] at hrz hGn ⊢
  have hG63 : G ≤ 9223372036854775807 := by
    have := grownCap_le_maxLen w n 0 5 (by unfold maxLen; omega)
    rw [← hG] at this
    unfold maxLen at this
    omega
  clear hold hG
  go_enter Try.func41, Try.ntmps41
  go_wp2_with (at_builtin; refine Lib.wpList_append_run _ rfl _ _ _ _ rfl _ _ rfl rfl _ _ (hrz _) ?_)
  all_goals (go_ret; exact ⟨rfl, _, rfl, by simp [size_zeroCells]; omega⟩)
end Go.Abs
end

section
/- slices.Concat of bytes and maps.Clone of files, as contracts. -/
set_option maxRecDepth 100000
set_option maxHeartbeats 2000000
set_option linter.unusedVariables false
set_option linter.unusedSimpArgs false
namespace Go.Abs
open Go Go.Proofs Go.RowKit Go.Lib
attribute [local irreducible] ibits byteAt strLt firstIdx

abbrev nilV : AV := .val (.slice none 0 0)
theorem Grow_calls (n : Nat) (hn : n ≤ 1000000000) {R} (h0 : n = 0 → R nilV []) (h1 : 0 < n → R (.sl (some 0) 1 []) [.row 5 1 0]) : ACalls Try.prog 41 [nilV, vi n] [] R := by
  refine packS fun G w vals hW hA => ?_
  have hI := invS hW
  simp only [RepL, Rep] at hA
  obtain ⟨_, _, rfl, rfl, _, _, rfl, rfl, rfl⟩ := hA
  by_cases hz : n = 0
  · subst hz
    refine (grow_room w).mono ?_
    rintro e w' ⟨rfl, rfl⟩
    exact ⟨_, nilV, [], G, rfl, h0 rfl, by simp only [Rep], hI, (by intro i o ho; cases ho), by simp [AV.names]⟩
  · refine (grow_new n (by omega) hn w).mono ?_
    rintro e w' ⟨rfl, cur, rfl, hcs⟩
    have hge := grownCap_ge w n 0 5
    have hgm := grownCap_le_maxLen w n 0 5 (by unfold maxLen; omega)
    have hKn : ∀ o, G.K w.heap.size o = none := fun o => by
      cases e : G.K w.heap.size o with
      | none => rfl
      | some v => have := hI.wr.kltb e; omega
    have hhp : (w.drew.alloc (.cells cur 5)).heap[w.heap.size]? = some (.cells cur 5 (0, 0)) := heap_alloc_new w.drew _
    obtain ⟨hI', hle⟩ := hI.newObj (w' := w.drew.alloc (.cells cur 5)) (n := 0) (o := .row 5 1 0) (objs' := numbered 0 [.row 5 1 0]) (g := .rowv (.slice (some ⟨w.heap.size, 0, none⟩) 0 (grownCap w n 0 5)) 0) (K' := G.K)
      rfl rfl rfl (by simp) (fun b hb => heap_alloc_old w.drew _ hb) (fun _ _ _ => rfl) (fun b o v hb ev => by have := hI.wr.kltb ev; omega) rfl
      (fun m => by rw [objGet_numbered0]; cases m <;> simp [numbered, objGet])
      (by
        refine ⟨_, [], by simp [addOb], ⟨by simp, .inr ⟨w.heap.size, _, cur, rfl, Nat.zero_le _, hhp, Nat.zero_le _, hgm, by rw [hcs]; simp, by simp⟩⟩, fun g hg o => ?_⟩
        have : g = w.heap.size := by simpa [Value.ownBlock] using hg.symm
        subst this
        simpa using hKn o)
      (fun b hb => by
        rcases hb with hb | ⟨u, t, hb, hub⟩
        · simp [addOb] at hb
        · simp only [addOb, if_true, Option.some.injEq, GO.rowv.injEq] at hb
          obtain ⟨rfl, rfl⟩ := hb
          have : b = w.heap.size := by simpa [Value.ownBlock] using hub.symm
          omega)
    refine ⟨_, .sl (some 0) 1 [], [.row 5 1 0], _, rfl, h1 (by omega), ?_, hI', ?_, ?_⟩
    · simp only [Rep]
      exact ⟨⟨_, _, rfl, by simp, trivial⟩, _, 0, by simp [addOb], by simp, fun _ => rfl⟩
    · intro i o ho m hm
      cases i with
      | zero => cases ho; simp [objNames] at hm
      | succ i => simp at ho
    · intro m hm
      simp [AV.names] at hm
      subst hm; decide

/-! ### maps.Clone -/
theorem equalIn_map_nil (w : World) (d b : Nat) : (Op.equalIn (d + 1) 46 (.map (some b)) (.map none)).run Try.prog w = .ok false w := by
  simp [Op.equalIn, run_underlying (Try.underlying46)]
theorem eql_map_nil (w : World) (b : Nat) : (binOp .eql 46 (.map (some b)) (.map none)).run Try.prog w = .ok (.bool false) w := by
  simp only [binOp]
  simp [show Op.equal 46 (.map (some b)) (.map none) = Op.equalIn (9999 + 1) 46 (.map (some b)) (.map none) from rfl, equalIn_map_nil w 9999 b]
theorem assert_map (w : World) (xT : TypeId) (v : Value) : (Instr.typeAssert (.iface 46 v) xT 46 false).run Try.prog w = .ok v w := by
  simp [Instr.typeAssert, run_underlying (Try.underlying46), go_sem, Result.andThen]
theorem run_mclone {w : World} {r : Nat} {es : Array MapEntry} {clock : Nat} (t : TypeId) (hb : w.heap[r]? = some (.map es clock)) :
    (Extern.MapsClone.clone #[.iface t (.map (some r))]).run Try.prog w = .ok (.iface t (.map (some w.heap.size))) (w.alloc (.map es clock)) := by
  have e : Extern.MapsClone.clone #[.iface t (.map (some r))] = (getObj r >>= fun o => match o with
      | .map entries clock => (newObj (.map entries clock) >>= fun n => pure (.iface t (.map (some n))))
      | _ => stuck "maps.clone: a map expected") := rfl
  rw [e]
  simp [MapKept.run_getObj_map hb, Result.andThen, go_sem]
theorem mclone_world (b : Nat) (es : Array MapEntry) (clock : Nat) (w : World) (hb : w.heap[b]? = some (.map es clock)) :
    Calls Try.prog 24 #[.map (some b)] w fun e w' => e = .returned (.map (some w.heap.size)) ∧ w' = w.alloc (.map es clock) := by
  have mixed := mixed_ok
  have hq := fun w => eql_map_nil w b
  go_enter Try.func24, Try.ntmps24
  go_wp2
  rw [run_callFunc_extern Try.func36 (by kernel_rfl) (by kernel_rfl) (by kernel_rfl) (e := Extern.MapsClone.clone) (by kernel_rfl), run_mclone 46 hb]
  simp only [Result.andThen]
  rw [Oper.upon_value]
  go_wp2
  rw [assert_map]
  simp only [Result.andThen]
  rw [Oper.upon_value]
  go_wp2
  go_ret
  exact ⟨rfl, rfl⟩
theorem mClone_calls (es : List (ByteArray × AV)) {R} (h : R (.mapv 1) [.map es, .map es]) : ACalls Try.prog 24 [.mapv 0] [.map es] R := by
  refine packS fun G w vals hW hA => ?_
  have hI := invS hW
  obtain ⟨b, ms, clock, m1, m2, m3, m4, m5⟩ := hW.obj 0 (.map es) rfl
  simp only [RepL, Rep] at hA
  obtain ⟨_, _, rfl, ⟨b', hb', rfl⟩, rfl⟩ := hA
  rw [m1] at hb'; cases hb'
  refine (mclone_world b ms clock w m2).mono ?_
  rintro e w' ⟨rfl, rfl⟩
  have hKn : ∀ o, G.K w.heap.size o = none := fun o => by
    cases e : G.K w.heap.size o with
    | none => rfl
    | some v => have := hI.wr.kltb e; omega
  have hno : G.ob 1 = none := by
    cases e : G.ob 1 with
    | none => rfl
    | some g => obtain ⟨o, ho⟩ := hI.wr.dom 1 g e; cases ho
  have hle0 : G.le ⟨G.K, addOb G.ob 1 (.blk w.heap.size)⟩ := ⟨fun _ _ _ e => e, fun n b e => by
      show addOb G.ob 1 _ n = _
      by_cases hn : n = 1
      · subst hn; rw [hno] at e; cases e
      · simp [addOb, hn, e], fun n u t e => by
      refine ⟨u, t, ?_, .inr ⟨rfl, rfl⟩⟩
      show addOb G.ob 1 _ n = _
      by_cases hn : n = 1
      · subst hn; rw [hno] at e; cases e
      · simp [addOb, hn, e]⟩
  obtain ⟨hI', hle⟩ := hI.newObj (w' := w.alloc (.map ms clock)) (n := 1) (o := .map es) (objs' := numbered 0 [.map es, .map es]) (g := .blk w.heap.size) (K' := G.K)
    rfl rfl rfl (by simp) (fun b hb => heap_alloc_old w _ hb) (fun _ _ _ => rfl) (fun b o v hb ev => by have := hI.wr.kltb ev; omega) rfl
    (fun m => by
      rw [objGet_numbered0]
      show _ = if m = 1 then some (.map es) else objGet (numbered 0 [.map es]) m
      rw [objGet_numbered0]
      match m with
      | 0 => rfl
      | 1 => rfl
      | m + 2 => simp)
    ⟨w.heap.size, ms, clock, by simp [addOb], heap_alloc_new w _, m3.mono hle0, hKn, m5⟩
    (fun b hb => by
      rcases hb with hb | ⟨u, t, hb, hub⟩
      · simp [addOb] at hb; omega
      · simp [addOb] at hb)
  refine ⟨_, .mapv 1, [.map es, .map es], _, rfl, h, ?_, hI', ?_, ?_⟩
  · simp only [Rep]; exact ⟨_, by simp [addOb], rfl⟩
  · intro i o ho m hm
    match i, ho with
    | 0, ho => cases ho; simp [objNames] at hm
    | 1, ho => cases ho; simp [objNames] at hm
    | i + 2, ho => simp at ho
  · intro m hm
    have : m = 1 := by simpa [AV.names] using hm
    subst this
    exact Nat.one_lt_two

/-! ### slices.Concat of two -/
theorem Concat_calls (p q : B) (hp : p.length < 100000000) (hq : q.length < 100000000) {R} (h : R (.sl none 1 (byteEls (p ++ q))) []) : ACalls Try.prog 30 [.sl none 1 [[.sl none 1 (byteEls p)], [.sl none 1 (byteEls q)]]] [] R := by
  refine ACalls.res ?_
  refine acalls_of_xwp (an := an30) tab_ok Try.func30 ?_
  have h1 := bel_length p
  have h2 := bel_length q
  (conv => whnf)
  have e1 : IntKind.i64.wrap (0 + ((byteEls p).length : Int)) = (p.length : Int) := by rw [h1, wrap_i64 (by omega) (by omega)]; omega
  have e2 : IntKind.i64.wrap ((p.length : Int) + ((byteEls q).length : Int)) = ((p.length + q.length : Nat) : Int) := by rw [h2, wrap_i64 (by omega) (by omega)]; omega
  refine LoopP.step ?_
  (conv => whnf)
  refine br_intro (fun g => ?_) (fun _ => ?_)
  · rw [e1] at g
    have g := of_decide_eq_true g
    omega
  rw [e1]
  (conv => whnf)
  refine LoopP.step ?_
  (conv => whnf)
  refine br_intro (fun g => ?_) (fun _ => ?_)
  · rw [e2] at g
    have g := of_decide_eq_true g
    omega
  rw [e2]
  (conv => whnf)
  refine LoopP.step ?_
  (conv => whnf)
  refine Grow_calls (p.length + q.length) (by omega) (fun hz => ?_) (fun hz => ?_)
  · have ep : p = [] := List.eq_nil_of_length_eq_zero (by omega)
    have eq : q = [] := List.eq_nil_of_length_eq_zero (by omega)
    subst ep eq
    (conv => whnf)
    refine LoopP.step ?_
    (conv => whnf)
    refine ⟨by rw [h1, bel_bytes]; simp, ?_⟩
    (conv => whnf)
    refine LoopP.step ?_
    (conv => whnf)
    refine ⟨rfl, by rw [h1, bel_bytes]; simp, ?_⟩
    (conv => whnf)
    refine LoopP.step ?_
    (conv => whnf)
    exact res_same h
  · (conv => whnf)
    refine LoopP.step ?_
    (conv => whnf)
    refine ⟨rfl, by rw [h1, bel_bytes]; simp; omega, ?_⟩
    (conv => whnf)
    refine LoopP.step ?_
    (conv => whnf)
    refine ⟨by simp, by rw [h2, bel_bytes]; simp [h1]; omega, ?_⟩
    (conv => whnf)
    refine LoopP.step ?_
    (conv => whnf)
    rw [bel_append] at h
    exact res_same h
end Go.Abs
end

section
/- The file system's own functions. -/
set_option maxRecDepth 100000
set_option maxHeartbeats 2000000
set_option linter.unusedVariables false
set_option linter.unusedSimpArgs false
namespace Go.Abs
open Go Go.Proofs
attribute [local irreducible] ibits byteAt strLt firstIdx

def fsC (s : FSt) (m : Nm) : AObj := .cells 48 [.mapv m, vi s.fail, vi s.fall, .val (.bool s.down)]
def fsM (s : FSt) : AObj := .map (amap fEnc s.fs)
theorem New_calls {R} (h : R (.ptr 0 0) [fsC fs0 1, fsM fs0]) : ACalls Try.prog 7 [] [] R := by
  refine acalls_of_xwp (an := an7) tab_ok Try.func7 ?_
  (conv => whnf)
  exact h
theorem cnt_wrap {a : Int} (ha : okN a) : (if IntKind.i64.wrap (a - 1) < -1 then -1 else IntKind.i64.wrap (a - 1)) = cnt a := by
  unfold okN at ha
  rw [wrap_i64 (by omega) (by omega)]
  rfl
theorem count_calls (a : Int) (ha : okN a) {R} (h : R (.tup [vi (cnt a), .val (.bool (a == 0))]) []) : ACalls Try.prog 40 [vi a] [] R := by
  refine acalls_of_xwp (an := an40) tab_ok Try.func40 ?_
  (conv => whnf)
  rw [cnt_wrap ha]
  exact h
theorem Down_calls (s : FSt) {R} (h : R (.val (.bool s.down)) [fsC s 1, fsM s]) : ACalls Try.prog 13 [.ptr 0 0] [fsC s 1, fsM s] R := by
  refine acalls_of_xwp (an := an13) tab_ok Try.func13 ?_
  (conv => whnf)
  exact h
theorem Fail_calls (s : FSt) (n : Int) {R} (h : R (.tup []) [fsC ⟨s.fs, capN n, s.fall, s.down⟩ 1, fsM s]) : ACalls Try.prog 17 [.ptr 0 0, vi n] [fsC s 1, fsM s] R := by
  refine acalls_of_xwp (an := an17) tab_ok Try.func17 ?_
  (conv => whnf)
  exact h
theorem Fall_calls (s : FSt) (n : Int) {R} (h : R (.tup []) [fsC ⟨s.fs, s.fail, capN n, s.down⟩ 1, fsM s]) : ACalls Try.prog 16 [.ptr 0 0, vi n] [fsC s 1, fsM s] R := by
  refine acalls_of_xwp (an := an16) tab_ok Try.func16 ?_
  (conv => whnf)
  exact h
theorem Copy_calls (s : FSt) {R} (h : R (.ptr 2 0) [fsC s 1, fsM s, fsC s 3, fsM s]) : ACalls Try.prog 9 [.ptr 0 0] [fsC s 1, fsM s] R := by
  refine acalls_of_xwp (an := an9) tab_ok Try.func9 ?_
  (conv => whnf)
  refine mClone_calls (amap fEnc s.fs) ?_
  (conv => whnf)
  exact h
theorem Names_calls (s : FSt) (hl : s.fs.length < 1000000) (hs : ∀ n ∈ kys s.fs, n.length < 1000000) (hnd : (kys s.fs).Nodup) {R} (h : R (.sl none 1 (strs s.names)) [fsC s 1, fsM s]) : ACalls Try.prog 11 [.ptr 0 0] [fsC s 1, fsM s] R := by
  refine acalls_of_xwp (an := an11) tab_ok Try.func11 ?_
  (conv => whnf)
  refine fKeys_calls (amap fEnc s.fs) ?_
  (conv => whnf)
  refine fSorted_calls s.fs (by simpa [kys] using hl) hs hnd ?_
  (conv => whnf)
  exact h
theorem Safe_calls (s : FSt) (name : B) {R} (h : R (vi (gF s.fs name).safe) [fsC s 1, fsM s]) : ACalls Try.prog 15 [.ptr 0 0, vs name] [fsC s 1, fsM s] R := by
  refine acalls_of_xwp (an := an15) tab_ok Try.func15 ?_
  (conv => whnf)
  rw [amap_find]
  unfold gF at h
  cases e : lk s.fs name with
  | none =>
    rw [e] at h
    (conv => whnf)
    exact h
  | some v =>
    rw [e] at h
    (conv => whnf)
    exact h
theorem Read_calls (s : FSt) (name : B) (hb : (gF s.fs name).b.length < 100000000) {R} (h1 : name ∈ kys s.fs → R (.tup [.sl none 1 (byteEls (gF s.fs name).b), vi 0]) [fsC s 1, fsM s]) (h2 : name ∉ kys s.fs → R (.tup [nilV, vi 6]) [fsC s 1, fsM s]) : ACalls Try.prog 14 [.ptr 0 0, vs name] [fsC s 1, fsM s] R := by
  refine acalls_of_xwp (an := an14) tab_ok Try.func14 ?_
  (conv => whnf)
  rw [amap_find]
  cases e : lk s.fs name with
  | none =>
    have h2 := h2 (lk_none.1 e)
    (conv => whnf)
    exact h2
  | some v =>
    have h1 := h1 (lk_key e)
    unfold gF at h1 hb
    rw [e] at h1 hb
    (conv => whnf)
    refine bClone_calls v.b hb ?_
    (conv => whnf)
    exact h1
theorem may_calls (s : FSt) (name : B) {R} (h : R (vi (s.may name)) [fsC s 1, fsM s]) : ACalls Try.prog 31 [.ptr 0 0, vs name] [fsC s 1, fsM s] R := by
  refine acalls_of_xwp (an := an31) tab_ok Try.func31 ?_
  (conv => whnf)
  refine br_intro (fun g => ?_) (fun g => ?_)
  · have g : s.down = true := g
    rw [show s.may name = 7 by simp [FSt.may, g]] at h
    (conv => whnf)
    exact h
  have g : s.down = false := g
  (conv => whnf)
  rw [amap_find]
  cases e : lk s.fs name with
  | none =>
    rw [show s.may name = 6 by simp [FSt.may, g, e]] at h
    (conv => whnf)
    exact h
  | some v =>
    rw [show s.may name = 0 by simp [FSt.may, g, e]] at h
    (conv => whnf)
    exact h
theorem bel_take (l : B) (n : Nat) : (byteEls l).take n = byteEls (l.take n) := by simp [byteEls, List.map_take]
theorem le_two {b : B} : leE [[nilV], [AV.sl none 1 (byteEls b)]] [[AV.sl none 1 (byteEls [])], [AV.sl none 1 (byteEls b)]] :=
  leE.cons (leL.cons (le_nil 1) leL.nil) rfl (leE.cons (leL.refl _) rfl leE.nil)

theorem clA_calls (s : FSt) (name b : B) (hb : b.length < 100000000) (hg : (gF s.fs name).b.length < 100000000) {R} (h : R (.tup []) [.cells 26 [.ptr 1 0], fsC ⟨(addF name b) s.fs, s.fail, s.fall, s.down⟩ 2, fsM ⟨(addF name b) s.fs, s.fail, s.fall, s.down⟩, .cells 28 [.sl none 1 (byteEls b)]]) :
    ACalls Try.prog 29 [.ptr 0 0, .cptr [vs name] 0, .ptr 3 0] [.cells 26 [.ptr 1 0], fsC s 2, fsM s, .cells 28 [.sl none 1 (byteEls b)]] R := by
  refine acalls_of_xwp (an := an29) tab_ok Try.func29 ?_
  (conv => whnf)
  rw [amap_find]
  cases e : lk s.fs name with
  | none =>
    have e0 : gF s.fs name = flZ := by simp [gF, e]
    have e1 : addF name b s.fs = pt s.fs name ⟨[] ++ b, 0⟩ := by unfold addF; rw [e0]; rfl
    (conv => whnf)
    refine ACalls.args (leL.cons (le_sl _ _ le_two) leL.nil) (Concat_calls [] b (by simp) hb ?_)
    (conv => whnf)
    rw [show AV.agg (List.map AV.strip [AV.sl none 1 (byteEls ([] ++ b)), AV.val (Value.int IntKind.i64 0)]) = fEnc ⟨[] ++ b, 0⟩ from rfl, amap_put, ← e1]
    (conv => whnf)
    exact h
  | some v =>
    have e0 : gF s.fs name = v := by simp [gF, e]
    rw [e0] at hg
    have e1 : addF name b s.fs = pt s.fs name ⟨v.b ++ b, v.safe⟩ := by unfold addF; rw [e0]
    (conv => whnf)
    refine Concat_calls v.b b hg hb ?_
    (conv => whnf)
    rw [show AV.agg (List.map AV.strip [AV.sl none 1 (byteEls (v.b ++ b)), AV.val (Value.int IntKind.i64 v.safe)]) = fEnc ⟨v.b ++ b, v.safe⟩ from rfl, amap_put, ← e1]
    (conv => whnf)
    exact h

theorem actA_calls (s : FSt) (name b : B) (hb : b.length < 100000000) (hg : (gF s.fs name).b.length < 100000000) (late : Bool) (h1 : okN s.fail) (h2 : okN s.fall) {R} (h : R (vi (s.act late (addF name b)).2) (fsC (s.act late (addF name b)).1 1 :: fsM (s.act late (addF name b)).1 :: [.cells 26 [.ptr 0 0], .cells 28 [.sl none 1 (byteEls b)]])) :
    ACalls Try.prog 28 [.ptr 0 0, .val (.bool late), .fn (.func 29) [] [.ptr 2 0, .cptr [vs name] 0, .ptr 3 0]] (fsC s 1 :: fsM s :: [.cells 26 [.ptr 0 0], .cells 28 [.sl none 1 (byteEls b)]]) R := by
  refine acalls_of_xwp (an := an28) tab_ok Try.func28 ?_
  (conv => whnf)
  refine count_calls s.fail h1 ?_
  (conv => whnf)
  refine count_calls s.fall h2 ?_
  (conv => whnf)
  refine br_intro (fun g => ?_) (fun g => ?_)
  · have g : s.fall = 0 := by simpa using g
    (conv => whnf)
    refine br_intro (fun g2 => ?_) (fun g2 => ?_)
    · have g2 : late = true := g2
      rw [show s.act late (addF name b) = (⟨(addF name b) s.fs, cnt s.fail, cnt s.fall, true⟩, 7) by simp [FSt.act, g, g2]] at h
      (conv => whnf)
      refine clA_calls ⟨s.fs, cnt s.fail, cnt s.fall, true⟩ name b hb hg ?_
      (conv => whnf)
      exact h
    · have g2 : late = false := g2
      rw [show s.act late (addF name b) = (⟨s.fs, cnt s.fail, cnt s.fall, true⟩, 7) by simp [FSt.act, g, g2]] at h
      (conv => whnf)
      exact h
  have g : s.fall ≠ 0 := by simpa using g
  (conv => whnf)
  refine br_intro (fun g2 => ?_) (fun g2 => ?_)
  · have g2 : s.fail = 0 := by simpa using g2
    rw [show s.act late (addF name b) = (⟨s.fs, cnt s.fail, cnt s.fall, s.down⟩, 8) by simp [FSt.act, g, g2]] at h
    (conv => whnf)
    exact h
  have g2 : s.fail ≠ 0 := by simpa using g2
  rw [show s.act late (addF name b) = (⟨(addF name b) s.fs, cnt s.fail, cnt s.fall, s.down⟩, 0) by simp [FSt.act, g, g2]] at h
  (conv => whnf)
  refine clA_calls ⟨s.fs, cnt s.fail, cnt s.fall, s.down⟩ name b hb hg ?_
  (conv => whnf)
  exact h

theorem clS_calls (s : FSt) (name : B) (v : Fl) (hv : gF s.fs name = v) {R} (h : R (.tup []) [.cells 53 [.sl none 1 (byteEls v.b), vi v.safe], .cells 26 [.ptr 2 0], fsC ⟨(syncF name) s.fs, s.fail, s.fall, s.down⟩ 3, fsM ⟨(syncF name) s.fs, s.fail, s.fall, s.down⟩]) :
    ACalls Try.prog 32 [.ptr 0 0, .ptr 1 0, .cptr [vs name] 0] [.cells 53 [.sl none 1 (byteEls v.b), vi v.safe], .cells 26 [.ptr 2 0], fsC s 3, fsM s] R := by
  refine acalls_of_xwp (an := an32) tab_ok Try.func32 ?_
  have hl := bel_length v.b
  have e1 : syncF name s.fs = pt s.fs name ⟨v.b, v.b.length⟩ := by unfold syncF; rw [hv]
  (conv => whnf)
  show R (.tup []) [.cells 53 [.sl none 1 (byteEls v.b), vi v.safe], .cells 26 [.ptr 2 0], fsC s 3, .map (mapPut (amap fEnc s.fs) (ofB name) (.agg [.sl none 1 (byteEls v.b), vi ((byteEls v.b).length : Nat)]))]
  rw [hl, show AV.agg [.sl none 1 (byteEls v.b), vi (v.b.length : Nat)] = fEnc ⟨v.b, v.b.length⟩ from rfl, amap_put, ← e1]
  exact h

theorem actS_calls (s : FSt) (name : B) (v : Fl) (hv : gF s.fs name = v) (late : Bool) (h1 : okN s.fail) (h2 : okN s.fall) {R} (h : R (vi (s.act late (syncF name)).2) (fsC (s.act late (syncF name)).1 1 :: fsM (s.act late (syncF name)).1 :: [.cells 53 [.sl none 1 (byteEls v.b), vi v.safe], .cells 26 [.ptr 0 0]])) :
    ACalls Try.prog 28 [.ptr 0 0, .val (.bool late), .fn (.func 32) [] [.ptr 2 0, .ptr 3 0, .cptr [vs name] 0]] (fsC s 1 :: fsM s :: [.cells 53 [.sl none 1 (byteEls v.b), vi v.safe], .cells 26 [.ptr 0 0]]) R := by
  refine acalls_of_xwp (an := an28) tab_ok Try.func28 ?_
  (conv => whnf)
  refine count_calls s.fail h1 ?_
  (conv => whnf)
  refine count_calls s.fall h2 ?_
  (conv => whnf)
  refine br_intro (fun g => ?_) (fun g => ?_)
  · have g : s.fall = 0 := by simpa using g
    (conv => whnf)
    refine br_intro (fun g2 => ?_) (fun g2 => ?_)
    · have g2 : late = true := g2
      rw [show s.act late (syncF name) = (⟨(syncF name) s.fs, cnt s.fail, cnt s.fall, true⟩, 7) by simp [FSt.act, g, g2]] at h
      (conv => whnf)
      refine clS_calls ⟨s.fs, cnt s.fail, cnt s.fall, true⟩ name v hv ?_
      (conv => whnf)
      exact h
    · have g2 : late = false := g2
      rw [show s.act late (syncF name) = (⟨s.fs, cnt s.fail, cnt s.fall, true⟩, 7) by simp [FSt.act, g, g2]] at h
      (conv => whnf)
      exact h
  have g : s.fall ≠ 0 := by simpa using g
  (conv => whnf)
  refine br_intro (fun g2 => ?_) (fun g2 => ?_)
  · have g2 : s.fail = 0 := by simpa using g2
    rw [show s.act late (syncF name) = (⟨s.fs, cnt s.fail, cnt s.fall, s.down⟩, 8) by simp [FSt.act, g, g2]] at h
    (conv => whnf)
    exact h
  have g2 : s.fail ≠ 0 := by simpa using g2
  rw [show s.act late (syncF name) = (⟨(syncF name) s.fs, cnt s.fail, cnt s.fall, s.down⟩, 0) by simp [FSt.act, g, g2]] at h
  (conv => whnf)
  refine clS_calls ⟨s.fs, cnt s.fail, cnt s.fall, s.down⟩ name v hv ?_
  (conv => whnf)
  exact h

theorem clT_calls (s : FSt) (name : B) (v : Fl) (size : Nat) (hv : gF s.fs name = v) (hsz : size ≤ v.b.length) (hvb : v.b.length < 100000000) {R} (h : R (.tup []) [.cells 53 [.sl none 1 (byteEls v.b), vi v.safe], .cells 26 [.ptr 2 0], fsC ⟨(cutF name size) s.fs, s.fail, s.fall, s.down⟩ 3, fsM ⟨(cutF name size) s.fs, s.fail, s.fall, s.down⟩]) :
    ACalls Try.prog 33 [.ptr 0 0, .cptr [vi size] 0, .ptr 1 0, .cptr [vs name] 0] [.cells 53 [.sl none 1 (byteEls v.b), vi v.safe], .cells 26 [.ptr 2 0], fsC s 3, fsM s] R := by
  refine acalls_of_xwp (an := an33) tab_ok Try.func33 ?_
  have hl := bel_length v.b
  have e1 : cutF name size s.fs = pt s.fs name ⟨v.b.take size, min v.safe size⟩ := by unfold cutF; rw [hv]
  (conv => whnf)
  refine must_intro (decide_eq_true (by omega)) ?_
  (conv => whnf)
  refine must_intro (decide_eq_true (by omega)) ?_
  (conv => whnf)
  show R (.tup []) [.cells 53 [.sl none 1 (byteEls v.b), vi v.safe], .cells 26 [.ptr 2 0], fsC s 3, .map (mapPut (amap fEnc s.fs) (ofB name) (.agg [.sl none 1 ((byteEls v.b).take size), vi (if (size : Int) < (v.safe : Int) then (size : Int) else (v.safe : Int))]))]
  rw [show (if (size : Int) < (v.safe : Int) then (size : Int) else (v.safe : Int)) = ((min v.safe size : Nat) : Int) by split <;> omega, bel_take, show AV.agg [.sl none 1 (byteEls (v.b.take size)), vi (min v.safe size : Nat)] = fEnc ⟨v.b.take size, min v.safe size⟩ from rfl, amap_put, ← e1]
  exact h

theorem actT_calls (s : FSt) (name : B) (v : Fl) (size : Nat) (hv : gF s.fs name = v) (hsz : size ≤ v.b.length) (hvb : v.b.length < 100000000) (late : Bool) (h1 : okN s.fail) (h2 : okN s.fall) {R} (h : R (vi (s.act late (cutF name size)).2) (fsC (s.act late (cutF name size)).1 1 :: fsM (s.act late (cutF name size)).1 :: [.cells 53 [.sl none 1 (byteEls v.b), vi v.safe], .cells 26 [.ptr 0 0]])) :
    ACalls Try.prog 28 [.ptr 0 0, .val (.bool late), .fn (.func 33) [] [.ptr 2 0, .cptr [vi size] 0, .ptr 3 0, .cptr [vs name] 0]] (fsC s 1 :: fsM s :: [.cells 53 [.sl none 1 (byteEls v.b), vi v.safe], .cells 26 [.ptr 0 0]]) R := by
  refine acalls_of_xwp (an := an28) tab_ok Try.func28 ?_
  (conv => whnf)
  refine count_calls s.fail h1 ?_
  (conv => whnf)
  refine count_calls s.fall h2 ?_
  (conv => whnf)
  refine br_intro (fun g => ?_) (fun g => ?_)
  · have g : s.fall = 0 := by simpa using g
    (conv => whnf)
    refine br_intro (fun g2 => ?_) (fun g2 => ?_)
    · have g2 : late = true := g2
      rw [show s.act late (cutF name size) = (⟨(cutF name size) s.fs, cnt s.fail, cnt s.fall, true⟩, 7) by simp [FSt.act, g, g2]] at h
      (conv => whnf)
      refine clT_calls ⟨s.fs, cnt s.fail, cnt s.fall, true⟩ name v size hv hsz hvb ?_
      (conv => whnf)
      exact h
    · have g2 : late = false := g2
      rw [show s.act late (cutF name size) = (⟨s.fs, cnt s.fail, cnt s.fall, true⟩, 7) by simp [FSt.act, g, g2]] at h
      (conv => whnf)
      exact h
  have g : s.fall ≠ 0 := by simpa using g
  (conv => whnf)
  refine br_intro (fun g2 => ?_) (fun g2 => ?_)
  · have g2 : s.fail = 0 := by simpa using g2
    rw [show s.act late (cutF name size) = (⟨s.fs, cnt s.fail, cnt s.fall, s.down⟩, 8) by simp [FSt.act, g, g2]] at h
    (conv => whnf)
    exact h
  have g2 : s.fail ≠ 0 := by simpa using g2
  rw [show s.act late (cutF name size) = (⟨(cutF name size) s.fs, cnt s.fail, cnt s.fall, s.down⟩, 0) by simp [FSt.act, g, g2]] at h
  (conv => whnf)
  refine clT_calls ⟨s.fs, cnt s.fail, cnt s.fall, s.down⟩ name v size hv hsz hvb ?_
  (conv => whnf)
  exact h

theorem clR_calls (s : FSt) (a b : B) (hka : a ∈ kys s.fs) {R} (h : R (.tup []) [.cells 26 [.ptr 1 0], fsC ⟨(renF a b) s.fs, s.fail, s.fall, s.down⟩ 2, fsM ⟨(renF a b) s.fs, s.fail, s.fall, s.down⟩]) :
    ACalls Try.prog 34 [.ptr 0 0, .cptr [vs a] 0, .cptr [vs b] 0] [.cells 26 [.ptr 1 0], fsC s 2, fsM s] R := by
  refine acalls_of_xwp (an := an34) tab_ok Try.func34 ?_
  obtain ⟨v, e⟩ := lk_mem hka
  have e0 : gF s.fs a = v := by simp [gF, e]
  have e1 : renF a b s.fs = pt (dl s.fs a) b v := by unfold renF; rw [e0]
  (conv => whnf)
  rw [amap_find, e]
  (conv => whnf)
  rw [amap_del]
  (conv => whnf)
  rw [show AV.agg (List.map AV.strip [AV.sl none 1 (byteEls v.b), AV.val (Value.int IntKind.i64 v.safe)]) = fEnc v from rfl, amap_put, ← e1]
  (conv => whnf)
  exact h

theorem actR_calls (s : FSt) (a b : B) (hka : a ∈ kys s.fs) (late : Bool) (h1 : okN s.fail) (h2 : okN s.fall) {R} (h : R (vi (s.act late (renF a b)).2) (fsC (s.act late (renF a b)).1 1 :: fsM (s.act late (renF a b)).1 :: [.cells 26 [.ptr 0 0]])) :
    ACalls Try.prog 28 [.ptr 0 0, .val (.bool late), .fn (.func 34) [] [.ptr 2 0, .cptr [vs a] 0, .cptr [vs b] 0]] (fsC s 1 :: fsM s :: [.cells 26 [.ptr 0 0]]) R := by
  refine acalls_of_xwp (an := an28) tab_ok Try.func28 ?_
  (conv => whnf)
  refine count_calls s.fail h1 ?_
  (conv => whnf)
  refine count_calls s.fall h2 ?_
  (conv => whnf)
  refine br_intro (fun g => ?_) (fun g => ?_)
  · have g : s.fall = 0 := by simpa using g
    (conv => whnf)
    refine br_intro (fun g2 => ?_) (fun g2 => ?_)
    · have g2 : late = true := g2
      rw [show s.act late (renF a b) = (⟨(renF a b) s.fs, cnt s.fail, cnt s.fall, true⟩, 7) by simp [FSt.act, g, g2]] at h
      (conv => whnf)
      refine clR_calls ⟨s.fs, cnt s.fail, cnt s.fall, true⟩ a b hka ?_
      (conv => whnf)
      exact h
    · have g2 : late = false := g2
      rw [show s.act late (renF a b) = (⟨s.fs, cnt s.fail, cnt s.fall, true⟩, 7) by simp [FSt.act, g, g2]] at h
      (conv => whnf)
      exact h
  have g : s.fall ≠ 0 := by simpa using g
  (conv => whnf)
  refine br_intro (fun g2 => ?_) (fun g2 => ?_)
  · have g2 : s.fail = 0 := by simpa using g2
    rw [show s.act late (renF a b) = (⟨s.fs, cnt s.fail, cnt s.fall, s.down⟩, 8) by simp [FSt.act, g, g2]] at h
    (conv => whnf)
    exact h
  have g2 : s.fail ≠ 0 := by simpa using g2
  rw [show s.act late (renF a b) = (⟨(renF a b) s.fs, cnt s.fail, cnt s.fall, s.down⟩, 0) by simp [FSt.act, g, g2]] at h
  (conv => whnf)
  refine clR_calls ⟨s.fs, cnt s.fail, cnt s.fall, s.down⟩ a b hka ?_
  (conv => whnf)
  exact h

theorem clD_calls (s : FSt) (name : B) {R} (h : R (.tup []) [.cells 26 [.ptr 1 0], fsC ⟨(fun m => dl m name) s.fs, s.fail, s.fall, s.down⟩ 2, fsM ⟨(fun m => dl m name) s.fs, s.fail, s.fall, s.down⟩]) :
    ACalls Try.prog 35 [.ptr 0 0, .cptr [vs name] 0] [.cells 26 [.ptr 1 0], fsC s 2, fsM s] R := by
  refine acalls_of_xwp (an := an35) tab_ok Try.func35 ?_
  (conv => whnf)
  rw [amap_del]
  (conv => whnf)
  exact h

theorem actD_calls (s : FSt) (name : B) (late : Bool) (h1 : okN s.fail) (h2 : okN s.fall) {R} (h : R (vi (s.act late (fun m => dl m name)).2) (fsC (s.act late (fun m => dl m name)).1 1 :: fsM (s.act late (fun m => dl m name)).1 :: [.cells 26 [.ptr 0 0]])) :
    ACalls Try.prog 28 [.ptr 0 0, .val (.bool late), .fn (.func 35) [] [.ptr 2 0, .cptr [vs name] 0]] (fsC s 1 :: fsM s :: [.cells 26 [.ptr 0 0]]) R := by
  refine acalls_of_xwp (an := an28) tab_ok Try.func28 ?_
  (conv => whnf)
  refine count_calls s.fail h1 ?_
  (conv => whnf)
  refine count_calls s.fall h2 ?_
  (conv => whnf)
  refine br_intro (fun g => ?_) (fun g => ?_)
  · have g : s.fall = 0 := by simpa using g
    (conv => whnf)
    refine br_intro (fun g2 => ?_) (fun g2 => ?_)
    · have g2 : late = true := g2
      rw [show s.act late (fun m => dl m name) = (⟨(fun m => dl m name) s.fs, cnt s.fail, cnt s.fall, true⟩, 7) by simp [FSt.act, g, g2]] at h
      (conv => whnf)
      refine clD_calls ⟨s.fs, cnt s.fail, cnt s.fall, true⟩ name ?_
      (conv => whnf)
      exact h
    · have g2 : late = false := g2
      rw [show s.act late (fun m => dl m name) = (⟨s.fs, cnt s.fail, cnt s.fall, true⟩, 7) by simp [FSt.act, g, g2]] at h
      (conv => whnf)
      exact h
  have g : s.fall ≠ 0 := by simpa using g
  (conv => whnf)
  refine br_intro (fun g2 => ?_) (fun g2 => ?_)
  · have g2 : s.fail = 0 := by simpa using g2
    rw [show s.act late (fun m => dl m name) = (⟨s.fs, cnt s.fail, cnt s.fall, s.down⟩, 8) by simp [FSt.act, g, g2]] at h
    (conv => whnf)
    exact h
  have g2 : s.fail ≠ 0 := by simpa using g2
  rw [show s.act late (fun m => dl m name) = (⟨(fun m => dl m name) s.fs, cnt s.fail, cnt s.fall, s.down⟩, 0) by simp [FSt.act, g, g2]] at h
  (conv => whnf)
  refine clD_calls ⟨s.fs, cnt s.fail, cnt s.fall, s.down⟩ name ?_
  (conv => whnf)
  exact h
end Go.Abs
end

section
/- The file system's acts. -/
set_option maxRecDepth 100000
set_option maxHeartbeats 2000000
set_option linter.unusedVariables false
set_option linter.unusedSimpArgs false
namespace Go.Abs
open Go Go.Proofs
attribute [local irreducible] ibits byteAt strLt firstIdx

theorem Append_calls (s : FSt) (name b : B) (h1 : okN s.fail) (h2 : okN s.fall) (hb : b.length < 1000000) (hg : (gF s.fs name).b.length < 100000000) {R} (h : R (vi (s.append name b).2) [fsC (s.append name b).1 1, fsM (s.append name b).1]) : ACalls Try.prog 19 [.ptr 0 0, vs name, .sl none 1 (byteEls b)] [fsC s 1, fsM s] R := by
  refine acalls_of_xwp (an := an19) tab_ok Try.func19 ?_
  (conv => whnf)
  refine br_intro (fun g => ?_) (fun g => ?_)
  · have g : s.down = true := g
    rw [show s.append name b = (s, 7) by simp [FSt.append, g]] at h
    (conv => whnf)
    exact h
  have g : s.down = false := g
  rw [show s.append name b = s.act true (addF name b) by simp [FSt.append, g]] at h
  (conv => whnf)
  refine bClone_calls b (by omega) ?_
  (conv => whnf)
  refine actA_calls s name b (by omega) hg true h1 h2 ?_
  (conv => whnf)
  exact h
theorem Sync_calls (s : FSt) (name : B) (h1 : okN s.fail) (h2 : okN s.fall) {R} (h : R (vi (s.sync name).2) [fsC (s.sync name).1 1, fsM (s.sync name).1]) : ACalls Try.prog 20 [.ptr 0 0, vs name] [fsC s 1, fsM s] R := by
  refine acalls_of_xwp (an := an20) tab_ok Try.func20 ?_
  (conv => whnf)
  refine may_calls s name ?_
  (conv => whnf)
  refine br_intro (fun g => ?_) (fun g => ?_)
  · have g : s.may name ≠ 0 := by simpa using g
    rw [show s.sync name = (s, s.may name) by simp [FSt.sync, g]] at h
    (conv => whnf)
    exact h
  have g : ¬ s.may name ≠ 0 := by simpa using g
  rw [show s.sync name = s.act false (syncF name) by unfold FSt.sync; rw [if_neg g]] at h
  obtain ⟨v, e⟩ := lk_mem (may_mem g).2
  (conv => whnf)
  rw [amap_find, e]
  (conv => whnf)
  refine actS_calls s name v (by simp [gF, e]) false h1 h2 ?_
  (conv => whnf)
  exact h
theorem Truncate_calls (s : FSt) (name : B) (n : Int) (h1 : okN s.fail) (h2 : okN s.fall) (hg : (gF s.fs name).b.length < 100000000) {R} (h : R (vi (s.truncate name n).2) [fsC (s.truncate name n).1 1, fsM (s.truncate name n).1]) : ACalls Try.prog 21 [.ptr 0 0, vs name, vi n] [fsC s 1, fsM s] R := by
  refine acalls_of_xwp (an := an21) tab_ok Try.func21 ?_
  (conv => whnf)
  refine may_calls s name ?_
  (conv => whnf)
  refine br_intro (fun g => ?_) (fun g => ?_)
  · have g : s.may name ≠ 0 := by simpa using g
    rw [show s.truncate name n = (s, s.may name) by simp [FSt.truncate, g]] at h
    (conv => whnf)
    exact h
  have g : ¬ s.may name ≠ 0 := by simpa using g
  obtain ⟨v, e⟩ := lk_mem (may_mem g).2
  have ev : gF s.fs name = v := by simp [gF, e]
  have hl := bel_length v.b
  rw [ev] at hg
  (conv => whnf)
  rw [amap_find, e]
  (conv => whnf)
  refine br_intro (fun g1 => ?_) (fun g1 => ?_)
  · have g1 : n < 0 := by simpa using g1
    rw [show s.truncate name n = (s, 1) by unfold FSt.truncate; rw [if_neg g, if_pos (.inl g1)]] at h
    (conv => whnf)
    exact h
  have g1 : ¬ n < 0 := by simpa using g1
  (conv => whnf)
  refine br_intro (fun g2 => ?_) (fun g2 => ?_)
  · have g2 : (v.b.length : Int) < n := by rw [hl] at g2; simpa using g2
    rw [show s.truncate name n = (s, 1) by unfold FSt.truncate; rw [if_neg g, if_pos (.inr (by rw [ev]; exact g2))]] at h
    (conv => whnf)
    exact h
  have g2 : ¬ (v.b.length : Int) < n := by rw [hl] at g2; simpa using g2
  rw [show s.truncate name n = s.act false (cutF name n.toNat) by unfold FSt.truncate; rw [if_neg g, if_neg (by rw [ev]; omega)]] at h
  obtain ⟨k, rfl⟩ := Int.eq_ofNat_of_zero_le (show 0 ≤ n by omega)
  rw [Int.toNat_natCast] at h
  (conv => whnf)
  refine actT_calls s name v k ev (by omega) hg false h1 h2 ?_
  (conv => whnf)
  exact h
theorem Rename_calls (s : FSt) (a b : B) (h1 : okN s.fail) (h2 : okN s.fall) {R} (h : R (vi (s.rename a b).2) [fsC (s.rename a b).1 1, fsM (s.rename a b).1]) : ACalls Try.prog 22 [.ptr 0 0, vs a, vs b] [fsC s 1, fsM s] R := by
  refine acalls_of_xwp (an := an22) tab_ok Try.func22 ?_
  (conv => whnf)
  refine may_calls s a ?_
  (conv => whnf)
  refine br_intro (fun g => ?_) (fun g => ?_)
  · have g : s.may a ≠ 0 := by simpa using g
    rw [show s.rename a b = (s, s.may a) by simp [FSt.rename, g]] at h
    (conv => whnf)
    exact h
  have g : ¬ s.may a ≠ 0 := by simpa using g
  rw [show s.rename a b = s.act false (renF a b) by unfold FSt.rename; rw [if_neg g]] at h
  (conv => whnf)
  refine actR_calls s a b (may_mem g).2 false h1 h2 ?_
  (conv => whnf)
  exact h
theorem Remove_calls (s : FSt) (name : B) (h1 : okN s.fail) (h2 : okN s.fall) {R} (h : R (vi (s.remove name).2) [fsC (s.remove name).1 1, fsM (s.remove name).1]) : ACalls Try.prog 23 [.ptr 0 0, vs name] [fsC s 1, fsM s] R := by
  refine acalls_of_xwp (an := an23) tab_ok Try.func23 ?_
  (conv => whnf)
  refine may_calls s name ?_
  (conv => whnf)
  refine br_intro (fun g => ?_) (fun g => ?_)
  · have g : s.may name ≠ 0 := by simpa using g
    rw [show s.remove name = (s, s.may name) by simp [FSt.remove, g]] at h
    (conv => whnf)
    exact h
  have g : ¬ s.may name ≠ 0 := by simpa using g
  rw [show s.remove name = s.act false (fun m => dl m name) by unfold FSt.remove; rw [if_neg g]] at h
  (conv => whnf)
  refine actD_calls s name false h1 h2 ?_
  (conv => whnf)
  exact h
end Go.Abs
end

section
/- The digest's functions, and the document's. -/
set_option maxRecDepth 100000
set_option linter.unusedVariables false
set_option linter.unusedSimpArgs false
namespace Go.Abs
open Go Go.Proofs

/-! ### the plain functions -/
namespace Dig
def plus : U := 0x9e3779b97f4a7c15#64
def first : U := 0xbf58476d1ce4e5b9#64
def other : U := 0x94d049bb133111eb#64
def down (k : Nat) (x : U) : U := x ^^^ (x >>> k)
def dig (n : U) : U := down 31 (down 27 (down 30 (n + plus) * first) * other)
def up (k : Nat) (h : U) : U := h ^^^ ((h ^^^ (h >>> k)) >>> k)
def back (n : U) : U := let b0 := n; let s := fun b : U => b * (2 - n * b); s (s (s (s (s (s b0)))))
def dBack (h : U) : U := up 30 (up 27 (up 31 h * back other) * back first) - plus
def fold (n : U) (l : List U) : U := l.foldl (fun h x => dig (h ^^^ x)) (dig n)

theorem up_down (k : Nat) (hk : 22 ≤ k) (x : U) : up k (down k x) = x := by
  unfold up down
  have h1 : ∀ a b : U, (a ^^^ b) >>> k = (a >>> k) ^^^ (b >>> k) := fun a b => BitVec.ushiftRight_xor_distrib a b k
  have h0 : x >>> k >>> k >>> k = 0#64 := by
    rw [← BitVec.shiftRight_add, ← BitVec.shiftRight_add]
    exact BitVec.ushiftRight_eq_zero (by omega)
  simp only [h1, h0]
  apply BitVec.eq_of_getLsbD_eq
  intro i hi
  simp only [BitVec.getLsbD_xor]
  cases x.getLsbD i <;> cases (x >>> k).getLsbD i <;> cases (x >>> k >>> k).getLsbD i <;> simp
theorem back_first (x : U) : x * first * back first = x := by
  rw [BitVec.mul_assoc]
  have : first * back first = 1#64 := by decide +kernel
  rw [this, BitVec.mul_one]
theorem back_other (x : U) : x * other * back other = x := by
  rw [BitVec.mul_assoc]
  have : other * back other = 1#64 := by decide +kernel
  rw [this, BitVec.mul_one]
theorem first_back (x : U) : x * back first * first = x := by
  rw [BitVec.mul_assoc]
  have : back first * first = 1#64 := by decide +kernel
  rw [this, BitVec.mul_one]
theorem other_back (x : U) : x * back other * other = x := by
  rw [BitVec.mul_assoc]
  have : back other * other = 1#64 := by decide +kernel
  rw [this, BitVec.mul_one]
theorem down_up (k : Nat) (hk : 22 ≤ k) (x : U) : down k (up k x) = x := by
  unfold up down
  have h1 : ∀ a b : U, (a ^^^ b) >>> k = (a >>> k) ^^^ (b >>> k) := fun a b => BitVec.ushiftRight_xor_distrib a b k
  have h0 : x >>> k >>> k >>> k = 0#64 := by
    rw [← BitVec.shiftRight_add, ← BitVec.shiftRight_add]
    exact BitVec.ushiftRight_eq_zero (by omega)
  simp only [h1, h0]
  apply BitVec.eq_of_getLsbD_eq
  intro i hi
  simp only [BitVec.getLsbD_xor]
  cases x.getLsbD i <;> cases (x >>> k).getLsbD i <;> cases (x >>> k >>> k).getLsbD i <;> simp
theorem dBack_dOf (n : U) : dBack (dig n) = n := by
  unfold dBack dig
  rw [up_down 31 (by omega), back_other, up_down 27 (by omega), back_first, up_down 30 (by omega), BitVec.add_sub_cancel]
theorem dOf_dBack (n : U) : dig (dBack n) = n := by
  unfold dBack dig
  rw [BitVec.sub_add_cancel, down_up 30 (by omega), first_back, down_up 27 (by omega), other_back, down_up 31 (by omega)]
theorem dOf_inj {a b : U} (h : dig a = dig b) : a = b := by rw [← dBack_dOf a, h, dBack_dOf]
end Dig
open Dig

/-! ### the steps -/
/-- A function value that does what a plain function does. -/
def Does (e : List AV) (g : U → U) : Prop := ∃ f cs, e = [.fn (.func f) [] [.cptr cs 0]] ∧ tab.fn f = true ∧ ∀ x R, R (uv (g x)) [] → ACalls Try.prog f [uv x, .cptr cs 0] [] R

theorem u_shr' (x : U) (k : Nat) (hk : k ≤ 64) : ((x.toNat : Int)).fdiv (2 ^ min ((k : Int)).toNat IntKind.u64.bits) = ((x >>> k).toNat : Int) := by
  have : min ((k : Int)).toNat IntKind.u64.bits = k := by
    show min ((k : Int)).toNat 64 = k
    simp; omega
  rw [this, u_shr]

end Go.Abs
end

section
/- The digest's functions, and the document's, on. -/
set_option maxRecDepth 100000
set_option linter.unusedVariables false
set_option linter.unusedSimpArgs false
namespace Go.Abs
open Go Go.Proofs Dig
attribute [local irreducible] ibits byteAt strLt

theorem idx_some {α : Type} {l : List α} {i : Int} (h0 : 0 ≤ i) (h1 : i < (l.length : Int)) : i.toNat < l.length := by omega

/-- Numbers, read out of a slice. -/
def nums (l : List U) : List (List AV) := l.map fun x => [uv x]

/-! ### the document's -/
theorem u_div (x : U) (k : Nat) (hk : k < 63) {c : Int} (hc : c = 2 ^ k) : IntKind.u64.wrap ((x.toNat : Int).tdiv c) = ((x >>> k).toNat : Int) := by
  subst hc
  rw [wrap_u64]
  have h1 : (x.toNat : Int).tdiv (2 ^ k) = ((x >>> k).toNat : Int) := by
    rw [BitVec.toNat_ushiftRight, Nat.shiftRight_eq_div_pow]
    rw [Int.tdiv_eq_ediv_of_nonneg (by omega)]
    simp
  rw [h1]
  have := (x >>> k).isLt
  omega

end Go.Abs
end

section
/- Arguments that are numbers. -/
set_option maxRecDepth 100000
set_option linter.unusedVariables false
set_option linter.unusedSimpArgs false
namespace Go.Abs
open Go Go.Proofs Dig
theorem args_u64 {ts : List TypeId} {l : List AV} (h : Args tab 12 (84 :: ts) l) : ∃ (x : U) (l' : List AV), l = uv x :: l' ∧ Args tab 12 ts l' := by
  obtain ⟨a, l', rfl, h1, h2⟩ := h
  obtain ⟨x, e, hx⟩ : ∃ x, [a] = [.val (.int .u64 x)] ∧ (Lit.int .u64 x).wf = true := h1
  simp only [Lit.wf, Bool.and_eq_true, decide_eq_true_eq] at hx
  have e1 : IntKind.u64.min = 0 := rfl
  have e2 : IntKind.u64.max = 18446744073709551615 := rfl
  rw [e1, e2] at hx
  refine ⟨BitVec.ofInt 64 x, l', ?_, h2⟩
  simp only [List.cons.injEq, and_true] at e ⊢
  rw [e]
  show _ = AV.val (.int .u64 _)
  congr 2
  exact u_of (by omega) (by omega)
theorem args_nil {l : List AV} (h : Args tab 12 [] l) : l = [] := h
theorem wf_u64 {x : Int} (h : (Lit.int .u64 x).wf = true) : x = ((BitVec.ofInt 64 x : U).toNat : Int) := by
  simp only [Lit.wf, Bool.and_eq_true, decide_eq_true_eq] at h
  have e1 : IntKind.u64.min = 0 := rfl
  have e2 : IntKind.u64.max = 18446744073709551615 := rfl
  rw [e1, e2] at h
  exact u_of (by omega) (by omega)
theorem typed_nums {l : List (List AV)} (h : ∀ x ∈ l, ∃ y, x = [.val (.int .u64 y)] ∧ (Lit.int .u64 y).wf = true) : ∃ ns : List U, l = nums ns := by
  induction l with
  | nil => exact ⟨[], rfl⟩
  | cons x l ih =>
    obtain ⟨ns, rfl⟩ := ih fun y hy => h y (by simp [hy])
    obtain ⟨y, rfl, hy⟩ := h x (by simp)
    exact ⟨BitVec.ofInt 64 y :: ns, by simp only [nums, List.map_cons, uv]; rw [← wf_u64 hy]⟩
theorem args_u8 {ts : List TypeId} {l : List AV} (h : Args tab 12 (5 :: ts) l) : ∃ (x : Int) (l' : List AV), l = .val (.int .u8 x) :: l' ∧ (0 ≤ x ∧ x ≤ 255) ∧ Args tab 12 ts l' := by
  obtain ⟨a, l', rfl, h1, h2⟩ := h
  obtain ⟨x, e, hx⟩ : ∃ x, [a] = [.val (.int .u8 x)] ∧ (Lit.int .u8 x).wf = true := h1
  simp only [Lit.wf, Bool.and_eq_true, decide_eq_true_eq] at hx
  have e1 : IntKind.u8.min = 0 := rfl
  have e2 : IntKind.u8.max = 255 := rfl
  rw [e1, e2] at hx
  simp only [List.cons.injEq, and_true] at e
  exact ⟨x, l', by rw [e], hx, h2⟩
end Go.Abs
end

section
/- Graphs: nodes; what is wrong with one by itself. -/
set_option maxRecDepth 100000
set_option linter.unusedVariables false
set_option linter.unusedSimpArgs false
namespace Go.Abs
open Go Go.Proofs
attribute [local irreducible] ibits byteAt strLt firstIdx

structure Nd where
  name : B
  source : Bool
  rule : U
  deps : List B
def Nd.enc (n : Nd) : List AV := [vs n.name, .val (.bool n.source), uv n.rule, .sl none 1 (strs n.deps)]
def nds (l : List Nd) : List (List AV) := l.map Nd.enc
theorem nds_length (l : List Nd) : (nds l).length = l.length := by simp [nds]
def ints (l : List Nat) : List (List AV) := l.map fun (i : Nat) => [vi (i : Int)]
theorem ints_length (l : List Nat) : (ints l).length = l.length := by simp [ints]

/-! ### names -/
def nameOk (s : B) : Bool := decide (1 ≤ s.length) && decide (s.length ≤ 64)
/-! ### places -/
def placeOf : List B → B → Option Nat
  | [], _ => none
  | a :: l, s => if a = s then some 0 else (placeOf l s).map (· + 1)
def placeI (l : List B) (s : B) : Int := match placeOf l s with | some i => i | none => -1
theorem placeOf_none {l : List B} {s : B} : placeOf l s = none ↔ s ∉ l := by
  induction l with
  | nil => simp [placeOf]
  | cons a l ih =>
    simp only [placeOf]
    by_cases h : a = s
    · simp [h]
    · rw [if_neg h]
      simp only [Option.map_eq_none_iff, ih, List.mem_cons, not_or]
      exact ⟨fun h' => ⟨fun e => h e.symm, h'⟩, fun h' => h'.2⟩
theorem placeOf_some {l : List B} {s : B} {i : Nat} (h : placeOf l s = some i) : l[i]? = some s ∧ ∀ j, j < i → l[j]? ≠ some s := by
  induction l generalizing i with
  | nil => simp [placeOf] at h
  | cons a l ih =>
    simp only [placeOf] at h
    by_cases e : a = s
    · rw [if_pos e] at h
      cases h
      subst e
      exact ⟨rfl, fun j hj => by omega⟩
    · rw [if_neg e] at h
      obtain ⟨k, hk, rfl⟩ := Option.map_eq_some_iff.1 h
      obtain ⟨h1, h2⟩ := ih hk
      refine ⟨by simpa using h1, fun j hj => ?_⟩
      cases j with
      | zero => simpa using e
      | succ j => simpa using h2 j (by omega)
theorem placeI_neg {l : List B} {s : B} : placeI l s < 0 ↔ s ∉ l := by
  rw [← placeOf_none]
  unfold placeI
  cases placeOf l s with
  | none => simp
  | some i => simp
theorem placeOf_of {l : List B} {s : B} {i : Nat} (h : l[i]? = some s) (h' : ∀ j, j < i → l[j]? ≠ some s) : placeOf l s = some i := by
  cases e : placeOf l s with
  | none => exact absurd (List.mem_of_getElem? h) (placeOf_none.1 e)
  | some k =>
    obtain ⟨h1, h2⟩ := placeOf_some e
    rcases Nat.lt_trichotomy i k with hl | rfl | hl
    · exact absurd h (h2 _ hl)
    · rfl
    · exact absurd h1 (h' _ hl)

theorem i64_nat {i : Nat} (h : i < 1000000000) : IntKind.i64.wrap ((i : Int) + 1) = ((i + 1 : Nat) : Int) := wrap_i64 (by omega) (by omega)
theorem lt_of_dec {i n : Nat} (h : decide ((i : Int) < (n : Int)) = true) : i < n := by simpa using h
theorem ge_of_dec {i n : Nat} (h : decide ((i : Int) < (n : Int)) = false) : n ≤ i := by simp at h; omega

theorem lt_of_decE {i n m : Nat} (e : m = n) (h : decide ((i : Int) < (m : Int)) = true) : i < n := by subst e; simpa using h
theorem ge_of_decE {i n m : Nat} (e : m = n) (h : decide ((i : Int) < (m : Int)) = false) : n ≤ i := by subst e; simp at h; omega

/-! ### which text stands ahead -/
def ltB (a b : B) : Bool := Op.bytesLess a b
theorem strLt_ofB (a b : B) : strLt (ofB a) (ofB b) = ltB a b := by
  unfold strLt ltB
  rw [ByteArray.toList_eq, ByteArray.toList_eq]
  show Op.bytesLess (bs (ofB a)) (bs (ofB b)) = _
  rw [bs_ofB, bs_ofB]
theorem ltB_drop {a b : B} : ∀ {i : Nat}, (∀ j, j < i → a[j]? = b[j]?) → i ≤ a.length → i ≤ b.length → ltB (a.drop i) (b.drop i) = ltB a b := by
  intro i
  induction i generalizing a b with
  | zero => intro _ _ _; simp
  | succ i ih =>
    intro h ha hb
    cases a with
    | nil => simp at ha
    | cons x a =>
      cases b with
      | nil => simp at hb
      | cons y b =>
        have h0 : x = y := by simpa using h 0 (by omega)
        subst h0
        simp only [List.drop_succ_cons]
        rw [ih (fun j hj => by simpa using h (j + 1) (by omega)) (by simpa using ha) (by simpa using hb)]
        simp [ltB, Op.bytesLess]
theorem u8_lt {a b : UInt8} : decide (((a.toNat : Nat) : Int) < ((b.toNat : Nat) : Int)) = decide (a < b) := by
  apply decide_eq_decide.2
  rw [UInt8.lt_iff_toNat_lt]
  omega

end Go.Abs
end

section
/- The file system's crash. -/
set_option maxRecDepth 100000
set_option maxHeartbeats 2000000
set_option linter.unusedVariables false
set_option linter.unusedSimpArgs false
namespace Go.Abs
open Go Go.Proofs
attribute [local irreducible] ibits byteAt strLt firstIdx

theorem crashF_same {n : B} {l : List B} {keep : List Int} {m : FM} (h : (gF m n).safe = (gF m n).b.length) : crashF (n :: l) keep m = crashF l keep m := by
  conv => lhs; unfold crashF
  rw [if_pos h]
theorem crashF_none {n : B} {l : List B} {m : FM} (h : ¬ (gF m n).safe = (gF m n).b.length) : crashF (n :: l) [] m = crashF l [] (pt m n ⟨(gF m n).b.take (gF m n).safe, (gF m n).safe⟩) := by
  conv => lhs; unfold crashF
  rw [if_neg h]
theorem crashF_more {n : B} {l : List B} {k : Int} {keep : List Int} {m : FM} (h : ¬ (gF m n).safe = (gF m n).b.length) (hs : (gF m n).safe ≤ (gF m n).b.length) {z : Nat} (hz : (z : Int) = (gF m n).safe + min (max k 0) ((gF m n).b.length - (gF m n).safe : Int)) :
    crashF (n :: l) (k :: keep) m = crashF l keep (pt m n ⟨(gF m n).b.take z, z⟩) := by
  conv => lhs; unfold crashF
  rw [if_neg h]
  have : z = (gF m n).safe + (min (max k 0) ((gF m n).b.length - (gF m n).safe : Int)).toNat := by omega
  rw [this]
theorem Crash_calls (s : FSt) (keep : List Int) {nb fb : Nat} (ho : FOk s nb fb) (hnb : nb < 1000000) (hfb : fb < 100000000) (hk : keep.length < 1000000) {R} (h : R (.tup []) [fsC (s.crash keep) 1, fsM (s.crash keep)]) : ACalls Try.prog 10 [.ptr 0 0, .sl none 1 (intsZ keep)] [fsC s 1, fsM s] R := by
  refine acalls_of_xwp (an := an10) tab_ok Try.func10 ?_
  have hsl := strs_length s.names
  have hnl : s.names.length = s.fs.length := by rw [(names_perm s).length_eq]; simp [kys]
  have hll := ho.m.len
  (conv => whnf)
  refine Names_calls s (by omega) ho.m.names ho.m.nodup ?_
  (conv => whnf)
  refine LoopP.ind3 (fun (i : Nat) (kp : List Int) (m : FM) => [(1, .sl none 1 (intsZ kp)), (12, vi i)]) (fun i kp m => [(0, fsC s 1), (1, .map (amap fEnc m))]) (fun i _ _ => s.names.length - i)
    (fun i kp m => i ≤ s.names.length ∧ MOk m nb fb ∧ kys m = kys s.fs ∧ kp.length ≤ keep.length ∧ crashF (s.names.drop i) kp m = crashF s.names keep s.fs) 0 keep s.fs rfl ⟨by omega, ho.m, rfl, by omega, rfl⟩ ?_
  rintro i kp m ⟨h0, hm, hky, hkl, hcr⟩ IH
  have hil := intsZ_length kp
  (conv => whnf)
  refine br_intro (fun hc => ?_) (fun hc => ?_)
  · have hc := lt_of_decE hsl hc
    rw [List.drop_eq_getElem_cons hc] at hcr
    have hin : s.names[i] ∈ kys m := by rw [hky]; exact (names_perm s).mem_iff.1 (List.getElem_mem hc)
    obtain ⟨v, e⟩ := lk_mem hin
    have ev : gF m s.names[i] = v := by simp [gF, e]
    have hg := hm.get s.names[i]
    rw [ev] at hg
    have hvl := bel_length v.b
    (conv => whnf); (repeat ((with_reducible refine must_intro ?_ ?_); exact decide_eq_true (by omega); (conv => whnf)))
    refine idxK_map_intro (show (i : Int).toNat < s.names.length by simpa using hc) ?_
    rw [show s.names[(i : Int).toNat]'(by simpa using hc) = s.names[i] from by congr 1]
    (conv => whnf)
    rw [amap_find, e]
    (conv => whnf)
    rw [hvl]
    refine br_intro (fun g => ?_) (fun g => ?_)
    · have g : (v.safe : Int) = (v.b.length : Int) := by simpa using g
      rw [crashF_same (by rw [ev]; omega)] at hcr
      (conv => whnf)
      rw [i64_nat (by omega)]
      exact IH (i + 1) kp m ⟨by omega, hm, hky, hkl, hcr⟩ (by omega)
    have g : ¬ (v.safe : Int) = (v.b.length : Int) := by simpa using g
    have g' : ¬ (gF m s.names[i]).safe = (gF m s.names[i]).b.length := by rw [ev]; omega
    have put : ∀ (z : Nat), v.safe ≤ z → z ≤ v.b.length → MOk (pt m s.names[i] ⟨v.b.take z, z⟩) nb fb ∧ kys (pt m s.names[i] ⟨v.b.take z, z⟩) = kys s.fs := fun z z1 z2 =>
      ⟨hm.put_old hin (by simp; omega) (by simp; omega) (by omega), by rw [kys_pt hin, hky]⟩
    cases kp with
    | nil =>
      rw [crashF_none g', ev] at hcr
      have ew : IntKind.i64.wrap ((v.safe : Int) + 0) = v.safe := by rw [wrap_i64 (by omega) (by omega)]; omega
      have eqm := amap_put fEnc m s.names[i] ⟨v.b.take v.safe, v.safe⟩
      have hnx := IH (i + 1) [] (pt m s.names[i] ⟨v.b.take v.safe, v.safe⟩) ⟨by omega, (put v.safe (by omega) hg.1).1, (put v.safe (by omega) hg.1).2, by simp, hcr⟩ (by omega)
      dsimp only at hnx
      rw [← eqm] at hnx
      (conv => whnf)
      refine must_intro (decide_eq_true (by rw [ew]; omega)) ?_
      (conv => whnf)
      refine must_intro (decide_eq_true (by rw [ew]; omega)) ?_
      (conv => whnf)
      refine must_intro (decide_eq_true (by rw [ew]; omega)) ?_
      rw [ew]
      (conv => whnf)
      rw [i64_nat (by omega)]
      simp only [fEnc, ← bel_take] at hnx
      exact hnx
    | cons k kp =>
      have w1 : IntKind.i64.wrap (((byteEls v.b).length : Int) - v.safe) = (v.b.length : Int) - v.safe := by rw [hvl, wrap_i64 (by omega) (by omega)]
      obtain ⟨z, hz⟩ : ∃ z : Nat, (z : Int) = v.safe + min (max k 0) (v.b.length - v.safe : Int) := ⟨((v.safe : Int) + min (max k 0) (v.b.length - v.safe : Int)).toNat, by omega⟩
      have hz1 : v.safe ≤ z ∧ z ≤ v.b.length := by omega
      have ew : IntKind.i64.wrap ((v.safe : Int) + if IntKind.i64.wrap (((byteEls v.b).length : Int) - v.safe) < if k < 0 then 0 else k then IntKind.i64.wrap (((byteEls v.b).length : Int) - v.safe) else if k < 0 then 0 else k) = z := by
        rw [w1]
        have : ((v.safe : Int) + if ((v.b.length : Int) - v.safe) < if k < 0 then 0 else k then ((v.b.length : Int) - v.safe) else if k < 0 then 0 else k) = z := by
          rw [hz]
          split <;> split <;> omega
        rw [this, wrap_i64 (by omega) (by omega)]
      have et : List.drop (Int.toNat 1) (List.take (((intsZ (k :: kp)).length : Int)).toNat (intsZ (k :: kp))) = intsZ kp := by
        rw [Int.toNat_natCast, List.take_length]; rfl
      rw [crashF_more g' (by rw [ev]; exact hg.1) (z := z) (by rw [ev]; exact hz), ev] at hcr
      have eqm := amap_put fEnc m s.names[i] ⟨v.b.take z, z⟩
      have hnx := IH (i + 1) kp (pt m s.names[i] ⟨v.b.take z, z⟩) ⟨by omega, (put z hz1.1 hz1.2).1, (put z hz1.1 hz1.2).2, by simp at hkl; omega, hcr⟩ (by omega)
      dsimp only at hnx
      rw [← eqm] at hnx
      (conv => whnf)
      refine br_true (decide_eq_true (by rw [hil]; simp)) ?_
      (conv => whnf)
      refine must_intro (decide_eq_true (by rw [hil]; simp; omega)) ?_
      (conv => whnf)
      refine must_intro (decide_eq_true (by omega)) ?_
      (conv => whnf)
      refine must_intro (decide_eq_true (by rw [ew]; omega)) ?_
      (conv => whnf)
      refine must_intro (decide_eq_true (by rw [ew]; omega)) ?_
      (conv => whnf)
      refine must_intro (decide_eq_true (by rw [ew]; omega)) ?_
      rw [ew, et]
      (conv => whnf)
      rw [i64_nat (by omega)]
      simp only [fEnc, ← bel_take] at hnx
      exact hnx
  · have hc := ge_of_decE hsl hc
    rw [List.drop_eq_nil_of_le hc] at hcr
    have hcr : m = crashF s.names keep s.fs := hcr
    (conv => whnf)
    rw [hcr]
    exact h
end Go.Abs
end

section
/- Acts upon a file system; are two the same. -/
set_option maxRecDepth 100000
set_option maxHeartbeats 4000000
set_option linter.unusedVariables false
set_option linter.unusedSimpArgs false
namespace Go.Abs
open Go Go.Proofs
attribute [local irreducible] ibits byteAt strLt firstIdx

theorem sameV_calls (a b : List B) (ha : a.length < 1000000) {R} (h : ∀ p, p = decide (a = b) → R (.val (.bool p)) []) : ACalls Try.prog 12 [.sl none 1 (strs a), .sl none 1 (strs b)] [] R := by
  refine acalls_of_xwp (an := an12) tab_ok Try.func12 ?_
  have hsa := strs_length a
  have hsb := strs_length b
  (conv => whnf)
  rw [hsa, hsb]
  refine br_intro (fun hc => ?_) (fun hc => ?_)
  · (conv => whnf)
    refine h false (decide_eq_false ?_).symm
    rintro rfl
    simp at hc
  have hlen : a.length = b.length := by simp at hc; omega
  (conv => whnf)
  refine LoopP.ind1 (fun (i : Nat) => [(5, vi i)]) (fun _ => []) (fun i => a.length - i) (fun i => i ≤ a.length ∧ a.take i = b.take i) 0 rfl ⟨by omega, by simp⟩ ?_
  rintro i ⟨h0, h1⟩ IH
  (conv => whnf)
  refine br_intro (fun hc => ?_) (fun hc => ?_)
  · have hc := lt_of_decE hsa hc
    have hcb : i < b.length := by omega
    (conv => whnf); (repeat ((with_reducible refine must_intro ?_ ?_); exact decide_eq_true (by omega); (conv => whnf)))
    refine idxK_map_intro (show (i : Int).toNat < a.length by simpa using hc) ?_
    rw [show a[(i : Int).toNat]'(by simpa using hc) = a[i] from by congr 1]
    (conv => whnf); (repeat ((with_reducible refine must_intro ?_ ?_); exact decide_eq_true (by omega); (conv => whnf)))
    refine idxK_map_intro (show (i : Int).toNat < b.length by simpa using hcb) ?_
    rw [show b[(i : Int).toNat]'(by simpa using hcb) = b[i] from by congr 1]
    (conv => whnf)
    refine br_intro (fun he => ?_) (fun he => ?_)
    · have he : a[i] ≠ b[i] := by simpa [ofB_eq] using he
      (conv => whnf)
      refine h false (decide_eq_false ?_).symm
      rintro rfl
      exact he rfl
    · have he : a[i] = b[i] := by simpa [ofB_eq] using he
      (conv => whnf)
      rw [i64_nat (by omega)]
      refine IH (i + 1) ⟨by omega, ?_⟩ (by omega)
      rw [List.take_succ_eq_append_getElem hc, List.take_succ_eq_append_getElem hcb, h1, he]
  · have hc := ge_of_decE hsa hc
    rw [List.take_of_length_le hc, List.take_of_length_le (by omega)] at h1
    (conv => whnf)
    exact h true (decide_eq_true h1).symm

theorem do_calls (s : FSt) (a : Ac) {nb fb : Nat} (ho : FOk s nb fb) (hnb : nb < 1000000) (hfb : fb < 10000000) (ha : AcOk a) {R} (h : R (vi (doP s a).2) [fsC (doP s a).1 1, fsM (doP s a).1]) : ACalls Try.prog 8 [.ptr 0 0, .agg a.enc] [fsC s 1, fsM s] R := by
  refine acalls_of_xwp (an := an8) tab_ok Try.func8 ?_
  obtain ⟨b1, b2, b3, b4, b5⟩ := ha
  have hg := ho.m.get a.name
  unfold doP at h
  (conv => whnf)
  refine br_intro (fun g => ?_) (fun g => ?_)
  · have g : a.kind = 0 := by simpa using g
    rw [if_pos g] at h
    (conv => whnf)
    refine Append_calls s a.name a.body ho.fail ho.fall (by omega) (by omega) ?_
    (conv => whnf)
    exact h
  have g0 : ¬ a.kind = 0 := by simpa using g
  rw [if_neg g0] at h
  (conv => whnf)
  refine br_intro (fun g => ?_) (fun g => ?_)
  · have g : a.kind = 1 := by simpa using g
    rw [if_pos g] at h
    (conv => whnf)
    refine Truncate_calls s a.name a.n ho.fail ho.fall (by omega) ?_
    (conv => whnf)
    exact h
  have g1 : ¬ a.kind = 1 := by simpa using g
  rw [if_neg g1] at h
  (conv => whnf)
  refine br_intro (fun g => ?_) (fun g => ?_)
  · have g : a.kind = 2 := by simpa using g
    rw [if_pos g] at h
    (conv => whnf)
    refine Sync_calls s a.name ho.fail ho.fall ?_
    (conv => whnf)
    exact h
  have g2 : ¬ a.kind = 2 := by simpa using g
  rw [if_neg g2] at h
  (conv => whnf)
  refine br_intro (fun g => ?_) (fun g => ?_)
  · have g : a.kind = 3 := by simpa using g
    rw [if_pos g] at h
    (conv => whnf)
    refine Rename_calls s a.name a.to ho.fail ho.fall ?_
    (conv => whnf)
    exact h
  have g3 : ¬ a.kind = 3 := by simpa using g
  rw [if_neg g3] at h
  (conv => whnf)
  refine br_intro (fun g => ?_) (fun g => ?_)
  · have g : a.kind = 4 := by simpa using g
    rw [if_pos g] at h
    (conv => whnf)
    refine Remove_calls s a.name ho.fail ho.fall ?_
    (conv => whnf)
    exact h
  have g4 : ¬ a.kind = 4 := by simpa using g
  rw [if_neg g4] at h
  (conv => whnf)
  refine br_intro (fun g => ?_) (fun g => ?_)
  · have g : a.kind = 5 := by simpa using g
    rw [if_pos g] at h
    (conv => whnf)
    refine Fail_calls s a.n ?_
    (conv => whnf)
    exact h
  have g5 : ¬ a.kind = 5 := by simpa using g
  rw [if_neg g5] at h
  (conv => whnf)
  refine br_intro (fun g => ?_) (fun g => ?_)
  · have g : a.kind = 6 := by simpa using g
    rw [if_pos g] at h
    (conv => whnf)
    refine Fall_calls s a.n ?_
    (conv => whnf)
    exact h
  have g6 : ¬ a.kind = 6 := by simpa using g
  rw [if_neg g6] at h
  (conv => whnf)
  refine br_intro (fun g => ?_) (fun g => ?_)
  · have g : a.kind = 7 := by simpa using g
    rw [if_pos g] at h
    (conv => whnf)
    refine Crash_calls s a.keep ho hnb (by omega) (by omega) ?_
    (conv => whnf)
    exact h
  have g7 : ¬ a.kind = 7 := by simpa using g
  rw [if_neg g7] at h
  (conv => whnf)
  exact h
theorem str_bytes (b : B) : ∃ ns : List Int, byteEls b = ns.map (fun n => [AV.val (.int .u8 n)]) ∧ strOfNums ns = ofB b := ⟨b.map fun c => (c.toNat : Int), by simp [byteEls], strOfNums_ofB b⟩
theorem same_calls (s u : FSt) {nb fb : Nat} (ho : FOk s nb fb) (hu : FOk u nb fb) (hnb : nb < 1000000) (hfb : fb < 10000000) (he : u.fs = s.fs) {R} (h : R (.val (.bool true)) [fsC s 1, fsM s, fsC u 3, fsM u]) : ACalls Try.prog 18 [.ptr 0 0, .ptr 2 0] [fsC s 1, fsM s, fsC u 3, fsM u] R := by
  refine acalls_of_xwp (an := an18) tab_ok Try.func18 ?_
  have hsl := strs_length s.names
  have hnl : s.names.length = s.fs.length := by rw [(names_perm s).length_eq]; simp [kys]
  have hll := ho.m.len
  have hul := hu.m.len
  have hnn : u.names = s.names := by unfold FSt.names; rw [he]
  (conv => whnf)
  refine Names_calls s (by omega) ho.m.names ho.m.nodup ?_
  (conv => whnf)
  refine Names_calls u (by omega) hu.m.names hu.m.nodup ?_
  rw [hnn]
  (conv => whnf)
  refine sameV_calls s.names s.names (by omega) fun p hp => ?_
  rw [decide_eq_true rfl] at hp
  subst hp
  (conv => whnf)
  refine Names_calls s (by omega) ho.m.names ho.m.nodup ?_
  (conv => whnf)
  refine LoopP.ind1 (fun (i : Nat) => [(20, vi i)]) (fun i => [(0, fsC s 1), (1, fsM s), (2, fsC u 3), (3, fsM u)]) (fun i => s.names.length - i) (fun i => i ≤ s.names.length) 0 rfl (by omega) ?_
  rintro i h0 IH
  (conv => whnf)
  refine br_intro (fun hc => ?_) (fun hc => ?_)
  · have hc := lt_of_decE hsl hc
    have hin : s.names[i] ∈ kys s.fs := (names_perm s).mem_iff.1 (List.getElem_mem hc)
    have hg := ho.m.get s.names[i]
    (conv => whnf); (repeat ((with_reducible refine must_intro ?_ ?_); exact decide_eq_true (by omega); (conv => whnf)))
    refine idxK_map_intro (show (i : Int).toNat < s.names.length by simpa using hc) ?_
    rw [show s.names[(i : Int).toNat]'(by simpa using hc) = s.names[i] from by congr 1]
    (conv => whnf)
    refine Read_calls s s.names[i] (by omega) (fun _ => ?_) (fun hno => absurd hin hno)
    (conv => whnf)
    refine Read_calls u s.names[i] (by rw [he]; omega) (fun _ => ?_) (fun hno => absurd (by rw [he]; exact hin) hno)
    rw [he]
    obtain ⟨ns, n1, n2⟩ := str_bytes (gF s.fs s.names[i]).b
    (conv => whnf)
    refine ⟨ns, n1, ?_⟩
    (conv => whnf)
    refine ⟨ns, n1, ?_⟩
    rw [n2]
    (conv => whnf)
    refine br_intro (fun g => ?_) (fun g => ?_)
    · exfalso
      simp at g
    (conv => whnf)
    refine Safe_calls s s.names[i] ?_
    (conv => whnf)
    refine Safe_calls u s.names[i] ?_
    rw [he]
    (conv => whnf)
    refine br_intro (fun g => ?_) (fun g => ?_)
    · exfalso
      simp at g
    (conv => whnf)
    rw [i64_nat (by omega)]
    exact IH (i + 1) (by omega) (by omega)
  · have hc := ge_of_decE hsl hc
    (conv => whnf)
    exact h
end Go.Abs
end

section
/- The statements of vfs: how much is gone through; the chapter's example; arguments. -/
set_option maxRecDepth 100000
set_option maxHeartbeats 4000000
set_option linter.unusedVariables false
set_option linter.unusedSimpArgs false
namespace Go.Abs
open Go Go.Proofs
attribute [local irreducible] ibits byteAt strLt firstIdx

theorem Great13_calls (l : List Ac) (hl : l.length ≤ maxLen) {R} (h : ∀ b : Bool, (b = false → l.length ≤ 80 ∧ ∀ a ∈ l, a.body.length ≤ 300 ∧ a.name.length ≤ 100 ∧ a.to.length ≤ 100 ∧ a.keep.length ≤ 40) → R (.val (.bool b)) []) :
    ACalls Try.prog 5 [.sl none 6 (acs l)] [] R := by
  refine acalls_of_xwp (an := an5) tab_ok Try.func5 ?_
  have hsl := acs_length l
  have hmx : maxLen ≤ 9223372036854775807 := by decide
  have yes : R (.val (.bool true)) [] := h true (fun e => by cases e)
  (conv => whnf)
  refine br_intro (fun hc => ?_) (fun hc => ?_)
  · (conv => whnf)
    exact yes
  have h80 : l.length ≤ 80 := by rw [hsl] at hc; simp at hc; omega
  (conv => whnf)
  refine LoopP.ind1 (fun (i : Nat) => [(10, vi i)]) (fun _ => []) (fun i => l.length - i) (fun i => i ≤ l.length ∧ ∀ a ∈ l.take i, a.body.length ≤ 300 ∧ a.name.length ≤ 100 ∧ a.to.length ≤ 100 ∧ a.keep.length ≤ 40) 0 rfl ⟨by omega, by simp⟩ ?_
  rintro i ⟨h0, hdo⟩ IH
  (conv => whnf)
  refine br_intro (fun hc => ?_) (fun hc => ?_)
  · have hc := lt_of_decE hsl hc
    (conv => whnf); (repeat ((with_reducible refine must_intro ?_ ?_); exact decide_eq_true (by omega); (conv => whnf)))
    refine idxK_map_intro (show (i : Int).toNat < l.length by simpa using hc) ?_
    rw [show l[(i : Int).toNat]'(by simpa using hc) = l[i] from by congr 1]
    have q1 := bel_length l[i].body
    have q2 := size_ofB l[i].name
    have q3 := size_ofB l[i].to
    have q4 := intsZ_length l[i].keep
    (conv => whnf)
    refine br_intro (fun g => ?_) (fun g => ?_)
    · (conv => whnf)
      exact yes
    have g1 : l[i].body.length ≤ 300 := by rw [q1] at g; simp at g; omega
    (conv => whnf)
    refine br_intro (fun g => ?_) (fun g => ?_)
    · (conv => whnf)
      exact yes
    have g2 : l[i].name.length ≤ 100 := by rw [q2] at g; simp at g; omega
    (conv => whnf)
    refine br_intro (fun g => ?_) (fun g => ?_)
    · (conv => whnf)
      exact yes
    have g3 : l[i].to.length ≤ 100 := by rw [q3] at g; simp at g; omega
    (conv => whnf)
    refine br_intro (fun g => ?_) (fun g => ?_)
    · (conv => whnf)
      exact yes
    have g4 : l[i].keep.length ≤ 40 := by rw [q4] at g; simp at g; omega
    (conv => whnf)
    rw [i64_nat (by omega)]
    refine IH (i + 1) ⟨by omega, fun a ha => ?_⟩ (by omega)
    rw [List.take_succ_eq_append_getElem hc] at ha
    rcases List.mem_append.1 ha with ha | ha
    · exact hdo a ha
    · rw [List.mem_singleton.1 ha]; exact ⟨g1, g2, g3, g4⟩
  · have hc := ge_of_decE hsl hc
    rw [List.take_of_length_le hc] at hdo
    (conv => whnf)
    exact h false fun _ => ⟨h80, hdo⟩

/-! ### arguments -/
theorem wf_i64 {x : Int} (h : (Lit.int .i64 x).wf = true) : -9223372036854775808 ≤ x ∧ x < 9223372036854775808 := by
  simp only [Lit.wf, Bool.and_eq_true, decide_eq_true_eq] at h
  have e1 : IntKind.i64.min = -9223372036854775808 := rfl
  have e2 : IntKind.i64.max = 9223372036854775807 := rfl
  rw [e1, e2] at h
  omega
theorem wf_u8 {x : Int} (h : (Lit.int .u8 x).wf = true) : x = ((UInt8.ofNat x.toNat).toNat : Int) := by
  simp only [Lit.wf, Bool.and_eq_true, decide_eq_true_eq] at h
  have e1 : IntKind.u8.min = 0 := rfl
  have e2 : IntKind.u8.max = 255 := rfl
  rw [e1, e2] at h
  rw [UInt8.toNat_ofNat']
  omega
theorem typed_u8s {l : List (List AV)} (h : ∀ x ∈ l, ∃ y, x = [.val (.int .u8 y)] ∧ (Lit.int .u8 y).wf = true) : ∃ b : B, l = byteEls b := by
  induction l with
  | nil => exact ⟨[], rfl⟩
  | cons x l ih =>
    obtain ⟨ns, rfl⟩ := ih fun y hy => h y (by simp [hy])
    obtain ⟨y, rfl, hy⟩ := h x (by simp)
    exact ⟨UInt8.ofNat y.toNat :: ns, by simp only [byteEls, List.map_cons]; rw [← wf_u8 hy]⟩
theorem typed_ints {l : List (List AV)} (h : ∀ x ∈ l, ∃ y, x = [.val (.int .i64 y)] ∧ (Lit.int .i64 y).wf = true) : ∃ ns : List Int, l = intsZ ns := by
  induction l with
  | nil => exact ⟨[], rfl⟩
  | cons x l ih =>
    obtain ⟨ns, rfl⟩ := ih fun y hy => h y (by simp [hy])
    obtain ⟨y, rfl, hy⟩ := h x (by simp)
    exact ⟨y :: ns, rfl⟩
theorem typed_act {x : List AV} (h : Typed tab 11 30 x) : ∃ a : Ac, x = a.enc ∧ -9223372036854775808 ≤ a.n ∧ a.n < 9223372036854775808 := by
  obtain ⟨a0, r0, rfl, ⟨k, rfl, hk⟩, a1, r1, rfl, ⟨s, rfl, hs⟩, a2, r2, rfl, ⟨u, rfl, hu⟩, a3, r3, rfl, ⟨l, rfl, hl, hx⟩, a4, r4, rfl, ⟨o, rfl, ho⟩, a5, r5, rfl, ⟨w, rfl, hw, hwx⟩, rfl⟩ :
      ∃ a r, x = a ++ r ∧ (∃ y, a = [.val (.int .i64 y)] ∧ (Lit.int .i64 y).wf = true) ∧ ∃ a r', r = a ++ r' ∧ (∃ s : ByteArray, a = [.val (.string s)] ∧ s.size ≤ maxLen) ∧
      ∃ a r'', r' = a ++ r'' ∧ (∃ s : ByteArray, a = [.val (.string s)] ∧ s.size ≤ maxLen) ∧
      ∃ a r3, r'' = a ++ r3 ∧ (∃ l : List (List AV), a = [.sl none 1 l] ∧ l.length ≤ maxLen ∧ ∀ x ∈ l, Typed tab 9 5 x) ∧
      ∃ a r4, r3 = a ++ r4 ∧ (∃ y, a = [.val (.int .i64 y)] ∧ (Lit.int .i64 y).wf = true) ∧
      ∃ a r5, r4 = a ++ r5 ∧ (∃ l : List (List AV), a = [.sl none 1 l] ∧ l.length ≤ maxLen ∧ ∀ x ∈ l, Typed tab 9 3 x) ∧ r5 = [] := h
  obtain ⟨b, rfl⟩ := typed_u8s (l := l) hx
  obtain ⟨ns, rfl⟩ := typed_ints (l := w) hwx
  refine ⟨⟨k, bs s, bs u, b, o, ns⟩, ?_, wf_i64 ho⟩
  simp only [Ac.enc, vs, vi, ofB_bs, List.cons_append, List.nil_append]
theorem typed_acts {l : List (List AV)} (h : ∀ x ∈ l, Typed tab 11 30 x) : ∃ m : List Ac, l = acs m ∧ ∀ a ∈ m, -9223372036854775808 ≤ a.n ∧ a.n < 9223372036854775808 := by
  induction l with
  | nil => exact ⟨[], rfl, by simp⟩
  | cons x l ih =>
    obtain ⟨m, rfl, hm⟩ := ih fun y hy => h y (by simp [hy])
    obtain ⟨a, rfl, ha⟩ := typed_act (h x (by simp))
    exact ⟨a :: m, rfl, by
      intro y hy
      rcases List.mem_cons.1 hy with rfl | hy
      · exact ha
      · exact hm y hy⟩
theorem args_acts {ts : List TypeId} {l : List AV} (h : Args tab 12 (22 :: ts) l) : ∃ (x : List Ac) (l' : List AV), l = .sl none 6 (acs x) :: l' ∧ x.length ≤ maxLen ∧ (∀ a ∈ x, -9223372036854775808 ≤ a.n ∧ a.n < 9223372036854775808) ∧ Args tab 12 ts l' := by
  obtain ⟨a, l', rfl, h1, h2⟩ := h
  obtain ⟨x, e, hl, hx⟩ : ∃ x : List (List AV), [a] = [.sl none 6 x] ∧ x.length ≤ maxLen ∧ ∀ y ∈ x, Typed tab 11 30 y := h1
  obtain ⟨m, rfl, hm⟩ := typed_acts hx
  simp only [List.cons.injEq, and_true] at e
  subst e
  exact ⟨m, l', rfl, by simpa [acs] using hl, hm, h2⟩
theorem args_ints {ts : List TypeId} {l : List AV} (h : Args tab 12 (23 :: ts) l) : ∃ (x : List Int) (l' : List AV), l = .sl none 1 (intsZ x) :: l' ∧ x.length ≤ maxLen ∧ Args tab 12 ts l' := by
  obtain ⟨a, l', rfl, h1, h2⟩ := h
  obtain ⟨x, e, hl, hx⟩ : ∃ x : List (List AV), [a] = [.sl none 1 x] ∧ x.length ≤ maxLen ∧ ∀ y ∈ x, Typed tab 11 3 y := h1
  obtain ⟨ns, rfl⟩ := typed_ints (l := x) hx
  simp only [List.cons.injEq, and_true] at e
  subst e
  exact ⟨ns, l', rfl, by simpa [intsZ] using hl, h2⟩

/-! ### the chapter's example -/
def fx1 : FSt := ⟨[([120], ⟨[97, 98], 0⟩)], -1, -1, false⟩
def fx2 : FSt := ⟨[([120], ⟨[97, 98], 2⟩)], -1, -1, false⟩
def fx3 : FSt := ⟨[([120], ⟨[97, 98, 99, 100], 2⟩)], -1, -1, false⟩
def fx4 : FSt := ⟨[([120], ⟨[97, 98, 99], 3⟩)], -1, -1, false⟩
theorem fx_1 : fs0.append [120] [97, 98] = (fx1, 0) := rfl
theorem fx_2 : fx1.sync [120] = (fx2, 0) := rfl
theorem fx_3 : fx2.append [120] [99, 100] = (fx3, 0) := rfl
theorem fx_4 : fx3.crash [1] = fx4 := by
  have hn : fx3.names = [[120]] := by simp [FSt.names, sortB, fx3, kys]
  unfold FSt.crash
  rw [hn]
  rfl
theorem fx3_ok : FOk fx3 1 4 := ⟨⟨by decide, by simp [fx3], by simp [fx3], by simp [fx3], by simp [fx3, kys]⟩, (by decide : -1 ≤ (-1 : Int) ∧ (-1 : Int) < 9223372036854775808), (by decide : -1 ≤ (-1 : Int) ∧ (-1 : Int) < 9223372036854775808)⟩
theorem fixed13_calls {R} (h : R (.val (.bool true)) []) : ACalls Try.prog 6 [] [] R := by
  refine acalls_of_xwp (an := an6) tab_ok Try.func6 ?_
  have hm1 : okN (-1) := by unfold okN; omega
  (conv => whnf)
  refine New_calls ?_
  (conv => whnf)
  refine Append_calls fs0 [120] [97, 98] hm1 hm1 (by simp) (by simp [fs0, gF, lk, flZ]) ?_
  rw [fx_1]
  (conv => whnf)
  refine Sync_calls fx1 [120] hm1 hm1 ?_
  rw [fx_2]
  (conv => whnf)
  refine Append_calls fx2 [120] [99, 100] hm1 hm1 (by simp) (by simp [fx2, gF, lk]) ?_
  rw [fx_3]
  (conv => whnf)
  refine Crash_calls fx3 [1] fx3_ok (by omega) (by omega) (by simp) ?_
  rw [fx_4]
  (conv => whnf)
  refine Read_calls fx4 [120] (by simp [fx4, gF, lk]) (fun _ => ?_) (fun hno => absurd (by simp [fx4, kys]) hno)
  obtain ⟨ns, n1, n2⟩ := str_bytes (gF fx4.fs [120]).b
  (conv => whnf)
  refine ⟨ns, n1, ?_⟩
  rw [n2]
  (conv => whnf)
  exact h
end Go.Abs
end

section
/- The statements VfsSafe and VfsFails. -/
set_option maxRecDepth 100000
set_option maxHeartbeats 8000000
set_option linter.unusedVariables false
set_option linter.unusedSimpArgs false
namespace Go.Abs
open Go Go.Proofs
attribute [local irreducible] ibits byteAt strLt firstIdx

theorem fs0_ok : FOk fs0 0 0 := ⟨⟨by decide, by simp [fs0], by simp [fs0], by simp [fs0], by simp [fs0, kys]⟩, (by decide : -1 ≤ (-1 : Int) ∧ (-1 : Int) < 9223372036854775808), (by decide : -1 ≤ (-1 : Int) ∧ (-1 : Int) < 9223372036854775808)⟩
theorem VfsSafe_thm (l : List Ac) (hl : l.length ≤ maxLen) (hn : ∀ a ∈ l, -9223372036854775808 ≤ a.n ∧ a.n < 9223372036854775808) (keep : List Int) (hk : keep.length ≤ maxLen) {R} (h : R (.val (.bool true)) []) :
    ACalls Try.prog 3 [.sl none 6 (acs l), .sl none 1 (intsZ keep)] [] R := by
  refine acalls_of_xwp (an := an3) tab_ok Try.func3 ?_
  have hsl := acs_length l
  have hkl := intsZ_length keep
  have hmx : maxLen ≤ 9223372036854775807 := by decide
  have fx : ∀ {R : AV → List AObj → Prop}, R (.val (.bool true)) [] → ACalls Try.prog 6 [] [] R := fun h => fixed13_calls h
  (conv => whnf)
  refine Great13_calls l hl fun b hb => ?_
  (conv => whnf)
  refine br_intro (fun g => ?_) (fun g => ?_)
  · (conv => whnf)
    refine fx ?_
    (conv => whnf)
    exact h
  obtain ⟨hb1, hb2⟩ := hb g
  (conv => whnf)
  refine br_intro (fun g => ?_) (fun g => ?_)
  · (conv => whnf)
    refine fx ?_
    (conv => whnf)
    exact h
  have hk80 : keep.length ≤ 80 := by rw [hkl] at g; simp at g; omega
  have hok : ∀ a ∈ l, AcOk a := fun a ha => ⟨(hb2 a ha).1, (hb2 a ha).2.1, (hb2 a ha).2.2.1, (hb2 a ha).2.2.2, hn a ha⟩
  (conv => whnf)
  refine New_calls ?_
  (conv => whnf)
  refine LoopP.ind2 (fun (i : Nat) (s : FSt) => [(30, vi i)]) (fun i s => [(freshN 25 0, fsC s (freshN 25 1)), (freshN 25 1, fsM s)]) (fun i _ => l.length - i) (fun i s => i ≤ l.length ∧ FOk s i (300 * i)) 0 fs0 rfl ⟨by omega, fs0_ok⟩ ?_
  rintro i s ⟨h0, ho⟩ IH
  (conv => whnf)
  refine br_intro (fun hc => ?_) (fun hc => ?_)
  · have hc := lt_of_decE hsl hc
    have ha := hok _ (List.getElem_mem hc)
    have hnx := IH (i + 1) (doP s l[i]).1 ⟨by omega, by have := doP_ok ho ha; rwa [show 300 * (i + 1) = 300 * i + 300 by omega]⟩ (by omega)
    clear IH
    (conv => whnf); (repeat ((with_reducible refine must_intro ?_ ?_); exact decide_eq_true (by omega); (conv => whnf)))
    refine idxK_map_intro (show (i : Int).toNat < l.length by simpa using hc) ?_
    rw [show l[(i : Int).toNat]'(by simpa using hc) = l[i] from by congr 1]
    (conv => whnf)
    refine do_calls s l[i] ho (by omega) (by omega) ha ?_
    (conv => whnf)
    rw [i64_nat (by omega)]
    exact hnx
  · have hc := ge_of_decE hsl hc
    (conv => whnf)
    refine Copy_calls s ?_
    obtain ⟨c1, c2, c3⟩ := crash_spec ho keep
    have hlen := ho.m.len
    have hlen2 := c1.m.len
    have hnn : (s.crash keep).names = s.names := by unfold FSt.names; rw [c2]
    have hnl : s.names.length = s.fs.length := by rw [(names_perm s).length_eq]; simp [kys]
    have hsn := strs_length s.names
    (conv => whnf)
    refine Crash_calls s keep ho (by omega) (by omega) (by omega) ?_
    (conv => whnf)
    refine Names_calls (s.crash keep) (by omega) c1.m.names c1.m.nodup ?_
    rw [hnn]
    (conv => whnf)
    refine Names_calls s (by omega) ho.m.names ho.m.nodup ?_
    (conv => whnf)
    refine sameV_calls s.names s.names (by omega) fun p hp => ?_
    rw [decide_eq_true rfl] at hp
    subst hp
    (conv => whnf)
    refine Down_calls (s.crash keep) ?_
    (conv => whnf)
    refine LoopP.ind1 (fun (i : Nat) => [(58, vi i)]) (fun i => [(freshN 25 0, fsC (s.crash keep) (freshN 25 1)), (freshN 39 0, fsC s (freshN 39 1)), (freshN 25 1, fsM (s.crash keep)), (freshN 39 1, fsM s)]) (fun i => s.names.length - i) (fun i => i ≤ s.names.length) 0 rfl (by omega) ?_
    rintro j j0 IH
    (conv => whnf)
    refine br_intro (fun hc => ?_) (fun hc => ?_)
    · have hc := lt_of_decE hsn hc
      have hin : s.names[j] ∈ kys s.fs := (names_perm s).mem_iff.1 (List.getElem_mem hc)
      have hg := ho.m.get s.names[j]
      have hnx := IH (j + 1) (by omega) (by omega)
      clear IH
      obtain ⟨k, k1, k2, k3⟩ := c3 _ hin
      obtain ⟨ns, n1, n2⟩ := str_bytes ((gF s.fs s.names[j]).b.take k)
      have hv := bel_length (gF s.fs s.names[j]).b
      have hvk := bel_length ((gF s.fs s.names[j]).b.take k)
      have hvl : ((gF s.fs s.names[j]).b.take k).length = k := by simp; omega
      (conv => whnf); (repeat ((with_reducible refine must_intro ?_ ?_); exact decide_eq_true (by omega); (conv => whnf)))
      refine idxK_map_intro (show (j : Int).toNat < s.names.length by simpa using hc) ?_
      rw [show s.names[(j : Int).toNat]'(by simpa using hc) = s.names[j] from by congr 1]
      (conv => whnf)
      refine Read_calls s s.names[j] (by omega) (fun _ => ?_) (fun hno => absurd hin hno)
      (conv => whnf)
      refine Read_calls (s.crash keep) s.names[j] (by rw [k3]; simp; omega) (fun _ => ?_) (fun hno => absurd (by rw [c2]; exact hin) hno)
      rw [k3]
      (conv => whnf)
      refine Safe_calls s s.names[j] ?_
      (conv => whnf)
      refine br_intro (fun g => ?_) (fun g => ?_)
      · exfalso
        have g := of_decide_eq_true g
        rw [hv] at g
        omega
      (conv => whnf)
      refine br_intro (fun g => ?_) (fun g => ?_)
      · exfalso
        have g : ((byteEls ((gF s.fs s.names[j]).b.take k)).length : Int) < (gF s.fs s.names[j]).safe := of_decide_eq_true g
        rw [hvk, hvl] at g
        omega
      (conv => whnf)
      refine br_intro (fun g => ?_) (fun g => ?_)
      · exfalso
        have g : ((byteEls ((gF s.fs s.names[j]).b.take k)).length : Int) > ((byteEls (gF s.fs s.names[j]).b).length : Int) := of_decide_eq_true g
        rw [hvk, hvl, hv] at g
        omega
      (conv => whnf)
      refine must_intro (decide_eq_true (show ((byteEls ((gF s.fs s.names[j]).b.take k)).length : Int) ≤ ((byteEls (gF s.fs s.names[j]).b).length : Int) by rw [hvk, hvl, hv]; omega)) ?_
      (conv => whnf)
      refine ⟨ns, ?_, ?_⟩
      · rw [← n1]
        show List.take (((byteEls ((gF s.fs s.names[j]).b.take k)).length : Int)).toNat (byteEls (gF s.fs s.names[j]).b) = _
        rw [Int.toNat_natCast, hvk, hvl, bel_take]
      (conv => whnf)
      refine ⟨ns, n1, ?_⟩
      (conv => whnf)
      refine br_intro (fun g => ?_) (fun g => ?_)
      · exfalso
        simp at g
      (conv => whnf)
      refine Safe_calls (s.crash keep) s.names[j] ?_
      rw [k3]
      (conv => whnf)
      refine br_intro (fun g => ?_) (fun g => ?_)
      · exfalso
        have g : (((k : Nat) : Int) != ((byteEls ((gF s.fs s.names[j]).b.take k)).length : Int)) = true := g
        rw [hvk, hvl] at g
        simp at g
      (conv => whnf)
      rw [i64_nat (by omega)]
      exact hnx
    · have hc := ge_of_decE hsn hc
      (conv => whnf)
      refine fx ?_
      (conv => whnf)
      exact h
theorem VfsSafe_row (l : List AV) (h : Args tab 12 [22, 23] l) : ACalls Try.prog 3 l [] fun r _ => r = .val (.bool true) := by
  obtain ⟨a, l1, rfl, h1, h2, h3⟩ := args_acts h
  obtain ⟨b, l2, rfl, h4, h5⟩ := args_ints h3
  obtain rfl := args_nil h5
  exact VfsSafe_thm a h1 h2 b h4 rfl
end Go.Abs
end

section
/- The statement VfsFails. -/
set_option maxRecDepth 100000
set_option maxHeartbeats 8000000
set_option linter.unusedVariables false
set_option linter.unusedSimpArgs false
namespace Go.Abs
open Go Go.Proofs
attribute [local irreducible] ibits byteAt strLt firstIdx

/-- What may come of an act, in plain cases. -/
inductive Outc (s r : FSt) (e : Int) (n c c' : Nat) (falls k0 : Bool) : Prop where
  | down (d : s.down = true) (e7 : e = 7) (hc : c' = c) (hf : r.fs = s.fs) (hd : r.down = true)
  | no (d : s.down = false) (e16 : e = 1 ∨ e = 6) (hc : c' = c) (hf : r.fs = s.fs) (hd : r.down = false)
  | fell (d : s.down = false) (e7 : e = 7) (hc : c' = c + 1) (hn : c = n) (hs : falls = true) (hf : k0 = false → r.fs = s.fs) (hd : r.down = true)
  | fail (d : s.down = false) (e8 : e = 8) (hc : c' = c + 1) (hn : c = n) (hs : falls = false) (hf : r.fs = s.fs) (hd : r.down = false)
  | done (d : s.down = false) (e0 : e = 0) (hc : c' = c + 1) (hn : c ≠ n) (hd : r.down = false)
theorem outc {s r : FSt} {e : Int} {n c : Nat} {falls late : Bool} (hc : Cnt s n falls c) (h : Did s late (r, e)) : ∃ c', Outc s r e n c c' falls late ∧ Cnt r n falls c' ∧ c' ≤ c + 1 := by
  obtain ⟨c', a1, a2, a3, a4, a5, a6, a7⟩ := asks hc h
  simp only at a1 a3 a4 a5 a6 a7
  have hle : c' ≤ c + 1 := by omega
  have hne : ∀ {x : Nat}, c' = c → ¬ c' = c + 1 := fun h => by omega
  refine ⟨c', ?_, a1, hle⟩
  cases h with
  | no hs he =>
    simp only at hs he
    rcases he with ⟨he, hd⟩ | ⟨he, hd⟩
    · have h0 : ¬ e = 0 := by omega
      have h7 : ¬ e = 7 := by omega
      have h8 : ¬ e = 8 := by omega
      rw [decide_eq_false h0, decide_eq_false h7, decide_eq_false h8] at a3
      have : ¬ c' = c + 1 := by simpa using a3
      exact .no hd he (by omega) (by rw [hs]) (by rw [a6, decide_eq_false h7])
    · subst he
      rw [hd] at a3
      have : ¬ c' = c + 1 := by simpa using a3
      exact .down hd rfl (by omega) (by rw [hs]) (by rw [a6]; rfl)
  | act hd g he =>
    have hcases : e = 0 ∨ e = 7 ∨ e = 8 := by
      have := congrArg Prod.snd he
      unfold FSt.act at this
      simp only at this
      split at this
      · exact .inr (.inl this)
      · split at this
        · exact .inr (.inr this)
        · exact .inl this
    rw [hd] at a3 a5
    rcases hcases with rfl | rfl | rfl
    · have hc' : c' = c + 1 := by simpa using a3
      subst hc'
      refine .done hd rfl rfl ?_ (by rw [a6]; rfl)
      intro hcn
      subst hcn
      cases falls <;> simp at a4 a5
    · have hc' : c' = c + 1 := by simpa using a3
      subst hc'
      simp at a5
      exact .fell hd rfl rfl a5.1 a5.2 (fun hk => a7 (.inl ⟨by omega, by rw [hk]; simp⟩)) (by rw [a6]; rfl)
    · have hc' : c' = c + 1 := by simpa using a3
      subst hc'
      simp at a4
      exact .fail hd rfl rfl a4.1 a4.2 (a7 (.inr rfl)) (by rw [a6]; rfl)
theorem Down_one (s : FSt) {R} (h : ∀ d, d = s.down → R (.val (.bool d)) [fsC s 1, fsM s]) : ACalls Try.prog 13 [.ptr 0 0] [fsC s 1, fsM s] R := Down_calls s (h _ rfl)
theorem do_one (s : FSt) (a : Ac) {nb fb : Nat} (ho : FOk s nb fb) (hnb : nb < 1000000) (hfb : fb < 10000000) (ha : AcOk a) {R} (h : ∀ r e, (r, e) = doP s a → R (vi e) [fsC r 1, fsM r]) : ACalls Try.prog 8 [.ptr 0 0, .agg a.enc] [fsC s 1, fsM s] R :=
  do_calls s a ho hnb hfb ha (h _ _ rfl)




theorem VfsFails_thm (l : List Ac) (hl : l.length ≤ maxLen) (hn : ∀ a ∈ l, -9223372036854775808 ≤ a.n ∧ a.n < 9223372036854775808) (n : Nat) (hn8 : n ≤ 255) (falls : Bool) {R} (h : R (.val (.bool true)) []) :
    ACalls Try.prog 4 [.sl none 6 (acs l), .val (.int .u8 (n : Int)), .val (.bool falls)] [] R := by
  refine acalls_of_xwp (an := an4) tab_ok Try.func4 ?_
  have hsl := acs_length l
  have hmx : maxLen ≤ 9223372036854775807 := by decide
  have fx : ∀ {R : AV → List AObj → Prop}, R (.val (.bool true)) [] → ACalls Try.prog 6 [] [] R := fun h => fixed13_calls h
  have hw8 : IntKind.i64.wrap (n : Int) = (n : Int) := wrap_i64 (by omega) (by omega)
  have hcap : capN (n : Int) = n := by unfold capN; rw [if_neg (by omega)]
  have hcn : okN (n : Int) := by unfold okN; omega
  (conv => whnf)
  refine Great13_calls l hl fun b hb => ?_
  (conv => whnf)
  refine br_intro (fun g => ?_) (fun g => ?_)
  · (conv => whnf)
    refine fx ?_
    (conv => whnf)
    exact h
  obtain ⟨hb1, hb2⟩ := hb g
  have hok : ∀ a ∈ l, AcOk a := fun a ha => ⟨(hb2 a ha).1, (hb2 a ha).2.1, (hb2 a ha).2.2.1, (hb2 a ha).2.2.2, hn a ha⟩
  (conv => whnf)
  refine New_calls ?_
  cases falls with
  | true =>
    (conv => whnf)
    rw [hw8]
    refine Fall_calls fs0 n ?_
    rw [hcap]
    (conv => whnf)
    refine LoopP.ind3 (fun (i : Nat) (s : FSt) (c : Nat) => [(8, vi c), (33, vi i)]) (fun i s c => [(freshN 19 0, fsC s (freshN 19 1)), (freshN 19 1, fsM s)]) (fun i _ _ => l.length - i) (fun i s c => i ≤ l.length ∧ FOk s i (300 * i) ∧ Cnt s n true c ∧ c ≤ i) 0 ⟨fs0.fs, fs0.fail, n, fs0.down⟩ 0 rfl
      ⟨by omega, ⟨fs0_ok.m, fs0_ok.fail, hcn⟩, ⟨by simp, rfl, by simp [fs0]⟩, by omega⟩ ?_
    rintro i s c ⟨h0, ho, hct, hci⟩ IH
    (conv => whnf)
    refine br_intro (fun hc => ?_) (fun hc => ?_)
    · have hc := lt_of_decE hsl hc
      have ha := hok _ (List.getElem_mem hc)
      (conv => whnf); (repeat ((with_reducible refine must_intro ?_ ?_); exact decide_eq_true (by omega); (conv => whnf)))
      refine idxK_map_intro (show (i : Int).toNat < l.length by simpa using hc) ?_
      rw [show l[(i : Int).toNat]'(by simpa using hc) = l[i] from by congr 1]
      have skip := IH (i + 1) s c ⟨by omega, ho.mono (by omega) (by omega), hct, by omega⟩ (by omega)
      (conv => whnf)
      refine br_intro (fun g => ?_) (fun g => ?_)
      · (conv => whnf)
        rw [i64_nat (by omega)]
        exact skip
      have hk0 : 0 ≤ l[i].kind := by simpa using g
      (conv => whnf)
      refine br_intro (fun g => ?_) (fun g => ?_)
      · (conv => whnf)
        rw [i64_nat (by omega)]
        exact skip
      have hk4 : l[i].kind ≤ 4 := by simpa using g
      clear skip
      (conv => whnf)
      refine Copy_calls s ?_
      (conv => whnf)
      refine Down_one s fun d hd => ?_
      (conv => whnf)
      refine do_one s l[i] ho (by omega) (by omega) ha fun r e hr => ?_
      have hor : FOk r (i + 1) (300 * (i + 1)) := by
        have := doP_ok ho ha
        rw [← hr] at this
        exact this.mono (by omega) (by omega)
      have hdid := do_did s l[i] hk0 hk4
      rw [← hr] at hdid
      obtain ⟨c', hout, hct', hc'⟩ := outc hct hdid
      have hnx := IH (i + 1) r c' ⟨by omega, hor, hct', by omega⟩ (by omega)
      clear IH
      cases hout with
      | down q1 q2 q3 q4 q5 =>
        subst q2 q3
        rw [q1] at hd
        subst hd
        (conv => whnf)
        refine Down_one r fun d2 hd2 => ?_
        rw [q5] at hd2
        subst hd2
        (conv => whnf)
        refine same_calls r s hor (ho.mono (by omega) (by omega)) (by omega) (by omega) q4.symm ?_
        (conv => whnf)
        rw [i64_nat (by omega)]
        exact hnx
      | no q1 q2 q3 q4 q5 =>
        subst q3
        rw [q1] at hd
        subst hd
        rcases q2 with rfl | rfl
        · (conv => whnf)
          refine Down_one r fun d2 hd2 => ?_
          rw [q5] at hd2
          subst hd2
          (conv => whnf)
          refine same_calls r s hor (ho.mono (by omega) (by omega)) (by omega) (by omega) q4.symm ?_
          (conv => whnf)
          rw [i64_nat (by omega)]
          exact hnx
        · (conv => whnf)
          refine Down_one r fun d2 hd2 => ?_
          rw [q5] at hd2
          subst hd2
          (conv => whnf)
          refine same_calls r s hor (ho.mono (by omega) (by omega)) (by omega) (by omega) q4.symm ?_
          (conv => whnf)
          rw [i64_nat (by omega)]
          exact hnx
      | fell q1 q2 q3 q4 q5 q6 q7 =>
        subst q2 q3 q4
        rw [q1] at hd
        subst hd
        have hcc : ((c : Int) == IntKind.i64.wrap (c : Int)) = true := by rw [hw8]; exact beq_self_eq_true _
        (conv => whnf)
        repeat ((with_reducible refine br_true hcc ?_); (conv => whnf))
        refine Down_one r fun d2 hd2 => ?_
        rw [q7] at hd2
        subst hd2
        (conv => whnf)
        repeat ((with_reducible refine br_true hcc ?_); (conv => whnf))
        refine br_intro (fun gk => ?_) (fun gk => ?_)
        · have gk : ¬ l[i].kind = 0 := by simpa using gk
          (conv => whnf)
          refine same_calls r s hor (ho.mono (by omega) (by omega)) (by omega) (by omega) (q6 (decide_eq_false gk)).symm ?_
          (conv => whnf)
          rw [i64_nat (by omega), i64_nat (by omega)]
          exact hnx
        · (conv => whnf)
          rw [i64_nat (by omega), i64_nat (by omega)]
          exact hnx
      | fail q1 q2 q3 q4 q5 q6 q7 =>
        subst q2 q3 q4
        rw [q1] at hd
        subst hd
        cases q5
      | done q1 q2 q3 q4 q5 =>
        subst q2 q3
        rw [q1] at hd
        subst hd
        have hcc : ((c : Int) == IntKind.i64.wrap (n : Int)) = false := by
          rw [hw8]
          exact beq_eq_false_iff_ne.2 (by omega)
        (conv => whnf)
        repeat ((with_reducible refine br_false hcc ?_); (conv => whnf))
        refine Down_one r fun d2 hd2 => ?_
        rw [q5] at hd2
        subst hd2
        (conv => whnf)
        repeat ((with_reducible refine br_false hcc ?_); (conv => whnf))
        rw [i64_nat (by omega), i64_nat (by omega)]
        exact hnx
    · have hc := ge_of_decE hsl hc
      (conv => whnf)
      refine fx ?_
      (conv => whnf)
      exact h
  | false =>
    (conv => whnf)
    rw [hw8]
    refine Fail_calls fs0 n ?_
    rw [hcap]
    (conv => whnf)
    refine LoopP.ind3 (fun (i : Nat) (s : FSt) (c : Nat) => [(8, vi c), (33, vi i)]) (fun i s c => [(freshN 19 0, fsC s (freshN 19 1)), (freshN 19 1, fsM s)]) (fun i _ _ => l.length - i) (fun i s c => i ≤ l.length ∧ FOk s i (300 * i) ∧ Cnt s n false c ∧ c ≤ i) 0 ⟨fs0.fs, n, fs0.fall, fs0.down⟩ 0 rfl
      ⟨by omega, ⟨fs0_ok.m, hcn, fs0_ok.fall⟩, ⟨rfl, by simp, by simp [fs0]⟩, by omega⟩ ?_
    rintro i s c ⟨h0, ho, hct, hci⟩ IH
    (conv => whnf)
    refine br_intro (fun hc => ?_) (fun hc => ?_)
    · have hc := lt_of_decE hsl hc
      have ha := hok _ (List.getElem_mem hc)
      (conv => whnf); (repeat ((with_reducible refine must_intro ?_ ?_); exact decide_eq_true (by omega); (conv => whnf)))
      refine idxK_map_intro (show (i : Int).toNat < l.length by simpa using hc) ?_
      rw [show l[(i : Int).toNat]'(by simpa using hc) = l[i] from by congr 1]
      have skip := IH (i + 1) s c ⟨by omega, ho.mono (by omega) (by omega), hct, by omega⟩ (by omega)
      (conv => whnf)
      refine br_intro (fun g => ?_) (fun g => ?_)
      · (conv => whnf)
        rw [i64_nat (by omega)]
        exact skip
      have hk0 : 0 ≤ l[i].kind := by simpa using g
      (conv => whnf)
      refine br_intro (fun g => ?_) (fun g => ?_)
      · (conv => whnf)
        rw [i64_nat (by omega)]
        exact skip
      have hk4 : l[i].kind ≤ 4 := by simpa using g
      clear skip
      (conv => whnf)
      refine Copy_calls s ?_
      (conv => whnf)
      refine Down_one s fun d hd => ?_
      (conv => whnf)
      refine do_one s l[i] ho (by omega) (by omega) ha fun r e hr => ?_
      have hor : FOk r (i + 1) (300 * (i + 1)) := by
        have := doP_ok ho ha
        rw [← hr] at this
        exact this.mono (by omega) (by omega)
      have hdid := do_did s l[i] hk0 hk4
      rw [← hr] at hdid
      obtain ⟨c', hout, hct', hc'⟩ := outc hct hdid
      have hnx := IH (i + 1) r c' ⟨by omega, hor, hct', by omega⟩ (by omega)
      clear IH
      cases hout with
      | down q1 q2 q3 q4 q5 =>
        subst q2 q3
        rw [q1] at hd
        subst hd
        (conv => whnf)
        refine Down_one r fun d2 hd2 => ?_
        rw [q5] at hd2
        subst hd2
        (conv => whnf)
        refine same_calls r s hor (ho.mono (by omega) (by omega)) (by omega) (by omega) q4.symm ?_
        (conv => whnf)
        rw [i64_nat (by omega)]
        exact hnx
      | no q1 q2 q3 q4 q5 =>
        subst q3
        rw [q1] at hd
        subst hd
        rcases q2 with rfl | rfl
        · (conv => whnf)
          refine Down_one r fun d2 hd2 => ?_
          rw [q5] at hd2
          subst hd2
          (conv => whnf)
          refine same_calls r s hor (ho.mono (by omega) (by omega)) (by omega) (by omega) q4.symm ?_
          (conv => whnf)
          rw [i64_nat (by omega)]
          exact hnx
        · (conv => whnf)
          refine Down_one r fun d2 hd2 => ?_
          rw [q5] at hd2
          subst hd2
          (conv => whnf)
          refine same_calls r s hor (ho.mono (by omega) (by omega)) (by omega) (by omega) q4.symm ?_
          (conv => whnf)
          rw [i64_nat (by omega)]
          exact hnx
      | fell q1 q2 q3 q4 q5 q6 q7 =>
        subst q2 q3 q4
        rw [q1] at hd
        subst hd
        cases q5
      | fail q1 q2 q3 q4 q5 q6 q7 =>
        subst q2 q3 q4
        rw [q1] at hd
        subst hd
        have hcc : ((c : Int) == IntKind.i64.wrap (c : Int)) = true := by rw [hw8]; exact beq_self_eq_true _
        (conv => whnf)
        repeat ((with_reducible refine br_true hcc ?_); (conv => whnf))
        refine Down_one r fun d2 hd2 => ?_
        rw [q7] at hd2
        subst hd2
        (conv => whnf)
        repeat ((with_reducible refine br_true hcc ?_); (conv => whnf))
        refine br_intro (fun gk => ?_) (fun gk => ?_)
        · (conv => whnf)
          refine same_calls r s hor (ho.mono (by omega) (by omega)) (by omega) (by omega) q6.symm ?_
          (conv => whnf)
          refine same_calls r s hor (ho.mono (by omega) (by omega)) (by omega) (by omega) q6.symm ?_
          (conv => whnf)
          rw [i64_nat (by omega), i64_nat (by omega)]
          exact hnx
        · (conv => whnf)
          refine same_calls r s hor (ho.mono (by omega) (by omega)) (by omega) (by omega) q6.symm ?_
          (conv => whnf)
          rw [i64_nat (by omega), i64_nat (by omega)]
          exact hnx
      | done q1 q2 q3 q4 q5 =>
        subst q2 q3
        rw [q1] at hd
        subst hd
        have hcc : ((c : Int) == IntKind.i64.wrap (n : Int)) = false := by
          rw [hw8]
          exact beq_eq_false_iff_ne.2 (by omega)
        (conv => whnf)
        repeat ((with_reducible refine br_false hcc ?_); (conv => whnf))
        refine Down_one r fun d2 hd2 => ?_
        rw [q5] at hd2
        subst hd2
        (conv => whnf)
        repeat ((with_reducible refine br_false hcc ?_); (conv => whnf))
        rw [i64_nat (by omega), i64_nat (by omega)]
        exact hnx
    · have hc := ge_of_decE hsl hc
      (conv => whnf)
      refine fx ?_
      (conv => whnf)
      exact h
theorem args_bool {ts : List TypeId} {l : List AV} (h : Args tab 12 (4 :: ts) l) : ∃ (x : Bool) (l' : List AV), l = .val (.bool x) :: l' ∧ Args tab 12 ts l' := by
  obtain ⟨a, l', rfl, h1, h2⟩ := h
  obtain ⟨x, e⟩ : ∃ x : Bool, [a] = [.val (.bool x)] := h1
  simp only [List.cons.injEq, and_true] at e
  exact ⟨x, l', by rw [e], h2⟩
theorem VfsFails_row (l : List AV) (h : Args tab 12 [22, 5, 4] l) : ACalls Try.prog 4 l [] fun r _ => r = .val (.bool true) := by
  obtain ⟨a, l1, rfl, h1, h2, h3⟩ := args_acts h
  obtain ⟨x, l2, rfl, h4, h5⟩ := args_u8 h3
  obtain ⟨b, l3, rfl, h6⟩ := args_bool h5
  obtain rfl := args_nil h6
  obtain ⟨k, rfl⟩ := Int.eq_ofNat_of_zero_le h4.1
  exact VfsFails_thm a h1 h2 k (by omega) b rfl
end Go.Abs
end
