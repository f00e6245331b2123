/- Several texts of this claim, one behind the other: D5, E1, D1, D2, C2, E2, E3, E4, E5, E6, E7, L0, SH, H1, K1, K2, L1, E8, L2, L3, L4, L5, L6, L7, L8, L9, WA, UD, UF, UG, UH, N1, N2, N4, N5, N3. -/
import Derived.Test.YtpkocgpcdddleaaGreatB9
import Derived.Test.YtpkocgpcdddleaaGreatAT
import Derived.Test.YtpkocgpcdddleaaGreatAN
import Derived.Test.YtpkocgpcdddleaaGreatC1
import Derived.Sort.OwnSorted
import Derived.Below
import Derived.Shelf.Small.Bits
import Derived.Shelf.Strconv.Itoa0
import Derived.Shelf.Sort.Plain
import Derived.Shelf.Slices.Turned
import Derived.Ground.Names2Prog
import Derived.Shelf.Slices.Clone
import Derived.Shelf.Slices.Delete
import Derived.Shelf.Slices.Cells
import Derived.Shelf.Slices.In.SortNone
import Derived.Shelf.Slices.Empties
import Derived.Ground.SlgnProg
import Derived.Shelf.SlicesE.Delete
import Derived.Shelf.SlicesE.Clone
import Derived.Shelf.Bytes.Small
import Derived.Test.YtpkocgpcdddleaaGreatProg
import Derived.RangeFuncBound
import Derived.RangeFuncGives
import Derived.RangeFuncSeq
import Derived.Sort.MapsRangeIn
import Derived.Sort.KeysCollected
import Derived.Maps.AppendAt
import Derived.Shelf.Abstract
import Derived.WalkKit
import Derived.OwnWalkIn
import Derived.TacticsInMore
import Derived.RegionIn
import Derived.LoopNIn
import Derived.LoopIn
import Derived.Shelf.RegionOpenPlain
import Derived.Lib.Builder
import Derived.Lib.UnsafeStr
import Derived.Lib.Strings
import Derived.Lib.Slices
import Derived.Lib.Walk
import Derived.Laws.Externs
import Derived.MapKept
import Derived.Lib.SliceRun
import Derived.Lib.AppendZerosOnto
import Derived.Test.YtpkocgpcdddleaaGreatBA
set_option maxRecDepth 100000
set_option maxHeartbeats 4000000
set_option linter.unusedVariables false
set_option linter.unusedSimpArgs false
section
namespace Go.Abs
open Go Go.Proofs
abbrev B := List UInt8
def ofB (l : B) : ByteArray := ⟨l.toArray⟩
def bs (s : ByteArray) : B := s.data.toList
theorem bs_ofB (l : B) : bs (ofB l) = l := by simp [bs, ofB]
theorem ofB_bs (s : ByteArray) : ofB (bs s) = s := by simp [bs, ofB]
theorem bs_inj {s t : ByteArray} (h : bs s = bs t) : s = t := by rw [← ofB_bs s, h, ofB_bs]
theorem ofB_inj {l m : B} (h : ofB l = ofB m) : l = m := by rw [← bs_ofB l, h, bs_ofB]
theorem ofB_eq {l m : B} : ofB l = ofB m ↔ l = m := ⟨ofB_inj, fun h => by rw [h]⟩
theorem bs_append (s t : ByteArray) : bs (s ++ t) = bs s ++ bs t := by simp [bs]
theorem ofB_append (l m : B) : ofB l ++ ofB m = ofB (l ++ m) := bs_inj (by rw [bs_append, bs_ofB, bs_ofB, bs_ofB])
theorem size_bs (s : ByteArray) : s.size = (bs s).length := by simp [bs]
theorem size_ofB (l : B) : (ofB l).size = l.length := by rw [size_bs, bs_ofB]
theorem bs_extract (s : ByteArray) (a b : Nat) : bs (s.extract a b) = ((bs s).take b).drop a := by
 simp [bs, ByteArray.data_extract, List.drop_take]
theorem ofB_extract (l : B) (a b : Nat) : (ofB l).extract a b = ofB ((l.take b).drop a) := bs_inj (by rw [bs_extract, bs_ofB, bs_ofB])
theorem byteAt_ofB (l : B) {i : Nat} (h : i < l.length) : byteAt (ofB l) i = ((l[i]).toNat : Int) := by
 have hs : i < (ofB l).size := by rw [size_ofB]; exact h
 unfold byteAt
 rw [dif_pos hs]
 rfl
theorem strOfNums_ofB (l : B) : strOfNums (l.map fun b => (b.toNat : Int)) = ofB l := bs_inj (by
 rw [bs_ofB]
 show (strOfNums _).data.toList = _
 rw [strOfNums_data, List.map_map]
 conv => rhs; rw [← List.map_id l]
 refine List.map_congr_left fun b _ => ?_
 simp)
theorem u8_inj {a b : UInt8} : ((a.toNat : Int) = (b.toNat : Int)) ↔ a = b := ⟨fun h => UInt8.toNat_inj.1 (by omega), fun h => by rw [h]⟩
end Go.Abs
end
section
namespace Go.Abs
open Go Go.Proofs
attribute [local irreducible] ibits byteAt strLt firstIdx
def vs (s : B) : AV := .val (.string (ofB s))
def vi (i : Int) : AV := .val (.int .i64 i)
def strs (l : List B) : List (List AV) := l.map fun s => [vs s]
theorem strs_length (l : List B) : (strs l).length = l.length := by simp [strs]
theorem strs_append (l m : List B) : strs (l ++ m) = strs l ++ strs m := by simp [strs]
def tblFrom : List B → Nat → List (ByteArray × AV)
 | [], _ => []
 | s :: l, i => (ofB s, vi i) :: tblFrom l (i + 1)
theorem tblFrom_append (l : List B) (s : B) : ∀ i, tblFrom (l ++ [s]) i = tblFrom l i ++ [(ofB s, vi (i + l.length))] := by
 induction l with
 | nil => intro i; simp [tblFrom]
 | cons a l ih => intro i; simp [tblFrom, ih, Int.add_assoc]; congr 2; omega
theorem mapFind_none {l : List B} {s : B} (h : s ∉ l) : ∀ i, mapFind (tblFrom l i) (ofB s) = none := by
 induction l with
 | nil => intro i; rfl
 | cons a l ih =>
  intro i
  simp only [List.mem_cons, not_or] at h
  simp only [tblFrom, mapFind]
  rw [if_neg (fun e => h.1 (ofB_inj e).symm)]
  exact ih h.2 _
theorem mapFind_some {l : List B} {s : B} (h : s ∈ l) : ∀ i, ∃ j : Int, mapFind (tblFrom l i) (ofB s) = some (vi j) := by
 induction l with
 | nil => cases h
 | cons a l ih =>
  intro i
  simp only [tblFrom, mapFind]
  by_cases e : a = s
  ·subst e; rw [if_pos rfl]; exact ⟨_, rfl⟩
  ·rw [if_neg (fun e' => e (ofB_inj e'))]
   exact ih (by simpa [Ne.symm e, eq_comm] using h) _
theorem mapPut_new {l : List B} {s : B} {v : AV} (h : s ∉ l) : ∀ i, mapPut (tblFrom l i) (ofB s) v = tblFrom l i ++ [(ofB s, v)] := by
 induction l with
 | nil => intro i; rfl
 | cons a l ih =>
  intro i
  simp only [List.mem_cons, not_or] at h
  simp only [tblFrom, mapPut]
  rw [if_neg (fun e => h.1 (ofB_inj e).symm), ih h.2]
  rfl
def tblF : AObj := .cells 273 [.val (.slice none 0 0), .val (.map none)]
def tblO (n m : Nat) (l : List B) : AObj := .cells 273 [.sl (some n) 1 (strs l), .mapv m]
def tblR (l : List B) : AObj := .row 9 1 l.length
def tblM (l : List B) : AObj := .map (tblFrom l 0)
def tblP (l : List B) (s : B) : List B := if s ∈ l then l else l ++ [s]
theorem bytes_str : (tab.ti 9).bytes = 16 := rfl
theorem put_new (s : B) {R} (h : R (.tup [vi 0, .val (.bool true)]) [tblO 1 2 [s], tblR [s], tblM [s]]) :
  ACalls Tryz.prog 170 [.ptr 0 0, vs s] [tblF] R := by
 refine acalls_of_xwp (an := an170) tab_ok Tryz.func170 ?_
 conv => whnf
 refine ⟨(by rw [bytes_str]; decide : 1 * ((tab.ti 9).bytes + 1) ≤ 140737488355328), ?_⟩
 conv => whnf
 exact h
theorem put_old (l : List B) (s : B) (hs : s ∈ l) {R} (h : ∀ j, R (.tup [vi j, .val (.bool false)]) [tblO 1 2 l, tblR l, tblM l]) :
  ACalls Tryz.prog 170 [.ptr 0 0, vs s] [tblO 1 2 l, tblR l, tblM l] R := by
 refine acalls_of_xwp (an := an170) tab_ok Tryz.func170 ?_
 obtain ⟨j, hj⟩ := mapFind_some hs 0
 conv => whnf
 rw [hj]
 conv => whnf
 exact h j
theorem put_more (l : List B) (s : B) (hl : l.length < 1000000) (hs : s ∉ l) {R} (h : R (.tup [vi l.length, .val (.bool true)]) [tblO 1 2 (l ++ [s]), tblR (l ++ [s]), tblM (l ++ [s])]) :
  ACalls Tryz.prog 170 [.ptr 0 0, vs s] [tblO 1 2 l, tblR l, tblM l] R := by
 refine acalls_of_xwp (an := an170) tab_ok Tryz.func170 ?_
 conv => whnf
 rw [mapFind_none hs]
 conv => whnf
 refine ⟨(strs_length l).symm, ?_, ?_⟩
 ·rw [strs_length, bytes_str]; simp; omega
 conv => whnf
 have e1 : (strs l ++ [[AV.val (Value.string (ofB s))]]) = strs (l ++ [s]) := (strs_append l [s]).symm
 have e2 : IntKind.i64.wrap (((strs (l ++ [s])).length : Int) - 1) = (l.length : Int) := by
  rw [strs_length, wrap_i64 (by rw [List.length_append]; simp <;> omega) (by rw [List.length_append]; simp <;> omega)]; simp
 have e3 : (strs l).length + [[AV.val (Value.string (ofB s))]].length = (l ++ [s]).length := by simp [strs_length]
 rw [mapPut_new hs, e3, e1, e2, strs_length]
 unfold tblM at h
 rw [tblFrom_append, show (((0 : Nat) : Int) + (l.length : Int)) = l.length by omega] at h
 exact h
theorem tblP_some {l : List B} {s : B} (h : s ∈ l) : tblP l s = l := by simp [tblP, h]
theorem tblP_none {l : List B} {s : B} (h : s ∉ l) : tblP l s = l ++ [s] := by simp [tblP, h]
theorem ID_new (s : B) {R} (h : R (.tup [uv 0, .val (.bool true)]) [tblO 1 2 [s], tblR [s], tblM [s]]) :
  ACalls Tryz.prog 96 [.ptr 0 0, vs s] [tblF] R := by
 refine acalls_of_xwp (an := an96) tab_ok Tryz.func96 ?_
 conv => whnf
 refine put_new s ?_
 conv => whnf
 exact h
theorem ID_old (l : List B) (s : B) (hs : s ∈ l) {R} (h : ∀ j : Int, R (.tup [.val (.int .u64 j), .val (.bool false)]) [tblO 1 2 l, tblR l, tblM l]) :
  ACalls Tryz.prog 96 [.ptr 0 0, vs s] [tblO 1 2 l, tblR l, tblM l] R := by
 refine acalls_of_xwp (an := an96) tab_ok Tryz.func96 ?_
 conv => whnf
 refine put_old l s hs fun j => ?_
 conv => whnf
 exact h _
theorem ID_more (l : List B) (s : B) (hl : l.length < 1000000) (hs : s ∉ l) {R} (h : ∀ j : Int, R (.tup [.val (.int .u64 j), .val (.bool true)]) [tblO 1 2 (l ++ [s]), tblR (l ++ [s]), tblM (l ++ [s])]) :
  ACalls Tryz.prog 96 [.ptr 0 0, vs s] [tblO 1 2 l, tblR l, tblM l] R := by
 refine acalls_of_xwp (an := an96) tab_ok Tryz.func96 ?_
 conv => whnf
 refine put_more l s hl hs ?_
 conv => whnf
 exact h _
theorem Len_old (l : List B) {R} (h : R (vi l.length) [tblO 1 2 l, tblR l, tblM l]) :
  ACalls Tryz.prog 171 [.ptr 0 0] [tblO 1 2 l, tblR l, tblM l] R := by
 refine acalls_of_xwp (an := an171) tab_ok Tryz.func171 ?_
 conv => whnf
 rw [strs_length]
 exact h
def tblS (l : List B) : List AObj := match l with | [] => [tblF] | _ => [tblO 1 2 l, tblR l, tblM l]
theorem New_nil {R} (h : R (.ptr 0 0) [tblF]) : ACalls Tryz.prog 95 [.val (.slice none 0 0)] [] R := by
 refine acalls_of_xwp (an := an95) tab_ok Tryz.func95 ?_
 conv => whnf
 refine LoopP.step ?_
 conv => whnf
 exact h
def tblN (l : List B) : List B := l.foldl tblP []
theorem New_calls (a : B) (l : List B) (hl : l.length < 100000) {R} (h : ∀ m, m = tblN (a :: l) → R (.ptr 0 0) [tblO 1 2 m, tblR m, tblM m]) : ACalls Tryz.prog 95 [.sl none 1 (strs (a :: l))] [] R := by
 refine acalls_of_xwp (an := an95) tab_ok Tryz.func95 ?_
 conv => whnf
 have hsl : (strs (a :: l)).length = l.length + 1 := by rw [strs_length]; rfl
 refine LoopP.step ?_
 conv => whnf
 refine br_true (by rw [hsl]; simp <;> omega) ?_
 conv => whnf
 refine put_new a ?_
 conv => whnf
 refine LoopP.ind2 (fun (i : Nat) (m : List B) => [(10, vi i)]) (fun i m => [(nameOf 7, tblO (freshN 18 0) (freshN 18 1) m), (freshN 18 0, tblR m), (freshN 18 1, tblM m)]) (fun i _ => l.length + 1 - i)
  (fun i m => 1 ≤ i ∧ i ≤ l.length + 1 ∧ m.length ≤ i ∧ (l.drop (i - 1)).foldl tblP m = tblN (a :: l)) 1 [a] rfl ⟨by omega, by omega, by simp, by simp [tblN, tblP]⟩ ?_
 rintro i m ⟨h0, h1, h2, h3⟩ IH
 conv => whnf
 refine br_intro (fun hc => ?_) (fun hc => ?_)
 ·have hc : i < l.length + 1 := by rw [hsl] at hc; simp at hc; omega
  have hi : i < (a :: l).length := by simpa using hc
  conv => whnf
  refine idxK_map_intro (show (i : Int).toNat < (a :: l).length by simpa using hc) ?_
  obtain ⟨s, hs⟩ : ∃ s, s = (a :: l)[(i : Int).toNat]'(by simpa using hc) := ⟨_, rfl⟩
  rw [← hs]
  have hd : l.drop (i - 1) = s :: l.drop i := by
   rw [List.drop_eq_getElem_cons (show i - 1 < l.length by omega), show i - 1 + 1 = i by omega, hs]
   congr 1
   obtain ⟨j, rfl⟩ : ∃ j, i = j + 1 := ⟨i - 1, by omega⟩
   simp
  rw [hd, List.foldl_cons] at h3
  conv => whnf
  by_cases hm : s ∈ m
  ·refine put_old m s hm fun j => ?_
   rw [tblP_some hm] at h3
   conv => whnf
   rw [wrap_i64 (by omega) (by omega)]
   exact IH (i + 1) m ⟨by omega, by omega, by omega, by simpa using h3⟩ (by omega)
  ·refine put_more m s (by omega) hm ?_
   rw [tblP_none hm] at h3
   conv => whnf
   rw [wrap_i64 (by omega) (by omega)]
   exact IH (i + 1) (m ++ [s]) ⟨by omega, by omega, by simp; omega, by simpa using h3⟩ (by omega)
 ·have hc : i = l.length + 1 := by rw [hsl] at hc; simp at hc; omega
  subst hc
  rw [Nat.add_sub_cancel, List.drop_length] at h3
  conv => whnf
  exact h m h3
end Go.Abs
end
section
namespace Go.Abs
open Go Go.Proofs
namespace Dig
def plus : U := 0x9e3779b97f4a7c15#64
def first : U := 0xbf58476d1ce4e5b9#64
def other : U := 0x94d049bb133111eb#64
def down (k : Nat) (x : U) : U := x ^^^ (x >>> k)
def dig (n : U) : U := down 31 (down 27 (down 30 (n + plus) * first) * other)
def up (k : Nat) (h : U) : U := h ^^^ ((h ^^^ (h >>> k)) >>> k)
def back (n : U) : U := let b0 := n; let s := fun b : U => b * (2 - n * b); s (s (s (s (s (s b0)))))
def fold (n : U) (l : List U) : U := l.foldl (fun h x => dig (h ^^^ x)) (dig n)
end Dig
open Dig
end Go.Abs
end
section
namespace Go.Abs
open Go Go.Proofs Dig
theorem args_nil {l : List AV} (h : Args tab 12 [] l) : l = [] := h
theorem wf_u64 {x : Int} (h : (Lit.int .u64 x).wf = true) : x = ((BitVec.ofInt 64 x : U).toNat : Int) := by
 simp only [Lit.wf, Bool.and_eq_true, decide_eq_true_eq] at h
 have e1 : IntKind.u64.min = 0 := rfl
 have e2 : IntKind.u64.max = 18446744073709551615 := rfl
 rw [e1, e2] at h
 exact u_of (by omega) (by omega)
end Go.Abs
end
section
namespace Go.Abs
open Go Go.Proofs
attribute [local irreducible] ibits byteAt strLt firstIdx
structure Nd where
 name : B
 source : Bool
 rule : U
 deps : List B
def Nd.enc (n : Nd) : List AV := [vs n.name, .val (.bool n.source), uv n.rule, .sl none 1 (strs n.deps)]
def nds (l : List Nd) : List (List AV) := l.map Nd.enc
theorem nds_length (l : List Nd) : (nds l).length = l.length := by simp [nds]
def ints (l : List Nat) : List (List AV) := l.map fun (i : Nat) => [vi (i : Int)]
theorem ints_length (l : List Nat) : (ints l).length = l.length := by simp [ints]
def nameOk (s : B) : Bool := decide (1 ≤ s.length) && decide (s.length ≤ 64)
theorem Name_calls (s : B) {R} (h : R (.val (.bool (nameOk s))) []) : ACalls Tryz.prog 88 [vs s] [] R := by
 refine acalls_of_xwp (an := an88) tab_ok Tryz.func88 ?_
 have hsz : (ofB s).size = s.length := size_ofB s
 conv => whnf
 rw [hsz]
 refine br_intro (fun hc => ?_) (fun hc => ?_)
 ·conv => whnf
  have : nameOk s = decide ((s.length : Int) ≤ 64) := by
   unfold nameOk
   rw [hsz] at *
   have hc : 1 ≤ s.length := by simp at hc; omega
   simp [hc]
   omega
  rw [hsz, ← this]
  exact h
 ·conv => whnf
  have : nameOk s = false := by
   have hc : s.length = 0 := by simp at hc; omega
   simp [nameOk, hc]
  rw [this] at h
  exact h
theorem refName_calls (s : B) {R} (h : R (.val (.bool (nameOk s))) []) : ACalls Tryz.prog 93 [vs s] [] R := by
 refine acalls_of_xwp (an := an93) tab_ok Tryz.func93 ?_
 have hsz : (ofB s).size = s.length := size_ofB s
 conv => whnf
 refine br_intro (fun hc => ?_) (fun hc => ?_)
 ·have hc : s ≠ [] := by
   rintro rfl
   simp at hc
   exact hc rfl
  have hl : 1 ≤ s.length := by cases s with | nil => exact absurd rfl hc | cons a s => simp
  conv => whnf
  have : nameOk s = decide ((s.length : Int) < 65) := by
   unfold nameOk
   simp [hl]
   omega
  rw [hsz, ← this]
  exact h
 ·have hc : s = [] := by
   simp at hc
   have : ofB s = ofB [] := hc
   exact ofB_inj this
  subst hc
  conv => whnf
  exact h
def placeOf : List B → B → Option Nat
 | [], _ => none
 | a :: l, s => if a = s then some 0 else (placeOf l s).map (· + 1)
def placeI (l : List B) (s : B) : Int := match placeOf l s with | some i => i | none => -1
theorem placeOf_none {l : List B} {s : B} : placeOf l s = none ↔ s ∉ l := by
 induction l with
 | nil => simp [placeOf]
 | cons a l ih =>
  simp only [placeOf]
  by_cases h : a = s
  ·simp [h]
  ·rw [if_neg h]
   simp only [Option.map_eq_none_iff, ih, List.mem_cons, not_or]
   exact ⟨fun h' => ⟨fun e => h e.symm, h'⟩, fun h' => h'.2⟩
theorem placeOf_some {l : List B} {s : B} {i : Nat} (h : placeOf l s = some i) : l[i]? = some s ∧ ∀ j, j < i → l[j]? ≠ some s := by
 induction l generalizing i with
 | nil => simp [placeOf] at h
 | cons a l ih =>
  simp only [placeOf] at h
  by_cases e : a = s
  ·rw [if_pos e] at h
   cases h
   subst e
   exact ⟨rfl, fun j hj => by omega⟩
  ·rw [if_neg e] at h
   obtain ⟨k, hk, rfl⟩ := Option.map_eq_some_iff.1 h
   obtain ⟨h1, h2⟩ := ih hk
   refine ⟨by simpa using h1, fun j hj => ?_⟩
   cases j with
   | zero => simpa using e
   | succ j => simpa using h2 j (by omega)
theorem placeI_neg {l : List B} {s : B} : placeI l s < 0 ↔ s ∉ l := by
 rw [← placeOf_none]
 unfold placeI
 cases placeOf l s with
 | none => simp
 | some i => simp
theorem placeOf_of {l : List B} {s : B} {i : Nat} (h : l[i]? = some s) (h' : ∀ j, j < i → l[j]? ≠ some s) : placeOf l s = some i := by
 cases e : placeOf l s with
 | none => exact absurd (List.mem_of_getElem? h) (placeOf_none.1 e)
 | some k =>
  obtain ⟨h1, h2⟩ := placeOf_some e
  rcases Nat.lt_trichotomy i k with hl | rfl | hl
  ·exact absurd h (h2 _ hl)
  ·rfl
  ·exact absurd h1 (h' _ hl)
theorem i64_nat {i : Nat} (h : i < 1000000000) : IntKind.i64.wrap ((i : Int) + 1) = ((i + 1 : Nat) : Int) := wrap_i64 (by omega) (by omega)
theorem lt_of_dec {i n : Nat} (h : decide ((i : Int) < (n : Int)) = true) : i < n := by simpa using h
theorem ge_of_dec {i n : Nat} (h : decide ((i : Int) < (n : Int)) = false) : n ≤ i := by simp at h; omega
theorem lt_of_decE {i n m : Nat} (e : m = n) (h : decide ((i : Int) < (m : Int)) = true) : i < n := by subst e; simpa using h
theorem ge_of_decE {i n m : Nat} (e : m = n) (h : decide ((i : Int) < (m : Int)) = false) : n ≤ i := by subst e; simp at h; omega
theorem Place_calls (l : List B) (s : B) (hl : l.length < 1000000) {X : List (List AV)} (hX : X = strs l) {R} (h : ∀ p, p = placeI l s → R (vi p) []) : ACalls Tryz.prog 208 [.sl none 1 X, vs s] [] R := by
 subst hX
 refine acalls_of_xwp (an := an208) tab_ok Tryz.func208 ?_
 have hsl := strs_length l
 conv => whnf
 refine LoopP.ind1 (fun (i : Nat) => [(5, vi i)]) (fun _ => []) (fun i => l.length - i) (fun i => i ≤ l.length ∧ ∀ j, j < i → l[j]? ≠ some s) 0 rfl ⟨by omega, fun j hj => by omega⟩ ?_
 rintro i ⟨h0, h1⟩ IH
 conv => whnf
 rw [hsl]
 refine br_intro (fun hc => ?_) (fun hc => ?_)
 ·have hc := lt_of_dec hc
  (conv => whnf); (repeat ((with_reducible refine must_intro ?_ ?_); exact decide_eq_true (by omega); (conv => whnf)))
  refine idxK_map_intro (show (i : Int).toNat < l.length by simpa using hc) ?_
  rw [show l[(i : Int).toNat]'(by simpa using hc) = l[i] from by congr 1]
  conv => whnf
  refine br_intro (fun he => ?_) (fun he => ?_)
  ·have he : l[i] = s := by simpa [ofB_eq] using he
   conv => whnf
   refine h _ ?_
   rw [placeI, placeOf_of (i := i) (by rw [List.getElem?_eq_getElem hc, he]) h1]
  ·have he : l[i] ≠ s := by simpa [ofB_eq] using he
   conv => whnf
   rw [i64_nat (by omega)]
   refine IH (i + 1) ⟨by omega, fun j hj => ?_⟩ (by omega)
   rcases Nat.lt_or_ge j i with hlt | hge
   ·exact h1 j hlt
   ·obtain rfl : j = i := by omega
    rw [List.getElem?_eq_getElem hc]
    simpa using he
 ·have hc := ge_of_dec hc
  conv => whnf
  refine h (-1) ?_
  have : s ∉ l := by
   intro hm
   obtain ⟨j, hj, e⟩ := List.getElem_of_mem hm
   exact h1 j (by omega) (by rw [List.getElem?_eq_getElem hj, e])
  rw [placeI, placeOf_none.2 this]
def ltB (a b : B) : Bool := Op.bytesLess a b
theorem strLt_ofB (a b : B) : strLt (ofB a) (ofB b) = ltB a b := by
 unfold strLt ltB
 rw [ByteArray.toList_eq, ByteArray.toList_eq]
 show Op.bytesLess (bs (ofB a)) (bs (ofB b)) = _
 rw [bs_ofB, bs_ofB]
theorem ltB_drop {a b : B} : ∀ {i : Nat}, (∀ j, j < i → a[j]? = b[j]?) → i ≤ a.length → i ≤ b.length → ltB (a.drop i) (b.drop i) = ltB a b := by
 intro i
 induction i generalizing a b with
 | zero => intro _ _ _; simp
 | succ i ih =>
  intro h ha hb
  cases a with
  | nil => simp at ha
  | cons x a =>
   cases b with
   | nil => simp at hb
   | cons y b =>
    have h0 : x = y := by simpa using h 0 (by omega)
    subst h0
    simp only [List.drop_succ_cons]
    rw [ih (fun j hj => by simpa using h (j + 1) (by omega)) (by simpa using ha) (by simpa using hb)]
    simp [ltB, Op.bytesLess]
theorem u8_lt {a b : UInt8} : decide (((a.toNat : Nat) : Int) < ((b.toNat : Nat) : Int)) = decide (a < b) := by
 apply decide_eq_decide.2
 rw [UInt8.lt_iff_toNat_lt]
 omega
theorem Less_calls (a b : B) (ha : a.length < 1000000) (hb : b.length < 1000000) {R} (h : ∀ p, p = ltB a b → R (.val (.bool p)) []) : ACalls Tryz.prog 213 [vs a, vs b] [] R := by
 refine acalls_of_xwp (an := an213) tab_ok Tryz.func213 ?_
 have hsa := size_ofB a
 have hsb := size_ofB b
 conv => whnf
 refine LoopP.ind1 (fun (i : Nat) => [(5, vi i)]) (fun _ => []) (fun i => a.length - i) (fun i => i ≤ a.length ∧ i ≤ b.length ∧ ∀ j, j < i → a[j]? = b[j]?) 0 rfl ⟨by omega, by omega, fun j hj => by omega⟩ ?_
 rintro i ⟨h0, h0', h1⟩ IH
 have hend : (a.length ≤ i ∨ b.length ≤ i) → ltB a b = decide ((a.length : Int) < (b.length : Int)) := by
  intro hc
  rw [← ltB_drop h1 h0 h0']
  rcases hc with hc | hc
  ·rw [List.drop_eq_nil_of_le hc]
   cases hd : b.drop i with
   | nil =>
    have := List.drop_eq_nil_iff.1 hd
    simp [ltB, Op.bytesLess]; omega
   | cons y l =>
    have : i < b.length := by
     rcases Nat.lt_or_ge i b.length with h | h
     ·exact h
     ·rw [List.drop_eq_nil_of_le h] at hd; cases hd
    simp [ltB, Op.bytesLess]; omega
  ·rw [List.drop_eq_nil_of_le hc]
   have : ltB (a.drop i) [] = false := by cases a.drop i <;> rfl
   rw [this]
   simp; omega
 conv => whnf
 rw [hsa]
 refine br_intro (fun hc => ?_) (fun hc => ?_)
 ·have hc := lt_of_dec hc
  conv => whnf
  rw [hsb]
  refine br_intro (fun hc' => ?_) (fun hc' => ?_)
  ·have hc' := lt_of_dec hc'
   have ea : byteAt (ofB a) (i : Int).toNat = ((a[i]).toNat : Int) := by rw [Int.toNat_natCast, byteAt_ofB a hc]
   have eb : byteAt (ofB b) (i : Int).toNat = ((b[i]).toNat : Int) := by rw [Int.toNat_natCast, byteAt_ofB b hc']
   (conv => whnf); (repeat ((with_reducible refine must_intro ?_ ?_); exact decide_eq_true (by omega); (conv => whnf)))
   rw [ea, eb]
   refine br_intro (fun he => ?_) (fun he => ?_)
   ·have he : a[i] ≠ b[i] := by
     intro e
     rw [e] at he
     simp at he
    (conv => whnf); (repeat ((with_reducible refine must_intro ?_ ?_); exact decide_eq_true (by omega); (conv => whnf)))
    rw [ea, eb, u8_lt]
    refine h _ ?_
    rw [← ltB_drop h1 h0 h0', List.drop_eq_getElem_cons hc, List.drop_eq_getElem_cons hc']
    simp [ltB, Op.bytesLess, he]
   ·have he : a[i] = b[i] := by
     simp at he
     exact u8_inj.1 he
    conv => whnf
    rw [i64_nat (by omega)]
    refine IH (i + 1) ⟨by omega, by omega, fun j hj => ?_⟩ (by omega)
    rcases Nat.lt_or_ge j i with hlt | hge
    ·exact h1 j hlt
    ·obtain rfl : j = i := by omega
     rw [List.getElem?_eq_getElem hc, List.getElem?_eq_getElem hc', he]
  ·have hc' := ge_of_dec hc'
   conv => whnf
   rw [hsa, hsb]
   exact h _ (hend (.inr hc')).symm
 ·have hc := ge_of_dec hc
  conv => whnf
  rw [hsa, hsb]
  exact h _ (hend (.inl hc)).symm
theorem tblP_foldl : ∀ (l m : List B), (l.foldl tblP m).length ≤ m.length + l.length ∧ ((l.foldl tblP m).length = m.length + l.length ↔ l.Nodup ∧ ∀ x ∈ l, x ∉ m) := by
 intro l
 induction l with
 | nil => intro m; simp
 | cons a l ih =>
  intro m
  rw [List.foldl_cons]
  obtain ⟨h1, h2⟩ := ih (tblP m a)
  by_cases ha : a ∈ m
  ·rw [tblP_some ha] at h1 h2 ⊢
   refine ⟨by simp; omega, ⟨fun h => by simp at h; omega, fun h => absurd ha (h.2 a (by simp))⟩⟩
  ·rw [tblP_none ha] at h1 h2 ⊢
   simp only [List.length_append, List.length_cons, List.length_nil] at h1 h2 ⊢
   refine ⟨by omega, ?_⟩
   rw [show (List.foldl tblP (m ++ [a]) l).length = m.length + (l.length + 1) ↔ (List.foldl tblP (m ++ [a]) l).length = m.length + (0 + 1) + l.length by omega, h2]
   simp only [List.nodup_cons, List.mem_append, List.mem_cons, List.not_mem_nil, or_false, not_or]
   constructor
   ·rintro ⟨g1, g2⟩
    exact ⟨⟨fun h => (g2 a h).2 rfl, g1⟩, fun x hx => by
     rcases hx with rfl | hx
     ·exact ha
     ·exact (g2 x hx).1⟩
   ·rintro ⟨⟨g1, g2⟩, g3⟩
    exact ⟨g2, fun x hx => ⟨g3 x (.inr hx), fun e => g1 (e ▸ hx)⟩⟩
theorem tblN_len (l : List B) : ((tblN l).length : Int) = l.length ↔ l.Nodup := by
 have := (tblP_foldl l []).2
 unfold tblN
 rw [show (((List.foldl tblP [] l).length : Nat) : Int) = ((l.length : Nat) : Int) ↔ (List.foldl tblP [] l).length = ([] : List B).length + l.length by simp; omega, this]
 simp
def oneBad (n : Nd) : Bool := !nameOk n.name || (n.source && (decide (0 < n.deps.length) || !decide (n.rule = 0)))
def oneP (n : Nd) : Int := if oneBad n = true then 1 else if ¬ (n.name :: n.deps).Nodup then 1 else if 16 < n.deps.length then 5 else 0
theorem one_calls (n : Nd) (hn : n.deps.length < 10000) {R} (h : ∀ e, e = oneP n → R (vi e) []) : ACalls Tryz.prog 97 [.agg n.enc] [] R := by
 refine acalls_of_xwp (an := an97) tab_ok Tryz.func97 ?_
 have hsl := strs_length n.deps
 have bad : oneBad n = true → R (vi 1) [] := fun hb => h 1 (by simp [oneP, hb])
 have len : (strs n.deps).length = n.deps.length := strs_length _
 conv => whnf
 refine Name_calls n.name ?_
 conv => whnf
 refine br_intro (fun h1 => ?_) (fun h1 => ?_)
 ·conv => whnf
  exact bad (by simp at h1; simp [oneBad, h1])
 have h1 : nameOk n.name = true := by simpa using h1
 have rest : oneBad n = false → (∀ m, m = tblN (n.name :: n.deps) → ((m.length : Int) = n.deps.length + 1 ↔ (n.name :: n.deps).Nodup)) := fun hb m hm => by
  subst hm
  have := tblN_len (n.name :: n.deps)
  rw [List.length_cons] at this
  push_cast at this
  exact this
 conv => whnf
 refine br_intro (fun h2 => ?_) (fun h2 => ?_)
 ·conv => whnf
  refine br_intro (fun h3 => ?_) (fun h3 => ?_)
  ·conv => whnf
   refine bad ?_
   have h3 : 0 < n.deps.length := by rw [len] at h3; simp at h3; omega
   simp [oneBad, h2, h3]
  ·conv => whnf
   have h3 : n.deps.length = 0 := by rw [len] at h3; simpa using h3
   refine br_intro (fun h4 => ?_) (fun h4 => ?_)
   ·conv => whnf
    refine bad ?_
    have h4 : ¬ n.rule = 0 := by
     rintro e
     rw [e] at h4
     simp at h4
    unfold oneBad
    rw [h1, h2, decide_eq_false h4]
    simp
   ·conv => whnf
    have h4 : n.rule = 0 := by
     have : ((n.rule.toNat : Nat) : Int) = ((0 : U).toNat : Int) := by simpa using h4
     exact u_inj.1 this
    have hb : oneBad n = false := by
     unfold oneBad
     rw [h1, h2, h3, h4]
     simp
    refine ⟨rfl, (show (1 + (strs n.deps).length) * ((tab.ti 9).bytes + 1) ≤ 140737488355328 by rw [len, bytes_str]; omega), ?_⟩
    conv => whnf
    refine New_calls n.name n.deps (by omega) fun m hm => ?_
    have hm' := rest hb m hm
    conv => whnf
    refine Len_old m ?_
    conv => whnf
    have fin : ∀ p : Bool, p = decide (¬ (n.name :: n.deps).Nodup) → oneP n = (if p = true then 1 else if 16 < n.deps.length then 5 else 0) := by
     rintro p rfl
     unfold oneP
     rw [if_neg (by rw [hb]; simp)]
     by_cases hd : (n.name :: n.deps).Nodup
     ·have hdd : decide (¬ (n.name :: n.deps).Nodup) = false := decide_eq_false (not_not_intro hd)
      rw [if_neg (not_not_intro hd)]
      simp only [hdd, Bool.false_eq_true, if_false]
     ·rw [if_pos hd, if_pos (decide_eq_true hd)]
    rw [len, wrap_i64 (by omega) (by omega)]
    refine br_intro (fun g1 => ?_) (fun g1 => ?_)
    ·conv => whnf
     refine h 1 ?_
     rw [fin true]
     ·simp
     ·symm
      apply decide_eq_true
      rw [← hm']
      intro e
      rw [e] at g1
      simp at g1
    ·have g1 : (n.name :: n.deps).Nodup := by
      rw [← hm']
      simpa using g1
     have fin := fin false (by simp only [g1, not_true, decide_false])
     conv => whnf
     rw [len]
     refine br_intro (fun g2 => ?_) (fun g2 => ?_)
     ·conv => whnf
      refine h 5 ?_
      rw [fin]
      have : 16 < n.deps.length := by simp at g2; omega
      simp [this]
     ·conv => whnf
      refine h 0 ?_
      rw [fin]
      have : ¬ 16 < n.deps.length := by simp at g2; omega
      simp [this]
 ·conv => whnf
  have hb : oneBad n = false := by
   unfold oneBad
   rw [h1, h2]
   simp
  refine ⟨rfl, (show (1 + (strs n.deps).length) * ((tab.ti 9).bytes + 1) ≤ 140737488355328 by rw [len, bytes_str]; omega), ?_⟩
  conv => whnf
  refine New_calls n.name n.deps (by omega) fun m hm => ?_
  have hm' := rest hb m hm
  conv => whnf
  refine Len_old m ?_
  conv => whnf
  have fin : ∀ p : Bool, p = decide (¬ (n.name :: n.deps).Nodup) → oneP n = (if p = true then 1 else if 16 < n.deps.length then 5 else 0) := by
   rintro p rfl
   unfold oneP
   rw [if_neg (by rw [hb]; simp)]
   by_cases hd : (n.name :: n.deps).Nodup
   ·have hdd : decide (¬ (n.name :: n.deps).Nodup) = false := decide_eq_false (not_not_intro hd)
    rw [if_neg (not_not_intro hd)]
    simp only [hdd, Bool.false_eq_true, if_false]
   ·rw [if_pos hd, if_pos (decide_eq_true hd)]
  rw [len, wrap_i64 (by omega) (by omega)]
  refine br_intro (fun g1 => ?_) (fun g1 => ?_)
  ·conv => whnf
   refine h 1 ?_
   rw [fin true]
   ·simp
   ·symm
    apply decide_eq_true
    rw [← hm']
    intro e
    rw [e] at g1
    simp at g1
  ·have g1 : (n.name :: n.deps).Nodup := by
    rw [← hm']
    simpa using g1
   have fin := fin false (by simp only [g1, not_true, decide_false])
   conv => whnf
   rw [len]
   refine br_intro (fun g2 => ?_) (fun g2 => ?_)
   ·conv => whnf
    refine h 5 ?_
    rw [fin]
    have : 16 < n.deps.length := by simp at g2; omega
    simp [this]
   ·conv => whnf
    refine h 0 ?_
    rw [fin]
    have : ¬ 16 < n.deps.length := by simp at g2; omega
    simp [this]
def KeyMap (Pv : AV → Prop) (es : List (ByteArray × AV)) (S : B → Prop) : Prop := ∀ s, (S s → ∃ v, mapFind es (ofB s) = some v ∧ Pv v) ∧ (¬ S s → mapFind es (ofB s) = none)
theorem mapFind_put (es : List (ByteArray × AV)) (k k' : ByteArray) (v : AV) : mapFind (mapPut es k v) k' = if k = k' then some v else mapFind es k' := by
 induction es with
 | nil => simp [mapPut, mapFind]
 | cons e es ih =>
  obtain ⟨s, u⟩ := e
  simp only [mapPut]
  by_cases h : s = k
  ·subst h
   rw [if_pos rfl]
   simp only [mapFind]
   split <;> simp_all
  ·rw [if_neg h]
   simp only [mapFind, ih]
   by_cases h1 : s = k'
   ·subst h1
    rw [if_pos rfl, if_neg (Ne.symm h), if_pos rfl]
   ·rw [if_neg h1, if_neg h1]
theorem KeyMap.nil (Pv : AV → Prop) : KeyMap Pv [] fun _ => False := fun s => ⟨fun h => h.elim, fun _ => rfl⟩
theorem KeyMap.put {Pv : AV → Prop} {es : List (ByteArray × AV)} {S S' : B → Prop} (h : KeyMap Pv es S) (k : B) {v : AV} (hv : Pv v) (hS : ∀ s, S' s ↔ S s ∨ s = k) : KeyMap Pv (mapPut es (ofB k) v) S' := by
 intro s
 rw [mapFind_put]
 by_cases e : k = s
 ·subst e
  rw [if_pos rfl]
  exact ⟨fun _ => ⟨v, rfl, hv⟩, fun hn => absurd ((hS k).2 (.inr rfl)) hn⟩
 ·rw [if_neg (fun e' => e (ofB_inj e'))]
  refine ⟨fun hs => (h s).1 (((hS s).1 hs).resolve_right (fun e' => e e'.symm)), fun hs => (h s).2 fun hs' => hs ((hS s).2 (.inl hs'))⟩
theorem places_calls (l : List Nd) (hl : l.length < 1000000) {R} (h : ∀ es, KeyMap (fun v => ∃ j, v = vi j) es (fun s => s ∈ l.map (·.name)) → R (.mapv 0) [.map es]) : ACalls Tryz.prog 98 [.sl none 4 (nds l)] [] R := by
 refine acalls_of_xwp (an := an98) tab_ok Tryz.func98 ?_
 have hsl := nds_length l
 conv => whnf
 refine LoopP.ind2 (fun (i : Nat) (es : List (ByteArray × AV)) => [(9, vi i)]) (fun _ es => [(nameOf 6, .map es)]) (fun i _ => l.length - i) (fun i es => i ≤ l.length ∧ KeyMap (fun v => ∃ j, v = vi j) es (fun s => s ∈ (l.take i).map (·.name))) 0 [] rfl ⟨by omega, by simpa using KeyMap.nil _⟩ ?_
 rintro i es ⟨h0, h1⟩ IH
 conv => whnf
 refine br_intro (fun hc => ?_) (fun hc => ?_)
 ·have hc := lt_of_decE hsl hc
  (conv => whnf); (repeat ((with_reducible refine must_intro ?_ ?_); exact decide_eq_true (by omega); (conv => whnf)))
  refine idxK_map_intro (show (i : Int).toNat < l.length by simpa using hc) ?_
  rw [show l[(i : Int).toNat]'(by simpa using hc) = l[i] from by congr 1]
  conv => whnf
  rw [i64_nat (by omega)]
  refine IH (i + 1) (mapPut es (ofB l[i].name) (vi i)) ⟨by omega, ?_⟩ (by omega)
  refine h1.put l[i].name ⟨_, rfl⟩ fun s => ?_
  rw [List.take_succ_eq_append_getElem hc]
  simp only [List.map_append, List.map_cons, List.map_nil, List.mem_append, List.mem_singleton]
 ·have hc := ge_of_decE hsl hc
  conv => whnf
  refine h es ?_
  rwa [List.take_of_length_le hc] at h1
def nm (l : List Nd) (i : Nat) : B := ((l[i]?).map (·.name)).getD []
theorem nm_eq {l : List Nd} {i : Nat} (h : i < l.length) : nm l i = l[i].name := by simp [nm, List.getElem?_eq_getElem h]
def dps (l : List Nd) (i : Nat) : List B := ((l[i]?).map (·.deps)).getD []
theorem dps_eq {l : List Nd} {i : Nat} (h : i < l.length) : dps l i = l[i].deps := by simp [dps, List.getElem?_eq_getElem h]
def ready (l : List Nd) (D : List B) (i : Nat) : Bool := decide (nm l i ∉ D) && decide (∀ d ∈ dps l i, d ∈ D)
def bstep (l : List Nd) (D : List B) (best : Option Nat) (i : Nat) : Option Nat :=
 if ready l D i = true ∧ (∀ b, best = some b → ltB (nm l i) (nm l b) = true) then some i else best
def best (l : List Nd) (D : List B) (k : Nat) : Option Nat := (List.range k).foldl (bstep l D) none
theorem best_succ (l : List Nd) (D : List B) (k : Nat) : best l D (k + 1) = bstep l D (best l D k) k := by simp [best, List.range_succ]
theorem best_some {l : List Nd} {D : List B} : ∀ {k b : Nat}, best l D k = some b → b < k ∧ ready l D b = true := by
 intro k
 induction k with
 | zero => intro b h; simp [best] at h
 | succ k ih =>
  intro b h
  rw [best_succ] at h
  unfold bstep at h
  split at h
  ·rename_i hc
   simp only [Option.some.injEq] at h
   subst h
   exact ⟨by omega, hc.1⟩
  ·have := ih h
   exact ⟨by omega, this.2⟩
def bestI (o : Option Nat) : Int := match o with | none => -1 | some b => b
def rowFrom (l : List Nd) : Nat → List Nat → List Nat
 | 0, out => out
 | k + 1, out => match best l (out.map (nm l)) l.length with
  | none => out
  | some b => rowFrom l k (out ++ [b])
def rowP (l : List Nd) : List Nat := rowFrom l l.length []
abbrev isT (v : AV) : Prop := v = .val (.bool true)
theorem rowf_calls (s : B) (D : List B) (es : List (ByteArray × AV)) (hk : KeyMap isT es (· ∈ D)) {R} (h : R (.val (.bool (decide (s ∉ D)))) [.cells 185 [.mapv 1], .map es]) :
  ACalls Tryz.prog 100 [vs s, .ptr 0 0] [.cells 185 [.mapv 1], .map es] R := by
 refine acalls_of_xwp (an := an100) tab_ok Tryz.func100 ?_
 by_cases hs : s ∈ D
 ·obtain ⟨v, h1, rfl⟩ := (hk s).1 hs
  conv => whnf
  rw [h1]
  rw [decide_eq_false (not_not_intro hs)] at h
  conv => whnf
  exact h
 ·have h1 := (hk s).2 hs
  conv => whnf
  rw [h1]
  rw [decide_eq_true hs] at h
  conv => whnf
  exact h
theorem rowIdx_calls (l : List B) (hl : l.length < 1000000) (D : List B) (es : List (ByteArray × AV)) (hk : KeyMap isT es (· ∈ D)) {R} (h : ∀ p : Int, (0 ≤ p ↔ ∃ d ∈ l, d ∉ D) → R (vi p) [.cells 185 [.mapv 1], .map es]) :
  ACalls Tryz.prog 172 [.sl none 1 (strs l), .fn (.func 100) [] [.ptr 0 0]] [.cells 185 [.mapv 1], .map es] R := by
 refine acalls_of_xwp (an := an172) tab_ok Tryz.func172 ?_
 have hsl := strs_length l
 conv => whnf
 refine LoopP.ind1 (fun (i : Nat) => [(8, vi i)]) (fun _ => [(0, .cells 185 [.mapv 1]), (1, .map es)]) (fun i => l.length - i) (fun i => i ≤ l.length ∧ ∀ d ∈ l.take i, d ∈ D) 0 rfl ⟨by omega, by simp⟩ ?_
 rintro i ⟨h0, h1⟩ IH
 conv => whnf
 refine br_intro (fun hc => ?_) (fun hc => ?_)
 ·have hc := lt_of_decE hsl hc
  (conv => whnf); (repeat ((with_reducible refine must_intro ?_ ?_); exact decide_eq_true (by omega); (conv => whnf)))
  refine idxK_map_intro (show (i : Int).toNat < l.length by simpa using hc) ?_
  rw [show l[(i : Int).toNat]'(by simpa using hc) = l[i] from by congr 1]
  conv => whnf
  refine rowf_calls l[i] D es hk ?_
  conv => whnf
  refine br_intro (fun he => ?_) (fun he => ?_)
  ·have he : l[i] ∉ D := of_decide_eq_true he
   conv => whnf
   exact h _ ⟨fun _ => ⟨_, List.getElem_mem hc, he⟩, fun _ => by omega⟩
  ·have he : l[i] ∈ D := by simpa using he
   conv => whnf
   rw [i64_nat (by omega)]
   refine IH (i + 1) ⟨by omega, fun d hd => ?_⟩ (by omega)
   rw [List.take_succ_eq_append_getElem hc, List.mem_append, List.mem_singleton] at hd
   rcases hd with hd | rfl
   ·exact h1 d hd
   ·exact he
 ·have hc := ge_of_decE hsl hc
  rw [List.take_of_length_le hc] at h1
  conv => whnf
  exact h (-1) ⟨fun hh => by omega, fun ⟨d, hd, hn⟩ => absurd (h1 d hd) hn⟩
theorem rowAny_calls (l : List B) (hl : l.length < 1000000) (D : List B) (es : List (ByteArray × AV)) (hk : KeyMap isT es (· ∈ D)) {R} (h : ∀ b, b = decide (∃ d ∈ l, d ∉ D) → R (.val (.bool b)) [.cells 185 [.mapv 1], .map es]) :
  ACalls Tryz.prog 99 [.sl none 1 (strs l), .fn (.func 100) [] [.ptr 0 0]] [.cells 185 [.mapv 1], .map es] R := by
 refine acalls_of_xwp (an := an99) tab_ok Tryz.func99 ?_
 conv => whnf
 refine rowIdx_calls l hl D es hk fun p hp => ?_
 conv => whnf
 refine h _ ?_
 exact decide_eq_decide.2 hp
def small (l : List Nd) : Prop := l.length < 100000 ∧ ∀ n ∈ l, n.deps.length < 10000 ∧ n.name.length < 10000 ∧ ∀ d ∈ n.deps, d.length < 10000
theorem row_calls (l : List Nd) (hl : small l) {R} (h : ∀ r, r = rowP l → R (.sl none 1 (ints r)) []) : ACalls Tryz.prog 44 [.sl none 4 (nds l)] [] R := by
 refine acalls_of_xwp (an := an44) tab_ok Tryz.func44 ?_
 obtain ⟨hlen, hsm⟩ := hl
 have hsl := nds_length l
 conv => whnf
 refine LoopP.ind2 (fun (out : List Nat) (es : List (ByteArray × AV)) => [(4, .sl (some (nameOf 4)) 1 (ints out)), (12, vi out.length)]) (fun out es => [(nameOf 3, .cells 185 [.mapv (nameOf 9)]), (nameOf 4, .row 3 1 out.length), (nameOf 9, .map es)])
  (fun out _ => l.length - out.length) (fun out es => out.length ≤ l.length ∧ rowFrom l (l.length - out.length) out = rowP l ∧ KeyMap isT es (· ∈ out.map (nm l)) ∧ ∀ b ∈ out, b < l.length) [] [] rfl ⟨by simp, rfl, by simpa using KeyMap.nil _, by simp⟩ ?_
 rintro out es ⟨h0, h1, hk, hb⟩ IH
 have hol := ints_length out
 conv => whnf
 refine br_intro (fun hc => ?_) (fun hc => ?_)
 ·have hc := lt_of_decE hsl hc
  conv => whnf
  refine LoopP.ind1 (fun (k : Nat) => [(5, vi (bestI (best l (out.map (nm l)) k))), (16, vi k)]) (fun _ => [(nameOf 3, .cells 185 [.mapv (nameOf 9)]), (nameOf 4, .row 3 1 out.length), (nameOf 9, .map es)]) (fun k => l.length - k) (fun k => k ≤ l.length) 0 rfl (by omega) ?_
  rintro k hk0 IH2
  conv => whnf
  refine br_intro (fun hc2 => ?_) (fun hc2 => ?_)
  ·have hc2 := lt_of_decE hsl hc2
   (conv => whnf); (repeat ((with_reducible refine must_intro ?_ ?_); exact decide_eq_true (by omega); (conv => whnf)))
   refine idxK_map_intro (show (k : Int).toNat < l.length by simpa using hc2) ?_
   rw [show l[(k : Int).toNat]'(by simpa using hc2) = l[k] from by congr 1]
   conv => whnf
   have same : ready l (out.map (nm l)) k = false → bestI (best l (out.map (nm l)) k) = bestI (best l (out.map (nm l)) (k + 1)) := by
    intro hr
    rw [best_succ]
    unfold bstep
    rw [if_neg (by rw [hr]; simp)]
   by_cases hs : l[k].name ∈ out.map (nm l)
   ·obtain ⟨v, e1, rfl⟩ := (hk _).1 hs
    have hr : ready l (out.map (nm l)) k = false := by
     unfold ready
     rw [nm_eq hc2, decide_eq_false (not_not_intro hs), Bool.false_and]
    rw [e1, same hr]
    conv => whnf
    rw [i64_nat (by omega)]
    exact IH2 (k + 1) (by omega) (by omega)
   ·rw [(hk _).2 hs]
    conv => whnf
    refine rowAny_calls l[k].deps (by have := (hsm _ (List.getElem_mem hc2)).1; omega) (out.map (nm l)) es hk fun b hbq => ?_
    conv => whnf
    refine br_intro (fun hb1 => ?_) (fun hb1 => ?_)
    ·have hb1 : b = false := by simpa using hb1
     have hr : ready l (out.map (nm l)) k = true := by
      unfold ready
      rw [nm_eq hc2, dps_eq hc2, decide_eq_true hs, Bool.true_and]
      apply decide_eq_true
      intro d hd
      rw [hb1] at hbq
      have := of_decide_eq_false hbq.symm
      exact Classical.byContradiction fun hn => this ⟨d, hd, hn⟩
     cases hbk : best l (out.map (nm l)) k with
     | none =>
      have e2 : best l (out.map (nm l)) (k + 1) = some k := by
       rw [best_succ, hbk]
       unfold bstep
       rw [if_pos ⟨hr, fun b hb => by cases hb⟩]
      conv => whnf
      rw [i64_nat (by omega)]
      have := IH2 (k + 1) (by omega) (by omega)
      rw [e2] at this
      exact this
     | some b0 =>
      obtain ⟨g1, g2⟩ := best_some hbk
      have g1 : b0 < l.length := by omega
      rw [show bestI (some b0) = (b0 : Int) from rfl]
      (conv => whnf); (repeat ((with_reducible refine must_intro ?_ ?_); exact decide_eq_true (by omega); (conv => whnf)))
      refine idxK_map_intro (show (b0 : Int).toNat < l.length by simpa using g1) ?_
      rw [show l[(b0 : Int).toNat]'(by simpa using g1) = l[b0] from by congr 1]
      conv => whnf
      rw [strLt_ofB]
      refine br_intro (fun hlt => ?_) (fun hlt => ?_)
      ·have e2 : best l (out.map (nm l)) (k + 1) = some k := by
        rw [best_succ, hbk]
        unfold bstep
        rw [if_pos ⟨hr, fun b hb => by cases hb; rw [nm_eq hc2, nm_eq g1]; exact hlt⟩]
       conv => whnf
       rw [i64_nat (by omega)]
       have := IH2 (k + 1) (by omega) (by omega)
       rw [e2] at this
       exact this
      ·have e2 : best l (out.map (nm l)) (k + 1) = some b0 := by
        rw [best_succ, hbk]
        unfold bstep
        rw [if_neg (fun hh => by have := hh.2 b0 rfl; rw [nm_eq hc2, nm_eq g1, hlt] at this; cases this)]
       conv => whnf
       rw [i64_nat (by omega)]
       have := IH2 (k + 1) (by omega) (by omega)
       rw [e2] at this
       exact this
    ·have hb1 : b = true := by simpa using hb1
     have hr : ready l (out.map (nm l)) k = false := by
      unfold ready
      rw [dps_eq hc2, Bool.and_eq_false_iff]
      right
      apply decide_eq_false
      intro hall
      rw [hb1] at hbq
      obtain ⟨d, hd, hn⟩ := of_decide_eq_true hbq.symm
      exact hn (hall d hd)
     rw [same hr]
     conv => whnf
     rw [i64_nat (by omega)]
     exact IH2 (k + 1) (by omega) (by omega)
  ·have hc2 := ge_of_decE hsl hc2
   obtain rfl : k = l.length := by omega
   obtain ⟨j, hj⟩ : ∃ j, l.length - out.length = j + 1 := ⟨l.length - out.length - 1, by omega⟩
   rw [hj, rowFrom] at h1
   cases hbk : best l (out.map (nm l)) l.length with
   | none =>
    rw [hbk] at h1
    conv => whnf
    exact h _ h1
   | some b =>
    rw [hbk] at h1
    obtain ⟨g1, g2⟩ := best_some hbk
    rw [show bestI (some b) = (b : Int) from rfl]
    (conv => whnf); (repeat ((with_reducible refine must_intro ?_ ?_); exact decide_eq_true (by omega); (conv => whnf)))
    refine idxK_map_intro (show (b : Int).toNat < l.length by simpa using g1) ?_
    rw [show l[(b : Int).toNat]'(by simpa using g1) = l[b] from by congr 1]
    conv => whnf
    refine ⟨hol.symm, ?_, ?_⟩
    ·rw [hol]
     show (out.length + 1) * (8 + 1) ≤ _
     omega
    conv => whnf
    have e1 : ints out ++ [[AV.val (Value.int IntKind.i64 (b : Int))]] = ints (out ++ [b]) := by simp [ints, vi]
    have e2 : (ints out).length + [[AV.val (Value.int IntKind.i64 (b : Int))]].length = (out ++ [b]).length := by simp [hol]
    rw [e1, e2, i64_nat (by omega), show out.length + 1 = (out ++ [b]).length by simp]
    refine IH (out ++ [b]) (mapPut es (ofB l[b].name) (.val (.bool true))) ⟨by simp; omega, ?_, ?_, ?_⟩ (by simp; omega)
    ·rw [← h1]
     congr 1
     simp; omega
    ·refine hk.put l[b].name rfl fun s => ?_
     simp only [List.map_append, List.map_cons, List.map_nil, List.mem_append, List.mem_singleton, nm_eq g1]
    ·intro x hx
     rw [List.mem_append, List.mem_singleton] at hx
     rcases hx with hx | rfl
     ·exact hb x hx
     ·exact g1
 ·have hc := ge_of_decE hsl hc
  conv => whnf
  refine h out ?_
  rw [show l.length - out.length = 0 by omega] at h1
  exact h1
def chk1 : List Nd → List B → Int
 | [], _ => 0
 | n :: r, seen => if n.name ∈ seen then 1 else if oneP n ≠ 0 then oneP n else chk1 r (seen ++ [n.name])
def depsOk (l : List Nd) : Bool := l.all fun n => n.deps.all fun d => decide (d ∈ l.map (·.name))
def checkP (l : List Nd) : Int := if 64 < l.length then 5 else if chk1 l [] ≠ 0 then chk1 l [] else if depsOk l = false then 6 else if (rowP l).length < l.length then 9 else 0
theorem chk1_drop {l : List Nd} {i : Nat} (hi : i < l.length) (seen : List B) : chk1 (l.drop i) seen = if l[i].name ∈ seen then 1 else if oneP l[i] ≠ 0 then oneP l[i] else chk1 (l.drop (i + 1)) (seen ++ [l[i].name]) := by
 rw [List.drop_eq_getElem_cons hi, chk1]
def names (l : List Nd) : List B := l.map (·.name)
theorem names_take {l : List Nd} {i : Nat} (hi : i < l.length) : names (l.take (i + 1)) = names (l.take i) ++ [l[i].name] := by
 unfold names
 rw [List.take_succ_eq_append_getElem hi, List.map_append]
 rfl
theorem depsOk_false {l : List Nd} {i j : Nat} (hi : i < l.length) (hj : j < l[i].deps.length) (h : l[i].deps[j] ∉ names l) : depsOk l = false := by
 unfold depsOk
 apply Bool.eq_false_iff.2
 intro hall
 have := List.all_eq_true.1 (List.all_eq_true.1 hall _ (List.getElem_mem hi)) _ (List.getElem_mem hj)
 exact h (of_decide_eq_true this)
theorem depsOk_true {l : List Nd} (h : ∀ n ∈ l, ∀ d ∈ n.deps, d ∈ names l) : depsOk l = true := by
 unfold depsOk
 rw [List.all_eq_true]
 intro n hn
 rw [List.all_eq_true]
 intro d hd
 exact decide_eq_true (h n hn d hd)
theorem Check_calls (l : List Nd) (hl : small l) {R} (h : ∀ e, e = checkP l → R (vi e) []) : ACalls Tryz.prog 43 [.sl none 4 (nds l)] [] R := by
 refine acalls_of_xwp (an := an43) tab_ok Tryz.func43 ?_
 have hl' := hl
 obtain ⟨hlen, hsm⟩ := hl
 have hsl := nds_length l
 conv => whnf
 refine br_intro (fun hc => ?_) (fun hc => ?_)
 ·conv => whnf
  refine h 5 ?_
  have : 64 < l.length := by rw [hsl] at hc; simp at hc; omega
  simp [checkP, this]
 have h64 : ¬ 64 < l.length := by rw [hsl] at hc; simp at hc; omega
 have bad1 : ∀ e, e ≠ 0 → chk1 l [] = e → R (vi e) [] := fun e hb he => h _ (by unfold checkP; rw [if_neg h64, if_pos (by rw [he]; exact hb), he])
 conv => whnf
 refine New_nil ?_
 conv => whnf
 refine LoopP.step ?_
 conv => whnf
 refine br_intro (fun hc => ?_) (fun hc => ?_)
 ·have hc : 0 < l.length := lt_of_decE (i := 0) hsl hc
  obtain ⟨hs1, hs2, hs3⟩ := hsm _ (List.getElem_mem hc)
  have hd0 := chk1_drop hc []
  rw [List.drop_zero, if_neg (by simp)] at hd0
  (conv => whnf); (repeat ((with_reducible refine must_intro ?_ ?_); exact decide_eq_true (by omega); (conv => whnf)))
  refine idxK_map_intro (show (0 : Int).toNat < l.length by simpa using hc) ?_
  rw [show l[(0 : Int).toNat]'(by simpa using hc) = l[0] from by congr 1]
  conv => whnf
  refine ID_new l[0].name ?_
  conv => whnf
  refine one_calls l[0] (by omega) fun e he => ?_
  conv => whnf
  refine br_intro (fun g => ?_) (fun g => ?_)
  ·have g : e ≠ 0 := by simpa using g
   conv => whnf
   exact bad1 e g (by rw [hd0, ← he, if_pos g])
  ·have g : e = 0 := by simpa using g
   rw [← he, if_neg (by rw [g]; simp)] at hd0
   have e0 : names (l.take 1) = [l[0].name] := names_take (i := 0) hc
   conv => whnf
   refine LoopP.ind1 (fun (i : Nat) => [(22, vi i)]) (fun i => [(freshN 19 0, tblO (freshN 30 0) (freshN 30 1) (names (l.take i))), (freshN 30 0, tblR (names (l.take i))), (freshN 30 1, tblM (names (l.take i)))]) (fun i => l.length - i) (fun i => i ≤ l.length ∧ chk1 (l.drop i) (names (l.take i)) = chk1 l []) 1 ?_ ⟨by omega, ?_⟩ ?_
   ·rw [e0]; rfl
   ·rw [e0]; exact hd0.symm
   rintro i ⟨h0, hch⟩ IH
   have hnl : (names (l.take i)).length ≤ l.length := by simp [names]; omega
   conv => whnf
   refine br_intro (fun hc => ?_) (fun hc => ?_)
   ·have hc := lt_of_decE hsl hc
    obtain ⟨hs1, hs2, hs3⟩ := hsm _ (List.getElem_mem hc)
    rw [chk1_drop hc] at hch
    (conv => whnf); (repeat ((with_reducible refine must_intro ?_ ?_); exact decide_eq_true (by omega); (conv => whnf)))
    refine idxK_map_intro (show (i : Int).toNat < l.length by simpa using hc) ?_
    rw [show l[(i : Int).toNat]'(by simpa using hc) = l[i] from by congr 1]
    conv => whnf
    by_cases hm : l[i].name ∈ names (l.take i)
    ·rw [if_pos hm] at hch
     refine ID_old _ _ hm fun j => ?_
     conv => whnf
     exact bad1 1 (by omega) hch.symm
    ·rw [if_neg hm] at hch
     refine ID_more _ _ (by omega) hm fun j => ?_
     conv => whnf
     refine one_calls l[i] (by omega) fun e he => ?_
     rw [← he] at hch
     conv => whnf
     refine br_intro (fun g => ?_) (fun g => ?_)
     ·have g : e ≠ 0 := by simpa using g
      rw [if_pos g] at hch
      conv => whnf
      exact bad1 e g hch.symm
     ·have g : e = 0 := by simpa using g
      rw [if_neg (by rw [g]; simp), ← names_take hc] at hch
      conv => whnf
      rw [i64_nat (by omega), ← names_take hc]
      exact IH (i + 1) ⟨by omega, hch⟩ (by omega)
   ·have hc := ge_of_decE hsl hc
    rw [List.drop_eq_nil_of_le hc, chk1] at hch
    have hchk := hch.symm
    conv => whnf
    refine places_calls l (by omega) fun es hes => ?_
    conv => whnf
    refine LoopP.ind1 (fun (i : Nat) => [(45, vi i)]) (fun _ => [(freshN 42 0, .map es)]) (fun i => l.length - i) (fun i => i ≤ l.length ∧ ∀ n ∈ l.take i, ∀ d ∈ n.deps, d ∈ names l) 0 rfl ⟨by omega, by simp⟩ ?_
    rintro i ⟨h0, hdo⟩ IH
    conv => whnf
    refine br_intro (fun hc => ?_) (fun hc => ?_)
    ·have hc := lt_of_decE hsl hc
     have hsl3 := strs_length l[i].deps
     obtain ⟨hs1, hs2, hs3⟩ := hsm _ (List.getElem_mem hc)
     (conv => whnf); (repeat ((with_reducible refine must_intro ?_ ?_); exact decide_eq_true (by omega); (conv => whnf)))
     refine idxK_map_intro (show (i : Int).toNat < l.length by simpa using hc) ?_
     rw [show l[(i : Int).toNat]'(by simpa using hc) = l[i] from by congr 1]
     conv => whnf
     refine LoopP.ind1 (fun (j : Nat) => [(52, vi j)]) (fun _ => [(freshN 42 0, .map es)]) (fun j => l[i].deps.length - j) (fun j => j ≤ l[i].deps.length ∧ ∀ d ∈ l[i].deps.take j, d ∈ names l) 0 rfl ⟨by omega, by simp⟩ ?_
     rintro j ⟨hj0, hjo⟩ IH2
     conv => whnf
     refine br_intro (fun hc2 => ?_) (fun hc2 => ?_)
     ·have hc2 := lt_of_decE hsl3 hc2
      (conv => whnf); (repeat ((with_reducible refine must_intro ?_ ?_); exact decide_eq_true (by omega); (conv => whnf)))
      refine idxK_map_intro (show (j : Int).toNat < l[i].deps.length by simpa using hc2) ?_
      rw [show l[i].deps[(j : Int).toNat]'(by simpa using hc2) = l[i].deps[j] from by congr 1]
      conv => whnf
      by_cases hm : l[i].deps[j] ∈ names l
      ·obtain ⟨v, e1, x, rfl⟩ := (hes _).1 hm
       rw [e1]
       conv => whnf
       rw [i64_nat (by omega)]
       refine IH2 (j + 1) ⟨by omega, fun d hd => ?_⟩ (by omega)
       rw [List.take_succ_eq_append_getElem hc2, List.mem_append, List.mem_singleton] at hd
       rcases hd with hd | rfl
       ·exact hjo d hd
       ·exact hm
      ·rw [(hes _).2 hm]
       conv => whnf
       refine h 6 ?_
       unfold checkP
       rw [if_neg h64, if_neg (by rw [hchk]; simp), if_pos (depsOk_false hc hc2 hm)]
     ·have hc2 := ge_of_decE hsl3 hc2
      rw [List.take_of_length_le hc2] at hjo
      conv => whnf
      rw [i64_nat (by omega)]
      refine IH (i + 1) ⟨by omega, fun n hn => ?_⟩ (by omega)
      rw [List.take_succ_eq_append_getElem hc, List.mem_append, List.mem_singleton] at hn
      rcases hn with hn | rfl
      ·exact hdo n hn
      ·exact hjo
    ·have hc := ge_of_decE hsl hc
     rw [List.take_of_length_le hc] at hdo
     conv => whnf
     refine row_calls l hl' fun r hr => ?_
     have hrl := ints_length r
     have fin : checkP l = if r.length < l.length then 9 else 0 := by
      unfold checkP
      rw [if_neg h64, if_neg (by rw [hchk]; simp), if_neg (by rw [depsOk_true hdo]; simp), hr]
     conv => whnf
     rw [hrl, hsl]
     refine br_intro (fun g2 => ?_) (fun g2 => ?_)
     ·conv => whnf
      exact h 9 (by rw [fin, if_pos (lt_of_dec g2)])
     ·conv => whnf
      exact h 0 (by rw [fin, if_neg (by have := ge_of_dec g2; omega)])
 ·have hc : l.length ≤ 0 := ge_of_decE (i := 0) hsl hc
  have hnil : l = [] := List.eq_nil_of_length_eq_zero (by omega)
  have hchk : chk1 l [] = 0 := by rw [hnil]; rfl
  conv => whnf
  refine places_calls l (by omega) fun es hes => ?_
  conv => whnf
  refine LoopP.ind1 (fun (i : Nat) => [(45, vi i)]) (fun _ => [(freshN 42 0, .map es)]) (fun i => l.length - i) (fun i => i ≤ l.length ∧ ∀ n ∈ l.take i, ∀ d ∈ n.deps, d ∈ names l) 0 rfl ⟨by omega, by simp⟩ ?_
  rintro i ⟨h0, hdo⟩ IH
  conv => whnf
  refine br_intro (fun hc => ?_) (fun hc => ?_)
  ·have hc := lt_of_decE hsl hc
   have hsl3 := strs_length l[i].deps
   obtain ⟨hs1, hs2, hs3⟩ := hsm _ (List.getElem_mem hc)
   (conv => whnf); (repeat ((with_reducible refine must_intro ?_ ?_); exact decide_eq_true (by omega); (conv => whnf)))
   refine idxK_map_intro (show (i : Int).toNat < l.length by simpa using hc) ?_
   rw [show l[(i : Int).toNat]'(by simpa using hc) = l[i] from by congr 1]
   conv => whnf
   refine LoopP.ind1 (fun (j : Nat) => [(52, vi j)]) (fun _ => [(freshN 42 0, .map es)]) (fun j => l[i].deps.length - j) (fun j => j ≤ l[i].deps.length ∧ ∀ d ∈ l[i].deps.take j, d ∈ names l) 0 rfl ⟨by omega, by simp⟩ ?_
   rintro j ⟨hj0, hjo⟩ IH2
   conv => whnf
   refine br_intro (fun hc2 => ?_) (fun hc2 => ?_)
   ·have hc2 := lt_of_decE hsl3 hc2
    (conv => whnf); (repeat ((with_reducible refine must_intro ?_ ?_); exact decide_eq_true (by omega); (conv => whnf)))
    refine idxK_map_intro (show (j : Int).toNat < l[i].deps.length by simpa using hc2) ?_
    rw [show l[i].deps[(j : Int).toNat]'(by simpa using hc2) = l[i].deps[j] from by congr 1]
    conv => whnf
    by_cases hm : l[i].deps[j] ∈ names l
    ·obtain ⟨v, e1, x, rfl⟩ := (hes _).1 hm
     rw [e1]
     conv => whnf
     rw [i64_nat (by omega)]
     refine IH2 (j + 1) ⟨by omega, fun d hd => ?_⟩ (by omega)
     rw [List.take_succ_eq_append_getElem hc2, List.mem_append, List.mem_singleton] at hd
     rcases hd with hd | rfl
     ·exact hjo d hd
     ·exact hm
    ·rw [(hes _).2 hm]
     conv => whnf
     refine h 6 ?_
     unfold checkP
     rw [if_neg h64, if_neg (by rw [hchk]; simp), if_pos (depsOk_false hc hc2 hm)]
   ·have hc2 := ge_of_decE hsl3 hc2
    rw [List.take_of_length_le hc2] at hjo
    conv => whnf
    rw [i64_nat (by omega)]
    refine IH (i + 1) ⟨by omega, fun n hn => ?_⟩ (by omega)
    rw [List.take_succ_eq_append_getElem hc, List.mem_append, List.mem_singleton] at hn
    rcases hn with hn | rfl
    ·exact hdo n hn
    ·exact hjo
  ·have hc := ge_of_decE hsl hc
   rw [List.take_of_length_le hc] at hdo
   conv => whnf
   refine row_calls l hl' fun r hr => ?_
   have hrl := ints_length r
   have fin : checkP l = if r.length < l.length then 9 else 0 := by
    unfold checkP
    rw [if_neg h64, if_neg (by rw [hchk]; simp), if_neg (by rw [depsOk_true hdo]; simp), hr]
   conv => whnf
   rw [hrl, hsl]
   refine br_intro (fun g2 => ?_) (fun g2 => ?_)
   ·conv => whnf
    exact h 9 (by rw [fin, if_pos (lt_of_dec g2)])
   ·conv => whnf
    exact h 0 (by rw [fin, if_neg (by have := ge_of_dec g2; omega)])
def orderP (l : List Nd) : List Nat := if checkP l = 0 then rowP l else []
theorem Order_calls (l : List Nd) (hl : small l) {R} (h : ∀ o e, o = orderP l → e = checkP l → R (.tup [.sl none 1 (ints o), vi e]) []) : ACalls Tryz.prog 20 [.sl none 4 (nds l)] [] R := by
 refine ACalls.res ?_
 refine acalls_of_xwp (an := an20) tab_ok Tryz.func20 ?_
 conv => whnf
 refine Check_calls l hl fun e he => ?_
 conv => whnf
 refine br_intro (fun g => ?_) (fun g => ?_)
 ·have g : e ≠ 0 := by simpa using g
  conv => whnf
  refine res_le (le_tup (leL.cons (le_nil 1) (leL.cons (.refl _) leL.nil))) rfl (h [] e ?_ he)
  unfold orderP
  rw [← he, if_neg g]
 ·have g : e = 0 := by simpa using g
  conv => whnf
  refine row_calls l hl fun r hr => ?_
  conv => whnf
  refine res_same ?_
  have := h r 0 (by unfold orderP; rw [← he, if_pos g, hr]) (by rw [← he, g])
  exact this
def fixNd : List Nd := [⟨[98], false, 0, [[97]]⟩, ⟨[97], true, 0, []⟩]
theorem fix_order : orderP fixNd = [1, 0] := by decide +kernel
theorem fix_check : checkP fixNd = 0 := by decide +kernel
theorem fix_small : small fixNd := by
 refine ⟨by decide, ?_⟩
 simp [fixNd]
theorem Great_calls (l : List Nd) (hl : l.length ≤ maxLen) (hn : ∀ n ∈ l, n.deps.length ≤ maxLen) {R} (h : ∀ b : Bool, (b = false → l.length ≤ 80 ∧ ∀ n ∈ l, n.deps.length ≤ 30 ∧ n.name.length ≤ 100 ∧ ∀ d ∈ n.deps, d.length ≤ 100) → R (.val (.bool b)) []) :
  ACalls Tryz.prog 9 [.sl none 4 (nds l)] [] R := by
 refine acalls_of_xwp (an := an9) tab_ok Tryz.func9 ?_
 have hsl := nds_length l
 have yes : R (.val (.bool true)) [] := h true (fun e => by cases e)
 conv => whnf
 refine LoopP.ind1 (fun (i : Nat) => [(9, vi i)]) (fun _ => []) (fun i => l.length - i) (fun i => i ≤ l.length ∧ ∀ n ∈ l.take i, n.deps.length ≤ 30 ∧ n.name.length ≤ 100 ∧ ∀ d ∈ n.deps, d.length ≤ 100) 0 rfl ⟨by omega, by simp⟩ ?_
 rintro i ⟨h0, hdo⟩ IH
 conv => whnf
 refine br_intro (fun hc => ?_) (fun hc => ?_)
 ·have hc := lt_of_decE hsl hc
  have hsl3 := strs_length l[i].deps
  have hm := hn _ (List.getElem_mem hc)
  have hmx : maxLen ≤ 9223372036854775807 := by decide
  (conv => whnf); (repeat ((with_reducible refine must_intro ?_ ?_); exact decide_eq_true (by omega); (conv => whnf)))
  refine idxK_map_intro (show (i : Int).toNat < l.length by simpa using hc) ?_
  rw [show l[(i : Int).toNat]'(by simpa using hc) = l[i] from by congr 1]
  conv => whnf
  rw [hsl3]
  refine br_intro (fun g1 => ?_) (fun g1 => ?_)
  ·conv => whnf
   exact yes
  have g1 : l[i].deps.length ≤ 30 := by simp at g1; omega
  have hsn := size_ofB l[i].name
  conv => whnf
  rw [hsn]
  refine br_intro (fun g2 => ?_) (fun g2 => ?_)
  ·conv => whnf
   exact yes
  have g2 : l[i].name.length ≤ 100 := by simp at g2; omega
  conv => whnf
  refine LoopP.ind1 (fun (j : Nat) => [(26, vi j)]) (fun _ => []) (fun j => l[i].deps.length - j) (fun j => j ≤ l[i].deps.length ∧ ∀ d ∈ l[i].deps.take j, d.length ≤ 100) 0 rfl ⟨by omega, by simp⟩ ?_
  rintro j ⟨hj0, hjo⟩ IH2
  conv => whnf
  refine br_intro (fun hc2 => ?_) (fun hc2 => ?_)
  ·have hc2 := lt_of_decE hsl3 hc2
   (conv => whnf); (repeat ((with_reducible refine must_intro ?_ ?_); exact decide_eq_true (by omega); (conv => whnf)))
   refine idxK_map_intro (show (j : Int).toNat < l[i].deps.length by simpa using hc2) ?_
   rw [show l[i].deps[(j : Int).toNat]'(by simpa using hc2) = l[i].deps[j] from by congr 1]
   have hsd := size_ofB l[i].deps[j]
   conv => whnf
   rw [hsd]
   refine br_intro (fun g3 => ?_) (fun g3 => ?_)
   ·conv => whnf
    exact yes
   have g3 : l[i].deps[j].length ≤ 100 := by simp at g3; omega
   conv => whnf
   rw [i64_nat (by omega)]
   refine IH2 (j + 1) ⟨by omega, fun d hd => ?_⟩ (by omega)
   rw [List.take_succ_eq_append_getElem hc2, List.mem_append, List.mem_singleton] at hd
   rcases hd with hd | rfl
   ·exact hjo d hd
   ·exact g3
  ·have hc2 := ge_of_decE hsl3 hc2
   rw [List.take_of_length_le hc2] at hjo
   conv => whnf
   rw [wrap_i64 (by omega) (by omega), show ((i : Int) + 1) = ((i + 1 : Nat) : Int) by omega]
   refine IH (i + 1) ⟨by omega, fun n hn => ?_⟩ (by omega)
   rw [List.take_succ_eq_append_getElem hc, List.mem_append, List.mem_singleton] at hn
   rcases hn with hn | rfl
   ·exact hdo n hn
   ·exact ⟨g1, g2, hjo⟩
 ·have hc := ge_of_decE hsl hc
  rw [List.take_of_length_le hc] at hdo
  conv => whnf
  rw [hsl]
  refine h _ fun e => ⟨?_, hdo⟩
  simp at e
  omega
theorem typed_strs {n : Nat} {l : List (List AV)} (h : ∀ x ∈ l, Typed tab (n + 1) 9 x) : ∃ m : List B, l = strs m := by
 induction l with
 | nil => exact ⟨[], rfl⟩
 | cons x l ih =>
  obtain ⟨m, rfl⟩ := ih fun y hy => h y (by simp [hy])
  obtain ⟨s, rfl, hs⟩ : ∃ s : ByteArray, x = [.val (.string s)] ∧ s.size ≤ maxLen := h x (by simp)
  exact ⟨bs s :: m, by simp only [strs, List.map_cons, vs, ofB_bs]⟩
theorem typed_node {n : Nat} {x : List AV} (h : Typed tab (n + 3) 54 x) : ∃ nd : Nd, x = nd.enc ∧ nd.deps.length ≤ maxLen := by
 obtain ⟨a1, r1, rfl, ⟨s, rfl, hs⟩, a2, r2, rfl, ⟨b, rfl⟩, a3, r3, rfl, ⟨u, rfl, hu⟩, a4, r4, rfl, ⟨l, rfl, hl, hx⟩, rfl⟩ : ∃ a r, x = a ++ r ∧ (∃ s : ByteArray, a = [.val (.string s)] ∧ s.size ≤ maxLen) ∧
   ∃ a r', r = a ++ r' ∧ (∃ b, a = [.val (.bool b)]) ∧ ∃ a r'', r' = a ++ r'' ∧ (∃ y, a = [.val (.int .u64 y)] ∧ (Lit.int .u64 y).wf = true) ∧
   ∃ a r''', r'' = a ++ r''' ∧ (∃ l : List (List AV), a = [.sl none 1 l] ∧ l.length ≤ maxLen ∧ ∀ x ∈ l, Typed tab (n + 1) 9 x) ∧ r''' = [] := h
 obtain ⟨m, rfl⟩ := typed_strs hx
 refine ⟨⟨bs s, b, BitVec.ofInt 64 u, m⟩, ?_, by simpa [strs] using hl⟩
 simp only [Nd.enc, vs, ofB_bs, uv, List.cons_append, List.nil_append]
 rw [← wf_u64 hu]
theorem typed_nodes {n : Nat} {l : List (List AV)} (h : ∀ x ∈ l, Typed tab (n + 3) 54 x) : ∃ m : List Nd, l = nds m ∧ ∀ nd ∈ m, nd.deps.length ≤ maxLen := by
 induction l with
 | nil => exact ⟨[], rfl, by simp⟩
 | cons x l ih =>
  obtain ⟨m, rfl, hm⟩ := ih fun y hy => h y (by simp [hy])
  obtain ⟨nd, rfl, hn⟩ := typed_node (h x (by simp))
  exact ⟨nd :: m, rfl, by
   intro y hy
   rw [List.mem_cons] at hy
   rcases hy with rfl | hy
   ·exact hn
   ·exact hm y hy⟩
end Go.Abs
end
section
namespace Go.Abs
open Go Go.Proofs Go.Sort
def entryS (G : Gh) (w : World) : Entry := ⟨G, w, fun b => ∃ n, G.at n b, True⟩
theorem invS {G : Gh} {os : List AObj} {w : World} (hW : WR G (numbered 0 os) w) : Inv (entryS G w) ⟨[], numbered 0 os⟩ G { tmps := #[], defers := [] } w :=
 ⟨by simp [RepL], Marks.nil _ _ _, hW, Gh.le.refl _, ⟨rfl, rfl, rfl, Nat.le_refl _, fun _ _ _ => rfl, fun _ _ _ _ => rfl⟩, fun n b hb => .inl ⟨n, hb⟩⟩
theorem packS {P : Program} {f : FuncId} {args : List AV} {os : List AObj} {R : AV → List AObj → Prop}
  (h : ∀ (G : Gh) (w : World) (vals : List Value), WR G (numbered 0 os) w → RepL G args vals → Calls P f vals.toArray w fun e w' => ∃ (v : Value) (r : AV) (os' : List AObj) (G' : Gh), e = .returned v ∧ R r os' ∧ Rep G' r v ∧
   Inv (entryS G w) ⟨[], numbered 0 os'⟩ G' { tmps := #[], defers := [] } w' ∧ (∀ (i : Nat) (o : AObj), os'[i]? = some o → ∀ m ∈ objNames o, m < os'.length) ∧ ∀ m ∈ r.names, m < os'.length) : ACalls P f args os R :=
 ⟨fun G w vals hW hA => (h G w vals hW hA).mono fun e w' ⟨v, r, os', G', h1, h2, h3, h4, h5, h6⟩ => ⟨v, r, os', G', h1, h2, h3, h4.wr, h4.le, h4.ext, h4.newb, h5, h6⟩⟩
def sortB (l : List B) : List B := l.mergeSort fun x y => decide (x ≤ y)
theorem repE_strs {K : Nat → Nat → Option Value} {ob : Nm → Option GO} {g : Nat} : ∀ (ss : List B) (i : Nat), (∀ j s, ss[j]? = some s → K g (i + j) = some (encStr s)) → RepE ⟨K, ob⟩ 1 (some ⟨g, 0, none⟩) i (strs ss)
 | [], _, _ => trivial
 | s :: ss, i, h => by
  refine ⟨⟨g, 0, rfl, rfl, rfl, ⟨encStr s, by have := h 0 s rfl; simpa using this, rfl⟩, trivial⟩, repE_strs ss (i + 1) fun j s' hs => ?_⟩
  have := h (j + 1) s' (by simpa using hs)
  rw [show i + 1 + j = i + (j + 1) by omega]
  exact this
end Go.Abs
end
section
namespace Go.Proofs
open Go.Shelf
def Tryz.lays190_ren : Go.Shelf.Ren := ⟨fun | 190 => 28 | 125 => 61 | 258 => 60 | 128 => 141 | 129 => 142 | 302 => 132 | 303 => 133 | 304 => 134 | 305 => 135 | 306 => 136 | 307 => 137 | 308 => 138 | 309 => 139 | 310 => 140 | 333 => 187 | 329 => 188 | 330 => 189 | 334 => 190 | 335 => 191 | 336 => 192 | 344 => 220 | n => n, fun | 31 => 52 | 9 => 9 | 3 => 3 | 46 => 146 | 0 => 0 | 51 => 124 | 53 => 24 | 4 => 4 | 183 => 227 | 182 => 226 | 131 => 184 | 5 => 5 | 218 => 284 | 222 => 287 | 228 => 317 | 229 => 257 | n => n, fun | n => n⟩
theorem Tryz.lays190 : Go.Proofs.Lays.n190 Tryz.prog Tryz.lays190_ren := {
  mixed := by kernel_rfl
  f125 := Tryz.func61.trans (congrArg some (by kernel_rfl))
  f128 := Tryz.func141.trans (congrArg some (by kernel_rfl))
  f129 := Tryz.func142.trans (congrArg some (by kernel_rfl))
  f190 := Tryz.func28.trans (congrArg some (by kernel_rfl))
  f258 := Tryz.func60.trans (congrArg some (by kernel_rfl))
  f302 := Tryz.func132.trans (congrArg some (by kernel_rfl))
  f303 := Tryz.func133.trans (congrArg some (by kernel_rfl))
  f304 := Tryz.func134.trans (congrArg some (by kernel_rfl))
  f305 := Tryz.func135.trans (congrArg some (by kernel_rfl))
  f306 := Tryz.func136.trans (congrArg some (by kernel_rfl))
  f307 := Tryz.func137.trans (congrArg some (by kernel_rfl))
  f308 := Tryz.func138.trans (congrArg some (by kernel_rfl))
  f309 := Tryz.func139.trans (congrArg some (by kernel_rfl))
  f310 := Tryz.func140.trans (congrArg some (by kernel_rfl))
  f329 := Tryz.func188.trans (congrArg some (by kernel_rfl))
  f330 := Tryz.func189.trans (congrArg some (by kernel_rfl))
  f333 := Tryz.func187.trans (congrArg some (by kernel_rfl))
  f334 := Tryz.func190.trans (congrArg some (by kernel_rfl))
  f335 := Tryz.func191.trans (congrArg some (by kernel_rfl))
  f336 := Tryz.func192.trans (congrArg some (by kernel_rfl))
  f344 := Tryz.func220.trans (congrArg some (by kernel_rfl))
  t0 := Tryz.underlying0
  a0 := Tryz.isAgg0
  z0 := Tryz.sizeOf0
  v0 := Tryz.zeroValue0
  t3 := Tryz.underlying3
  a3 := Tryz.isAgg3
  z3 := Tryz.sizeOf3
  v3 := Tryz.zeroValue3
  t4 := Tryz.underlying4
  a4 := Tryz.isAgg4
  z4 := Tryz.sizeOf4
  v4 := Tryz.zeroValue4
  t5 := Tryz.underlying5
  a5 := Tryz.isAgg5
  z5 := Tryz.sizeOf5
  v5 := Tryz.zeroValue5
  t9 := Tryz.underlying9
  a9 := Tryz.isAgg9
  z9 := Tryz.sizeOf9
  v9 := Tryz.zeroValue9
  t31 := Tryz.underlying52
  a31 := Tryz.isAgg52
  z31 := Tryz.sizeOf52
  v31 := Tryz.zeroValue52
  t46 := Tryz.underlying146
  a46 := Tryz.isAgg146
  z46 := Tryz.sizeOf146
  v46 := Tryz.zeroValue146
  t51 := Tryz.underlying124
  a51 := Tryz.isAgg124
  z51 := Tryz.sizeOf124
  v51 := Tryz.zeroValue124
  t53 := Tryz.underlying24
  a53 := Tryz.isAgg24
  z53 := Tryz.sizeOf24
  v53 := Tryz.zeroValue24
  t131 := Tryz.underlying184
  a131 := Tryz.isAgg184
  z131 := Tryz.sizeOf184
  v131 := Tryz.zeroValue184
  t182 := Tryz.underlying226
  a182 := Tryz.isAgg226
  z182 := Tryz.sizeOf226
  v182 := Tryz.zeroValue226
  t183 := Tryz.underlying227
  a183 := Tryz.isAgg227
  z183 := Tryz.sizeOf227
  v183 := Tryz.zeroValue227
  t218 := Tryz.underlying284
  a218 := Tryz.isAgg284
  z218 := Tryz.sizeOf284
  v218 := Tryz.zeroValue284
  t222 := Tryz.underlying287
  a222 := Tryz.isAgg287
  z222 := Tryz.sizeOf287
  v222 := Tryz.zeroValue287
  t228 := Tryz.underlying317
  a228 := Tryz.isAgg317
  z228 := Tryz.sizeOf317
  v228 := Tryz.zeroValue317
  t229 := Tryz.underlying257
  a229 := Tryz.isAgg257
  z229 := Tryz.sizeOf257
  v229 := Tryz.zeroValue257 }
open Go.Sort Go.RowKit in
theorem Tryz.slices_Sort_string (blk off cap : Nat) (ss : List (List UInt8)) (w : World) (hH : Holds encStr w blk off ss.toArray) (hblk : blk < w.heap.size) (hsz : ss.length < 4611686018427387904) :
    Calls Tryz.prog 28 #[.slice (some ⟨blk, off, none⟩) ss.length cap] w fun e w' =>
      e = .returned (.tuple #[]) ∧ ∃ n os, w' = grow (putRow encStr (Sort.ahead w n) blk off (ss.mergeSort fun x y => decide (x ≤ y)).toArray) os := Any.slices_Sort_string Tryz.lays190 blk off cap ss w hH hblk hsz
open Go.RowKit Go.Sort in
theorem Tryz.slices_Sort_string_none (p : Option Addr) (cap : Nat) (w : World) :
    Calls Tryz.prog 28 #[.slice p 0 cap] w fun e w' => e = .returned (.tuple #[]) ∧ w' = w := Any.slices_Sort_string_none Tryz.lays190 p cap w
end Go.Proofs
end
section
namespace Go.Proofs
open Go.RowKit Go.Maps Go.Sort Go.Shelf
theorem Kx.law26 : Keyed Tryz.prog 9 := string_keyed Tryz.underlying9
def Kx.apAssign : Code := (Code.region 2 #[{ dst := some 5, op := Op.assign (Operand.tmp 7), type := 9, pos := "iter.go:51", after := #[], guard := none }] false)
def Kx.apBody : Code := (Code.block 1 (Code.region 3 #[{ dst := some 8, op := Op.load 52 (Operand.tmp 2), type := 52, pos := "iter.go:52", after := #[], guard := none }, { dst := some 9, op := Op.move (Operand.tmp 5), type := 9, pos := "iter.go:52", after := #[], guard := none }, { dst := some 10, op := Op.buildSlice 52 1 #[(0, Operand.tmp 9)], type := 52, pos := "iter.go:52", after := #[{ on := 1, ground := Ground.data }], guard := none }, { dst := some 11, op := Op.call { callee := Callee.builtin Builtin.append, args := #[Operand.tmp 8, Operand.tmp 10], argTypes := #[52, 52] }, type := 52, pos := "iter.go:52", after := #[{ on := 0, ground := Ground.data }, { on := 2, ground := Ground.data }], guard := none }, { dst := none, op := Op.store 52 (Operand.tmp 2) (Operand.tmp 11), type := 0, pos := "iter.go:52", after := #[{ on := 3, ground := Ground.data }, { on := 3, ground := Ground.chain }, { on := 0, ground := Ground.phase }, { on := 1, ground := Ground.phase }, { on := 2, ground := Ground.phase }, { on := 3, ground := Ground.phase }], guard := none }] false))
def Kx.apRec (fn : FuncId) (sv : Value) (Bs D : Nat) (st : LoopState) (pend : Option Code) : Loop :=
 { state := st, pending := pend, fn, tmps := #[.slice none 0 0, sv, .pointer (some ⟨Bs, 0, none⟩), undef, .slice none 0 0, undef, sv, undef, undef, undef, undef, undef, undef], params := #[7], assign := Kx.apAssign, body := Kx.apBody, defers := D }
structure Kx.ApAt (w0 : World) (fn : FuncId) (sv : Value) (Bs l D : Nat) (ss : List (List UInt8)) (W : World) : Prop where
 box : ∃ v, W.heap[Bs]? = some (.cells #[v] 52 (0, 0)) ∧ W.ownsRow w0.heap.size 9 1 v ss.length (ss.map encStr) ∧ (v = .slice none 0 0 ↔ ss = [])
 L : W.heap[l]? = some (.loop (Kx.apRec fn sv Bs D .ready none))
 K : W.heap[D]? = some (.deferred (some []))
 below : Below w0.heap.size w0 W
theorem kx_ownsRow_abides {W W' : World} {row : Option Nat} {base : Nat} {e : TypeId} {size : Nat} {v : Value} {k : Nat} {xs : List Value} (h : W.ownsRow base e size v k xs) (hg : W.grownBy W' row)
  (hrow : ∀ r, row = some r → ∃ o : Obj, W.heap[r]? = some o ∧ o.isWalk = true) : W'.ownsRow base e size v k xs := by
 refine h.kept hg ?_
 rcases h.2 with ⟨rfl, _⟩ | ⟨g, cap, cur, rfl, _, hgb, _⟩
 ·exact .inl rfl
 ·refine .inr fun e' => ?_
  obtain ⟨o, ho, hw⟩ := hrow g (by simpa [Value.ownBlock] using e'.symm)
  rw [hgb] at ho; cases ho; cases hw
theorem Kx.ap_abides (w0 : World) (fn : FuncId) (sv : Value) (Bs l D B : Nat) (hB : w0.heap.size ≤ B) : AbidesFrom B (Kx.ApAt w0 fn sv Bs l D) := fun s W W' row h hg hrow => by
 have hrow' : ∀ r, row = some r → ∃ o : Obj, W.heap[r]? = some o ∧ o.isWalk = true := fun r e => (hrow r e).2
 obtain ⟨v, hv, hr, hn⟩ := h.box
 exact ⟨⟨v, (grownBy_keeps hg hrow' hv rfl).trans hv, kx_ownsRow_abides hr hg hrow', hn⟩, (grownBy_keeps hg hrow' h.L rfl).trans h.L, (grownBy_keeps hg hrow' h.K rfl).trans h.K,
  h.below.grown hg h.below.size (fun k e => Nat.le_trans hB (hrow k e).1)⟩
theorem kx_grownBy_putObj (W : World) (l : Nat) (o : Obj) : W.grownBy (W.putObj l o) (some l) :=
 ⟨rfl, rfl, rfl, by simp, fun k _ hk => World.putObj_heap_other (fun e => hk (by rw [e]))⟩
theorem kx_grownBy_setCell0 (W : World) (b : Nat) (v : Value) : W.grownBy (W.setCell ⟨b, 0, none⟩ v) (some b) :=
 ⟨rfl, rfl, rfl, (KeepsWalks.setCell W _ v).size, fun k _ hk => Below.heap_setCell _ _ _ k (fun e => hk (by rw [e]))⟩
theorem kx_ownsRow_ne {W : World} {base : Nat} {e : TypeId} {size : Nat} {v : Value} {k : Nat} {xs : List Value} (h : W.ownsRow base e size v k xs) {j : Nat} {o : Obj} (hj : W.heap[j]? = some o) (hno : ∀ cur, o ≠ .cells cur e (0, 0)) :
  v.ownBlock = none ∨ v.ownBlock ≠ some j := by
 rcases h.2 with ⟨rfl, _⟩ | ⟨g, cap, cur, rfl, _, hgb, _⟩
 ·exact .inl rfl
 ·refine .inr fun e' => ?_
  have : g = j := by simpa [Value.ownBlock] using e'
  subst this; rw [hgb] at hj; cases hj; exact hno cur rfl
theorem kx_cell_of_box {W : World} {B : Nat} {v : Value} {t : TypeId} (h : W.heap[B]? = some (.cells #[v] t (0, 0))) : W.cell? ⟨B, 0, none⟩ = some v ∧ W.frozen? ⟨B, 0, none⟩ = false := by
 constructor <;> simp [World.cell?, World.frozen?, h]
theorem kx_heap_setCell_box {W : World} {B : Nat} {v : Value} {t : TypeId} (v' : Value) (h : W.heap[B]? = some (.cells #[v] t (0, 0))) : (W.setCell ⟨B, 0, none⟩ v').heap[B]? = some (.cells #[v'] t (0, 0)) := by
 obtain ⟨hlt, hk⟩ := Array.getElem?_eq_some_iff.1 h
 show (W.heap.modify B _)[B]? = _
 rw [Array.getElem?_eq_getElem (by rw [Array.size_modify]; exact hlt), Array.getElem_modify_self, hk]
 rfl
theorem kx_ownsRow_not_walk {W : World} {base : Nat} {e : TypeId} {size : Nat} {v : Value} {k : Nat} {xs : List Value} (h : W.ownsRow base e size v k xs) : ∀ (j : Nat) (o : Obj), v.ownBlock = some j → W.heap[j]? = some o → o.isWalk = false := by
 intro j o hj ho
 rcases h.2 with ⟨rfl, _⟩ | ⟨g, cap, cur, rfl, _, hgb, _⟩
 ·simp [Value.ownBlock] at hj
 ·have : g = j := by simpa [Value.ownBlock] using hj
  subst this; rw [hgb] at ho; cases ho; rfl
theorem Kx.info26 : (Tryz.prog.info? 9).map (fun i => (i.zero, i.size, i.bytes)) = some (some (.string ⟨#[]⟩), 1, 16) := by kernel_rfl
set_option maxRecDepth 100000 in
set_option maxHeartbeats 2000000 in
theorem Kx.apYield (F : Fence) (m : Nat) (w0 : World) (fn : FuncId) (hfn : F.fn fn) (sv : Value) (Bs l D : Nat) (hBl : Bs ≠ l) (hDl : D ≠ l) (hDB : D ≠ Bs) (h0B : w0.heap.size ≤ Bs) (h0l : w0.heap.size ≤ l)
  (N : Nat) (hN : N ≤ maxLen) (hNb : N * 16 ≤ 140737488355328) (ss : List (List UInt8)) (x : List UInt8) (W : World) (h : Kx.ApAt w0 fn sv Bs l D ss W) (hlen : ss.length < N) :
  YieldAt F m Tryz.prog l #[encStr x] W fun e W' => e = .returned (.bool true) ∧ Kx.ApAt w0 fn sv Bs l D (ss ++ [x]) W' ∧ KeepsWalks W W' := by
 obtain ⟨i0, hi, hz0, hz1, hz2⟩ := info_parts Kx.info26
 obtain ⟨v, hv, hrow, _⟩ := h.box
 refine ⟨fn, #[.slice none 0 0, sv, .pointer (some ⟨Bs, 0, none⟩), undef, .slice none 0 0, undef, sv, encStr x, undef, undef, undef, undef, undef], Kx.apAssign, Kx.apBody, by simpa [Kx.apRec] using run_yield (P := Tryz.prog) (args := #[encStr x]) h.L rfl, roundIn_of_wpIn hfn ?_⟩
 have hl : l < W.heap.size := (Array.getElem?_eq_some_iff.1 h.L).1
 have hbr := run_beginRound (P := Tryz.prog) h.L rfl
 obtain ⟨W2, hW2⟩ : ∃ W2, W.putObj l (.loop { Kx.apRec fn sv Bs D .ready none with state := .busy }) = W2 := ⟨_, rfl⟩
 rw [hW2] at hbr
 have hg2 : W.grownBy W2 (some l) := by rw [← hW2]; exact kx_grownBy_putObj _ _ _
 have hk2 : KeepsWalks W W2 := by rw [← hW2]; exact KeepsWalks.putObj _ h.L rfl
 have hv2 : W2.heap[Bs]? = some (.cells #[v] 52 (0, 0)) := by rw [← hW2]; exact (World.putObj_heap_other hBl).trans hv
 have hK2 : W2.heap[D]? = some (.deferred (some [])) := by rw [← hW2]; exact (World.putObj_heap_other hDl).trans h.K
 have hL2 : W2.heap[l]? = some (.loop { Kx.apRec fn sv Bs D .ready none with state := .busy }) := by rw [← hW2]; exact World.putObj_heap_same hl
 have hrow2 : W2.ownsRow w0.heap.size 9 1 v ss.length (ss.map encStr) := hrow.kept hg2 (kx_ownsRow_ne hrow h.L (fun cur e => by cases e))
 have hb2 : Below w0.heap.size w0 W2 := h.below.grown hg2 h.below.size (fun k e => by cases e; exact h0l)
 obtain ⟨hc2, hf2⟩ := kx_cell_of_box hv2
 have hBlt : Bs < W2.heap.size := (Array.getElem?_eq_some_iff.1 hv2).1
 have hl2 : l < W2.heap.size := (Array.getElem?_eq_some_iff.1 hL2).1
 have hDlt : D < W2.heap.size := (Array.getElem?_eq_some_iff.1 hK2).1
 have ne_of : ∀ {j : Nat} {o : Obj}, W2.heap[j]? = some o → (∀ cur, o ≠ .cells cur 9 (0, 0)) → some j ≠ v.ownBlock := fun hj hno => by
  rcases kx_ownsRow_ne hrow2 hj hno with e | e
  ·rw [e]; simp
  ·exact fun e' => e e'.symm
 clear hW2
 unfold Kx.apAssign
 gi_wp2_with (rw [Oper.semAt_eq _ _ _ (fun c h => by cases h)]; go_simp; try go_bits)
 unfold Kx.apBody
 gi_wp2_with (first
  | (
    gi_at_builtin; refine wpListIn_append_own _ rfl _ _ 52 rfl w0.heap.size 9 i0 (.string ⟨#[]⟩) 1 16 Tryz.underlying52 hi hz0 hz1 hz2 rfl (by decide) _ _ _ rfl (hrow2.alloc _) ⟨W2.heap.size, 0, none⟩ 1 1 [encStr x] rfl rfl (cell_one_new _ _ _) (by simp [Value.oneCell', encStr]) (by omega) (by omega) (by have := hb2.size; simp; omega) ?_; intro v' w3 hown' hg3 hnil3
    have hv3 : w3.heap[Bs]? = some (.cells #[v] 52 (0, 0)) := (hg3.block Bs (by simp; omega) (ne_of hv2 (fun cur e => by cases e))).trans ((Below.heap_alloc _ _ Bs hBlt).trans hv2)
    obtain ⟨hc3, hf3⟩ := kx_cell_of_box hv3
    obtain ⟨g', cap', cur', rfl, hbase', hgb', hr1, hr2, hr3, hr4⟩ : ∃ g' cap' cur', v' = .slice (some ⟨g', 0, none⟩) (ss.length + 1) cap' ∧ w0.heap.size ≤ g' ∧ w3.heap[g']? = some (.cells cur' 9 (0, 0)) ∧ ss.length + 1 ≤ cap' ∧ cap' ≤ maxLen ∧ cur'.size = cap' * 1 ∧ cur'.toList.take ((ss.length + 1) * 1) = ss.map encStr ++ [encStr x] := by
     rcases hown'.2 with ⟨_, h0⟩ | h'
     ·exact absurd h0 (by omega)
     ·exact h'
    go_frame)
  | (rw [Oper.semAt_eq _ _ _ (fun c h => by cases h)]; go_simp; try go_bits))
 have hg3' : (W2.alloc (.cells #[encStr x] 9)).grownBy w3 v.ownBlock := hg3
 have hL3 : w3.heap[l]? = some (.loop { Kx.apRec fn sv Bs D .ready none with state := .busy }) := (hg3'.block l (by simp; omega) (ne_of hL2 (fun cur e => by cases e))).trans ((Below.heap_alloc _ _ l hl2).trans hL2)
 have hK3 : w3.heap[D]? = some (.deferred (some [])) := (hg3'.block D (by simp; omega) (ne_of hK2 (fun cur e => by cases e))).trans ((Below.heap_alloc _ _ D hDlt).trans hK2)
 obtain ⟨w4, hw4⟩ : ∃ w4, w3.setCell ⟨Bs, 0, none⟩ (.slice (some ⟨g', 0, none⟩) (ss.length + 1) cap') = w4 := ⟨_, rfl⟩
 rw [hw4]
 have hg4 : w3.grownBy w4 (some Bs) := by rw [← hw4]; exact kx_grownBy_setCell0 _ _ _
 have hv4 : w4.heap[Bs]? = some (.cells #[.slice (some ⟨g', 0, none⟩) (ss.length + 1) cap'] 52 (0, 0)) := by rw [← hw4]; exact kx_heap_setCell_box _ hv3
 have hL4 : w4.heap[l]? = some (.loop { Kx.apRec fn sv Bs D .ready none with state := .busy }) := (hg4.block l (Array.getElem?_eq_some_iff.1 hL3).1 (fun e => hBl (by cases e; rfl))).trans hL3
 have hK4 : w4.heap[D]? = some (.deferred (some [])) := (hg4.block D (Array.getElem?_eq_some_iff.1 hK3).1 (fun e => hDB (by cases e; rfl))).trans hK3
 have hrow4 := hown'.kept hg4 (kx_ownsRow_ne hown' hv3 (fun cur e => by cases e))
 have hl4 : l < w4.heap.size := (Array.getElem?_eq_some_iff.1 hL4).1
 have hb3 : Below w0.heap.size w0 w3 := (hb2.alloc hb2.size _).grown hg3' (by have := hb2.size; simp; omega) (fun k e => (hrow2.lt k e).1)
 have hb4 : Below w0.heap.size w0 w4 := hb3.grown hg4 hb3.size (fun k e => by cases e; exact h0B)
 have hk4 : KeepsWalks W w4 := ((hk2.trans (KeepsWalks.alloc _ _)).trans (KeepsWalks.of_grownBy hg3' (kx_ownsRow_not_walk (hrow2.alloc _)))).trans (by rw [← hw4]; exact KeepsWalks.setCell _ _ _)
 clear hw4
 refine ⟨_, _, run_endRound none hL4, rfl, ⟨⟨_, (World.putObj_heap_other hBl).trans hv4, ?_, by simp⟩, World.putObj_heap_same hl4, (World.putObj_heap_other hDl).trans hK4, hb4.grown (kx_grownBy_putObj _ _ _) hb4.size (fun k e => by cases e; exact h0l)⟩, hk4.trans (KeepsWalks.putObj _ hL4 rfl)⟩
 have := hrow4.kept (kx_grownBy_putObj w4 l (.loop { { Kx.apRec fn sv Bs D .ready none with state := .busy } with state := if (none : Option Code).isNone then .ready else .done, pending := none })) (kx_ownsRow_ne hrow4 hL4 (fun cur e => by cases e))
 simpa using this
set_option maxRecDepth 100000 in
set_option maxHeartbeats 2000000 in
theorem Kx.appendSeq_in (F : Fence) (n : Nat) (h11 : F.fn 193) (hro : F.round = none) (hn : 2 ≤ n) (g : Nat) (lb : Array Value) (hFg : F.fn g) (eg : ∀ args w, (callFunc g args).run Tryz.prog w = .ok (.enter g args) w)
  (S : List (List UInt8) → Prop) (N : Nat) (hN : N ≤ maxLen) (hNb : N * 16 ≤ 140737488355328) (w : World) (hseq : SeqGives F (n - 1) Tryz.prog g lb encStr S N w) :
  CallsIn F n Tryz.prog 193 #[.slice none 0 0, .func (.func g) #[] lb] w fun e w' => ∃ (v : Value) (ss : List (List UInt8)), e = .returned v ∧ S ss ∧ w'.ownsRow w.heap.size 9 1 v ss.length (ss.map encStr) ∧ (v = .slice none 0 0 ↔ ss = []) ∧ Below w.heap.size w w' := by
 have h1 : 1 ≤ n := by omega
 refine callsIn_of_wp_marks Tryz.func193 rfl h11 ?_ hro
 simp only [Tryz.ntmps193, List.size_toArray, List.length_cons, List.length_nil, Nat.reduceAdd, Nat.reduceSub, Array.replicate_succ, Array.replicate_zero, List.push_toArray, List.append_toArray, List.nil_append, List.cons_append]
 gi_wp2
 refine wpIn_rangeFunc ?_
 intro fn hfn
 rw [hro]
 obtain ⟨W0, hW0⟩ : ∃ W0, w.alloc (.cells #[.slice none 0 0] 52) = W0 := ⟨_, rfl⟩
 have hs0 : W0.heap.size = w.heap.size + 1 := by rw [← hW0]; simp
 have hv0 : W0.heap[w.heap.size]? = some (.cells #[.slice none 0 0] 52 (0, 0)) := by rw [← hW0]; exact World.alloc_heap_new w _
 have hb0 : Below w.heap.size w W0 := by rw [← hW0]; exact (Below.refl _ w).alloc (Nat.le_refl _) _
 rw [hW0]
 obtain ⟨W1, hW1⟩ : ∃ W1, (W0.alloc (.deferred (some []))).alloc (.loop (Kx.apRec fn (.func (.func g) #[] lb) w.heap.size W0.heap.size .ready none)) = W1 := ⟨_, rfl⟩
 have hold : ∀ k, k < W0.heap.size → W1.heap[k]? = W0.heap[k]? := fun k hk => by
  rw [← hW1]; exact (Below.heap_alloc _ _ k (by simp; omega)).trans (Below.heap_alloc _ _ k hk)
 have hb1 : Below w.heap.size w W1 := by rw [← hW1]; exact (hb0.alloc hb0.size _).alloc (by have := hb0.size; simp; omega) _
 have hs1 : W1.heap.size = W0.heap.size + 2 := by rw [← hW1]; simp
 have hM : Kx.ApAt w fn (.func (.func g) #[] lb) w.heap.size (W0.heap.size + 1) W0.heap.size [] W1 :=
  ⟨⟨_, (hold w.heap.size (by omega)).trans hv0, ⟨rfl, .inl ⟨rfl, rfl⟩⟩, by simp⟩,
   by rw [← hW1]; have := World.alloc_heap_new (W0.alloc (.deferred (some []))) (.loop (Kx.apRec fn (.func (.func g) #[] lb) w.heap.size W0.heap.size .ready none)); rwa [World.size_alloc] at this,
   by rw [← hW1]; exact (Below.heap_alloc _ _ _ (by simp)).trans (World.alloc_heap_new W0 _), hb1⟩
 refine ⟨W0.heap.size + 1, [{ target := .collected W0.heap.size, args := #[] }], W1, { target := .fn (.func g) lb, args := #[.func (.yield (W0.heap.size + 1)) #[] #[]] }, W1, g,
  #[.func (.yield (W0.heap.size + 1)) #[] #[]] ++ lb, W1, ?_, ?_, ?_, ?_, fun _ => h1, ?_⟩
 ·rw [← hW1]; exact run_enterLoop_outer _ _ _ _ _
 ·simp [resolve, go_sem]
 ·intro f' hf'; simp [Target.leads] at hf'; subst hf'; exact hFg
 ·simp [invoke, go_sem, eg]
 ·refine (hseq (W0.heap.size + 1) (Kx.ApAt w fn (.func (.func g) #[] lb) w.heap.size (W0.heap.size + 1) W0.heap.size) W1 hb1 (Kx.ap_abides _ _ _ _ _ _ _ hb1.size)
   (fun pre x W hJ hl => Kx.apYield F (n - 1 - 1) w fn hfn _ w.heap.size (W0.heap.size + 1) W0.heap.size (by omega) (by omega) (by omega) (Nat.le_refl _) (by omega) N hN hNb pre x W hJ hl) hM).mono ?_
  rintro e W2 ⟨⟨v0, rfl⟩, ss, hS, h2⟩
  obtain ⟨v, hv, hrow, hnil⟩ := h2.box
  have hend := run_endLoop (P := Tryz.prog) h2.L (by simp [Kx.apRec])
  obtain ⟨W3, hW3⟩ : ∃ W3, W2.putObj (W0.heap.size + 1) (.loop { Kx.apRec fn (.func (.func g) #[] lb) w.heap.size W0.heap.size .ready none with state := .exhausted }) = W3 := ⟨_, rfl⟩
  rw [hW3] at hend
  have hg3 : W2.grownBy W3 (some (W0.heap.size + 1)) := by rw [← hW3]; exact kx_grownBy_putObj _ _ _
  have hv3 : W3.heap[w.heap.size]? = some (.cells #[v] 52 (0, 0)) := by rw [← hW3]; exact (World.putObj_heap_other (by omega)).trans hv
  have hK3 : W3.heap[W0.heap.size]? = some (.deferred (some [])) := by rw [← hW3]; exact (World.putObj_heap_other (by omega)).trans h2.K
  have hrow3 := hrow.kept hg3 (kx_ownsRow_ne hrow h2.L (fun cur e => by cases e))
  have hb3 : Below w.heap.size w W3 := h2.below.grown hg3 h2.below.size (fun k e => by cases e; omega)
  obtain ⟨hc3, hf3⟩ := kx_cell_of_box hv3
  clear hW3
  refine ⟨none, W3, hend, ?_⟩
  gi_wp2
  rw [← hs0]
  refine ⟨by simp, .inl ⟨_, _, rfl, run_takeDeferred hK3, ?_⟩⟩
  exact ⟨_, results_tmp rfl _ _ _, v, ss, rfl, hS, hrow3.kept (kx_grownBy_putObj _ _ _) (kx_ownsRow_ne hrow3 hK3 (fun cur e => by cases e)), hnil, hb3.grown (kx_grownBy_putObj _ _ _) hb3.size (fun k e => by cases e; omega)⟩
set_option maxHeartbeats 1000000 in
theorem Kx.collect_in (F : Fence) (n : Nat) (h8 : F.fn 143) (h11 : F.fn 193) (hro : F.round = none) (hn : 3 ≤ n) (g : Nat) (lb : Array Value) (hFg : F.fn g) (eg : ∀ args w, (callFunc g args).run Tryz.prog w = .ok (.enter g args) w)
  (S : List (List UInt8) → Prop) (N : Nat) (hN : N ≤ maxLen) (hNb : N * 16 ≤ 140737488355328) (w : World) (hseq : SeqGives F (n - 1 - 1) Tryz.prog g lb encStr S N w) :
  CallsIn F n Tryz.prog 143 #[.func (.func g) #[] lb] w fun e w' => ∃ (v : Value) (ss : List (List UInt8)), e = .returned v ∧ S ss ∧ w'.ownsRow w.heap.size 9 1 v ss.length (ss.map encStr) ∧ (v = .slice none 0 0 ↔ ss = []) ∧ Below w.heap.size w w' := by
 have h1 : 1 ≤ n := by omega
 refine callsIn_of_wp Tryz.func143 rfl h8 ?_ hro
 simp only [Tryz.ntmps143, List.size_toArray, List.length_cons, List.length_nil, Nat.reduceAdd, Nat.reduceSub, Array.replicate_succ, Array.replicate_zero, List.push_toArray, List.append_toArray, List.nil_append, List.cons_append]
 gi_wp2_with (gi_at_call 193; refine (Kx.appendSeq_in F (n - 1) h11 hro (by omega) g lb hFg eg S N hN hNb _ hseq).mono ?_; rintro e w' ⟨v, ss, rfl, hS, hrow, hnil, hb⟩)
 go_ret
 exact ⟨v, ss, rfl, hS, hrow, hnil, hb⟩
def Kx.SortsIn (F : Fence) (m : Nat) : Prop :=
 (∀ (blk off cap : Nat) (ss : List (List UInt8)) (W : World), Holds encStr W blk off ss.toArray → blk < W.heap.size → ss.length < 4611686018427387904 →
  CallsIn F m Tryz.prog 28 #[.slice (some ⟨blk, off, none⟩) ss.length cap] W fun e w' => e = .returned (.tuple #[]) ∧ ∃ k os, w' = grow (putRow encStr (Sort.ahead W k) blk off (ss.mergeSort fun x y => decide (x ≤ y)).toArray) os) ∧
 (∀ (p : Option Addr) (cap : Nat) (W : World), CallsIn F m Tryz.prog 28 #[.slice p 0 cap] W fun e w' => e = .returned (.tuple #[]) ∧ w' = W)
set_option maxRecDepth 100000 in
set_option maxHeartbeats 2000000 in
theorem Kx.sorted_in (F : Fence) (n : Nat) (h6 : F.fn 62) (h8 : F.fn 143) (h9 : F.fn 28) (h11 : F.fn 193) (hro : F.round = none) (hn : 4 ≤ n) (hsort : Kx.SortsIn F (n - 1)) (g : Nat) (lb : Array Value) (hFg : F.fn g) (eg : ∀ args w, (callFunc g args).run Tryz.prog w = .ok (.enter g args) w)
  (S : List (List UInt8) → Prop) (N : Nat) (hN : N ≤ maxLen) (hNb : N * 16 ≤ 140737488355328) (w : World) (hseq : SeqGives F (n - 1 - 1 - 1) Tryz.prog g lb encStr S N w) :
  CallsIn F n Tryz.prog 62 #[.func (.func g) #[] lb] w fun e w' => ∃ (v : Value) (ss : List (List UInt8)), e = .returned v ∧ S ss ∧
   w'.ownsRow w.heap.size 9 1 v ss.length ((ss.mergeSort (fun x y => decide (x ≤ y))).map encStr) ∧ (v = .slice none 0 0 ↔ ss = []) ∧ Below w.heap.size w w' := by
 have h1 : 1 ≤ n := by omega
 refine callsIn_of_wp Tryz.func62 rfl h6 ?_ hro
 simp only [Tryz.ntmps62, List.size_toArray, List.length_cons, List.length_nil, Nat.reduceAdd, Nat.reduceSub, Array.replicate_succ, Array.replicate_zero, List.push_toArray, List.append_toArray, List.nil_append, List.cons_append]
 gi_wp2_with (gi_at_call 143; refine (Kx.collect_in F (n - 1) h8 h11 hro (by omega) g lb hFg eg _ N hN hNb _ hseq.bounded).mono ?_; rintro e W ⟨v, ss, rfl, ⟨hS, hlen⟩, hrow, hnil, hb⟩)
 rcases hrow.2 with ⟨rfl, hz⟩ | ⟨gb, cap, cur, rfl, hbase, hgb, r1, r2, r3, r4⟩
 ·-- nothing came: the nil slice is sorted and handed back
  have hss : ss = [] := List.eq_nil_of_length_eq_zero hz
  subst hss
  gi_wp2_with (gi_at_call 28; refine (hsort.2 none 0 W).mono ?_; rintro e w' ⟨rfl, rfl⟩)
  go_ret
  exact ⟨.slice none 0 0, [], rfl, hS, by simpa using hrow, by simp, hb⟩
 ·have hH : Holds encStr W gb 0 ss.toArray := holds_of_block hgb (by simpa using r4)
  have hgl : gb < W.heap.size := (Array.getElem?_eq_some_iff.1 hgb).1
  have hsz : ss.length < 4611686018427387904 := by omega
  have cS := hsort.1 gb 0 cap ss W hH hgl hsz
  gi_wp2_with (gi_at_call 28; refine cS.mono ?_; rintro e w' ⟨rfl, nn, os, rfl⟩)
  go_ret
  exact ⟨_, ss, rfl, hS, ownsRow_sorted (by simp) hbase hgb r1 r2 r3, hnil, hb.grown (grownBy_sorted _) hb.size (fun j hj => by cases hj; exact hbase)⟩
end Go.Proofs
end
section
namespace Go.Abs
open Go Go.Proofs Go.Sort Go.Maps
theorem sorts_wide (m : Nat) : Kx.SortsIn Fence.wide m :=
 ⟨fun blk off cap ss W hH hblk hsz => callsIn_wide.2 (Tryz.slices_Sort_string blk off cap ss W hH hblk hsz),
  fun p cap W => callsIn_wide.2 (Tryz.slices_Sort_string_none p cap W)⟩
end Go.Abs
end
section
namespace Go.Abs
open Go Go.Proofs
section assoc
variable {α : Type}
def amap (e : α → AV) (m : List (B × α)) : List (ByteArray × AV) := m.map fun p => (ofB p.1, e p.2)
def lk : List (B × α) → B → Option α
 | [], _ => none
 | (s, v) :: m, k => if s = k then some v else lk m k
def pt : List (B × α) → B → α → List (B × α)
 | [], k, v => [(k, v)]
 | (s, u) :: m, k, v => if s = k then (k, v) :: m else (s, u) :: pt m k v
def dl : List (B × α) → B → List (B × α)
 | [], _ => []
 | (s, u) :: m, k => if s = k then m else (s, u) :: dl m k
def kys (m : List (B × α)) : List B := m.map (·.1)
theorem amap_find (e : α → AV) (m : List (B × α)) (k : B) : mapFind (amap e m) (ofB k) = (lk m k).map e := by
 induction m with
 | nil => rfl
 | cons p m ih =>
  obtain ⟨s, v⟩ := p
  show (if ofB s = ofB k then some (e v) else mapFind (amap e m) (ofB k)) = _
  rw [ih]
  by_cases h : s = k
  ·subst h; simp [lk]
  ·have : ofB s ≠ ofB k := fun x => h (ofB_inj x)
   simp [lk, h, this]
theorem amap_put (e : α → AV) (m : List (B × α)) (k : B) (v : α) : mapPut (amap e m) (ofB k) (e v) = amap e (pt m k v) := by
 induction m with
 | nil => rfl
 | cons p m ih =>
  obtain ⟨s, u⟩ := p
  show (if ofB s = ofB k then (ofB k, e v) :: amap e m else (ofB s, e u) :: mapPut (amap e m) (ofB k) (e v)) = _
  rw [ih]
  by_cases h : s = k
  ·subst h; simp [pt, amap]
  ·have : ofB s ≠ ofB k := fun x => h (ofB_inj x)
   simp [pt, h, this, amap]
theorem amap_del (e : α → AV) (m : List (B × α)) (k : B) : mapDel (amap e m) (ofB k) = amap e (dl m k) := by
 induction m with
 | nil => rfl
 | cons p m ih =>
  obtain ⟨s, u⟩ := p
  show (if ofB s = ofB k then amap e m else (ofB s, e u) :: mapDel (amap e m) (ofB k)) = _
  rw [ih]
  by_cases h : s = k
  ·subst h; simp [dl, amap]
  ·have : ofB s ≠ ofB k := fun x => h (ofB_inj x)
   simp [dl, h, this, amap]
theorem lk_some {m : List (B × α)} {k : B} {v : α} (h : lk m k = some v) : (k, v) ∈ m := by
 induction m with
 | nil => cases h
 | cons p m ih =>
  obtain ⟨s, u⟩ := p
  simp only [lk] at h
  split at h
  ·rename_i e; subst e; cases h; simp
  ·exact List.mem_cons_of_mem _ (ih h)
theorem lk_none {m : List (B × α)} {k : B} : lk m k = none ↔ k ∉ kys m := by
 induction m with
 | nil => simp [lk, kys]
 | cons p m ih =>
  obtain ⟨s, u⟩ := p
  by_cases e : s = k
  ·subst e; simp [lk, kys]
  ·have : k ≠ s := fun x => e x.symm
   simp only [lk, e, if_false, ih, kys, List.map_cons, List.mem_cons, this, false_or]
theorem lk_mem {m : List (B × α)} {k : B} (h : k ∈ kys m) : ∃ v, lk m k = some v := by
 cases e : lk m k with
 | none => exact absurd h (lk_none.1 e)
 | some v => exact ⟨v, rfl⟩
theorem lk_key {m : List (B × α)} {k : B} {v : α} (h : lk m k = some v) : k ∈ kys m := List.mem_map_of_mem (f := (·.1)) (lk_some h)
theorem lk_pt (m : List (B × α)) (k j : B) (v : α) : lk (pt m k v) j = if k = j then some v else lk m j := by
 induction m with
 | nil => simp [pt, lk]
 | cons p m ih =>
  obtain ⟨s, u⟩ := p
  by_cases e : s = k
  ·subst e
   simp only [pt, if_true, lk]
   split <;> rfl
  ·simp only [pt, e, if_false, lk, ih]
   by_cases e2 : s = j
   ·subst e2; simp [Ne.symm e]
   ·simp [e2]
theorem kys_pt {m : List (B × α)} {k : B} {v : α} (h : k ∈ kys m) : kys (pt m k v) = kys m := by
 induction m with
 | nil => simp [kys] at h
 | cons p m ih =>
  obtain ⟨s, u⟩ := p
  by_cases e : s = k
  ·subst e; simp [pt, kys]
  ·have h2 : k ∈ kys m := by
    simp only [kys, List.map_cons, List.mem_cons] at h
    exact h.resolve_left (Ne.symm e)
   have := ih h2
   unfold kys at this ⊢
   simp only [pt, e, if_false, List.map_cons, this]
theorem kys_pt_new {m : List (B × α)} {k : B} {v : α} (h : k ∉ kys m) : pt m k v = m ++ [(k, v)] := by
 induction m with
 | nil => rfl
 | cons p m ih =>
  obtain ⟨s, u⟩ := p
  have h1 : s ≠ k := fun e => h (by simp [kys, e])
  have h2 : k ∉ kys m := fun e => h (by unfold kys at e ⊢; simp [e])
  simp [pt, h1, ih h2]
theorem mem_kys_pt {m : List (B × α)} {k j : B} {v : α} : j ∈ kys (pt m k v) ↔ j = k ∨ j ∈ kys m := by
 by_cases h : k ∈ kys m
 ·rw [kys_pt h]
  exact ⟨fun x => .inr x, fun x => x.elim (fun e => e ▸ h) id⟩
 ·rw [kys_pt_new h]; unfold kys; simp [or_comm]
theorem nodup_pt {m : List (B × α)} {k : B} {v : α} (hn : (kys m).Nodup) : (kys (pt m k v)).Nodup := by
 by_cases h : k ∈ kys m
 ·rw [kys_pt h]; exact hn
 ·rw [kys_pt_new h]
  unfold kys at *
  simp only [List.map_append, List.map_cons, List.map_nil]
  exact List.nodup_append.2 ⟨hn, by simp, fun a ha b hb => by
   simp only [List.mem_cons, List.not_mem_nil, or_false] at hb
   subst hb
   exact fun e => h (e ▸ ha)⟩
theorem dl_sub {m : List (B × α)} {k : B} : (dl m k).Sublist m := by
 induction m with
 | nil => simp [dl]
 | cons p m ih =>
  obtain ⟨s, u⟩ := p
  simp only [dl]
  split
  ·exact List.sublist_cons_self _ _
  ·exact ih.cons_cons _
theorem nodup_dl {m : List (B × α)} {k : B} (hn : (kys m).Nodup) : (kys (dl m k)).Nodup := (dl_sub.map _).nodup hn
theorem pt_length (m : List (B × α)) (k : B) (v : α) : (pt m k v).length ≤ m.length + 1 := by
 induction m with
 | nil => simp [pt]
 | cons p m ih =>
  obtain ⟨s, u⟩ := p
  simp only [pt]
  split <;> simp; omega
theorem dl_length (m : List (B × α)) (k : B) : (dl m k).length ≤ m.length := dl_sub.length_le
theorem pt_mem {m : List (B × α)} {k : B} {v : α} {p : B × α} (h : p ∈ pt m k v) : p = (k, v) ∨ p ∈ m := by
 induction m with
 | nil => simpa [pt] using h
 | cons q m ih =>
  obtain ⟨s, u⟩ := q
  simp only [pt] at h
  split at h
  ·rcases List.mem_cons.1 h with h | h
   ·exact .inl h
   ·exact .inr (List.mem_cons_of_mem _ h)
  ·rcases List.mem_cons.1 h with h | h
   ·exact .inr (by rw [h]; simp)
   ·exact (ih h).imp id (List.mem_cons_of_mem _)
end assoc
structure Fl where
 b : B
 safe : Nat
def flZ : Fl := ⟨[], 0⟩
abbrev FM := List (B × Fl)
def gF (m : FM) (k : B) : Fl := (lk m k).getD flZ
structure FSt where
 fs : FM
 fail : Int
 fall : Int
 down : Bool
def fs0 : FSt := ⟨[], -1, -1, false⟩
def cnt (a : Int) : Int := if a - 1 < -1 then -1 else a - 1
def FSt.act (s : FSt) (late : Bool) (g : FM → FM) : FSt × Int :=
 if s.fall = 0 then (⟨if late then g s.fs else s.fs, cnt s.fail, cnt s.fall, true⟩, 7)
 else if s.fail = 0 then (⟨s.fs, cnt s.fail, cnt s.fall, s.down⟩, 8)
 else (⟨g s.fs, cnt s.fail, cnt s.fall, s.down⟩, 0)
def addF (name b : B) (m : FM) : FM := pt m name ⟨(gF m name).b ++ b, (gF m name).safe⟩
def syncF (name : B) (m : FM) : FM := pt m name ⟨(gF m name).b, (gF m name).b.length⟩
def renF (a b : B) (m : FM) : FM := pt (dl m a) b (gF m a)
def FSt.may (s : FSt) (name : B) : Int := if s.down then 7 else if (lk s.fs name).isNone then 6 else 0
def FSt.append (s : FSt) (name b : B) : FSt × Int := if s.down then (s, 7) else s.act true (addF name b)
def FSt.sync (s : FSt) (name : B) : FSt × Int := if s.may name ≠ 0 then (s, s.may name) else s.act false (syncF name)
def FSt.rename (s : FSt) (a b : B) : FSt × Int := if s.may a ≠ 0 then (s, s.may a) else s.act false (renF a b)
def FSt.remove (s : FSt) (name : B) : FSt × Int := if s.may name ≠ 0 then (s, s.may name) else s.act false fun m => dl m name
def crashF : List B → List Int → FM → FM
 | [], _, m => m
 | n :: l, keep, m =>
  if (gF m n).safe = (gF m n).b.length then crashF l keep m
  else match keep with
   | [] => crashF l [] (pt m n ⟨(gF m n).b.take (gF m n).safe, (gF m n).safe⟩)
   | k :: keep => crashF l keep (pt m n ⟨(gF m n).b.take ((gF m n).safe + (min (max k 0) ((gF m n).b.length - (gF m n).safe : Int)).toNat), (gF m n).safe + (min (max k 0) ((gF m n).b.length - (gF m n).safe : Int)).toNat⟩)
def FSt.names (s : FSt) : List B := sortB (kys s.fs)
def FSt.crash (s : FSt) (keep : List Int) : FSt := ⟨crashF s.names keep s.fs, -1, -1, false⟩
structure FMOk (m : FM) (nb fb : Nat) : Prop where
 nodup : (kys m).Nodup
 safe : ∀ p ∈ m, p.2.safe ≤ p.2.b.length
 len : m.length ≤ nb
 bytes : ∀ p ∈ m, p.2.b.length ≤ fb
 names : ∀ n ∈ kys m, n.length < 1000000
def okN (a : Int) : Prop := -1 ≤ a ∧ a < 9223372036854775808
structure FOk (s : FSt) (nb fb : Nat) : Prop where
 m : FMOk s.fs nb fb
 fail : okN s.fail
 fall : okN s.fall
theorem FMOk.mono {m : FM} {nb fb nb' fb' : Nat} (h : FMOk m nb fb) (h1 : nb ≤ nb') (h2 : fb ≤ fb') : FMOk m nb' fb' :=
 ⟨h.nodup, h.safe, Nat.le_trans h.len h1, fun p hp => Nat.le_trans (h.bytes p hp) h2, h.names⟩
theorem FMOk.get {m : FM} {nb fb : Nat} (h : FMOk m nb fb) (k : B) : (gF m k).safe ≤ (gF m k).b.length ∧ (gF m k).b.length ≤ fb := by
 unfold gF
 cases e : lk m k with
 | none => simp [flZ]
 | some v => exact ⟨h.safe _ (lk_some e), h.bytes _ (lk_some e)⟩
theorem FMOk.put {m : FM} {nb fb fb' : Nat} (h : FMOk m nb fb) {k : B} {v : Fl} (hk : k.length < 1000000) (hs : v.safe ≤ v.b.length) (hb : v.b.length ≤ fb') (hf : fb ≤ fb') : FMOk (pt m k v) (nb + 1) fb' := by
 refine ⟨nodup_pt h.nodup, fun p hp => ?_, Nat.le_trans (pt_length m k v) (Nat.succ_le_succ h.len), fun p hp => ?_, fun n hn => ?_⟩
 ·rcases pt_mem hp with rfl | hp
  ·exact hs
  ·exact h.safe p hp
 ·rcases pt_mem hp with rfl | hp
  ·exact hb
  ·exact Nat.le_trans (h.bytes p hp) hf
 ·rcases mem_kys_pt.1 hn with rfl | hn
  ·exact hk
  ·exact h.names n hn
theorem FMOk.put_old {m : FM} {nb fb fb' : Nat} (h : FMOk m nb fb) {k : B} {v : Fl} (hk : k ∈ kys m) (hs : v.safe ≤ v.b.length) (hb : v.b.length ≤ fb') (hf : fb ≤ fb') : FMOk (pt m k v) nb fb' := by
 have h1 := h.put (h.names k hk) hs hb hf
 refine ⟨h1.nodup, h1.safe, ?_, h1.bytes, h1.names⟩
 have := congrArg List.length (kys_pt (v := v) hk)
 simp only [kys, List.length_map] at this
 rw [this]; exact h.len
theorem FMOk.del {m : FM} {nb fb : Nat} (h : FMOk m nb fb) (k : B) : FMOk (dl m k) nb fb :=
 ⟨nodup_dl h.nodup, fun p hp => h.safe p (dl_sub.subset hp), Nat.le_trans (dl_length m k) h.len, fun p hp => h.bytes p (dl_sub.subset hp), fun n hn => h.names n ((dl_sub.map _).subset hn)⟩
theorem cnt_ok {a : Int} (h : okN a) : okN (cnt a) := by
 unfold okN cnt at *; split <;> omega
theorem gF_pt (m : FM) (k j : B) (v : Fl) : gF (pt m k v) j = if k = j then v else gF m j := by
 unfold gF; rw [lk_pt]; split <;> rfl
theorem addF_ok {m : FM} {nb fb : Nat} (h : FMOk m nb fb) {name b : B} (hn : name.length < 1000000) : FMOk (addF name b m) (nb + 1) (fb + b.length) := by
 have := h.get name
 exact h.put hn (by simp; omega) (by simp; omega) (by omega)
theorem syncF_ok {m : FM} {nb fb : Nat} (h : FMOk m nb fb) {name : B} (hn : name ∈ kys m) : FMOk (syncF name m) nb fb := by
 have := h.get name
 exact h.put_old hn (by simp) (by simp; omega) (by omega)
theorem act_ok {s : FSt} {nb fb nb' fb' : Nat} (h : FOk s nb fb) (late : Bool) {g : FM → FM} (hg : FMOk (g s.fs) nb' fb') (h1 : nb ≤ nb') (h2 : fb ≤ fb') : FOk (s.act late g).1 nb' fb' := by
 unfold FSt.act
 have := h.m.mono h1 h2
 split
 ·exact ⟨by cases late <;> assumption, cnt_ok h.fail, cnt_ok h.fall⟩
 ·split
  ·exact ⟨this, cnt_ok h.fail, cnt_ok h.fall⟩
  ·exact ⟨hg, cnt_ok h.fail, cnt_ok h.fall⟩
theorem FOk.mono {s : FSt} {nb fb nb' fb' : Nat} (h : FOk s nb fb) (h1 : nb ≤ nb') (h2 : fb ≤ fb') : FOk s nb' fb' := ⟨h.m.mono h1 h2, h.fail, h.fall⟩
theorem may_mem {s : FSt} {name : B} (h : ¬ s.may name ≠ 0) : s.down = false ∧ name ∈ kys s.fs := by
 unfold FSt.may at h
 split at h
 ·simp at h
 ·rename_i hd
  split at h
  ·simp at h
  ·rename_i hl
   refine ⟨by simpa using hd, ?_⟩
   cases e : lk s.fs name with
   | none => simp [e] at hl
   | some v => exact lk_key e
theorem append_ok {s : FSt} {nb fb : Nat} (h : FOk s nb fb) {name b : B} (hn : name.length < 1000000) : FOk (s.append name b).1 (nb + 1) (fb + b.length) := by
 unfold FSt.append
 split
 ·exact h.mono (by omega) (by omega)
 ·exact act_ok h true (addF_ok h.m hn) (by omega) (by omega)
theorem sync_ok {s : FSt} {nb fb : Nat} (h : FOk s nb fb) {name : B} : FOk (s.sync name).1 nb fb := by
 unfold FSt.sync
 split
 ·exact h
 ·rename_i hm
  exact act_ok h false (syncF_ok h.m (may_mem hm).2) (by omega) (by omega)
theorem remove_ok {s : FSt} {nb fb : Nat} (h : FOk s nb fb) {name : B} : FOk (s.remove name).1 nb fb := by
 unfold FSt.remove
 split
 ·exact h
 ·exact act_ok h false (h.m.del name) (by omega) (by omega)
theorem crashF_spec {nb fb : Nat} : ∀ (l : List B) (keep : List Int) (m : FM), l.Nodup → (∀ n ∈ l, n ∈ kys m) → FMOk m nb fb →
  FMOk (crashF l keep m) nb fb ∧ kys (crashF l keep m) = kys m ∧
   (∀ n ∈ l, ∃ k, (gF m n).safe ≤ k ∧ k ≤ (gF m n).b.length ∧ gF (crashF l keep m) n = ⟨(gF m n).b.take k, k⟩) ∧ ∀ n, n ∉ l → gF (crashF l keep m) n = gF m n := by
 intro l
 induction l with
 | nil => intro keep m _ _ h; exact ⟨h, rfl, by simp, fun n _ => rfl⟩
 | cons a l ih =>
  intro keep m hnd hmem h
  obtain ⟨ha, hnd⟩ := List.nodup_cons.1 hnd
  have hg := h.get a
  have ham := hmem a (by simp)
  have key : ∀ (k : Nat) (keep' : List Int), (gF m a).safe ≤ k → k ≤ (gF m a).b.length →
    FMOk (crashF l keep' (pt m a ⟨(gF m a).b.take k, k⟩)) nb fb ∧ kys (crashF l keep' (pt m a ⟨(gF m a).b.take k, k⟩)) = kys m ∧
    (∀ n ∈ a :: l, ∃ k', (gF m n).safe ≤ k' ∧ k' ≤ (gF m n).b.length ∧ gF (crashF l keep' (pt m a ⟨(gF m a).b.take k, k⟩)) n = ⟨(gF m n).b.take k', k'⟩) ∧
    ∀ n, n ∉ a :: l → gF (crashF l keep' (pt m a ⟨(gF m a).b.take k, k⟩)) n = gF m n := by
   intro k keep' h1 h2
   obtain ⟨i1, i2, i3, i4⟩ := ih keep' (pt m a ⟨(gF m a).b.take k, k⟩) hnd (fun n hn => by rw [kys_pt ham]; exact hmem n (by simp [hn])) (h.put_old ham (by simp; omega) (by simp; omega) (by omega))
   refine ⟨i1, by rw [i2, kys_pt ham], fun n hn => ?_, fun n hn => ?_⟩
   ·rcases List.mem_cons.1 hn with rfl | hn
    ·exact ⟨k, h1, h2, by rw [i4 n ha, gF_pt, if_pos rfl]⟩
    ·have hne : a ≠ n := fun e => ha (e ▸ hn)
     obtain ⟨k', e1, e2, e3⟩ := i3 n hn
     rw [gF_pt, if_neg hne] at e1 e2 e3
     exact ⟨k', e1, e2, e3⟩
   ·have hne : a ≠ n := fun e => hn (by simp [e])
    rw [i4 n (fun e => hn (by simp [e])), gF_pt, if_neg hne]
  unfold crashF
  split
  ·rename_i hs
   obtain ⟨i1, i2, i3, i4⟩ := ih keep m hnd (fun n hn => hmem n (by simp [hn])) h
   refine ⟨i1, i2, fun n hn => ?_, fun n hn => i4 n fun e => hn (by simp [e])⟩
   rcases List.mem_cons.1 hn with rfl | hn
   ·refine ⟨(gF m n).b.length, by omega, Nat.le_refl _, ?_⟩
    rw [i4 n ha, List.take_length, ← hs]
   ·exact i3 n hn
  ·cases keep with
   | nil => exact key _ _ (Nat.le_refl _) hg.1
   | cons k keep => exact key _ _ (by omega) (by omega)
theorem names_perm (s : FSt) : s.names.Perm (kys s.fs) := List.mergeSort_perm _ _
theorem crash_spec {s : FSt} {nb fb : Nat} (h : FOk s nb fb) (keep : List Int) : FOk (s.crash keep) nb fb ∧ kys (s.crash keep).fs = kys s.fs ∧
  ∀ n ∈ kys s.fs, ∃ k, (gF s.fs n).safe ≤ k ∧ k ≤ (gF s.fs n).b.length ∧ gF (s.crash keep).fs n = ⟨(gF s.fs n).b.take k, k⟩ := by
 have hp := names_perm s
 obtain ⟨i1, i2, i3, i4⟩ := crashF_spec s.names keep s.fs (hp.nodup_iff.2 h.m.nodup) (fun n hn => hp.mem_iff.1 hn) h.m
 have hm1 : okN (-1) := by unfold okN; omega
 exact ⟨⟨i1, hm1, hm1⟩, i2, fun n hn => i3 n (hp.mem_iff.2 hn)⟩
end Go.Abs
end
section
namespace Go.Abs
open Go Go.Proofs Go.Shelf Go.RowKit
def byteEls (l : B) : List (List AV) := l.map fun c => [.val (.int .u8 c.toNat)]
end Go.Abs
end
section
namespace Go.Abs
open Go Go.Proofs
structure Ac where
 kind : Int
 name : B
 to : B
 body : B
 n : Int
 keep : List Int
def intsZ (l : List Int) : List (List AV) := l.map fun i => [vi i]
def Ac.enc (a : Ac) : List AV := [vi a.kind, vs a.name, vs a.to, .sl none 1 (byteEls a.body), vi a.n, .sl none 1 (intsZ a.keep)]
end Go.Abs
end
section
namespace Go.Proofs
open Go.RowKit Go.Maps Go.Sort Go.Shelf
def vElem {H : Type} : Value → Option (DataW H × List MemPlace) := fun _ => some (.lit (.bool true), [])
set_option maxRecDepth 100000 in
set_option maxHeartbeats 1000000 in
theorem Fx.keys1N_in {H : Type} (F : Fence) (n : Nat) (h10 : F.fn 144) (hro : F.round = none) (hn : 1 ≤ n) (l Bm b nn : Nat) (D0 : DataW H) (J : List (List UInt8) → World → Prop)
  (hY : ∀ pre x W, J pre W → pre.length < Maps.size D0 → YieldAt F (n - 1) Tryz.prog l #[encStr x] W fun e W' => e = .returned (.bool true) ∧ J (pre ++ [x]) W' ∧ KeepsWalks W W')
  (W : World) (hJ : AbidesFrom W.heap.size J) (hm : W.cell? ⟨Bm, 0, none⟩ = some (.map (some b))) (hown : W.ownsMap Tryz.prog 9 vElem b nn D0) (h0 : J [] W) :
  CallsIn F n Tryz.prog 144 #[.func (.yield l) #[] #[], .pointer (some ⟨Bm, 0, none⟩)] W fun e W' => (∃ v, e = .returned v) ∧ ∃ ss : List (List UInt8), ss.Perm (strKeys D0) ∧ J ss W' := by
 refine callsIn_of_wp Tryz.func144 rfl h10 ?_ hro
 simp only [Tryz.ntmps144, List.size_toArray, List.length_cons, List.length_nil, Nat.reduceAdd, Nat.reduceSub, Array.replicate_succ, Array.replicate_zero, List.push_toArray, List.append_toArray, List.nil_append, List.cons_append]
 gi_wp2_with (first
  | (gi_at_range; refine wpListIn_range_own _ rfl _ 93 rfl 9 153 Kx.law26 Tryz.underlying93 _ b nn _ rfl hown ?_; intro w0 hrg0 hg0 hs0)
  | gi_in)
 go_frame
 gi_loopw [3] (fun _ wr => ∃ (left : Lit → Bool) (cnt : Nat) (ss : List (List UInt8)), wr.ranges Tryz.prog 9 vElem b W.heap.size nn D0 left cnt ∧ ss.length + cnt ≤ Maps.size D0 ∧ Collected D0 left ss ∧ J ss wr)
  (fun _ wr => wr.rangeLeft b W.heap.size)
 case atStart =>
  exact ⟨_, _, [], hrg0, by simp, Collected.start D0, hJ [] W w0 none h0 hg0 (fun r e => by cases e)⟩
 case round =>
  obtain ⟨left, cnt, ss, hrg, hcs, hC, hJs⟩ := hrel
  gi_wp2_with (first
   | (gi_at_next; refine wpListIn_next_ranges _ rfl _ rfl 9 Kx.law26 vElem encStr (fun v : Value => v) (fun key kl hk => by obtain ⟨x, hx, _⟩ := Maps.keyOf_str Tryz.underlying9 hk; exact ⟨x, hx⟩) (fun v y hv => ⟨v, rfl⟩) b W.heap.size nn _ _ _ rfl hrg ?_ ?_)
   | gi_in)
  ·-- NOTHING IS LEFT
   intro hc0 hl0
   gi_wp2
   go_end0
   exact ⟨⟨_, rfl⟩, ss, hC.perm hown Kx.law26 Tryz.underlying9 hl0, hJs⟩
  ·-- AN ENTRY HAS COME: yield(k)
   intro x c kl yd yp w2 cnt2 hkey hlk hv hat hrg2 hlt hg2 hs2 hen
   obtain ⟨x', ex, rfl, _⟩ := Maps.keyOf_str Tryz.underlying9 hkey
   obtain rfl : x = x' := encStr_inj ex
   have hJ2 : J ss w2 := hJ ss wr w2 (some W.heap.size) hJs hg2 (fun r e => by cases e; exact ⟨Nat.le_refl _, hrg.iter_walk⟩)
   obtain ⟨fn, tmps, assign, body, hy, hR⟩ := hY ss x w2 hJ2 (by omega)
   clear hs2
   gi_wp2
   refine hR.mono ?_
   rintro e W3 ⟨rfl, hJ3, hk3⟩
   gi_wp2
   have hrg3 := hrg2.of_walks hk3
   go_roundw
   case rel => exact ⟨_, cnt2, ss ++ [x], hrg3, by simp; omega, hC.step hlk hat, hJ3⟩
   case measure => rw [hrg3.left_eq, hrg.left_eq]; exact hlt
theorem Fx.keys_gives {H : Type} (F : Fence) (n : Nat) (h10 : F.fn 144) (hro : F.round = none) (hn : 1 ≤ n) (Bm b nn : Nat) (D0 : DataW H) (w : World) (hBm : Bm < w.heap.size)
  (hm : w.cell? ⟨Bm, 0, none⟩ = some (.map (some b))) (hown : w.ownsMap Tryz.prog 9 vElem b nn D0) :
  SeqGives F n Tryz.prog 144 #[.pointer (some ⟨Bm, 0, none⟩)] encStr (fun ss => ss.Perm (strKeys D0)) (Maps.size D0) w := fun l J W hW hJ hY h0 => by
 have hown' : W.ownsMap Tryz.prog 9 vElem b nn D0 := by
  have hbl := hown.lt
  obtain ⟨es, clock, hb, Ft, hs, hD⟩ := hown
  exact ⟨es, clock, (hW.block b hbl).trans hb, Ft, hs, hD⟩
 exact Fx.keys1N_in F n h10 hro hn l Bm b nn D0 J hY W hJ ((hW.cell (p := ⟨Bm, 0, none⟩) hBm).trans hm) hown' h0
end Go.Proofs
namespace Go.Abs
open Go Go.Proofs Go.Sort Go.Maps
def fEnc (x : Fl) : AV := .agg [.sl none 1 (byteEls x.b), vi (x.safe : Int)]
theorem fmap_keys {G : Gh} : ∀ {m : FM} {ms : List MapEntry}, MapR G (amap fEnc m) ms → ms.map (·.key) = (kys m).map encStr
 | [], [], _ => rfl
 | [], _ :: _, h => by simp [amap, MapR] at h
 | _ :: _, [], h => by simp [amap, MapR] at h
 | a :: m, x :: ms, h => by
  obtain ⟨⟨h1, _⟩, h2, h3⟩ : (x.key = .string (ofB a.1) ∧ _) ∧ Rep G (fEnc a.2) x.val ∧ MapR G (amap fEnc m) ms := h
  have i1 := fmap_keys h3
  rw [List.map_cons, i1, h1]
  rfl
theorem fKeys_calls (es : List (ByteArray × AV)) {R} (h : R (.fn (.func 144) [] [.ptr 1 0]) [.map es, .cells 93 [.mapv 0]]) :
  ACalls Tryz.prog 63 [.mapv 0] [.map es] R := by
 refine acalls_of_xwp (an := an63) tab_ok Tryz.func63 ?_
 conv => whnf
 exact h
theorem fowns_of {H : Type} {G : Gh} {w : World} {b : Nat} {ms : Array MapEntry} {clock : Nat} {m : FM} (hb : w.heap[b]? = some (.map ms clock)) (hr : MapR G (amap fEnc m) ms.toList) (hok : MapOk ms clock) (hnd : (kys m).Nodup)
  (hl : (kys m).length ≤ maxLen) (hs : ∀ s ∈ (kys m), s.length ≤ maxLen) : ∃ D0 : DataW H, w.ownsMap Tryz.prog 9 vElem b (kys m).length D0 ∧ Maps.size D0 = (kys m).length ∧ (strKeys D0).Perm (kys m) := by
 have k1 := fmap_keys hr
 have hsz : ms.size = (kys m).length := by
  have := congrArg List.length k1
  simpa using this
 have hread : ∀ x ∈ ms.toList, ∃ s ∈ (kys m), x.key = encStr s ∧ Go.WideElems.rd Tryz.prog 9 (vElem (H := H)) x = some (Lit.string s, DataW.lit (.bool true)) := fun x hx => by
  have hk : x.key ∈ (kys m).map encStr := by rw [← k1]; exact List.mem_map_of_mem hx
  obtain ⟨s, hsl, hsk⟩ := List.mem_map.1 hk
  refine ⟨s, hsl, hsk.symm, ?_⟩
  have h1 : keyOf Tryz.prog 9 x.key = some (.string s) := by
   rw [← hsk]
   have := hs s hsl
   simp [keyOf, mapKey, Tryz.underlying9, encStr]
   exact this
  have h2 : vElem (H := H) x.val = some (.lit (.bool true), []) := rfl
  simp [Go.WideElems.rd, h1, h2]
 have hfit : Go.WideElems.Fit Tryz.prog 9 (vElem (H := H)) ms clock := by
  refine ⟨by omega, ⟨hok.2, hok.1, ?_⟩, fun x hx => ?_⟩
  ·rw [k1]
   refine (List.pairwise_map.2 (hnd.imp fun hne e => hne (encStr_inj e)))
  ·obtain ⟨s, _, _, h⟩ := hread x hx
   exact ⟨_, h⟩
 refine ⟨_, ⟨ms, clock, hb, hfit, by omega, rfl⟩, ?_, ?_⟩
 ·simp [Maps.size, length_sorted, hsz]
 ·show (((ms.toList.map _).foldr DataW.insert []).map fun p => strOf p.1).Perm (kys m)
  refine ((Go.WideShapes.sorted_perm _).map _).trans ?_
  rw [List.map_map]
  have : (ms.toList.map ((fun p : Lit × DataW H => strOf p.1) ∘ Go.WideElems.rg Tryz.prog 9 (vElem (H := H)))) = (kys m) := by
   have h1 : ∀ x ∈ ms.toList, encStr (((fun p : Lit × DataW H => strOf p.1) ∘ Go.WideElems.rg Tryz.prog 9 (vElem (H := H))) x) = x.key := fun x hx => by
    obtain ⟨s, _, h2, h3⟩ := hread x hx
    simp only [Function.comp]
    rw [Go.WideElems.rg_of h3, h2]
    rfl
   have h2 : (ms.toList.map ((fun p : Lit × DataW H => strOf p.1) ∘ Go.WideElems.rg Tryz.prog 9 (vElem (H := H)))).map encStr = (kys m).map encStr := by
    rw [← k1, List.map_map]
    exact List.map_congr_left h1
   exact List.map_inj_right (f := encStr) (fun _ _ e => encStr_inj e) |>.1 h2
  rw [this]
theorem fSorted_calls (m : FM) (hl : (kys m).length < 1000000) (hs : ∀ s ∈ (kys m), s.length < 1000000) (hnd : (kys m).Nodup) {R} (h : R (.sl none 1 (strs (sortB (kys m)))) [.cells 93 [.mapv 1], .map (amap fEnc m)]) :
  ACalls Tryz.prog 62 [.fn (.func 144) [] [.ptr 0 0]] [.cells 93 [.mapv 1], .map (amap fEnc m)] R := by
 have h47 : 1000000 ≤ maxLen := by unfold maxLen; omega
 refine packS fun G w vals hW hA => ?_
 have hI := invS hW
 obtain ⟨bm, vs, e1, e2, e3, e4⟩ := hW.obj 0 (.cells 93 [.mapv 1]) rfl
 obtain ⟨b, ms, clock, m1, m2, m3, m4, m5⟩ := hW.obj 1 (.map (amap fEnc m)) rfl
 simp only [RepL, Rep] at hA e3
 obtain ⟨_, _, rfl, ⟨vf, us, rfl, rfl, v1, us1, rfl, ⟨b', hb', rfl⟩, rfl⟩, rfl⟩ := hA
 obtain ⟨_, _, rfl, ⟨b2, hb2, rfl⟩, rfl⟩ := e3
 rw [e1] at hb'; cases hb'
 rw [m1] at hb2; cases hb2
 obtain ⟨D0, hown, hDs, hDk⟩ := fowns_of (H := Unit) m2 m3 m5 hnd (by omega) (fun s hx => by have := hs s hx; omega)
 have hbm : bm < w.heap.size := (Array.getElem?_eq_some_iff.1 e2).1
 have hcell : w.cell? ⟨bm, 0, none⟩ = some (.map (some b)) := by rw [cell_row e2 0]; rfl
 have hseq := Fx.keys_gives Fence.wide (6 - 1 - 1 - 1) trivial rfl (by omega) bm b (kys m).length D0 w hbm hcell hown
 refine (callsIn_wide.1 (Kx.sorted_in Fence.wide 6 trivial trivial trivial trivial rfl (by omega) (sorts_wide _) _ _ trivial (enters_of Tryz.func144 (by kernel_rfl) rfl) _ _ (by omega) (by omega) w hseq)).mono ?_
 rintro e w' ⟨v, ss, rfl, hperm, hrow, hnil, hbl⟩
 have hpl : ss.Perm (kys m) := hperm.trans hDk
 have hsort : (ss.mergeSort fun x y => decide (x ≤ y)) = sortB (kys m) := mergeSort_of_perm hpl
 rw [hsort] at hrow
 have hlen : ss.length = (sortB (kys m)).length := by rw [hpl.length_eq]; simp [sortB]
 rw [hlen] at hrow
 have hsls := strs_length (sortB (kys m))
 have hob : ∀ (i : Nat) (o : AObj), [AObj.cells 93 [.mapv 1], .map (amap fEnc m)][i]? = some o → ∀ m ∈ objNames o, m < 2 := by
  intro i o ho m hm
  match i, ho with
  | 0, ho => simp at ho; subst ho; have hm : m = 1 := (by simpa [objNames, namesL, AV.names] using hm); subst hm; decide
  | 1, ho => simp at ho; subst ho; simp [objNames] at hm
 rcases hrow.2 with ⟨rfl, hz⟩ | ⟨g, cap, cur, rfl, hbase, hgb, r1, r2, r3, r4⟩
 ·have hnil : sortB (kys m) = [] := List.eq_nil_of_length_eq_zero hz
  obtain ⟨hI', hle⟩ := hI.grow (w' := w') (K' := G.K) hbl.os hbl.tape hbl.output hbl.size (fun b hb => hbl.block b hb) (fun _ _ _ => rfl) (fun b o v hb ev => by have := hI.wr.kltb ev; omega)
  refine ⟨_, _, _, _, rfl, h, ?_, hI', hob, by simp [AV.names]⟩
  rw [hnil]
  simp only [Rep, strs, List.map_nil]
  exact ⟨⟨none, 0, rfl, Nat.le_refl _, trivial⟩, trivial⟩
 ·have htake : ∀ (j : Nat) (s : B), (sortB (kys m))[j]? = some s → cur[j]? = some (encStr s) := fun j s hj => by
   have h1 : (cur.toList.take ((sortB (kys m)).length * 1))[j]? = some (encStr s) := by rw [r4]; simp [hj]
   have hjl := (List.getElem?_eq_some_iff.1 hj).1
   rw [List.getElem?_take, if_pos (by omega)] at h1
   simpa using h1
  obtain ⟨hI', hle⟩ := hI.grow (w' := w') (K' := addK G.K g cur.toList) hbl.os hbl.tape hbl.output hbl.size (fun b hb => hbl.block b hb) (fun b o hb => by
    have : b ≠ g := by omega
    show (if b = g then _ else _) = _
    rw [if_neg this]) (fun b o v hb ev => by
    by_cases e : b = g
    ·subst e
     simp only [addK, if_true] at ev
     rw [cell_row hgb]
     simpa using ev
    ·simp only [addK, e, if_false] at ev
     have := hI.wr.kltb ev; omega)
  refine ⟨_, _, _, _, rfl, h, ?_, hI', hob, by simp [AV.names]⟩
  simp only [Rep]
  rw [hsls]
  refine ⟨⟨_, cap, rfl, r1, repE_strs _ _ fun j s hj => ?_⟩, trivial⟩
  simp [addK, htake j s hj]
end Go.Abs
end
section
namespace Go.Abs
open Go Go.Proofs Go.RowKit Go.Lib
attribute [local irreducible] ibits byteAt strLt firstIdx
theorem bel_length (l : B) : (byteEls l).length = l.length := by simp [byteEls]
theorem bel_append (l m : B) : byteEls (l ++ m) = byteEls l ++ byteEls m := by simp [byteEls]
theorem bel_bytes : (tab.ti 5).bytes = 1 := rfl
theorem bel_nil {b : B} (h : byteEls b = []) : b = [] := by
 cases b with
 | nil => rfl
 | cons a l => simp [byteEls] at h
theorem bClone_calls (b : B) (hb : b.length < 100000000) {R} (h : R (.sl none 1 (byteEls b)) []) : ACalls Tryz.prog 149 [.sl none 1 (byteEls b)] [] R := by
 refine ACalls.res ?_
 refine acalls_of_xwp (an := an149) tab_ok Tryz.func149 ?_
 have hsl := bel_length b
 conv => whnf
 intro p hp
 refine br_intro (fun g => ?_) (fun g => ?_)
 ·have e := bel_nil (hp g)
  subst e
  conv => whnf
  exact res_le (le_nil 1) rfl h
 ·conv => whnf
  refine ⟨rfl, (by show (0 + (byteEls b).length) * (1 + 1) ≤ _; omega), ?_⟩
  conv => whnf
  rw [show [] ++ byteEls b = byteEls b from rfl]
  exact res_same h
theorem u8_info : (Tryz.prog.info? 5).map (fun i => (i.zero, i.size, i.bytes)) = some (some (.int .u8 0), 1, 1) := by kernel_rfl
theorem grow_room (w : World) : Calls Tryz.prog 200 #[.slice none 0 0, .int .i64 0] w fun e w' => e = .returned (.slice none 0 0) ∧ w' = w := by
 have mixed := mixed_ok
 go_enter Tryz.func200, Tryz.ntmps200
 go_wp2
 go_ret
 exact ⟨rfl, rfl⟩
theorem grow_new (n : Nat) (h0 : 0 < n) (hn : n ≤ 1000000000) (w : World) : Calls Tryz.prog 200 #[.slice none 0 0, .int .i64 n] w fun e w' =>
  e = .returned (.slice (some ⟨w.heap.size, 0, none⟩) 0 (grownCap w n 0 5)) ∧ ∃ cur, w' = w.drew.alloc (.cells cur 5) ∧ cur.size = grownCap w n 0 5 := by
 obtain ⟨i0, hi, hz0, hz1, hz2⟩ := info_parts u8_info
 have mixed := mixed_ok
 have h1 : ¬ ((n : Int) < 0) := by omega
 have h2 : wrap64 ((n : Int) - wrap64 (((0 : Nat) : Int) - ((0 : Nat) : Int))) = (n : Int) := by unfold wrap64; omega
 have h4 : (n : Int) > 0 := by omega
 have hold : (Builtin.firstCells i0.size 0 (.slice none 0 0)).run Tryz.prog w.drew = .ok ([] : List Value).toArray w.drew := run_firstCells_none w.drew i0.size 0 0 0
 have hrz : ∀ ty, (Builtin.append_ #[151, 3] ty #[.slice none 0 0, .int .i64 (n : Int)]).run Tryz.prog w =
   .ok (.slice (some ⟨w.heap.size, 0, none⟩) n (grownCap w n 0 5)) (w.drew.alloc (.cells (([] : List Value).toArray ++ Builtin.zeroCells (Value.int .u8 0).cells n ++ Builtin.zeroCells (Value.int .u8 0).cells (grownCap w n 0 5 - n)) 5)) := fun ty => by
  have h := Lib.run_append_grow_zeros w 151 3 ty 5 i0 (.int .u8 0) .i64 .i64 Tryz.underlying151 Tryz.underlying3 hi hz0 none 0 0 [] hold n h0 (by omega) (by omega) (by omega)
   (by rw [hz2]; omega) (by rw [Nat.zero_add]; exact growslice_fits (by omega) (by rw [hz2]; omega))
  simpa using h
 have hGn : n ≤ grownCap w n 0 5 := grownCap_ge w _ _ _
 obtain ⟨G, hG⟩ : ∃ G, G = grownCap w n 0 5 := ⟨_, rfl⟩
 rw [← hG] at hrz hGn ⊢
 have hG63 : G ≤ 9223372036854775807 := by
  have := grownCap_le_maxLen w n 0 5 (by unfold maxLen; omega)
  rw [← hG] at this
  unfold maxLen at this
  omega
 clear hold hG
 go_enter Tryz.func200, Tryz.ntmps200
 go_wp2_with (at_builtin; refine Lib.wpList_append_run _ rfl _ _ _ _ rfl _ _ rfl rfl _ _ (hrz _) ?_)
 all_goals (go_ret; exact ⟨rfl, _, rfl, by simp [size_zeroCells]; omega⟩)
abbrev nilV : AV := .val (.slice none 0 0)
theorem Grow_calls (n : Nat) (hn : n ≤ 1000000000) {R} (h0 : n = 0 → R nilV []) (h1 : 0 < n → R (.sl (some 0) 1 []) [.row 5 1 0]) : ACalls Tryz.prog 200 [nilV, vi n] [] R := by
 refine packS fun G w vals hW hA => ?_
 have hI := invS hW
 simp only [RepL, Rep] at hA
 obtain ⟨_, _, rfl, rfl, _, _, rfl, rfl, rfl⟩ := hA
 by_cases hz : n = 0
 ·subst hz
  refine (grow_room w).mono ?_
  rintro e w' ⟨rfl, rfl⟩
  exact ⟨_, nilV, [], G, rfl, h0 rfl, by simp only [Rep], hI, (by intro i o ho; cases ho), by simp [AV.names]⟩
 ·refine (grow_new n (by omega) hn w).mono ?_
  rintro e w' ⟨rfl, cur, rfl, hcs⟩
  have hge := grownCap_ge w n 0 5
  have hgm := grownCap_le_maxLen w n 0 5 (by unfold maxLen; omega)
  have hKn : ∀ o, G.K w.heap.size o = none := fun o => by
   cases e : G.K w.heap.size o with
   | none => rfl
   | some v => have := hI.wr.kltb e; omega
  have hhp : (w.drew.alloc (.cells cur 5)).heap[w.heap.size]? = some (.cells cur 5 (0, 0)) := heap_alloc_new w.drew _
  obtain ⟨hI', hle⟩ := hI.newObj (w' := w.drew.alloc (.cells cur 5)) (n := 0) (o := .row 5 1 0) (objs' := numbered 0 [.row 5 1 0]) (g := .rowv (.slice (some ⟨w.heap.size, 0, none⟩) 0 (grownCap w n 0 5)) 0) (K' := G.K)
   rfl rfl rfl (by simp) (fun b hb => heap_alloc_old w.drew _ hb) (fun _ _ _ => rfl) (fun b o v hb ev => by have := hI.wr.kltb ev; omega) rfl
   (fun m => by rw [objGet_numbered0]; cases m <;> simp [numbered, objGet])
   (by
    refine ⟨_, [], by simp [addOb], ⟨by simp, .inr ⟨w.heap.size, _, cur, rfl, Nat.zero_le _, hhp, Nat.zero_le _, hgm, by rw [hcs]; simp, by simp⟩⟩, fun g hg o => ?_⟩
    have : g = w.heap.size := by simpa [Value.ownBlock] using hg.symm
    subst this
    simpa using hKn o)
   (fun b hb => by
    rcases hb with hb | ⟨u, t, hb, hub⟩
    ·simp [addOb] at hb
    ·simp only [addOb, if_true, Option.some.injEq, GO.rowv.injEq] at hb
     obtain ⟨rfl, rfl⟩ := hb
     have : b = w.heap.size := by simpa [Value.ownBlock] using hub.symm
     omega)
  refine ⟨_, .sl (some 0) 1 [], [.row 5 1 0], _, rfl, h1 (by omega), ?_, hI', ?_, ?_⟩
  ·simp only [Rep]
   exact ⟨⟨_, _, rfl, by simp, trivial⟩, _, 0, by simp [addOb], by simp, fun _ => rfl⟩
  ·intro i o ho m hm
   cases i with
   | zero => cases ho; simp [objNames] at hm
   | succ i => simp at ho
  ·intro m hm
   simp [AV.names] at hm
   subst hm; decide
theorem Concat_calls (p q : B) (hp : p.length < 100000000) (hq : q.length < 100000000) {R} (h : R (.sl none 1 (byteEls (p ++ q))) []) : ACalls Tryz.prog 151 [.sl none 1 [[.sl none 1 (byteEls p)], [.sl none 1 (byteEls q)]]] [] R := by
 refine ACalls.res ?_
 refine acalls_of_xwp (an := an151) tab_ok Tryz.func151 ?_
 have h1 := bel_length p
 have h2 := bel_length q
 conv => whnf
 have e1 : IntKind.i64.wrap (0 + ((byteEls p).length : Int)) = (p.length : Int) := by rw [h1, wrap_i64 (by omega) (by omega)]; omega
 have e2 : IntKind.i64.wrap ((p.length : Int) + ((byteEls q).length : Int)) = ((p.length + q.length : Nat) : Int) := by rw [h2, wrap_i64 (by omega) (by omega)]; omega
 refine LoopP.step ?_
 conv => whnf
 refine br_intro (fun g => ?_) (fun _ => ?_)
 ·rw [e1] at g
  have g := of_decide_eq_true g
  omega
 rw [e1]
 conv => whnf
 refine LoopP.step ?_
 conv => whnf
 refine br_intro (fun g => ?_) (fun _ => ?_)
 ·rw [e2] at g
  have g := of_decide_eq_true g
  omega
 rw [e2]
 conv => whnf
 refine LoopP.step ?_
 conv => whnf
 refine Grow_calls (p.length + q.length) (by omega) (fun hz => ?_) (fun hz => ?_)
 ·have ep : p = [] := List.eq_nil_of_length_eq_zero (by omega)
  have eq : q = [] := List.eq_nil_of_length_eq_zero (by omega)
  subst ep eq
  conv => whnf
  refine LoopP.step ?_
  conv => whnf
  refine ⟨by rw [h1, bel_bytes]; simp, ?_⟩
  conv => whnf
  refine LoopP.step ?_
  conv => whnf
  refine ⟨rfl, by rw [h1, bel_bytes]; simp, ?_⟩
  conv => whnf
  refine LoopP.step ?_
  conv => whnf
  exact res_same h
 ·conv => whnf
  refine LoopP.step ?_
  conv => whnf
  refine ⟨rfl, by rw [h1, bel_bytes]; simp; omega, ?_⟩
  conv => whnf
  refine LoopP.step ?_
  conv => whnf
  refine ⟨by simp, by rw [h2, bel_bytes]; simp [h1]; omega, ?_⟩
  conv => whnf
  refine LoopP.step ?_
  conv => whnf
  rw [bel_append] at h
  exact res_same h
end Go.Abs
end
section
namespace Go.Abs
open Go Go.Proofs
attribute [local irreducible] ibits byteAt strLt firstIdx
def fsC (s : FSt) (m : Nm) : AObj := .cells 95 [.mapv m, vi s.fail, vi s.fall, .val (.bool s.down)]
def fsM (s : FSt) : AObj := .map (amap fEnc s.fs)
theorem fsNew_calls {R} (h : R (.ptr 0 0) [fsC fs0 1, fsM fs0]) : ACalls Tryz.prog 13 [] [] R := by
 refine acalls_of_xwp (an := an13) tab_ok Tryz.func13 ?_
 conv => whnf
 exact h
theorem cnt_wrap {a : Int} (ha : okN a) : (if IntKind.i64.wrap (a - 1) < -1 then -1 else IntKind.i64.wrap (a - 1)) = cnt a := by
 unfold okN at ha
 rw [wrap_i64 (by omega) (by omega)]
 rfl
theorem count_calls (a : Int) (ha : okN a) {R} (h : R (.tup [vi (cnt a), .val (.bool (a == 0))]) []) : ACalls Tryz.prog 145 [vi a] [] R := by
 refine acalls_of_xwp (an := an145) tab_ok Tryz.func145 ?_
 conv => whnf
 rw [cnt_wrap ha]
 exact h
theorem Down_calls (s : FSt) {R} (h : R (.val (.bool s.down)) [fsC s 1, fsM s]) : ACalls Tryz.prog 29 [.ptr 0 0] [fsC s 1, fsM s] R := by
 refine acalls_of_xwp (an := an29) tab_ok Tryz.func29 ?_
 conv => whnf
 exact h
theorem fsNames_calls (s : FSt) (hl : s.fs.length < 1000000) (hs : ∀ n ∈ kys s.fs, n.length < 1000000) (hnd : (kys s.fs).Nodup) {R} (h : R (.sl none 1 (strs s.names)) [fsC s 1, fsM s]) : ACalls Tryz.prog 30 [.ptr 0 0] [fsC s 1, fsM s] R := by
 refine acalls_of_xwp (an := an30) tab_ok Tryz.func30 ?_
 conv => whnf
 refine fKeys_calls (amap fEnc s.fs) ?_
 conv => whnf
 refine fSorted_calls s.fs (by simpa [kys] using hl) hs hnd ?_
 conv => whnf
 exact h
theorem fsRead_calls (s : FSt) (name : B) (hb : (gF s.fs name).b.length < 100000000) {R} (h1 : name ∈ kys s.fs → R (.tup [.sl none 1 (byteEls (gF s.fs name).b), vi 0]) [fsC s 1, fsM s]) (h2 : name ∉ kys s.fs → R (.tup [nilV, vi 6]) [fsC s 1, fsM s]) : ACalls Tryz.prog 77 [.ptr 0 0, vs name] [fsC s 1, fsM s] R := by
 refine acalls_of_xwp (an := an77) tab_ok Tryz.func77 ?_
 conv => whnf
 rw [amap_find]
 cases e : lk s.fs name with
 | none =>
  have h2 := h2 (lk_none.1 e)
  conv => whnf
  exact h2
 | some v =>
  have h1 := h1 (lk_key e)
  unfold gF at h1 hb
  rw [e] at h1 hb
  conv => whnf
  refine bClone_calls v.b hb ?_
  conv => whnf
  exact h1
theorem may_calls (s : FSt) (name : B) {R} (h : R (vi (s.may name)) [fsC s 1, fsM s]) : ACalls Tryz.prog 65 [.ptr 0 0, vs name] [fsC s 1, fsM s] R := by
 refine acalls_of_xwp (an := an65) tab_ok Tryz.func65 ?_
 conv => whnf
 refine br_intro (fun g => ?_) (fun g => ?_)
 ·have g : s.down = true := g
  rw [show s.may name = 7 by simp [FSt.may, g]] at h
  conv => whnf
  exact h
 have g : s.down = false := g
 conv => whnf
 rw [amap_find]
 cases e : lk s.fs name with
 | none =>
  rw [show s.may name = 6 by simp [FSt.may, g, e]] at h
  conv => whnf
  exact h
 | some v =>
  rw [show s.may name = 0 by simp [FSt.may, g, e]] at h
  conv => whnf
  exact h
theorem le_two {b : B} : leE [[nilV], [AV.sl none 1 (byteEls b)]] [[AV.sl none 1 (byteEls [])], [AV.sl none 1 (byteEls b)]] :=
 leE.cons (leL.cons (le_nil 1) leL.nil) rfl (leE.cons (leL.refl _) rfl leE.nil)
theorem clA_calls (s : FSt) (name b : B) (hb : b.length < 100000000) (hg : (gF s.fs name).b.length < 100000000) {R} (h : R (.tup []) [.cells 29 [.ptr 1 0], fsC ⟨(addF name b) s.fs, s.fail, s.fall, s.down⟩ 2, fsM ⟨(addF name b) s.fs, s.fail, s.fall, s.down⟩, .cells 151 [.sl none 1 (byteEls b)]]) :
  ACalls Tryz.prog 150 [.ptr 0 0, .cptr [vs name] 0, .ptr 3 0] [.cells 29 [.ptr 1 0], fsC s 2, fsM s, .cells 151 [.sl none 1 (byteEls b)]] R := by
 refine acalls_of_xwp (an := an150) tab_ok Tryz.func150 ?_
 conv => whnf
 rw [amap_find]
 cases e : lk s.fs name with
 | none =>
  have e0 : gF s.fs name = flZ := by simp [gF, e]
  have e1 : addF name b s.fs = pt s.fs name ⟨[] ++ b, 0⟩ := by unfold addF; rw [e0]; rfl
  conv => whnf
  refine ACalls.args (leL.cons (le_sl _ _ le_two) leL.nil) (Concat_calls [] b (by simp) hb ?_)
  conv => whnf
  rw [show AV.agg (List.map AV.strip [AV.sl none 1 (byteEls ([] ++ b)), AV.val (Value.int IntKind.i64 0)]) = fEnc ⟨[] ++ b, 0⟩ from rfl, amap_put, ← e1]
  conv => whnf
  exact h
 | some v =>
  have e0 : gF s.fs name = v := by simp [gF, e]
  rw [e0] at hg
  have e1 : addF name b s.fs = pt s.fs name ⟨v.b ++ b, v.safe⟩ := by unfold addF; rw [e0]
  conv => whnf
  refine Concat_calls v.b b hg hb ?_
  conv => whnf
  rw [show AV.agg (List.map AV.strip [AV.sl none 1 (byteEls (v.b ++ b)), AV.val (Value.int IntKind.i64 v.safe)]) = fEnc ⟨v.b ++ b, v.safe⟩ from rfl, amap_put, ← e1]
  conv => whnf
  exact h
theorem actA_calls (s : FSt) (name b : B) (hb : b.length < 100000000) (hg : (gF s.fs name).b.length < 100000000) (late : Bool) (h1 : okN s.fail) (h2 : okN s.fall) {R} (h : R (vi (s.act late (addF name b)).2) (fsC (s.act late (addF name b)).1 1 :: fsM (s.act late (addF name b)).1 :: [.cells 29 [.ptr 0 0], .cells 151 [.sl none 1 (byteEls b)]])) :
  ACalls Tryz.prog 66 [.ptr 0 0, .val (.bool late), .fn (.func 150) [] [.ptr 2 0, .cptr [vs name] 0, .ptr 3 0]] (fsC s 1 :: fsM s :: [.cells 29 [.ptr 0 0], .cells 151 [.sl none 1 (byteEls b)]]) R := by
 refine acalls_of_xwp (an := an66) tab_ok Tryz.func66 ?_
 conv => whnf
 refine count_calls s.fail h1 ?_
 conv => whnf
 refine count_calls s.fall h2 ?_
 conv => whnf
 refine br_intro (fun g => ?_) (fun g => ?_)
 ·have g : s.fall = 0 := by simpa using g
  conv => whnf
  refine br_intro (fun g2 => ?_) (fun g2 => ?_)
  ·have g2 : late = true := g2
   rw [show s.act late (addF name b) = (⟨(addF name b) s.fs, cnt s.fail, cnt s.fall, true⟩, 7) by simp [FSt.act, g, g2]] at h
   conv => whnf
   refine clA_calls ⟨s.fs, cnt s.fail, cnt s.fall, true⟩ name b hb hg ?_
   conv => whnf
   exact h
  ·have g2 : late = false := g2
   rw [show s.act late (addF name b) = (⟨s.fs, cnt s.fail, cnt s.fall, true⟩, 7) by simp [FSt.act, g, g2]] at h
   conv => whnf
   exact h
 have g : s.fall ≠ 0 := by simpa using g
 conv => whnf
 refine br_intro (fun g2 => ?_) (fun g2 => ?_)
 ·have g2 : s.fail = 0 := by simpa using g2
  rw [show s.act late (addF name b) = (⟨s.fs, cnt s.fail, cnt s.fall, s.down⟩, 8) by simp [FSt.act, g, g2]] at h
  conv => whnf
  exact h
 have g2 : s.fail ≠ 0 := by simpa using g2
 rw [show s.act late (addF name b) = (⟨(addF name b) s.fs, cnt s.fail, cnt s.fall, s.down⟩, 0) by simp [FSt.act, g, g2]] at h
 conv => whnf
 refine clA_calls ⟨s.fs, cnt s.fail, cnt s.fall, s.down⟩ name b hb hg ?_
 conv => whnf
 exact h
theorem clS_calls (s : FSt) (name : B) (v : Fl) (hv : gF s.fs name = v) {R} (h : R (.tup []) [.cells 153 [.sl none 1 (byteEls v.b), vi v.safe], .cells 29 [.ptr 2 0], fsC ⟨(syncF name) s.fs, s.fail, s.fall, s.down⟩ 3, fsM ⟨(syncF name) s.fs, s.fail, s.fall, s.down⟩]) :
  ACalls Tryz.prog 152 [.ptr 0 0, .ptr 1 0, .cptr [vs name] 0] [.cells 153 [.sl none 1 (byteEls v.b), vi v.safe], .cells 29 [.ptr 2 0], fsC s 3, fsM s] R := by
 refine acalls_of_xwp (an := an152) tab_ok Tryz.func152 ?_
 have hl := bel_length v.b
 have e1 : syncF name s.fs = pt s.fs name ⟨v.b, v.b.length⟩ := by unfold syncF; rw [hv]
 conv => whnf
 show R (.tup []) [.cells 153 [.sl none 1 (byteEls v.b), vi v.safe], .cells 29 [.ptr 2 0], fsC s 3, .map (mapPut (amap fEnc s.fs) (ofB name) (.agg [.sl none 1 (byteEls v.b), vi ((byteEls v.b).length : Nat)]))]
 rw [hl, show AV.agg [.sl none 1 (byteEls v.b), vi (v.b.length : Nat)] = fEnc ⟨v.b, v.b.length⟩ from rfl, amap_put, ← e1]
 exact h
theorem actS_calls (s : FSt) (name : B) (v : Fl) (hv : gF s.fs name = v) (late : Bool) (h1 : okN s.fail) (h2 : okN s.fall) {R} (h : R (vi (s.act late (syncF name)).2) (fsC (s.act late (syncF name)).1 1 :: fsM (s.act late (syncF name)).1 :: [.cells 153 [.sl none 1 (byteEls v.b), vi v.safe], .cells 29 [.ptr 0 0]])) :
  ACalls Tryz.prog 66 [.ptr 0 0, .val (.bool late), .fn (.func 152) [] [.ptr 2 0, .ptr 3 0, .cptr [vs name] 0]] (fsC s 1 :: fsM s :: [.cells 153 [.sl none 1 (byteEls v.b), vi v.safe], .cells 29 [.ptr 0 0]]) R := by
 refine acalls_of_xwp (an := an66) tab_ok Tryz.func66 ?_
 conv => whnf
 refine count_calls s.fail h1 ?_
 conv => whnf
 refine count_calls s.fall h2 ?_
 conv => whnf
 refine br_intro (fun g => ?_) (fun g => ?_)
 ·have g : s.fall = 0 := by simpa using g
  conv => whnf
  refine br_intro (fun g2 => ?_) (fun g2 => ?_)
  ·have g2 : late = true := g2
   rw [show s.act late (syncF name) = (⟨(syncF name) s.fs, cnt s.fail, cnt s.fall, true⟩, 7) by simp [FSt.act, g, g2]] at h
   conv => whnf
   refine clS_calls ⟨s.fs, cnt s.fail, cnt s.fall, true⟩ name v hv ?_
   conv => whnf
   exact h
  ·have g2 : late = false := g2
   rw [show s.act late (syncF name) = (⟨s.fs, cnt s.fail, cnt s.fall, true⟩, 7) by simp [FSt.act, g, g2]] at h
   conv => whnf
   exact h
 have g : s.fall ≠ 0 := by simpa using g
 conv => whnf
 refine br_intro (fun g2 => ?_) (fun g2 => ?_)
 ·have g2 : s.fail = 0 := by simpa using g2
  rw [show s.act late (syncF name) = (⟨s.fs, cnt s.fail, cnt s.fall, s.down⟩, 8) by simp [FSt.act, g, g2]] at h
  conv => whnf
  exact h
 have g2 : s.fail ≠ 0 := by simpa using g2
 rw [show s.act late (syncF name) = (⟨(syncF name) s.fs, cnt s.fail, cnt s.fall, s.down⟩, 0) by simp [FSt.act, g, g2]] at h
 conv => whnf
 refine clS_calls ⟨s.fs, cnt s.fail, cnt s.fall, s.down⟩ name v hv ?_
 conv => whnf
 exact h
theorem clR_calls (s : FSt) (a b : B) (hka : a ∈ kys s.fs) {R} (h : R (.tup []) [.cells 29 [.ptr 1 0], fsC ⟨(renF a b) s.fs, s.fail, s.fall, s.down⟩ 2, fsM ⟨(renF a b) s.fs, s.fail, s.fall, s.down⟩]) :
  ACalls Tryz.prog 153 [.ptr 0 0, .cptr [vs a] 0, .cptr [vs b] 0] [.cells 29 [.ptr 1 0], fsC s 2, fsM s] R := by
 refine acalls_of_xwp (an := an153) tab_ok Tryz.func153 ?_
 obtain ⟨v, e⟩ := lk_mem hka
 have e0 : gF s.fs a = v := by simp [gF, e]
 have e1 : renF a b s.fs = pt (dl s.fs a) b v := by unfold renF; rw [e0]
 conv => whnf
 rw [amap_find, e]
 conv => whnf
 rw [amap_del]
 conv => whnf
 rw [show AV.agg (List.map AV.strip [AV.sl none 1 (byteEls v.b), AV.val (Value.int IntKind.i64 v.safe)]) = fEnc v from rfl, amap_put, ← e1]
 conv => whnf
 exact h
theorem actR_calls (s : FSt) (a b : B) (hka : a ∈ kys s.fs) (late : Bool) (h1 : okN s.fail) (h2 : okN s.fall) {R} (h : R (vi (s.act late (renF a b)).2) (fsC (s.act late (renF a b)).1 1 :: fsM (s.act late (renF a b)).1 :: [.cells 29 [.ptr 0 0]])) :
  ACalls Tryz.prog 66 [.ptr 0 0, .val (.bool late), .fn (.func 153) [] [.ptr 2 0, .cptr [vs a] 0, .cptr [vs b] 0]] (fsC s 1 :: fsM s :: [.cells 29 [.ptr 0 0]]) R := by
 refine acalls_of_xwp (an := an66) tab_ok Tryz.func66 ?_
 conv => whnf
 refine count_calls s.fail h1 ?_
 conv => whnf
 refine count_calls s.fall h2 ?_
 conv => whnf
 refine br_intro (fun g => ?_) (fun g => ?_)
 ·have g : s.fall = 0 := by simpa using g
  conv => whnf
  refine br_intro (fun g2 => ?_) (fun g2 => ?_)
  ·have g2 : late = true := g2
   rw [show s.act late (renF a b) = (⟨(renF a b) s.fs, cnt s.fail, cnt s.fall, true⟩, 7) by simp [FSt.act, g, g2]] at h
   conv => whnf
   refine clR_calls ⟨s.fs, cnt s.fail, cnt s.fall, true⟩ a b hka ?_
   conv => whnf
   exact h
  ·have g2 : late = false := g2
   rw [show s.act late (renF a b) = (⟨s.fs, cnt s.fail, cnt s.fall, true⟩, 7) by simp [FSt.act, g, g2]] at h
   conv => whnf
   exact h
 have g : s.fall ≠ 0 := by simpa using g
 conv => whnf
 refine br_intro (fun g2 => ?_) (fun g2 => ?_)
 ·have g2 : s.fail = 0 := by simpa using g2
  rw [show s.act late (renF a b) = (⟨s.fs, cnt s.fail, cnt s.fall, s.down⟩, 8) by simp [FSt.act, g, g2]] at h
  conv => whnf
  exact h
 have g2 : s.fail ≠ 0 := by simpa using g2
 rw [show s.act late (renF a b) = (⟨(renF a b) s.fs, cnt s.fail, cnt s.fall, s.down⟩, 0) by simp [FSt.act, g, g2]] at h
 conv => whnf
 refine clR_calls ⟨s.fs, cnt s.fail, cnt s.fall, s.down⟩ a b hka ?_
 conv => whnf
 exact h
theorem clD_calls (s : FSt) (name : B) {R} (h : R (.tup []) [.cells 29 [.ptr 1 0], fsC ⟨(fun m => dl m name) s.fs, s.fail, s.fall, s.down⟩ 2, fsM ⟨(fun m => dl m name) s.fs, s.fail, s.fall, s.down⟩]) :
  ACalls Tryz.prog 67 [.ptr 0 0, .cptr [vs name] 0] [.cells 29 [.ptr 1 0], fsC s 2, fsM s] R := by
 refine acalls_of_xwp (an := an67) tab_ok Tryz.func67 ?_
 conv => whnf
 rw [amap_del]
 conv => whnf
 exact h
theorem actD_calls (s : FSt) (name : B) (late : Bool) (h1 : okN s.fail) (h2 : okN s.fall) {R} (h : R (vi (s.act late (fun m => dl m name)).2) (fsC (s.act late (fun m => dl m name)).1 1 :: fsM (s.act late (fun m => dl m name)).1 :: [.cells 29 [.ptr 0 0]])) :
  ACalls Tryz.prog 66 [.ptr 0 0, .val (.bool late), .fn (.func 67) [] [.ptr 2 0, .cptr [vs name] 0]] (fsC s 1 :: fsM s :: [.cells 29 [.ptr 0 0]]) R := by
 refine acalls_of_xwp (an := an66) tab_ok Tryz.func66 ?_
 conv => whnf
 refine count_calls s.fail h1 ?_
 conv => whnf
 refine count_calls s.fall h2 ?_
 conv => whnf
 refine br_intro (fun g => ?_) (fun g => ?_)
 ·have g : s.fall = 0 := by simpa using g
  conv => whnf
  refine br_intro (fun g2 => ?_) (fun g2 => ?_)
  ·have g2 : late = true := g2
   rw [show s.act late (fun m => dl m name) = (⟨(fun m => dl m name) s.fs, cnt s.fail, cnt s.fall, true⟩, 7) by simp [FSt.act, g, g2]] at h
   conv => whnf
   refine clD_calls ⟨s.fs, cnt s.fail, cnt s.fall, true⟩ name ?_
   conv => whnf
   exact h
  ·have g2 : late = false := g2
   rw [show s.act late (fun m => dl m name) = (⟨s.fs, cnt s.fail, cnt s.fall, true⟩, 7) by simp [FSt.act, g, g2]] at h
   conv => whnf
   exact h
 have g : s.fall ≠ 0 := by simpa using g
 conv => whnf
 refine br_intro (fun g2 => ?_) (fun g2 => ?_)
 ·have g2 : s.fail = 0 := by simpa using g2
  rw [show s.act late (fun m => dl m name) = (⟨s.fs, cnt s.fail, cnt s.fall, s.down⟩, 8) by simp [FSt.act, g, g2]] at h
  conv => whnf
  exact h
 have g2 : s.fail ≠ 0 := by simpa using g2
 rw [show s.act late (fun m => dl m name) = (⟨(fun m => dl m name) s.fs, cnt s.fail, cnt s.fall, s.down⟩, 0) by simp [FSt.act, g, g2]] at h
 conv => whnf
 refine clD_calls ⟨s.fs, cnt s.fail, cnt s.fall, s.down⟩ name ?_
 conv => whnf
 exact h
theorem Append_calls (s : FSt) (name b : B) (h1 : okN s.fail) (h2 : okN s.fall) (hb : b.length < 1000000) (hg : (gF s.fs name).b.length < 100000000) {R} (h : R (vi (s.append name b).2) [fsC (s.append name b).1 1, fsM (s.append name b).1]) : ACalls Tryz.prog 71 [.ptr 0 0, vs name, .sl none 1 (byteEls b)] [fsC s 1, fsM s] R := by
 refine acalls_of_xwp (an := an71) tab_ok Tryz.func71 ?_
 conv => whnf
 refine br_intro (fun g => ?_) (fun g => ?_)
 ·have g : s.down = true := g
  rw [show s.append name b = (s, 7) by simp [FSt.append, g]] at h
  conv => whnf
  exact h
 have g : s.down = false := g
 rw [show s.append name b = s.act true (addF name b) by simp [FSt.append, g]] at h
 conv => whnf
 refine bClone_calls b (by omega) ?_
 conv => whnf
 refine actA_calls s name b (by omega) hg true h1 h2 ?_
 conv => whnf
 exact h
theorem Sync_calls (s : FSt) (name : B) (h1 : okN s.fail) (h2 : okN s.fall) {R} (h : R (vi (s.sync name).2) [fsC (s.sync name).1 1, fsM (s.sync name).1]) : ACalls Tryz.prog 73 [.ptr 0 0, vs name] [fsC s 1, fsM s] R := by
 refine acalls_of_xwp (an := an73) tab_ok Tryz.func73 ?_
 conv => whnf
 refine may_calls s name ?_
 conv => whnf
 refine br_intro (fun g => ?_) (fun g => ?_)
 ·have g : s.may name ≠ 0 := by simpa using g
  rw [show s.sync name = (s, s.may name) by simp [FSt.sync, g]] at h
  conv => whnf
  exact h
 have g : ¬ s.may name ≠ 0 := by simpa using g
 rw [show s.sync name = s.act false (syncF name) by unfold FSt.sync; rw [if_neg g]] at h
 obtain ⟨v, e⟩ := lk_mem (may_mem g).2
 conv => whnf
 rw [amap_find, e]
 conv => whnf
 refine actS_calls s name v (by simp [gF, e]) false h1 h2 ?_
 conv => whnf
 exact h
theorem Rename_calls (s : FSt) (a b : B) (h1 : okN s.fail) (h2 : okN s.fall) {R} (h : R (vi (s.rename a b).2) [fsC (s.rename a b).1 1, fsM (s.rename a b).1]) : ACalls Tryz.prog 75 [.ptr 0 0, vs a, vs b] [fsC s 1, fsM s] R := by
 refine acalls_of_xwp (an := an75) tab_ok Tryz.func75 ?_
 conv => whnf
 refine may_calls s a ?_
 conv => whnf
 refine br_intro (fun g => ?_) (fun g => ?_)
 ·have g : s.may a ≠ 0 := by simpa using g
  rw [show s.rename a b = (s, s.may a) by simp [FSt.rename, g]] at h
  conv => whnf
  exact h
 have g : ¬ s.may a ≠ 0 := by simpa using g
 rw [show s.rename a b = s.act false (renF a b) by unfold FSt.rename; rw [if_neg g]] at h
 conv => whnf
 refine actR_calls s a b (may_mem g).2 false h1 h2 ?_
 conv => whnf
 exact h
theorem Remove_calls (s : FSt) (name : B) (h1 : okN s.fail) (h2 : okN s.fall) {R} (h : R (vi (s.remove name).2) [fsC (s.remove name).1 1, fsM (s.remove name).1]) : ACalls Tryz.prog 32 [.ptr 0 0, vs name] [fsC s 1, fsM s] R := by
 refine acalls_of_xwp (an := an32) tab_ok Tryz.func32 ?_
 conv => whnf
 refine may_calls s name ?_
 conv => whnf
 refine br_intro (fun g => ?_) (fun g => ?_)
 ·have g : s.may name ≠ 0 := by simpa using g
  rw [show s.remove name = (s, s.may name) by simp [FSt.remove, g]] at h
  conv => whnf
  exact h
 have g : ¬ s.may name ≠ 0 := by simpa using g
 rw [show s.remove name = s.act false (fun m => dl m name) by unfold FSt.remove; rw [if_neg g]] at h
 conv => whnf
 refine actD_calls s name false h1 h2 ?_
 conv => whnf
 exact h
theorem sameV_calls (a b : List B) (ha : a.length < 1000000) {R} (h : ∀ p, p = decide (a = b) → R (.val (.bool p)) []) : ACalls Tryz.prog 12 [.sl none 1 (strs a), .sl none 1 (strs b)] [] R := by
 refine acalls_of_xwp (an := an12) tab_ok Tryz.func12 ?_
 have hsa := strs_length a
 have hsb := strs_length b
 conv => whnf
 rw [hsa, hsb]
 refine br_intro (fun hc => ?_) (fun hc => ?_)
 ·conv => whnf
  refine h false (decide_eq_false ?_).symm
  rintro rfl
  simp at hc
 have hlen : a.length = b.length := by simp at hc; omega
 conv => whnf
 refine LoopP.ind1 (fun (i : Nat) => [(5, vi i)]) (fun _ => []) (fun i => a.length - i) (fun i => i ≤ a.length ∧ a.take i = b.take i) 0 rfl ⟨by omega, by simp⟩ ?_
 rintro i ⟨h0, h1⟩ IH
 conv => whnf
 refine br_intro (fun hc => ?_) (fun hc => ?_)
 ·have hc := lt_of_decE hsa hc
  have hcb : i < b.length := by omega
  (conv => whnf); (repeat ((with_reducible refine must_intro ?_ ?_); exact decide_eq_true (by omega); (conv => whnf)))
  refine idxK_map_intro (show (i : Int).toNat < a.length by simpa using hc) ?_
  rw [show a[(i : Int).toNat]'(by simpa using hc) = a[i] from by congr 1]
  (conv => whnf); (repeat ((with_reducible refine must_intro ?_ ?_); exact decide_eq_true (by omega); (conv => whnf)))
  refine idxK_map_intro (show (i : Int).toNat < b.length by simpa using hcb) ?_
  rw [show b[(i : Int).toNat]'(by simpa using hcb) = b[i] from by congr 1]
  conv => whnf
  refine br_intro (fun he => ?_) (fun he => ?_)
  ·have he : a[i] ≠ b[i] := by simpa [ofB_eq] using he
   conv => whnf
   refine h false (decide_eq_false ?_).symm
   rintro rfl
   exact he rfl
  ·have he : a[i] = b[i] := by simpa [ofB_eq] using he
   conv => whnf
   rw [i64_nat (by omega)]
   refine IH (i + 1) ⟨by omega, ?_⟩ (by omega)
   rw [List.take_succ_eq_append_getElem hc, List.take_succ_eq_append_getElem hcb, h1, he]
 ·have hc := ge_of_decE hsa hc
  rw [List.take_of_length_le hc, List.take_of_length_le (by omega)] at h1
  conv => whnf
  exact h true (decide_eq_true h1).symm
theorem bitsLen_calls {R} (h : ∀ n, R (vi n) []) : ACalls Tryz.prog 142 [.val (.int .u64 1)] [] R := by
 refine acalls_of_xwp (an := an142) tab_ok Tryz.func142 ?_
 conv => whnf
 exact h _
theorem ins1_calls (x : B) {R} (h : R (.tup []) []) : ACalls Tryz.prog 132 [.sl none 1 (strs [x]), vi 0, vi 1] [] R := by
 refine acalls_of_xwp (an := an132) tab_ok Tryz.func132 ?_
 conv => whnf
 refine LoopP.step ?_
 conv => whnf
 exact h
theorem pdq1_calls (x : B) (n : Int) {R} (h : R (.tup []) []) : ACalls Tryz.prog 60 [.sl none 1 (strs [x]), vi 0, vi 1, vi n] [] R := by
 refine acalls_of_xwp (an := an60) tab_ok Tryz.func60 ?_
 conv => whnf
 refine LoopP.step ?_
 conv => whnf
 refine ins1_calls x ?_
 conv => whnf
 exact h
theorem sort1_calls (x : B) {R} (h : R (.tup []) []) : ACalls Tryz.prog 28 [.sl none 1 (strs [x])] [] R := by
 refine acalls_of_xwp (an := an28) tab_ok Tryz.func28 ?_
 conv => whnf
 refine (show ACalls Tryz.prog 61 [.val (.int .u64 1)] [] _ from ?_)
 refine acalls_of_xwp (an := an61) tab_ok Tryz.func61 ?_
 conv => whnf
 refine bitsLen_calls fun n => ?_
 conv => whnf
 refine pdq1_calls x n ?_
 conv => whnf
 exact h
theorem waves_calls {R} (h : R (.tup [.sl none 1 [[.sl none 1 (strs [[97]])], [.sl none 1 (strs [[98]])]], vi 0]) []) : ACalls Tryz.prog 11 [.sl none 4 (nds fixNd)] [] R := by
 refine acalls_of_xwp (an := { an11 with vec := [7], nilr := [(7, [(7, 52)])], frv := [(2, 85)], anyo := [18], gq := true }) tab_ok Tryz.func11 ?_
 conv => whnf
 refine Order_calls fixNd fix_small fun o e ho he => ?_
 rw [fix_order] at ho
 rw [fix_check] at he
 subst ho he
 conv => whnf
 refine LoopP.step ?_
 conv => whnf
 refine LoopP.step ?_
 conv => whnf
 refine ⟨⟨rfl, rfl, by simp⟩, (by show (0 + 1) * (24 + 1) ≤ 140737488355328; decide), ?_⟩
 conv => whnf
 repeat' first | exact trivial | (with_reducible exact rfl) | ((with_reducible refine (show _ ≤ 140737488355328 from ?_)); decide) | apply And.intro | ((fail_if_success (with_reducible refine (show LoopP _ _ from ?_))); (conv => whnf))
 refine LoopP.step ?_
 conv => whnf
 refine LoopP.step ?_
 conv => whnf
 refine LoopP.step ?_
 conv => whnf
 refine ⟨⟨rfl, rfl, by simp⟩, (by show (1 + 1) * (24 + 1) ≤ 140737488355328; decide), ?_⟩
 conv => whnf
 repeat' first | exact trivial | (with_reducible exact rfl) | ((with_reducible refine (show _ ≤ 140737488355328 from ?_)); decide) | apply And.intro | ((fail_if_success (with_reducible refine (show LoopP _ _ from ?_))); (conv => whnf))
 refine LoopP.step ?_
 conv => whnf
 refine LoopP.step ?_
 conv => whnf
 refine ⟨rfl, ?_⟩
 conv => whnf
 refine sort1_calls [97] ?_
 conv => whnf
 refine LoopP.step ?_
 conv => whnf
 refine ⟨rfl, ?_⟩
 conv => whnf
 refine sort1_calls [98] ?_
 conv => whnf
 refine LoopP.step ?_
 conv => whnf
 refine ⟨⟨rfl, rfl, rfl⟩, ?_⟩
 conv => whnf
 exact h
theorem fixed25_calls {R} (h : R (.val (.bool true)) []) : ACalls Tryz.prog 5 [] [] R := by
 refine acalls_of_xwp (an := an5) tab_ok Tryz.func5 ?_
 conv => whnf
 refine ACalls.args ?_ (waves_calls ?_)
 ·refine leL.cons (le_sl _ _ (leE.cons (leL.refl _) rfl (leE.cons ?_ rfl leE.nil))) leL.nil
  exact leL.cons (.refl _) (leL.cons (.refl _) (leL.cons (.refl _) (leL.cons (le_nil 1) leL.nil)))
 conv => whnf
 refine sameV_calls [[97]] [[97]] (by simp) fun p hp => ?_
 obtain rfl : p = true := by simp [hp]
 conv => whnf
 refine sameV_calls [[98]] [[98]] (by simp) fun p hp => ?_
 obtain rfl : p = true := by simp [hp]
 conv => whnf
 exact h
def flE (p : B × Fl) : List AV := [vs p.1, vs p.2.b, vi (p.2.safe : Int)]
def flsR (m : FM) : List (List AV) := m.map flE
theorem flsR_length (m : FM) : (flsR m).length = m.length := by simp [flsR]
def fsR (s : FSt) : List AV := [.sl none 3 (flsR s.fs), vi s.fail, vi s.fall, .val (.bool s.down)]
theorem rNew_calls {R} (h : R (.agg (fsR fs0)) []) : ACalls Tryz.prog 16 [] [] R := by
 refine ACalls.res ?_
 refine acalls_of_xwp (an := an16) tab_ok Tryz.func16 ?_
 conv => whnf
 exact res_le (le_agg (leL.cons (le_nil 3) (leL.refl _))) rfl h
theorem lk_drop {m : FM} {n : B} : ∀ i, (∀ p ∈ m.take i, p.1 ≠ n) → lk m n = lk (m.drop i) n := by
 induction m with
 | nil => intro i h; simp
 | cons a m ih =>
  intro i h
  cases i with
  | zero => rfl
  | succ i =>
   obtain ⟨x, f⟩ := a
   have h1 : x ≠ n := h (x, f) (by simp)
   rw [List.drop_succ_cons, ← ih i fun p hp => h p (by simp [hp])]
   simp [lk, h1]
theorem lk_hit {m : FM} {n : B} {i : Nat} (hi : i < m.length) (h : ∀ p ∈ m.take i, p.1 ≠ n) (he : m[i].1 = n) : lk m n = some m[i].2 := by
 rw [lk_drop i h, List.drop_eq_getElem_cons hi]
 simp [lk, he]
theorem take_snoc_ne {m : FM} {n : B} {i : Nat} (hi : i < m.length) (h : ∀ p ∈ m.take i, p.1 ≠ n) (he : m[i].1 ≠ n) : ∀ p ∈ m.take (i + 1), p.1 ≠ n := by
 intro p hp
 rw [List.take_succ_eq_append_getElem hi] at hp
 rcases List.mem_append.1 hp with hp | hp
 ·exact h p hp
 ·rw [List.mem_singleton.1 hp]; exact he
theorem rGet_calls (s : FSt) (hl : s.fs.length < 1000000) (n : B) {R} (h : R (.tup [.agg (flE (n, gF s.fs n)), .val (.bool (decide (n ∈ kys s.fs)))]) []) : ACalls Tryz.prog 35 [.agg (fsR s), vs n] [] R := by
 refine acalls_of_xwp (an := an35) tab_ok Tryz.func35 ?_
 have hsl := flsR_length s.fs
 generalize hm : s.fs = m at hl hsl h
 conv => whnf
 rw [hm]
 refine LoopP.ind1 (fun (i : Nat) => [(6, vi i)]) (fun _ => [(nameOf 4, .cells 103 [vs [], vs [], vi 0])]) (fun i => m.length - i) (fun i => i ≤ m.length ∧ ∀ p ∈ m.take i, p.1 ≠ n) 0 rfl ⟨by omega, by simp⟩ ?_
 rintro i ⟨h0, h1⟩ IH
 conv => whnf
 refine br_intro (fun hc => ?_) (fun hc => ?_)
 ·have hi := lt_of_decE hsl hc
  (conv => whnf); (repeat ((with_reducible refine must_intro ?_ ?_); exact decide_eq_true (by omega); (conv => whnf)))
  refine idxK_map_intro (show (i : Int).toNat < m.length by simpa using hi) ?_
  rw [show m[(i : Int).toNat]'(by simpa using hi) = m[i] from by congr 1]
  have hit := lk_hit hi h1
  have hne := take_snoc_ne hi h1
  have hmi : m[i] ∈ m := List.getElem_mem hi
  generalize hp : m[i] = p at hit hne hmi
  obtain ⟨x, f⟩ := p
  conv => whnf
  refine br_intro (fun g => ?_) (fun g => ?_)
  ·have g : x = n := ofB_inj (of_decide_eq_true g)
   subst g
   have e1 : gF m x = f := by unfold gF; rw [hit rfl]; rfl
   have e2 : decide (x ∈ kys m) = true := decide_eq_true (lk_key (hit rfl))
   rw [e1, e2] at h
   (conv => whnf); (repeat ((with_reducible refine must_intro ?_ ?_); exact decide_eq_true (by omega); (conv => whnf)))
   refine idxK_map_intro (show (i : Int).toNat < m.length by simpa using hi) ?_
   rw [show m[(i : Int).toNat]'(by simpa using hi) = m[i] from by congr 1, hp]
   conv => whnf
   exact h
  ·have g : x ≠ n := fun e => by subst e; exact of_decide_eq_false g rfl
   have IH := IH (i + 1) ⟨hi, hne g⟩ (by omega)
   conv => whnf
   rw [i64_nat (by omega)]
   exact IH
 ·have hi := ge_of_decE hsl hc
  rw [List.take_of_length_le hi] at h1
  have hn : n ∉ kys m := fun hx => by
   obtain ⟨p, hp, e⟩ := List.mem_map.1 hx
   exact h1 p hp e
  rw [decide_eq_false hn, show gF m n = flZ from by unfold gF; rw [lk_none.2 hn]; rfl] at h
  conv => whnf
  exact h
end Go.Abs
end
section
namespace Go.Abs
open Go Go.Proofs
theorem ACalls.freeze {P : Program} {f : FuncId} {args : List AV} {R : AV → List AObj → Prop} {t : TypeId} {sz ver : Nat} {l : List (List AV)} {cs : List AV} (hcs : noNames.go cs = true) (hnm : namesL cs = [])
  (hc : ACalls P f args [] fun r os => r = .agg (.slv 0 sz ver 0 l.length :: cs) ∧ os = [.vec t sz l ver]) (h : R (.agg (.sl none sz l :: cs)) []) : ACalls P f args [] R := by
 refine ⟨fun G w vals hW hA => (hc.run G w vals hW hA).mono ?_⟩
 rintro e w' ⟨v, r, os', G', h1, ⟨rfl, rfl⟩, h3, h4, h5, h6, h7, _, _⟩
 have hno : ∀ n b, ¬ G.at n b := fun n b hb => by
  rcases hb with hb | ⟨u, t', hb, _⟩ <;> (obtain ⟨o, ho⟩ := hW.dom _ _ hb; cases ho)
 obtain ⟨u, xs, o1, o2, o3, o4, o5⟩ := h4.obj 0 (.vec t sz l ver) rfl
 have hK0 : ∀ b o v, G'.K b o = some v → rowK G'.K u xs b o = some v := fun b o v e => by
  by_cases hb : some b = u.ownBlock
  ·rw [o5 b hb.symm o] at e; cases e
  ·simp [rowK, hb, e]
 simp only [Rep, RepL] at h3
 obtain ⟨vs, rfl, x, us, rfl, ⟨⟨A, c, rfl, _, hlc⟩, u', top, e1, e2, e3⟩, hus⟩ := h3
 rw [o1] at e1
 injection e1 with e1
 injection e1 with e1 e1'
 subst e1 e1'
 obtain ⟨A0, L, c0, A', hu, hL, hLc, hv, hA0, hgg⟩ := e3 rfl
 refine ⟨_, .agg (.sl none sz l :: cs), [], ⟨rowK G'.K u xs, fun _ => none⟩, h1, h, ?_, ⟨?_, ?_, ?_, ?_, h4.glob.mono hK0⟩, ⟨fun b o v e => hK0 _ _ _ (h5.K _ _ _ e), fun n b e => ?_, fun n u t e => ?_⟩, ⟨h6.os, h6.tape, h6.output, h6.size, h6.block, fun b o hb hT => ?_⟩, ?_, ?_, ?_⟩
 ·simp only [Rep]
  refine ⟨_, rfl, ?_⟩
  simp only [RepL]
  refine ⟨_, _, rfl, ?_, RepL.nameless (G := G') hK0 _ _ hcs hus⟩
  simp only [Rep]
  refine ⟨⟨A, c, rfl, hlc, ?_⟩, trivial⟩
  by_cases hl0 : l = []
  ·subst hl0; simp [RepE]
  ·obtain ⟨g, hg1, hg2⟩ := hgg (fun e => hl0 (List.eq_nil_of_length_eq_zero e))
   injection hv with hv1 hv2 hv3
   rw [hv1, hg2, Nat.zero_mul]
   refine RepE.of_flat (RepL.nameless (G := G') hK0 _ _ (go_flatten o4) o3) o4 fun j v hj => ?_
   have : some g = u.ownBlock := by rw [hu, hg1]; rfl
   simp only [rowK, this, if_true]
   simpa using hj
 ·intro b o v e
  have e : rowK G'.K u xs b o = some v := e
  by_cases hb : some b = u.ownBlock
  ·simp only [rowK, hb, if_true] at e
   exact row_vals (K := G'.K) o2 hb e
  ·simp only [rowK, hb, if_false] at e
   exact h4.know _ _ _ e
 ·intro n o e; cases e
 ·intro n g e; cases e
 ·intro n m b e
  rcases e with e | ⟨u, t', e, _⟩ <;> cases e
 ·exact absurd (.inl e) (hno n b)
 ·obtain ⟨o, ho⟩ := hW.dom _ _ e; cases ho
 ·show rowK G'.K u xs b o = _
  have hne : some b ≠ u.ownBlock := fun e => by
   rcases h7 0 b (.inr ⟨u, ver, o1, e.symm⟩) with ⟨m, hm⟩ | hm
   ·exact hno m b hm
   ·omega
  simp only [rowK, hne, if_false]
  exact h6.knew b o hb hT
 ·intro n b e
  rcases e with e | ⟨u, t', e, _⟩ <;> cases e
 ·intro i o e; cases e
 ·intro m hm
  exfalso
  simp only [AV.names, namesL, hnm] at hm
  cases hm
end Go.Abs
end
section
namespace Go.Abs
open Go Go.Proofs
attribute [local irreducible] ibits byteAt strLt firstIdx
theorem bytes_fl : (tab.ti 103).bytes = 40 := rfl
def wF (m : FM) (n : B) : FM := m.filter fun p => decide (p.1 ≠ n)
theorem wF_snoc {m : FM} {n : B} {i : Nat} (hi : i < m.length) : wF (m.take (i + 1)) n = wF (m.take i) n ++ if m[i].1 = n then [] else [m[i]] := by
 unfold wF
 rw [List.take_succ_eq_append_getElem hi, List.filter_append]
 congr 1
 by_cases h : m[i].1 = n
 ·simp [h]
 ·simp [h]
theorem wF_len (m : FM) (n : B) (i : Nat) : (wF (m.take i) n).length ≤ i := by
 unfold wF
 have := List.length_filter_le (fun p : B × Fl => decide (p.1 ≠ n)) (m.take i)
 rw [List.length_take] at this
 omega
theorem flsR_append (l m : FM) : flsR (l ++ m) = flsR l ++ flsR m := by simp [flsR]
theorem withoutF_calls (s : FSt) (hl : s.fs.length < 1000000) (n : B) {R} (h : R (.agg (fsR ⟨wF s.fs n, s.fail, s.fall, s.down⟩)) []) : ACalls Tryz.prog 81 [.agg (fsR s), vs n] [] R := by
 refine acalls_of_xwp (an := an81) tab_ok Tryz.func81 ?_
 have hsl := flsR_length s.fs
 generalize hm : s.fs = m at hl hsl h
 conv => whnf
 rw [hm]
 refine LoopP.ind2 (fun (i : Nat) (o : FM) => [(5, .sl (some (nameOf 7)) 3 (flsR o)), (6, vi i)]) (fun i o => [(nameOf 2, .cells 33 [.sl none 3 (flsR m), vi s.fail, vi s.fall, .val (.bool s.down)]), (nameOf 4, .cells 33 [.val (.slice none 0 0), vi 0, vi 0, .val (.bool false)]), (nameOf 7, .row 103 3 o.length)]) (fun i _ => m.length - i) (fun i o => i ≤ m.length ∧ o = wF (m.take i) n) 0 [] rfl ⟨by omega, rfl⟩ ?_
 rintro i o ⟨h0, ho⟩ IH
 have hst := flsR_length o
 have hol := wF_len m n i
 rw [← ho] at hol
 conv => whnf
 refine br_intro (fun hc => ?_) (fun hc => ?_)
 ·have hi := lt_of_decE hsl hc
  have hsn := wF_snoc (n := n) hi
  rw [← ho] at hsn
  (conv => whnf); (repeat ((with_reducible refine must_intro ?_ ?_); exact decide_eq_true (by omega); (conv => whnf)))
  refine idxK_map_intro (show (i : Int).toNat < m.length by simpa using hi) ?_
  rw [show m[(i : Int).toNat]'(by simpa using hi) = m[i] from by congr 1]
  generalize hp : m[i] = p at hsn
  obtain ⟨x, f⟩ := p
  conv => whnf
  refine br_intro (fun g => ?_) (fun g => ?_)
  ·have g : x ≠ n := fun e => by
    have g : (!decide (ofB x = ofB n)) = true := g
    rw [e] at g
    simp at g
   rw [if_neg g] at hsn
   have IH := IH (i + 1) _ ⟨hi, hsn.symm⟩ (by omega)
   rw [flsR_append, List.length_append] at IH
   (conv => whnf); (repeat ((with_reducible refine must_intro ?_ ?_); exact decide_eq_true (by omega); (conv => whnf)))
   refine idxK_map_intro (show (i : Int).toNat < m.length by simpa using hi) ?_
   rw [show m[(i : Int).toNat]'(by simpa using hi) = m[i] from by congr 1, hp]
   conv => whnf
   refine ⟨hst.symm, by rw [hst, bytes_fl]; simp only [List.length_cons, List.length_nil]; omega, ?_⟩
   conv => whnf
   rw [i64_nat (by omega)]
   rw [hst]
   exact IH
  ·have g : x = n := by
    have g : (!decide (ofB x = ofB n)) = false := g
    refine ofB_inj ?_
    simpa using g
   rw [if_pos g, List.append_nil] at hsn
   have IH := IH (i + 1) o ⟨hi, hsn.symm⟩ (by omega)
   conv => whnf
   rw [i64_nat (by omega)]
   exact IH
 ·have hi := ge_of_decE hsl hc
  rw [List.take_of_length_le hi] at ho
  subst ho
  conv => whnf
  exact h
theorem withoutV_calls (s : FSt) (hl : s.fs.length < 1000000) (n : B) {R} (h : R (.agg [.slv 0 3 (wF s.fs n).length 0 (wF s.fs n).length, vi s.fail, vi s.fall, .val (.bool s.down)]) [.vec 103 3 (flsR (wF s.fs n)) (wF s.fs n).length]) : ACalls Tryz.prog 81 [.agg (fsR s), vs n] [] R := by
 refine acalls_of_xwp (an := { an81 with keepRes := true, frv := [(5, 7)] }) tab_ok Tryz.func81 ?_
 have hsl := flsR_length s.fs
 generalize hm : s.fs = m at hl hsl h
 conv => whnf
 rw [hm]
 refine LoopP.ind2 (fun (i : Nat) (o : FM) => [(5, .slv (nameOf 7) 3 o.length 0 o.length), (6, vi i)]) (fun i o => [(nameOf 2, .cells 33 [.sl none 3 (flsR m), vi s.fail, vi s.fall, .val (.bool s.down)]), (nameOf 4, .cells 33 [.val (.slice none 0 0), vi 0, vi 0, .val (.bool false)]), (nameOf 7, .vec 103 3 (flsR o) o.length)]) (fun i _ => m.length - i) (fun i o => i ≤ m.length ∧ o = wF (m.take i) n) 0 [] rfl ⟨by omega, rfl⟩ ?_
 rintro i o ⟨h0, ho⟩ IH
 have hst := flsR_length o
 have hol := wF_len m n i
 rw [← ho] at hol
 conv => whnf
 refine br_intro (fun hc => ?_) (fun hc => ?_)
 ·have hi := lt_of_decE hsl hc
  have hsn := wF_snoc (n := n) hi
  rw [← ho] at hsn
  (conv => whnf); (repeat ((with_reducible refine must_intro ?_ ?_); exact decide_eq_true (by omega); (conv => whnf)))
  refine idxK_map_intro (show (i : Int).toNat < m.length by simpa using hi) ?_
  rw [show m[(i : Int).toNat]'(by simpa using hi) = m[i] from by congr 1]
  generalize hp : m[i] = p at hsn
  obtain ⟨x, f⟩ := p
  conv => whnf
  refine br_intro (fun g => ?_) (fun g => ?_)
  ·have g : x ≠ n := fun e => by
    have g : (!decide (ofB x = ofB n)) = true := g
    rw [e] at g
    simp at g
   rw [if_neg g] at hsn
   have IH := IH (i + 1) _ ⟨hi, hsn.symm⟩ (by omega)
   rw [flsR_append, List.length_append] at IH
   (conv => whnf); (repeat ((with_reducible refine must_intro ?_ ?_); exact decide_eq_true (by omega); (conv => whnf)))
   refine idxK_map_intro (show (i : Int).toNat < m.length by simpa using hi) ?_
   rw [show m[(i : Int).toNat]'(by simpa using hi) = m[i] from by congr 1, hp]
   conv => whnf
   refine ⟨⟨rfl, rfl, by omega⟩, by rw [bytes_fl]; simp only [List.length_cons, List.length_nil]; omega, ?_⟩
   rw [List.take_of_length_le (show (flsR o).length ≤ o.length by omega)]
   conv => whnf
   rw [i64_nat (by omega)]
   exact IH
  ·have g : x = n := by
    have g : (!decide (ofB x = ofB n)) = false := g
    refine ofB_inj ?_
    simpa using g
   rw [if_pos g, List.append_nil] at hsn
   have IH := IH (i + 1) o ⟨hi, hsn.symm⟩ (by omega)
   conv => whnf
   rw [i64_nat (by omega)]
   exact IH
 ·have hi := ge_of_decE hsl hc
  rw [List.take_of_length_le hi] at ho
  subst ho
  conv => whnf
  exact h
def cutK (n : B) (w : FM) : Nat → Nat
 | 0 => 0
 | k + 1 => match w[k]? with
  | some p => if ltB n p.1 = true then cutK n w k else k + 1
  | none => k + 1
theorem cutK_le (n : B) (w : FM) : ∀ k, cutK n w k ≤ k := by
 intro k
 induction k with
 | zero => exact Nat.le_refl _
 | succ k ih =>
  unfold cutK
  split
  ·split
   ·omega
   ·omega
  ·omega
def rpt (m : FM) (n : B) (f : Fl) : FM := let w := wF m n; w.take (cutK n w w.length) ++ (n, f) :: w.drop (cutK n w w.length)
theorem rPut_calls (s : FSt) (hl : s.fs.length < 1000000) (hn : ∀ x ∈ kys s.fs, x.length < 1000000) (n : B) (f : Fl) (hnl : n.length < 1000000) {R} (h : R (.agg (fsR ⟨rpt s.fs n f, s.fail, s.fall, s.down⟩)) []) : ACalls Tryz.prog 161 [.agg (fsR s), .agg (flE (n, f))] [] R := by
 refine ACalls.freeze (t := 103) (sz := 3) (ver := (wF s.fs n).length + 2) (l := flsR (rpt s.fs n f)) (cs := [vi s.fail, vi s.fall, .val (.bool s.down)]) rfl rfl ?_ h
 clear h R
 refine acalls_of_xwp (an := { an161 with anyo := [6] }) tab_ok Tryz.func161 ?_
 conv => whnf
 refine withoutV_calls s hl n ?_
 have hwn : ∀ p ∈ wF s.fs n, p.1.length < 1000000 := fun p hp => hn p.1 (List.mem_map_of_mem (List.mem_filter.1 hp).1)
 have hwl : (wF s.fs n).length < 1000000 := Nat.lt_of_le_of_lt (List.length_filter_le _ _) hl
 unfold rpt
 generalize wF s.fs n = W at hwn hwl ⊢
 have hsl := flsR_length W
 conv => whnf
 refine LoopP.ind1 (fun (k : Nat) => [(5, vi k)]) (fun k => [(nameOf 2, .cells 33 [.slv (freshN 10 0) 3 W.length 0 W.length, vi s.fail, vi s.fall, .val (.bool s.down)]), (nameOf 4, .cells 33 [.val (.slice none 0 0), vi 0, vi 0, .val (.bool false)]), (freshN 10 0, .vec 103 3 (flsR W) W.length)]) (fun k => k) (fun k => k ≤ W.length ∧ cutK n W k = cutK n W W.length) W.length rfl ⟨Nat.le_refl _, rfl⟩ ?_
 rintro k ⟨h0, hk⟩ IH
 show _
 conv => whnf
 refine br_intro (fun g => ?_) (fun g => ?_)
 ·have g : 0 < k := by have := of_decide_eq_true g; omega
  obtain ⟨j, rfl⟩ : ∃ j, k = j + 1 := ⟨k - 1, by omega⟩
  have ej : IntKind.i64.wrap (((j + 1 : Nat) : Int) - 1) = (j : Int) := by rw [wrap_i64 (by omega) (by omega)]; omega
  have hj : j < W.length := by omega
  conv => whnf
  rw [ej]
  refine must_intro (decide_eq_true (by omega)) ?_
  conv => whnf
  refine ⟨rfl, idxK_map_intro (show 0 + (j : Int).toNat < W.length by simpa using hj) ?_⟩
  rw [show W[0 + (j : Int).toNat]'(by simpa using hj) = W[j] from by congr 1; omega]
  have hwj := hwn _ (List.getElem_mem hj)
  have hcut : cutK n W (j + 1) = if ltB n W[j].1 = true then cutK n W j else j + 1 := by
   conv => lhs; unfold cutK
   rw [List.getElem?_eq_getElem hj]
  generalize W[j] = p at hwj hcut
  obtain ⟨x, fx⟩ := p
  conv => whnf
  refine Less_calls n x hnl hwj fun q hq => ?_
  cases q with
  | true =>
   rw [show ltB n x = true from hq.symm, if_pos rfl] at hcut
   have IH := IH j ⟨by omega, by rw [← hcut]; exact hk⟩ (by omega)
   conv => whnf
   rw [ej]
   exact IH
  | false =>
   rw [show ltB n x = false from hq.symm, if_neg (by simp)] at hcut
   have hkk : cutK n W W.length = j + 1 := by rw [← hk, hcut]
   clear IH hcut hk hq hwj
   generalize j + 1 = k at hkk h0 ⊢
   clear ej
   conv => whnf
   refine must_intro (decide_eq_true (by omega)) ?_
   conv => whnf
   refine must_intro (decide_eq_true (Int.le_refl _)) ?_
   conv => whnf
   refine ⟨⟨rfl, rfl⟩, by rw [bytes_fl]; simp only [List.length_nil]; omega, ?_⟩
   have hrest : [] ++ List.take (((W.length : Nat) : Int).toNat - ((k : Nat) : Int).toNat) (List.drop (0 + ((k : Nat) : Int).toNat) (flsR W)) = flsR (W.drop k) := by
    rw [List.nil_append, Nat.zero_add, Int.toNat_natCast, Int.toNat_natCast, List.take_of_length_le (by rw [List.length_drop, hsl]; exact Nat.le_refl _)]
    simp [flsR, List.map_drop]
   rw [hrest]
   conv => whnf
   refine ⟨?_, trivial⟩
   conv => whnf
   refine must_intro (decide_eq_true (by omega)) ?_
   conv => whnf
   refine ⟨?_, trivial⟩
   conv => whnf
   refine ⟨⟨rfl, rfl, by rw [hsl, Int.toNat_natCast]; omega⟩, by rw [bytes_fl, Int.toNat_natCast]; simp only [List.length_cons, List.length_nil]; omega, ?_⟩
   conv => whnf
   have htk : List.take (((k : Nat) : Int).toNat - ((0 : Nat) : Int).toNat) (flsR W) = flsR (W.take k) := by
    rw [Int.toNat_natCast, Int.toNat_natCast, Nat.sub_zero]
    simp [flsR, List.map_take]
   have hr2 := flsR_length (W.drop k)
   have hr3 := flsR_length (W.take k)
   rw [List.length_drop] at hr2
   rw [List.length_take] at hr3
   refine ⟨?_, trivial⟩
   conv => whnf
   rw [htk]
   refine ⟨⟨rfl, rfl, by simp only [List.length_append, List.length_cons, List.length_nil, hr3, Int.toNat_natCast]; omega⟩, by rw [bytes_fl, Int.toNat_natCast]; simp only [List.length_cons, List.length_nil, hr2]; omega, ?_⟩
   conv => whnf
   refine ⟨?_, trivial⟩
   conv => whnf
   have e1 : ((k : Nat) : Int).toNat - ((0 : Nat) : Int).toNat + 1 + (flsR (W.drop k)).length = (flsR (W.take k ++ (n, f) :: W.drop k)).length := by
    rw [hr2, flsR_length, List.length_append, List.length_take, List.length_cons, List.length_drop, Int.toNat_natCast, Int.toNat_natCast]; omega
   have e2 : List.take (((k : Nat) : Int).toNat - ((0 : Nat) : Int).toNat + 1) (flsR (W.take k) ++ [flE (n, f)]) ++ flsR (W.drop k) = flsR (W.take k ++ (n, f) :: W.drop k) := by
    rw [List.take_of_length_le (by rw [List.length_append, hr3, List.length_singleton, Int.toNat_natCast, Int.toNat_natCast]; omega), flsR_append, List.append_assoc]
    rfl
   show AV.agg [.slv 0 3 (W.length + 2) 0 (((k : Nat) : Int).toNat - ((0 : Nat) : Int).toNat + 1 + (flsR (W.drop k)).length), vi s.fail, vi s.fall, .val (.bool s.down)] = .agg [.slv 0 3 (W.length + 2) 0 (flsR (W.take (cutK n W W.length) ++ (n, f) :: W.drop (cutK n W W.length))).length, vi s.fail, vi s.fall, .val (.bool s.down)] ∧
    [AObj.vec 103 3 (List.take (((k : Nat) : Int).toNat - ((0 : Nat) : Int).toNat + 1) (flsR (W.take k) ++ [flE (n, f)]) ++ flsR (W.drop k)) (W.length + 2)] = [AObj.vec 103 3 (flsR (W.take (cutK n W W.length) ++ (n, f) :: W.drop (cutK n W W.length))) (W.length + 2)]
   rw [hkk, e1, e2]
   exact ⟨rfl, rfl⟩
 ·have g : k = 0 := by have := of_decide_eq_false g; omega
  have hkk : cutK n W W.length = k := by rw [← hk, g]; rfl
  clear IH hk g
  conv => whnf
  refine must_intro (decide_eq_true (by omega)) ?_
  conv => whnf
  refine must_intro (decide_eq_true (Int.le_refl _)) ?_
  conv => whnf
  refine ⟨⟨rfl, rfl⟩, by rw [bytes_fl]; simp only [List.length_nil]; omega, ?_⟩
  have hrest : [] ++ List.take (((W.length : Nat) : Int).toNat - ((k : Nat) : Int).toNat) (List.drop (0 + ((k : Nat) : Int).toNat) (flsR W)) = flsR (W.drop k) := by
   rw [List.nil_append, Nat.zero_add, Int.toNat_natCast, Int.toNat_natCast, List.take_of_length_le (by rw [List.length_drop, hsl]; exact Nat.le_refl _)]
   simp [flsR, List.map_drop]
  rw [hrest]
  conv => whnf
  refine ⟨?_, trivial⟩
  conv => whnf
  refine must_intro (decide_eq_true (by omega)) ?_
  conv => whnf
  refine ⟨?_, trivial⟩
  conv => whnf
  refine ⟨⟨rfl, rfl, by rw [hsl, Int.toNat_natCast]; omega⟩, by rw [bytes_fl, Int.toNat_natCast]; simp only [List.length_cons, List.length_nil]; omega, ?_⟩
  conv => whnf
  have htk : List.take (((k : Nat) : Int).toNat - ((0 : Nat) : Int).toNat) (flsR W) = flsR (W.take k) := by
   rw [Int.toNat_natCast, Int.toNat_natCast, Nat.sub_zero]
   simp [flsR, List.map_take]
  have hr2 := flsR_length (W.drop k)
  have hr3 := flsR_length (W.take k)
  rw [List.length_drop] at hr2
  rw [List.length_take] at hr3
  refine ⟨?_, trivial⟩
  conv => whnf
  rw [htk]
  refine ⟨⟨rfl, rfl, by simp only [List.length_append, List.length_cons, List.length_nil, hr3, Int.toNat_natCast]; omega⟩, by rw [bytes_fl, Int.toNat_natCast]; simp only [List.length_cons, List.length_nil, hr2]; omega, ?_⟩
  conv => whnf
  refine ⟨?_, trivial⟩
  conv => whnf
  have e1 : ((k : Nat) : Int).toNat - ((0 : Nat) : Int).toNat + 1 + (flsR (W.drop k)).length = (flsR (W.take k ++ (n, f) :: W.drop k)).length := by
   rw [hr2, flsR_length, List.length_append, List.length_take, List.length_cons, List.length_drop, Int.toNat_natCast, Int.toNat_natCast]; omega
  have e2 : List.take (((k : Nat) : Int).toNat - ((0 : Nat) : Int).toNat + 1) (flsR (W.take k) ++ [flE (n, f)]) ++ flsR (W.drop k) = flsR (W.take k ++ (n, f) :: W.drop k) := by
   rw [List.take_of_length_le (by rw [List.length_append, hr3, List.length_singleton, Int.toNat_natCast, Int.toNat_natCast]; omega), flsR_append, List.append_assoc]
   rfl
  show AV.agg [.slv 0 3 (W.length + 2) 0 (((k : Nat) : Int).toNat - ((0 : Nat) : Int).toNat + 1 + (flsR (W.drop k)).length), vi s.fail, vi s.fall, .val (.bool s.down)] = .agg [.slv 0 3 (W.length + 2) 0 (flsR (W.take (cutK n W W.length) ++ (n, f) :: W.drop (cutK n W W.length))).length, vi s.fail, vi s.fall, .val (.bool s.down)] ∧
   [AObj.vec 103 3 (List.take (((k : Nat) : Int).toNat - ((0 : Nat) : Int).toNat + 1) (flsR (W.take k) ++ [flE (n, f)]) ++ flsR (W.drop k)) (W.length + 2)] = [AObj.vec 103 3 (flsR (W.take (cutK n W W.length) ++ (n, f) :: W.drop (cutK n W W.length))) (W.length + 2)]
  rw [hkk, e1, e2]
  exact ⟨rfl, rfl⟩
theorem cnt_ge {a : Int} (ha : okN a) (h : 0 ≤ a) : IntKind.i64.wrap (a - 1) = cnt a := by
 unfold okN at ha
 rw [wrap_i64 (by omega) (by omega)]
 unfold cnt
 rw [if_neg (by omega)]
theorem cnt_lt {a : Int} (ha : okN a) (h : ¬ 0 ≤ a) : a = cnt a := by
 unfold okN at ha
 unfold cnt
 rw [if_pos (by omega)]
 omega
theorem rAct_calls (s : FSt) (m : FM) (late : Bool) (h1 : okN s.fail) (h2 : okN s.fall) {R} (h : R (.tup [.agg (fsR (s.act late fun _ => m).1), vi (s.act late fun _ => m).2]) []) :
  ACalls Tryz.prog 80 [.agg (fsR s), .agg (fsR ⟨m, s.fail, s.fall, s.down⟩), .val (.bool late)] [] R := by
 refine acalls_of_xwp (an := { an80 with anyo := [5] }) tab_ok Tryz.func80 ?_
 unfold FSt.act at h
 obtain ⟨fs, fail, fall, down⟩ := s
 have h1 : okN fail := h1
 have h2 : okN fall := h2
 by_cases hfall : fall = 0
 ·subst hfall
  rw [if_pos rfl] at h
  have h : R (.tup [.agg (fsR ⟨if late then m else fs, cnt fail, -1, true⟩), vi 7]) [] := h
  cases late with
  | true =>
   have h : R (.tup [.agg (fsR ⟨m, cnt fail, -1, true⟩), vi 7]) [] := h
   conv => whnf
   repeat' first | exact trivial | apply And.intro | ((fail_if_success (refine br_true ?_ ?_)); (conv => whnf))
   all_goals
    refine br_intro (fun q2 => ?_) (fun q2 => ?_)
    ·have q2 : 0 ≤ fail := of_decide_eq_true q2
     rw [← cnt_ge h1 q2] at h
     conv => whnf
     exact h
    ·have q2 : ¬ 0 ≤ fail := of_decide_eq_false q2
     rw [← cnt_lt h1 q2] at h
     conv => whnf
     exact h
  | false =>
   have h : R (.tup [.agg (fsR ⟨fs, cnt fail, -1, true⟩), vi 7]) [] := h
   conv => whnf
   repeat' first | exact trivial | apply And.intro | ((fail_if_success (refine br_true ?_ ?_)); (conv => whnf))
   all_goals
    refine br_intro (fun q2 => ?_) (fun q2 => ?_)
    ·have q2 : 0 ≤ fail := of_decide_eq_true q2
     rw [← cnt_ge h1 q2] at h
     conv => whnf
     exact h
    ·have q2 : ¬ 0 ≤ fail := of_decide_eq_false q2
     rw [← cnt_lt h1 q2] at h
     conv => whnf
     exact h
 ·rw [if_neg hfall] at h
  have e8 : (fall == 0) = false := by simpa using hfall
  by_cases hfail : fail = 0
  ·subst hfail
   rw [if_pos rfl] at h
   have h : R (.tup [.agg (fsR ⟨fs, -1, cnt fall, down⟩), vi 8]) [] := h
   conv => whnf
   rw [e8]
   conv => whnf
   repeat' first | exact trivial | apply And.intro | ((fail_if_success (refine br_true ?_ ?_)); (conv => whnf))
   all_goals
    refine br_intro (fun q1 => ?_) (fun q1 => ?_)
    ·have q1 : 0 ≤ fall := of_decide_eq_true q1
     rw [← cnt_ge h2 q1] at h
     conv => whnf
     exact h
    ·have q1 : ¬ 0 ≤ fall := of_decide_eq_false q1
     rw [← cnt_lt h2 q1] at h
     conv => whnf
     exact h
  ·rw [if_neg hfail] at h
   have e9 : (fail == 0) = false := by simpa using hfail
   have h : R (.tup [.agg (fsR ⟨m, cnt fail, cnt fall, down⟩), vi 0]) [] := h
   conv => whnf
   rw [e8]
   conv => whnf
   rw [e9]
   conv => whnf
   repeat' first | exact trivial | apply And.intro | ((fail_if_success (refine br_true ?_ ?_)); (conv => whnf))
   all_goals
    refine br_intro (fun q1 => ?_) (fun q1 => ?_)
    ·have q1 : 0 ≤ fall := of_decide_eq_true q1
     rw [← cnt_ge h2 q1] at h
     conv => whnf
     refine br_intro (fun q2 => ?_) (fun q2 => ?_)
     ·have q2 : 0 ≤ fail := of_decide_eq_true q2
      rw [← cnt_ge h1 q2] at h
      conv => whnf
      exact h
     ·have q2 : ¬ 0 ≤ fail := of_decide_eq_false q2
      rw [← cnt_lt h1 q2] at h
      conv => whnf
      exact h
    ·have q1 : ¬ 0 ≤ fall := of_decide_eq_false q1
     rw [← cnt_lt h2 q1] at h
     conv => whnf
     refine br_intro (fun q2 => ?_) (fun q2 => ?_)
     ·have q2 : 0 ≤ fail := of_decide_eq_true q2
      rw [← cnt_ge h1 q2] at h
      conv => whnf
      exact h
     ·have q2 : ¬ 0 ≤ fail := of_decide_eq_false q2
      rw [← cnt_lt h1 q2] at h
      conv => whnf
      exact h
def rAdd (n b : B) (m : FM) : FM := rpt m n ⟨(gF m n).b ++ b, (gF m n).safe⟩
def rSyn (n : B) (m : FM) : FM := rpt m n ⟨(gF m n).b, (gF m n).b.length⟩
def rRen (a b : B) (m : FM) : FM := rpt (wF m a) b (gF m a)
def FSt.rappend (s : FSt) (n b : B) : FSt × Int := if s.down then (s, 7) else s.act true (rAdd n b)
def FSt.rsync (s : FSt) (n : B) : FSt × Int := if s.may n ≠ 0 then (s, s.may n) else s.act false (rSyn n)
def FSt.rrename (s : FSt) (a b : B) : FSt × Int := if s.may a ≠ 0 then (s, s.may a) else s.act false (rRen a b)
def FSt.rremove (s : FSt) (n : B) : FSt × Int := if s.may n ≠ 0 then (s, s.may n) else s.act false fun m => wF m n
theorem may_down {s : FSt} {n : B} (h : s.down = true) : s.may n = 7 := by unfold FSt.may; rw [if_pos h]
theorem may_none {s : FSt} {n : B} (h : s.down = false) (hn : n ∉ kys s.fs) : s.may n = 6 := by
 unfold FSt.may; rw [h, lk_none.2 hn]; rfl
theorem may_some {s : FSt} {n : B} (h : s.down = false) (hn : n ∈ kys s.fs) : s.may n = 0 := by
 unfold FSt.may
 obtain ⟨v, hv⟩ := lk_mem hn
 rw [h, hv]; rfl
structure ROk (s : FSt) : Prop where
 len : s.fs.length < 900000
 names : ∀ x ∈ kys s.fs, x.length < 1000000
 fail : okN s.fail
 fall : okN s.fall
theorem rAppend_calls (s : FSt) (hs : ROk s) (n b : B) (hn : n.length < 1000000) (hb : (gF s.fs n).b.length + b.length < 1000000000) {R} (h : R (.tup [.agg (fsR (s.rappend n b).1), vi (s.rappend n b).2]) []) : ACalls Tryz.prog 83 [.agg (fsR s), vs n, vs b] [] R := by
 refine acalls_of_xwp (an := an83) tab_ok Tryz.func83 ?_
 obtain ⟨h1, h2, h3, h4⟩ := hs
 obtain ⟨m, fail, fall, down⟩ := s
 cases down with
 | true =>
  conv => whnf
  exact h
 | false =>
  have h : R (.tup [.agg (fsR ((FSt.mk m fail fall false).act true fun _ => rAdd n b m).1), vi ((FSt.mk m fail fall false).act true fun _ => rAdd n b m).2]) [] := h
  conv => whnf
  refine rGet_calls ⟨m, fail, fall, false⟩ (by show m.length < _; have h1 : m.length < 900000 := h1; omega) n ?_
  conv => whnf
  have hb : (gF m n).b.length + b.length < 1000000000 := hb
  refine must_intro (decide_eq_true (by rw [size_ofB, size_ofB]; show (gF m n).b.length + b.length ≤ _; omega)) ?_
  rw [ofB_append]
  conv => whnf
  refine rPut_calls ⟨m, fail, fall, false⟩ (by show m.length < _; have h1 : m.length < 900000 := h1; omega) h2 n ⟨(gF m n).b ++ b, (gF m n).safe⟩ hn ?_
  conv => whnf
  refine rAct_calls ⟨m, fail, fall, false⟩ (rAdd n b m) true h3 h4 ?_
  generalize (FSt.mk m fail fall false).act true (fun _ => rAdd n b m) = se at h ⊢
  obtain ⟨s2, e⟩ := se
  conv => whnf
  exact h
theorem rSync_calls (s : FSt) (hs : ROk s) (n : B) (hn : n.length < 1000000) {R} (h : R (.tup [.agg (fsR (s.rsync n).1), vi (s.rsync n).2]) []) : ACalls Tryz.prog 84 [.agg (fsR s), vs n] [] R := by
 refine acalls_of_xwp (an := an84) tab_ok Tryz.func84 ?_
 obtain ⟨h1, h2, h3, h4⟩ := hs
 obtain ⟨m, fail, fall, down⟩ := s
 conv => whnf
 refine rGet_calls ⟨m, fail, fall, down⟩ (by show m.length < _; have h1 : m.length < 900000 := h1; omega) n ?_
 cases down with
 | true =>
  unfold FSt.rsync at h
  rw [if_pos (by rw [may_down rfl]; decide), may_down rfl] at h
  conv => whnf
  exact h
 | false =>
  by_cases hin : n ∈ kys m
  ·unfold FSt.rsync at h
   rw [if_neg (by rw [may_some rfl hin]; decide)] at h
   have h : R (.tup [.agg (fsR ((FSt.mk m fail fall false).act false fun _ => rSyn n m).1), vi ((FSt.mk m fail fall false).act false fun _ => rSyn n m).2]) [] := h
   rw [show decide (n ∈ kys (FSt.mk m fail fall false).fs) = true from decide_eq_true hin]
   conv => whnf
   rw [size_ofB]
   refine rPut_calls ⟨m, fail, fall, false⟩ (by show m.length < _; have h1 : m.length < 900000 := h1; omega) h2 n ⟨(gF m n).b, (gF m n).b.length⟩ hn ?_
   conv => whnf
   refine rAct_calls ⟨m, fail, fall, false⟩ (rSyn n m) false h3 h4 ?_
   generalize (FSt.mk m fail fall false).act false (fun _ => rSyn n m) = se at h ⊢
   obtain ⟨s2, e⟩ := se
   conv => whnf
   exact h
  ·unfold FSt.rsync at h
   rw [if_pos (by rw [may_none rfl hin]; decide), may_none rfl hin] at h
   rw [show decide (n ∈ kys (FSt.mk m fail fall false).fs) = false from decide_eq_false hin]
   conv => whnf
   exact h
theorem rRename_calls (s : FSt) (hs : ROk s) (n b : B) (hn : n.length < 1000000) (hb : b.length < 1000000) {R} (h : R (.tup [.agg (fsR (s.rrename n b).1), vi (s.rrename n b).2]) []) : ACalls Tryz.prog 85 [.agg (fsR s), vs n, vs b] [] R := by
 refine acalls_of_xwp (an := an85) tab_ok Tryz.func85 ?_
 obtain ⟨h1, h2, h3, h4⟩ := hs
 obtain ⟨m, fail, fall, down⟩ := s
 have h1 : m.length < 900000 := h1
 have hwl : (wF m n).length < 1000000 := Nat.lt_of_le_of_lt (List.length_filter_le _ _) (by omega)
 have hwn : ∀ x ∈ kys (wF m n), x.length < 1000000 := fun x hx => by
  obtain ⟨p, hp, rfl⟩ := List.mem_map.1 hx
  exact h2 p.1 (List.mem_map_of_mem (List.mem_filter.1 hp).1)
 conv => whnf
 refine rGet_calls ⟨m, fail, fall, down⟩ (by show m.length < _; omega) n ?_
 cases down with
 | true =>
  unfold FSt.rrename at h
  rw [if_pos (by rw [may_down rfl]; decide), may_down rfl] at h
  conv => whnf
  exact h
 | false =>
  by_cases hin : n ∈ kys m
  ·unfold FSt.rrename at h
   rw [if_neg (by rw [may_some rfl hin]; decide)] at h
   have h : R (.tup [.agg (fsR ((FSt.mk m fail fall false).act false fun _ => rRen n b m).1), vi ((FSt.mk m fail fall false).act false fun _ => rRen n b m).2]) [] := h
   rw [show decide (n ∈ kys (FSt.mk m fail fall false).fs) = true from decide_eq_true hin]
   conv => whnf
   refine withoutF_calls ⟨m, fail, fall, false⟩ (by show m.length < _; omega) n ?_
   conv => whnf
   refine rPut_calls ⟨wF m n, fail, fall, false⟩ hwl hwn b (gF m n) hb ?_
   conv => whnf
   refine rAct_calls ⟨m, fail, fall, false⟩ (rRen n b m) false h3 h4 ?_
   generalize (FSt.mk m fail fall false).act false (fun _ => rRen n b m) = se at h ⊢
   obtain ⟨s2, e⟩ := se
   conv => whnf
   exact h
  ·unfold FSt.rrename at h
   rw [if_pos (by rw [may_none rfl hin]; decide), may_none rfl hin] at h
   rw [show decide (n ∈ kys (FSt.mk m fail fall false).fs) = false from decide_eq_false hin]
   conv => whnf
   exact h
theorem rRemove_calls (s : FSt) (hs : ROk s) (n : B) {R} (h : R (.tup [.agg (fsR (s.rremove n).1), vi (s.rremove n).2]) []) : ACalls Tryz.prog 36 [.agg (fsR s), vs n] [] R := by
 refine acalls_of_xwp (an := an36) tab_ok Tryz.func36 ?_
 obtain ⟨h1, h2, h3, h4⟩ := hs
 obtain ⟨m, fail, fall, down⟩ := s
 have h1 : m.length < 900000 := h1
 conv => whnf
 refine rGet_calls ⟨m, fail, fall, down⟩ (by show m.length < _; omega) n ?_
 cases down with
 | true =>
  unfold FSt.rremove at h
  rw [if_pos (by rw [may_down rfl]; decide), may_down rfl] at h
  conv => whnf
  exact h
 | false =>
  by_cases hin : n ∈ kys m
  ·unfold FSt.rremove at h
   rw [if_neg (by rw [may_some rfl hin]; decide)] at h
   have h : R (.tup [.agg (fsR ((FSt.mk m fail fall false).act false fun _ => wF m n).1), vi ((FSt.mk m fail fall false).act false fun _ => wF m n).2]) [] := h
   rw [show decide (n ∈ kys (FSt.mk m fail fall false).fs) = true from decide_eq_true hin]
   conv => whnf
   refine withoutF_calls ⟨m, fail, fall, false⟩ (by show m.length < _; omega) n ?_
   conv => whnf
   refine rAct_calls ⟨m, fail, fall, false⟩ (wF m n) false h3 h4 ?_
   generalize (FSt.mk m fail fall false).act false (fun _ => wF m n) = se at h ⊢
   obtain ⟨s2, e⟩ := se
   conv => whnf
   exact h
  ·unfold FSt.rremove at h
   rw [if_pos (by rw [may_none rfl hin]; decide), may_none rfl hin] at h
   rw [show decide (n ∈ kys (FSt.mk m fail fall false).fs) = false from decide_eq_false hin]
   conv => whnf
   exact h
end Go.Abs
end
section
namespace Go.Abs
open Go Go.Proofs
def vrn (n : Nat) : B := if h : n < 128 then [UInt8.ofNat n] else UInt8.ofNat (n % 128 + 128) :: vrn (n / 128)
termination_by n
decreasing_by omega
theorem vrn_small {n : Nat} (h : n < 128) : vrn n = [UInt8.ofNat n] := by rw [vrn, dif_pos h]
theorem vrn_big {n : Nat} (h : ¬ n < 128) : vrn n = UInt8.ofNat (n % 128 + 128) :: vrn (n / 128) := by
 conv => lhs; rw [vrn]
 rw [dif_neg h]
theorem vrn_pos (n : Nat) : 1 ≤ (vrn n).length := by
 by_cases h : n < 128
 ·rw [vrn_small h]; simp
 ·rw [vrn_big h]; simp
theorem vrn_len : ∀ (k n : Nat), n < 128 ^ (k + 1) → (vrn n).length ≤ k + 1 := by
 intro k
 induction k with
 | zero => intro n h; rw [vrn_small (by simpa using h)]; simp
 | succ k ih =>
  intro n h
  by_cases h1 : n < 128
  ·rw [vrn_small h1]; simp
  ·rw [vrn_big h1]
   have := ih (n / 128) (by rw [Nat.pow_succ] at h; omega)
   simp only [List.length_cons]
   omega
theorem vrn_u64 {n : Nat} (h : n < 18446744073709551616) : (vrn n).length ≤ 10 := vrn_len 9 n (by omega)
theorem u8_nat {n : Nat} (h : n < 256) : (UInt8.ofNat n).toNat = n := by rw [UInt8.toNat_ofNat']; omega
theorem vrn_at : ∀ (n i : Nat) (h : i < (vrn n).length), ((vrn n)[i]).toNat = n / 128 ^ i % 128 + (if i + 1 < (vrn n).length then 128 else 0) ∧ (i + 1 = (vrn n).length → n / 128 ^ i < 128 ∧ (0 < i → 0 < n / 128 ^ i)) ∧ (i + 1 < (vrn n).length → 128 ≤ n / 128 ^ i) := by
 intro n
 induction n using Nat.strongRecOn with
 | ind n ih =>
  intro i h
  by_cases h1 : n < 128
  ·have hl : (vrn n).length = 1 := by rw [vrn_small h1]; rfl
   have hi : i = 0 := by omega
   subst hi
   have e : (vrn n)[0] = UInt8.ofNat n := by
    have := List.getElem_of_eq (vrn_small h1) h
    simpa using this
   rw [e, u8_nat (by omega), hl]
   simp
   omega
  ·have hb := vrn_big h1
   have hl : (vrn n).length = (vrn (n / 128)).length + 1 := by rw [hb]; rfl
   have hp := vrn_pos (n / 128)
   cases i with
   | zero =>
    have e : (vrn n)[0] = UInt8.ofNat (n % 128 + 128) := by
     have := List.getElem_of_eq hb h
     simpa using this
    rw [e, u8_nat (by omega), hl, if_pos (by omega)]
    refine ⟨by simp, fun h3 => by omega, fun _ => ?_⟩
    rw [Nat.pow_zero, Nat.div_one]
    omega
   | succ i =>
    have h2 : i < (vrn (n / 128)).length := by omega
    have e : (vrn n)[i + 1] = (vrn (n / 128))[i] := by
     have := List.getElem_of_eq hb h
     simpa using this
    have hd : n / 128 ^ (i + 1) = n / 128 / 128 ^ i := by rw [Nat.pow_succ, Nat.mul_comm, Nat.div_div_eq_div_mul]
    obtain ⟨i1, i2, i3⟩ := ih (n / 128) (by omega) i h2
    rw [e, hd, i1, hl]
    refine ⟨?_, ?_, ?_⟩
    ·congr 1
     by_cases h3 : i + 1 < (vrn (n / 128)).length
     ·rw [if_pos h3, if_pos (by omega)]
     ·rw [if_neg h3, if_neg (by omega)]
    ·intro h3
     obtain ⟨j1, j2⟩ := i2 (by omega)
     refine ⟨j1, fun _ => ?_⟩
     by_cases h4 : 0 < i
     ·exact j2 h4
     ·have : i = 0 := by omega
      subst this
      simp
      omega
    ·intro h3
     exact i3 (by omega)
end Go.Abs
end
section
namespace Go.Abs
open Go Go.Proofs Go.RowKit
attribute [local go_sem] Oper.semAt_some
def vrnA (n : Nat) : List (List AV) := (vrn n).map fun c => [.val (.int .u8 (c.toNat : Int))]
theorem steps_box {K : Nat → Nat → Option Value} {W : World} {b : Nat} {v v' : Value} {t : TypeId} {Own : Nat → Prop} (hO : ∀ c, Own c ↔ c = b) (hb : W.heap[b]? = some (.cells #[v] t (0, 0))) (hKb : ∀ o, K b o = none)
  (hk : ∀ c o u, K c o = some u → W.cell? ⟨c, o, none⟩ = some u) : Steps Own K W Own K (W.setCell ⟨b, 0, none⟩ v') := by
 have hlt : b < W.heap.size := (Array.getElem?_eq_some_iff.1 hb).1
 have hsz : (W.setCell ⟨b, 0, none⟩ v').heap.size = W.heap.size := by simp [World.setCell]
 have hot : ∀ c, c ≠ b → (W.setCell ⟨b, 0, none⟩ v').heap[c]? = W.heap[c]? := fun c hc => Below.heap_setCell _ _ _ _ hc
 refine ⟨rfl, rfl, rfl, by rw [hsz]; exact Nat.le_refl _, fun c _ hc => hot c (fun e => hc ((hO c).2 e)), fun c hc => .inl hc, fun _ _ _ h => h, fun _ _ _ _ => rfl, fun c o u hu => ?_, fun c hc => ?_⟩
 ·by_cases e : c = b
  ·subst e; rw [hKb] at hu; cases hu
  ·rw [cell_of_heap (hot c e)]; exact hk c o u hu
 ·rw [(hO c).1 hc, hsz]; exact hlt
theorem or128_0 : (List.range 256).all (fun n => decide (bits BinOp.or IntKind.u8 (n : Int) 128 = ((n % 128 + 128 : Nat) : Int))) = true := by decide +kernel
theorem or128 {m : Nat} : bits BinOp.or IntKind.u8 ((m : Int) % 256) 128 = ((m % 128 + 128 : Nat) : Int) := by
 have h := of_decide_eq_true (List.all_eq_true.1 or128_0 (m % 256) (List.mem_range.2 (Nat.mod_lt _ (by omega))))
 rw [show ((m : Int) % 256) = ((m % 256 : Nat) : Int) by omega, h]
 congr 1
 omega
set_option maxHeartbeats 4000000 in
theorem groups_iter (n : Nat) (hn : n < 18446744073709551616) : SIter Tryz.prog 264 [.ptr 0 0] [.cells 24 [.val (.int .u64 (n : Int))]] (vrnA n) := by
 refine ⟨fun args w => run_callFunc (by kernel_rfl), fun G w lb hW hr l n' J Jx hY hS hK h0 => ?_⟩
 simp only [RepL, Rep] at hr
 obtain ⟨_, _, rfl, ⟨b, hb, rfl⟩, rfl⟩ := hr
 obtain ⟨b', vs, e1, e2, e3, e4⟩ := hW.obj 0 _ rfl
 rw [hb] at e1; cases e1
 simp only [RepL, Rep] at e3
 obtain ⟨_, _, rfl, rfl, rfl⟩ := e3
 have hO : ∀ c, (∃ k, G.at k c) ↔ c = b := fun c => by
  constructor
  ·rintro ⟨k, hk⟩
   have h1 : ∃ o, objGet (numbered 0 [AObj.cells 24 [.val (.int .u64 (n : Int))]]) k = some o := by
    rcases hk with h4 | ⟨u, t, h4, _⟩ <;> exact hW.dom k _ h4
   obtain ⟨o, ho⟩ := h1
   rw [objGet_numbered0] at ho
   have : k = 0 := by
    cases k with
    | zero => rfl
    | succ k => simp at ho
   subst this
   rcases hk with h4 | ⟨u, t, h4, _⟩
   ·rw [hb] at h4; cases h4; rfl
   ·rw [hb] at h4; cases h4
  ·rintro rfl; exact ⟨0, .inl hb⟩
 obtain ⟨Own, hOwn⟩ : ∃ Own : Nat → Prop, Own = fun c => ∃ k, G.at k c := ⟨_, rfl⟩
 rw [← hOwn] at h0
 have hO : ∀ c, Own c ↔ c = b := by rw [hOwn]; exact hO
 clear hOwn
 have hlen : (vrnA n).length = (vrn n).length := by simp [vrnA]
 have hat := vrn_at n
 have hpos := vrn_pos n
 rw [show FW none = Fence.wide from rfl] at hY ⊢
 refine callsIn_of_wp Tryz.func264 rfl trivial ?_ rfl
 simp only [Tryz.ntmps264, List.size_toArray, List.length_cons, List.length_nil, Nat.reduceAdd, Nat.reduceSub, Array.replicate_succ, Array.replicate_zero, List.push_toArray, List.append_toArray, List.nil_append, List.cons_append, Nat.add_zero]
 gi_wp2
 gi_loopw [3] (fun _ wr => ∃ (i : Nat) (K : Nat → Nat → Option Value), i < (vrn n).length ∧ J i Own K wr ∧ (∀ o, K b o = none) ∧ wr.heap[b]? = some (.cells #[.int .u64 ((n / 128 ^ i : Nat) : Int)] 24 (0, 0)))
  (fun _ wr => match wr.cell? ⟨b, 0, none⟩ with | some (.int _ x) => x.toNat | _ => 0)
 case atStart => exact ⟨0, G.K, by omega, h0, e4, by simpa using e2⟩
 case round =>
  obtain ⟨i, K, hi, hJi, hKb, hbx⟩ := hrel
  obtain ⟨hcell, hfz⟩ := kx_cell_of_box hbx
  obtain ⟨a1, a2, a3⟩ := hat i hi
  have hmn : n / 128 ^ i ≤ n := Nat.div_le_self _ _
  generalize hm : n / 128 ^ i = m at *
  have hm64 : (m : Int) < 18446744073709551616 := by omega
  have hm0 : (0 : Int) ≤ m := by omega
  by_cases hlt : i + 1 < (vrn n).length
  ·have h128 : ¬ ((m : Int) < 128) := by have := a3 hlt; omega
   have h128' : (m : Int) ≥ 128 := by omega
   clear hat a2 a3 h0 hW hlen hpos
   have hx : ((vrn n)[i].toNat : Int) = (m : Int) % 128 + 128 := by rw [a1, if_pos hlt]; omega
   have hxs : (vrnA n)[i]? = some [.val (.int .u8 ((m : Int) % 128 + 128))] := by
    unfold vrnA
    rw [List.getElem?_map, List.getElem?_eq_getElem hi, ← hx]
    rfl
   have hval : bits BinOp.or IntKind.u8 ((m : Int) % 256) 128 = (m : Int) % 128 + 128 := by
    rw [or128]; omega
   obtain ⟨fn, tmps, assign, body, hy, hR⟩ := hY (n' - 1) i _ #[.int .u8 ((m : Int) % 128 + 128)] Own K wr hxs (by simp only [RepL, Rep]; exact ⟨_, _, rfl, rfl, rfl⟩) hJi
   clear hY a1 hx hxs
   gi_wp2
   refine ⟨fun h => by simp [Fence.wide] at h, hR.mono ?_⟩
   rintro e W3 (⟨rfl, K', hJ3, hKK, hO3, hos3, htape3, hout3, hsz3⟩ | ⟨rfl, hJx3⟩)
   ·clear hR hy
    have hbx3 := (hO3 b ((hO b).2 rfl)).1.trans hbx
    obtain ⟨hcell3, hfz3⟩ := kx_cell_of_box hbx3
    clear hcell hfz
    have hKb3 : ∀ o, K' b o = none := fun o => by rw [(hO3 b ((hO b).2 rfl)).2 o]; exact hKb o
    have hst := steps_box (v' := .int .u64 ((m : Int) / 128)) hO hbx3 hKb3 (hK (i + 1) Own K' W3 hJ3)
    have hJ4 := hS (i + 1) Own K' W3 Own K' _ hJ3 hst
    have hbx4 := kx_heap_setCell_box (.int .u64 ((m : Int) / 128)) hbx3
    have hc4 := (kx_cell_of_box hbx4).1
    have hd : ((n / 128 ^ (i + 1) : Nat) : Int) = (m : Int) / 128 := by
     rw [Nat.pow_succ, ← Nat.div_div_eq_div_mul, hm]; omega
    have hwr := (kx_cell_of_box hbx).1
    clear hS hK hst hO3
    gi_wp2
    refine ⟨⟨i + 1, K', hlt, hJ4, hKb3, by rw [hd]; exact hbx4⟩, ?_⟩
    rw [hc4, hwr]
    show ((m : Int) / 128).toNat < (m : Int).toNat
    omega
   ·clear hR hy
    gi_wp2
    refine bodyPost_ret (results_none rfl _ _ _) rfl ?_
    exact ⟨⟨_, rfl⟩, .inr hJx3⟩
  ·have hfin : i + 1 = (vrn n).length := by omega
   have hm128 : m < 128 := (a2 hfin).1
   have h128 : (m : Int) < 128 := by omega
   have h128' : ¬ (m : Int) ≥ 128 := by omega
   have hx : ((vrn n)[i].toNat : Int) = (m : Int) := by rw [a1, if_neg hlt]; omega
   have hxs : (vrnA n)[i]? = some [.val (.int .u8 (m : Int))] := by
    unfold vrnA
    rw [List.getElem?_map, List.getElem?_eq_getElem hi, ← hx]
    rfl
   have hval : (m : Int) % 256 = (m : Int) := by omega
   obtain ⟨fn, tmps, assign, body, hy, hR⟩ := hY (n' - 1) i _ #[.int .u8 (m : Int)] Own K wr hxs (by simp only [RepL, Rep]; exact ⟨_, _, rfl, rfl, rfl⟩) hJi
   have hend : (vrnA n).length = i + 1 := by omega
   clear hY a1 hx hxs hat a2 a3 h0 hW hlen hpos hS hK
   gi_wp2
   refine ⟨fun h => by simp [Fence.wide] at h, hR.mono ?_⟩
   rintro e W3 (⟨rfl, K', hJ3, _⟩ | ⟨rfl, hJx3⟩)
   ·clear hR hy
    gi_wp2
    go_end0
    exact ⟨⟨_, rfl⟩, .inl ⟨Own, K', by rw [hend]; exact hJ3⟩⟩
   ·clear hR hy
    gi_wp2
    go_end0
    exact ⟨⟨_, rfl⟩, .inr hJx3⟩
end Go.Abs
end
section
namespace Go.Abs
open Go Go.Proofs
attribute [local irreducible] ibits byteAt strLt firstIdx
theorem groups_calls (n : Nat) {R} (h : R (.fn (.func 264) [] [.ptr 0 0]) [.cells 24 [.val (.int .u64 (n : Int))]]) : ACalls Tryz.prog 257 [.val (.int .u64 (n : Int))] [] R := by
 refine acalls_of_xwp (an := an257) tab_ok Tryz.func257 ?_
 conv => whnf
 exact h
theorem bCloneO_calls (b : B) (hb : b.length < 100000000) {R} (h1 : b = [] → R (.val (.slice none 0 0)) []) (h : R (.sl (some 0) 1 (byteEls b)) [.row 5 1 b.length]) : ACalls Tryz.prog 149 [.sl none 1 (byteEls b)] [] R := by
 refine acalls_of_xwp (an := { an149 with keepRes := true }) tab_ok Tryz.func149 ?_
 have hsl := bel_length b
 conv => whnf
 intro p hp
 refine br_intro (fun g => ?_) (fun g => ?_)
 ·have e := bel_nil (hp g)
  conv => whnf
  exact h1 e
 ·conv => whnf
  refine ⟨rfl, (by show (0 + (byteEls b).length) * (1 + 1) ≤ _; omega), ?_⟩
  conv => whnf
  rw [show [] ++ byteEls b = byteEls b from rfl, hsl, show [].length + b.length = b.length by simp]
  exact h
theorem vrnA_get {n i : Nat} {x : List AV} (h : (vrnA n)[i]? = some x) : ∃ c : UInt8, (vrn n)[i]? = some c ∧ x = [.val (.int .u8 (c.toNat : Int))] := by
 unfold vrnA at h
 rw [List.getElem?_map, Option.map_eq_some_iff] at h
 obtain ⟨c, hc, rfl⟩ := h
 exact ⟨c, hc, rfl⟩
theorem take_snoc {l : B} {i : Nat} {c : UInt8} (h : l[i]? = some c) : l.take (i + 1) = l.take i ++ [c] := by
 obtain ⟨hi, rfl⟩ := List.getElem?_eq_some_iff.1 h
 rw [List.take_succ_eq_append_getElem hi]
def vpS : List AV := [.junk, .junk, .junk, .junk, .junk, .ptr (nameOf 5) 0, .junk, .junk, .junk, .junk, .junk, .junk, .junk, .junk, .junk, .junk, .junk]
theorem vPut_calls (b : B) (n : Nat) (hn : n < 18446744073709551616) (hb : b.length < 10000000) {R} (h : R (.sl (some 0) 1 (byteEls (b ++ vrn n))) [.row 5 1 (b ++ vrn n).length]) : ACalls Tryz.prog 246 [.sl none 1 (byteEls b), .val (.int .u64 (n : Int))] [] R := by
 refine acalls_of_xwp (an := { an246 with keepRes := true }) tab_ok Tryz.func246 ?_
 have hvl := vrn_u64 hn
 have hpos := vrn_pos n
 have hlen : ∀ x ∈ vrnA n, x.length = 1 := fun x hx => by
  obtain ⟨c, _, rfl⟩ := List.mem_map.1 hx
  rfl
 have hvA : (vrnA n).length = (vrn n).length := by simp [vrnA]
 conv => whnf
 refine bCloneO_calls b (by omega) (fun hb0 => ?_) ?_
 ·subst hb0
  conv => whnf
  refine groups_calls n ?_
  conv => whnf
  refine .inr ?_
  conv => whnf
  refine ⟨vrnA n, groups_iter n hn, hlen, ?_⟩
  refine ⟨fun i s => (i = 0 ∧ s = ⟨vpS, [(nameOf 5, .cells 151 [.val (.slice none 0 0)])]⟩) ∨ (0 < i ∧ ∃ o, o = (vrn n).take i ∧ s = ⟨vpS, [(nameOf 5, .cells 151 [.sl (some (nameOf 15)) 1 (byteEls o)]), (nameOf 15, .row 5 1 o.length)]⟩), .inl ⟨rfl, rfl⟩, ?_, ?_⟩
  ·rintro i x s hx (⟨rfl, rfl⟩ | ⟨hi, o, ho, rfl⟩)
   ·obtain ⟨c, hc, rfl⟩ := vrnA_get hx
    conv => whnf
    refine ⟨(by rw [bel_bytes]; decide : 1 * ((tab.ti 5).bytes + 1) ≤ 140737488355328), ?_⟩
    conv => whnf
    exact .inr ⟨by omega, [c], by rw [take_snoc hc]; simp, rfl⟩
   ·obtain ⟨c, hc, rfl⟩ := vrnA_get hx
    have hol : o.length ≤ 10 := by rw [ho, List.length_take]; omega
    have hbl := bel_length o
    conv => whnf
    refine ⟨hbl.symm, by rw [hbl, bel_bytes]; simp; omega, ?_⟩
    conv => whnf
    refine .inr ⟨by omega, o ++ [c], by rw [ho, take_snoc hc], ?_⟩
    rw [bel_append, List.length_append, ← hbl]
    rfl
  ·rintro s (⟨h0, rfl⟩ | ⟨hi, o, ho, rfl⟩)
   ·exfalso; omega
   ·rw [hvA, List.take_length] at ho
    subst ho
    conv => whnf
    exact h
 ·conv => whnf
  refine groups_calls n ?_
  conv => whnf
  refine .inr ?_
  conv => whnf
  refine ⟨vrnA n, groups_iter n hn, hlen, ?_⟩
  refine ⟨fun i s => ∃ o, o = b ++ (vrn n).take i ∧ s = ⟨vpS, [(nameOf 5, .cells 151 [.sl (some (freshN 8 0)) 1 (byteEls o)]), (freshN 8 0, .row 5 1 o.length)]⟩, ⟨b, by simp, rfl⟩, ?_, ?_⟩
  ·rintro i x s hx ⟨o, ho, rfl⟩
   obtain ⟨c, hc, rfl⟩ := vrnA_get hx
   have hol : o.length ≤ b.length + 10 := by rw [ho, List.length_append, List.length_take]; omega
   have hbl := bel_length o
   conv => whnf
   refine ⟨hbl.symm, by rw [hbl, bel_bytes]; simp; omega, ?_⟩
   conv => whnf
   refine ⟨o ++ [c], by rw [ho, take_snoc hc, List.append_assoc], ?_⟩
   rw [bel_append, List.length_append, ← hbl]
   rfl
  ·rintro s ⟨o, ho, rfl⟩
   rw [hvA, List.take_length] at ho
   subst ho
   conv => whnf
   exact h
theorem vPutN_calls (b : B) (n : Nat) (hn : n < 18446744073709551616) (hb : b.length < 10000000) {R} (h : R (.sl none 1 (byteEls (b ++ vrn n))) []) : ACalls Tryz.prog 246 [.sl none 1 (byteEls b), .val (.int .u64 (n : Int))] [] R := by
 refine acalls_of_xwp (an := an246) tab_ok Tryz.func246 ?_
 have hvl := vrn_u64 hn
 have hpos := vrn_pos n
 have hlen : ∀ x ∈ vrnA n, x.length = 1 := fun x hx => by
  obtain ⟨c, _, rfl⟩ := List.mem_map.1 hx
  rfl
 have hvA : (vrnA n).length = (vrn n).length := by simp [vrnA]
 conv => whnf
 refine bCloneO_calls b (by omega) (fun hb0 => ?_) ?_
 ·subst hb0
  conv => whnf
  refine groups_calls n ?_
  conv => whnf
  refine .inr ?_
  conv => whnf
  refine ⟨vrnA n, groups_iter n hn, hlen, ?_⟩
  refine ⟨fun i s => (i = 0 ∧ s = ⟨vpS, [(nameOf 5, .cells 151 [.val (.slice none 0 0)])]⟩) ∨ (0 < i ∧ ∃ o, o = (vrn n).take i ∧ s = ⟨vpS, [(nameOf 5, .cells 151 [.sl (some (nameOf 15)) 1 (byteEls o)]), (nameOf 15, .row 5 1 o.length)]⟩), .inl ⟨rfl, rfl⟩, ?_, ?_⟩
  ·rintro i x s hx (⟨rfl, rfl⟩ | ⟨hi, o, ho, rfl⟩)
   ·obtain ⟨c, hc, rfl⟩ := vrnA_get hx
    conv => whnf
    refine ⟨(by rw [bel_bytes]; decide : 1 * ((tab.ti 5).bytes + 1) ≤ 140737488355328), ?_⟩
    conv => whnf
    exact .inr ⟨by omega, [c], by rw [take_snoc hc]; simp, rfl⟩
   ·obtain ⟨c, hc, rfl⟩ := vrnA_get hx
    have hol : o.length ≤ 10 := by rw [ho, List.length_take]; omega
    have hbl := bel_length o
    conv => whnf
    refine ⟨hbl.symm, by rw [hbl, bel_bytes]; simp; omega, ?_⟩
    conv => whnf
    refine .inr ⟨by omega, o ++ [c], by rw [ho, take_snoc hc], ?_⟩
    rw [bel_append, List.length_append, ← hbl]
    rfl
  ·rintro s (⟨h0, rfl⟩ | ⟨hi, o, ho, rfl⟩)
   ·exfalso; omega
   ·rw [hvA, List.take_length] at ho
    subst ho
    conv => whnf
    exact h
 ·conv => whnf
  refine groups_calls n ?_
  conv => whnf
  refine .inr ?_
  conv => whnf
  refine ⟨vrnA n, groups_iter n hn, hlen, ?_⟩
  refine ⟨fun i s => ∃ o, o = b ++ (vrn n).take i ∧ s = ⟨vpS, [(nameOf 5, .cells 151 [.sl (some (freshN 8 0)) 1 (byteEls o)]), (freshN 8 0, .row 5 1 o.length)]⟩, ⟨b, by simp, rfl⟩, ?_, ?_⟩
  ·rintro i x s hx ⟨o, ho, rfl⟩
   obtain ⟨c, hc, rfl⟩ := vrnA_get hx
   have hol : o.length ≤ b.length + 10 := by rw [ho, List.length_append, List.length_take]; omega
   have hbl := bel_length o
   conv => whnf
   refine ⟨hbl.symm, by rw [hbl, bel_bytes]; simp; omega, ?_⟩
   conv => whnf
   refine ⟨o ++ [c], by rw [ho, take_snoc hc, List.append_assoc], ?_⟩
   rw [bel_append, List.length_append, ← hbl]
   rfl
  ·rintro s ⟨o, ho, rfl⟩
   rw [hvA, List.take_length] at ho
   subst ho
   conv => whnf
   exact h
def blobP (s : B) : B := vrn s.length ++ s
theorem bList_calls (b s : B) (hb : b.length < 1000000) (hs : s.length < 10000000) {R} (h : R (.sl none 1 (byteEls (b ++ blobP s))) []) : ACalls Tryz.prog 229 [.sl none 1 (byteEls b), .sl none 1 [[vs s]]] [] R := by
 refine acalls_of_xwp (an := an229) tab_ok Tryz.func229 ?_
 have hsz := size_ofB s
 have hw : IntKind.u64.wrap (((ofB s).size : Nat) : Int) = (s.length : Int) := by
  rw [hsz]
  show (s.length : Int) % 18446744073709551616 = _
  omega
 have hv := vrn_u64 (n := s.length) (by omega)
 have hbl := bel_length (b ++ vrn s.length)
 have hsl := bel_length s
 conv => whnf
 refine bClone_calls b (by omega) ?_
 conv => whnf
 refine LoopP.step ?_
 conv => whnf
 rw [hw]
 refine vPut_calls b s.length (by omega) (by omega) ?_
 conv => whnf
 have hba : byteA (ofB s) = byteEls s := by simp [byteA, byteEls, ofB]
 rw [hba]
 refine ⟨hbl.symm, by rw [hbl, hsl, bel_bytes, List.length_append]; omega, ?_⟩
 conv => whnf
 refine LoopP.step ?_
 conv => whnf
 rw [show byteEls (b ++ vrn s.length) ++ byteEls s = byteEls (b ++ blobP s) by rw [← bel_append, blobP, List.append_assoc]]
 exact h
theorem bPut_calls (b s : B) (hb : b.length < 1000000) (hs : s.length < 10000000) {R} (h : R (.sl none 1 (byteEls (b ++ blobP s))) []) : ACalls Tryz.prog 199 [.sl none 1 (byteEls b), vs s] [] R := by
 refine acalls_of_xwp (an := an199) tab_ok Tryz.func199 ?_
 conv => whnf
 refine bList_calls b s hb hs ?_
 conv => whnf
 exact h
def w4 (n : Nat) : B := [UInt8.ofNat (n % 256), UInt8.ofNat (n / 256 % 256), UInt8.ofNat (n / 65536 % 256), UInt8.ofNat (n / 16777216 % 256)]
theorem w4_length (n : Nat) : (w4 n).length = 4 := rfl
theorem u8_part {n : Nat} : IntKind.u8.wrap ((n : Nat) : Int) = (((UInt8.ofNat (n % 256)).toNat : Nat) : Int) := by
 rw [UInt8.toNat_ofNat']
 show (n : Int) % 256 = _
 omega
theorem fdiv_n (n k : Nat) : ((n : Nat) : Int).fdiv (2 ^ k) = ((n / 2 ^ k : Nat) : Int) := by
 rw [Int.fdiv_eq_ediv_of_nonneg _ (Int.le_of_lt (Int.pow_pos (by decide)))]
 push_cast
 rfl
theorem Bytes_calls (n : Nat) (hn : n < 4294967296) {R} (h : R (.sl none 1 (byteEls (w4 n))) []) : ACalls Tryz.prog 221 [.val (.int .u32 (n : Int))] [] R := by
 refine acalls_of_xwp (an := an221) tab_ok Tryz.func221 ?_
 have e1 : (n : Int).fdiv (2 ^ min (Int.toNat 8) IntKind.u32.bits) = ((n / 256 : Nat) : Int) := fdiv_n n 8
 have e2 : (n : Int).fdiv (2 ^ min (Int.toNat 16) IntKind.u32.bits) = ((n / 65536 : Nat) : Int) := fdiv_n n 16
 have e3 : (n : Int).fdiv (2 ^ min (Int.toNat 24) IntKind.u32.bits) = ((n / 16777216 : Nat) : Int) := fdiv_n n 24
 conv => whnf
 rw [e1, e2, e3, u8_part, u8_part, u8_part, u8_part]
 exact h
theorem u8_low0 : (List.range 256).all (fun n => decide (ibits .andNot .u8 (n : Int) 128 = ((n % 128 : Nat) : Int))) = true := by decide +kernel
theorem u8_low {n : Nat} (h : n < 256) : ibits .andNot .u8 (n : Int) 128 = ((n % 128 : Nat) : Int) := of_decide_eq_true (List.all_eq_true.1 u8_low0 n (List.mem_range.2 h))
theorem or_nat {a b : Nat} (ha : a < 2 ^ 64) (hb : b < 2 ^ 64) : ibits .or .u64 (a : Int) (b : Int) = ((a ||| b : Nat) : Int) := by
 unfold ibits
 show IntKind.u64.wrap (((BitVec.ofInt 64 (a : Int) ||| BitVec.ofInt 64 (b : Int)).toNat : Nat) : Int) = _
 rw [BitVec.toNat_or]
 have h1 : (BitVec.ofInt 64 (a : Int)).toNat = a := by rw [BitVec.toNat_ofInt]; omega
 have h2 : (BitVec.ofInt 64 (b : Int)).toNat = b := by rw [BitVec.toNat_ofInt]; omega
 rw [h1, h2]
 have h3 : a ||| b < 2 ^ 64 := Nat.or_lt_two_pow ha hb
 show ((a ||| b : Nat) : Int) % 18446744073709551616 = _
 omega
theorem vor {n x i : Nat} (hn : n < 18446744073709551616) (hi : i < 10) (hx : x < 256) (hd : x % 128 = n / 128 ^ i % 128) :
  ibits .or .u64 ((n % 128 ^ i : Nat) : Int) (IntKind.u64.wrap (IntKind.u64.wrap (ibits .andNot .u8 (x : Int) 128) * 2 ^ min (IntKind.i64.wrap (7 * (i : Int))).toNat IntKind.u64.bits)) = ((n % 128 ^ (i + 1) : Nat) : Int) := by
 have e7 : IntKind.i64.wrap (7 * (i : Int)) = ((7 * i : Nat) : Int) := by rw [wrap_i64 (by omega) (by omega)]; omega
 have hp : (128 : Nat) ^ i = 2 ^ (7 * i) := by rw [Nat.pow_mul]
 have hm := Nat.mod_pow_succ (x := n) (b := 128) (k := i)
 have hle : n % 128 ^ (i + 1) ≤ n := Nat.mod_le _ _
 have hlt : n % 128 ^ i ≤ n := Nat.mod_le _ _
 have hlo : n % 128 ^ i < 2 ^ (7 * i) := by rw [← hp]; exact Nat.mod_lt _ (Nat.pow_pos (by omega))
 have e8 : IntKind.u64.wrap (((x % 128 : Nat) : Int)) = ((x % 128 : Nat) : Int) := by
  show ((x % 128 : Nat) : Int) % 18446744073709551616 = _
  omega
 have hprod : 2 ^ (7 * i) * (x % 128) < 18446744073709551616 := by rw [hd, ← hp]; omega
 have e9 : IntKind.u64.wrap (((x % 128 : Nat) : Int) * 2 ^ (7 * i)) = ((2 ^ (7 * i) * (x % 128) : Nat) : Int) := by
  have : ((x % 128 : Nat) : Int) * 2 ^ (7 * i) = ((2 ^ (7 * i) * (x % 128) : Nat) : Int) := by push_cast; rw [Int.mul_comm]
  rw [this]
  show ((2 ^ (7 * i) * (x % 128) : Nat) : Int) % 18446744073709551616 = _
  omega
 have hmin : min (((7 * i : Nat) : Int)).toNat IntKind.u64.bits = 7 * i := by
  rw [Int.toNat_natCast]
  show min (7 * i) 64 = 7 * i
  omega
 rw [u8_low hx, e8, e7, hmin, e9, or_nat (by omega) (by omega)]
 congr 1
 rw [Nat.or_comm, ← Nat.two_pow_add_eq_or_of_lt hlo, hm, hd, hp]
 omega
theorem vGet_calls (p q : B) (n : Nat) (hn : n < 18446744073709551616) (hl : p.length + q.length < 100000000) {R} (h : R (.tup [.val (.int .u64 (n : Int)), vi ((p.length + (vrn n).length : Nat) : Int), vi 0]) []) :
  ACalls Tryz.prog 258 [.sl none 1 (byteEls (p ++ vrn n ++ q)), vi (p.length : Int)] [] R := by
 refine acalls_of_xwp (an := an258) tab_ok Tryz.func258 ?_
 have hv := vrn_u64 hn
 have hp := vrn_pos n
 have hat := vrn_at n
 have hbl : (byteEls (p ++ vrn n ++ q)).length = p.length + (vrn n).length + q.length := by simp [byteEls]; omega
 conv => whnf
 refine br_intro (fun g => ?_) (fun g => ?_)
 ·exfalso
  have g := of_decide_eq_true g
  rw [hbl] at g
  omega
 conv => whnf
 refine LoopP.ind1 (fun (i : Nat) => [(4, .val (.int .u64 ((n % 128 ^ i : Nat) : Int))), (17, vi i)]) (fun _ => []) (fun i => 10 - i) (fun i => i < (vrn n).length) 0 (by simp [Nat.mod_one]; rfl) (by omega) ?_
 rintro i h0 IH
 have hb := (vrn n)[i].toNat_lt
 obtain ⟨a1, a2, a3⟩ := hat i h0
 have e1 : IntKind.i64.wrap ((p.length : Int) + (i : Int)) = ((p.length + i : Nat) : Int) := by rw [wrap_i64 (by omega) (by omega)]; omega
 have e7 : IntKind.i64.wrap (7 * (i : Int)) = ((7 * i : Nat) : Int) := by rw [wrap_i64 (by omega) (by omega)]; omega
 have hget : (byteEls (p ++ vrn n ++ q))[p.length + i]? = some [.val (.int .u8 ((vrn n)[i].toNat : Int))] := by
  unfold byteEls
  rw [List.getElem?_map, List.append_assoc, List.getElem?_append_right (by omega), Nat.add_sub_cancel_left, List.getElem?_append_left h0, List.getElem?_eq_getElem h0]
  rfl
 conv => whnf
 refine br_intro (fun g2 => ?_) (fun g2 => ?_)
 ·conv => whnf
  refine br_intro (fun g3 => ?_) (fun g3 => ?_)
  ·exfalso
   rw [e1, hbl] at g3
   have g3 := of_decide_eq_true g3
   omega
  conv => whnf
  refine must_intro (decide_eq_true (by rw [e1]; omega)) ?_
  rw [e1]
  refine idxK_iff.2 ⟨_, hget, ?_⟩
  have hlow := u8_low hb
  generalize hx : (vrn n)[i].toNat = x at a1 hb hlow hget ⊢
  have h9 : i = 9 → x ≤ 1 := by
   intro h
   subst h
   have hl10 : 9 + 1 = (vrn n).length := by omega
   obtain ⟨b1, _⟩ := a2 hl10
   rw [if_neg (by omega)] at a1
   have : n / 128 ^ 9 ≤ 1 := by
    have : (128 : Nat) ^ 9 = 9223372036854775808 := by decide
    rw [this]
    omega
   omega
  have h0x : 0 < i → x ≠ 0 := by
   intro h
   by_cases hi : i + 1 = (vrn n).length
   ·have := (a2 hi).2 h
    have := (a2 hi).1
    rw [if_neg (by omega)] at a1
    omega
   ·rw [if_pos (by omega)] at a1
    omega
  conv => whnf
  refine br_intro (fun g4 => ?_) (fun g4 => ?_)
  ·have g4 : i = 9 := by have := beq_iff_eq.1 g4; omega
   conv => whnf
   refine br_intro (fun g5 => ?_) (fun g5 => ?_)
   ·exfalso
    have g5 := of_decide_eq_true g5
    have := h9 g4
    omega
   conv => whnf
   refine br_intro (fun g6 => ?_) (fun g6 => ?_)
   ·have g6 := of_decide_eq_true g6
    conv => whnf
    refine br_intro (fun g7 => ?_) (fun g7 => ?_)
    ·exfalso
     have g7 := beq_iff_eq.1 g7
     have := h0x (by omega)
     omega
    conv => whnf
    refine must_intro (decide_eq_true (by rw [e7]; omega)) ?_
    conv => whnf
    refine br_intro (fun g8 => ?_) (fun g8 => ?_)
    ·have g8 := of_decide_eq_true g8
     have hfin : i + 1 = (vrn n).length := by
      by_cases hh : i + 1 < (vrn n).length
      ·rw [if_pos hh] at a1; omega
      ·omega
     have hnn : n % 128 ^ (i + 1) = n := by
      refine Nat.mod_eq_of_lt ?_
      have := (a2 hfin).1
      have h2 := (Nat.div_lt_iff_lt_mul (Nat.pow_pos (show 0 < 128 by omega))).1 this
      rw [Nat.pow_succ, Nat.mul_comm]
      exact h2
     conv => whnf
     rw [vor hn (by omega) hb (by rw [a1]; split <;> omega), hnn, e1, wrap_i64 (by omega) (by omega), show ((p.length + i : Nat) : Int) + 1 = ((p.length + (vrn n).length : Nat) : Int) by omega]
     exact h
    ·have g8 := of_decide_eq_false g8
     have hfin : i + 1 < (vrn n).length := by
      by_cases hh : i + 1 < (vrn n).length
      ·exact hh
      ·rw [if_neg hh] at a1; omega
     have hnx := IH (i + 1) hfin (by omega)
     conv => whnf
     rw [vor hn (by omega) hb (by rw [a1]; split <;> omega), wrap_i64 (by omega) (by omega), show (i : Int) + 1 = ((i + 1 : Nat) : Int) by omega]
     exact hnx
   ·conv => whnf
    refine must_intro (decide_eq_true (by rw [e7]; omega)) ?_
    conv => whnf
    refine br_intro (fun g8 => ?_) (fun g8 => ?_)
    ·have g8 := of_decide_eq_true g8
     have hfin : i + 1 = (vrn n).length := by
      by_cases hh : i + 1 < (vrn n).length
      ·rw [if_pos hh] at a1; omega
      ·omega
     have hnn : n % 128 ^ (i + 1) = n := by
      refine Nat.mod_eq_of_lt ?_
      have := (a2 hfin).1
      have h2 := (Nat.div_lt_iff_lt_mul (Nat.pow_pos (show 0 < 128 by omega))).1 this
      rw [Nat.pow_succ, Nat.mul_comm]
      exact h2
     conv => whnf
     rw [vor hn (by omega) hb (by rw [a1]; split <;> omega), hnn, e1, wrap_i64 (by omega) (by omega), show ((p.length + i : Nat) : Int) + 1 = ((p.length + (vrn n).length : Nat) : Int) by omega]
     exact h
    ·have g8 := of_decide_eq_false g8
     have hfin : i + 1 < (vrn n).length := by
      by_cases hh : i + 1 < (vrn n).length
      ·exact hh
      ·rw [if_neg hh] at a1; omega
     have hnx := IH (i + 1) hfin (by omega)
     conv => whnf
     rw [vor hn (by omega) hb (by rw [a1]; split <;> omega), wrap_i64 (by omega) (by omega), show (i : Int) + 1 = ((i + 1 : Nat) : Int) by omega]
     exact hnx
  ·conv => whnf
   refine br_intro (fun g6 => ?_) (fun g6 => ?_)
   ·have g6 := of_decide_eq_true g6
    conv => whnf
    refine br_intro (fun g7 => ?_) (fun g7 => ?_)
    ·exfalso
     have g7 := beq_iff_eq.1 g7
     have := h0x (by omega)
     omega
    conv => whnf
    refine must_intro (decide_eq_true (by rw [e7]; omega)) ?_
    conv => whnf
    refine br_intro (fun g8 => ?_) (fun g8 => ?_)
    ·have g8 := of_decide_eq_true g8
     have hfin : i + 1 = (vrn n).length := by
      by_cases hh : i + 1 < (vrn n).length
      ·rw [if_pos hh] at a1; omega
      ·omega
     have hnn : n % 128 ^ (i + 1) = n := by
      refine Nat.mod_eq_of_lt ?_
      have := (a2 hfin).1
      have h2 := (Nat.div_lt_iff_lt_mul (Nat.pow_pos (show 0 < 128 by omega))).1 this
      rw [Nat.pow_succ, Nat.mul_comm]
      exact h2
     conv => whnf
     rw [vor hn (by omega) hb (by rw [a1]; split <;> omega), hnn, e1, wrap_i64 (by omega) (by omega), show ((p.length + i : Nat) : Int) + 1 = ((p.length + (vrn n).length : Nat) : Int) by omega]
     exact h
    ·have g8 := of_decide_eq_false g8
     have hfin : i + 1 < (vrn n).length := by
      by_cases hh : i + 1 < (vrn n).length
      ·exact hh
      ·rw [if_neg hh] at a1; omega
     have hnx := IH (i + 1) hfin (by omega)
     conv => whnf
     rw [vor hn (by omega) hb (by rw [a1]; split <;> omega), wrap_i64 (by omega) (by omega), show (i : Int) + 1 = ((i + 1 : Nat) : Int) by omega]
     exact hnx
   ·conv => whnf
    refine must_intro (decide_eq_true (by rw [e7]; omega)) ?_
    conv => whnf
    refine br_intro (fun g8 => ?_) (fun g8 => ?_)
    ·have g8 := of_decide_eq_true g8
     have hfin : i + 1 = (vrn n).length := by
      by_cases hh : i + 1 < (vrn n).length
      ·rw [if_pos hh] at a1; omega
      ·omega
     have hnn : n % 128 ^ (i + 1) = n := by
      refine Nat.mod_eq_of_lt ?_
      have := (a2 hfin).1
      have h2 := (Nat.div_lt_iff_lt_mul (Nat.pow_pos (show 0 < 128 by omega))).1 this
      rw [Nat.pow_succ, Nat.mul_comm]
      exact h2
     conv => whnf
     rw [vor hn (by omega) hb (by rw [a1]; split <;> omega), hnn, e1, wrap_i64 (by omega) (by omega), show ((p.length + i : Nat) : Int) + 1 = ((p.length + (vrn n).length : Nat) : Int) by omega]
     exact h
    ·have g8 := of_decide_eq_false g8
     have hfin : i + 1 < (vrn n).length := by
      by_cases hh : i + 1 < (vrn n).length
      ·exact hh
      ·rw [if_neg hh] at a1; omega
     have hnx := IH (i + 1) hfin (by omega)
     conv => whnf
     rw [vor hn (by omega) hb (by rw [a1]; split <;> omega), wrap_i64 (by omega) (by omega), show (i : Int) + 1 = ((i + 1 : Nat) : Int) by omega]
     exact hnx
 ·exfalso
  have g2 := of_decide_eq_false g2
  omega
end Go.Abs
end
