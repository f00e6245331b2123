/- Several texts of this claim, one behind the other: D5, E1, L0, N1, SH, K1, N2, H1, K2, L1, E8, L2, L3, L4, N4, N5, N3, L5, M1, D1, D2, C2, E2, M4, N6, N7, N8, E3, E4, E5, E6, E7, F7, G1, G2, G3, H2, H3. -/
import Derived.Test.YteholccmcgbelaaGreatB9
import Derived.Test.YteholccmcgbelaaGreatAT
import Derived.Test.YteholccmcgbelaaGreatAN
import Derived.Sort.OwnSorted
import Derived.Below
import Derived.Shelf.Strconv.Itoa0
import Derived.Shelf.Sort.Plain
import Derived.Shelf.Slices.In.SortNone
import Derived.Test.YteholccmcgbelaaGreatProg
import Derived.RangeFuncBound
import Derived.RangeFuncGives
import Derived.RangeFuncSeq
import Derived.Sort.MapsRangeIn
import Derived.Sort.KeysCollected
import Derived.Maps.AppendAt
import Derived.Shelf.Abstract
import Derived.WalkKit
import Derived.OwnWalkIn
import Derived.TacticsInMore
import Derived.RegionIn
import Derived.LoopNIn
import Derived.LoopIn
import Derived.Shelf.RegionOpenPlain
import Derived.Lib.Builder
import Derived.Lib.UnsafeStr
import Derived.Lib.Strings
import Derived.Lib.Slices
import Derived.Lib.Walk
import Derived.Laws.Externs
import Derived.MapKept
import Derived.Lib.SliceRun
import Derived.Lib.AppendZerosOnto
import Derived.Test.YteholccmcgbelaaGreatC1
import Derived.Sort.Walk0
set_option maxRecDepth 100000
set_option maxHeartbeats 4000000
set_option linter.unusedVariables false
set_option linter.unusedSimpArgs false
section
namespace Go.Abs
open Go Go.Proofs
abbrev B := List UInt8
def ofB (l : B) : ByteArray := ⟨l.toArray⟩
def bs (s : ByteArray) : B := s.data.toList
theorem bs_ofB (l : B) : bs (ofB l) = l := by simp [bs, ofB]
theorem ofB_bs (s : ByteArray) : ofB (bs s) = s := by simp [bs, ofB]
theorem bs_inj {s t : ByteArray} (h : bs s = bs t) : s = t := by rw [← ofB_bs s, h, ofB_bs]
theorem ofB_inj {l m : B} (h : ofB l = ofB m) : l = m := by rw [← bs_ofB l, h, bs_ofB]
theorem ofB_eq {l m : B} : ofB l = ofB m ↔ l = m := ⟨ofB_inj, fun h => by rw [h]⟩
theorem bs_append (s t : ByteArray) : bs (s ++ t) = bs s ++ bs t := by simp [bs]
theorem ofB_append (l m : B) : ofB l ++ ofB m = ofB (l ++ m) := bs_inj (by rw [bs_append, bs_ofB, bs_ofB, bs_ofB])
theorem size_bs (s : ByteArray) : s.size = (bs s).length := by simp [bs]
theorem size_ofB (l : B) : (ofB l).size = l.length := by rw [size_bs, bs_ofB]
theorem bs_extract (s : ByteArray) (a b : Nat) : bs (s.extract a b) = ((bs s).take b).drop a := by
 simp [bs, ByteArray.data_extract, List.drop_take]
theorem ofB_extract (l : B) (a b : Nat) : (ofB l).extract a b = ofB ((l.take b).drop a) := bs_inj (by rw [bs_extract, bs_ofB, bs_ofB])
theorem byteAt_ofB (l : B) {i : Nat} (h : i < l.length) : byteAt (ofB l) i = ((l[i]).toNat : Int) := by
 have hs : i < (ofB l).size := by rw [size_ofB]; exact h
 unfold byteAt
 rw [dif_pos hs]
 rfl
theorem strOfNums_ofB (l : B) : strOfNums (l.map fun b => (b.toNat : Int)) = ofB l := bs_inj (by
 rw [bs_ofB]
 show (strOfNums _).data.toList = _
 rw [strOfNums_data, List.map_map]
 conv => rhs; rw [← List.map_id l]
 refine List.map_congr_left fun b _ => ?_
 simp)
theorem u8_inj {a b : UInt8} : ((a.toNat : Int) = (b.toNat : Int)) ↔ a = b := ⟨fun h => UInt8.toNat_inj.1 (by omega), fun h => by rw [h]⟩
end Go.Abs
end
section
namespace Go.Abs
open Go Go.Proofs
attribute [local irreducible] ibits byteAt strLt firstIdx
def vs (s : B) : AV := .val (.string (ofB s))
def vi (i : Int) : AV := .val (.int .i64 i)
def strs (l : List B) : List (List AV) := l.map fun s => [vs s]
theorem strs_length (l : List B) : (strs l).length = l.length := by simp [strs]
theorem strs_append (l m : List B) : strs (l ++ m) = strs l ++ strs m := by simp [strs]
def tblFrom : List B → Nat → List (ByteArray × AV)
 | [], _ => []
 | s :: l, i => (ofB s, vi i) :: tblFrom l (i + 1)
theorem tblFrom_append (l : List B) (s : B) : ∀ i, tblFrom (l ++ [s]) i = tblFrom l i ++ [(ofB s, vi (i + l.length))] := by
 induction l with
 | nil => intro i; simp [tblFrom]
 | cons a l ih => intro i; simp [tblFrom, ih, Int.add_assoc]; congr 2; omega
theorem mapFind_none {l : List B} {s : B} (h : s ∉ l) : ∀ i, mapFind (tblFrom l i) (ofB s) = none := by
 induction l with
 | nil => intro i; rfl
 | cons a l ih =>
  intro i
  simp only [List.mem_cons, not_or] at h
  simp only [tblFrom, mapFind]
  rw [if_neg (fun e => h.1 (ofB_inj e).symm)]
  exact ih h.2 _
theorem mapFind_some {l : List B} {s : B} (h : s ∈ l) : ∀ i, ∃ j : Int, mapFind (tblFrom l i) (ofB s) = some (vi j) := by
 induction l with
 | nil => cases h
 | cons a l ih =>
  intro i
  simp only [tblFrom, mapFind]
  by_cases e : a = s
  ·subst e; rw [if_pos rfl]; exact ⟨_, rfl⟩
  ·rw [if_neg (fun e' => e (ofB_inj e'))]
   exact ih (by simpa [Ne.symm e, eq_comm] using h) _
theorem mapPut_new {l : List B} {s : B} {v : AV} (h : s ∉ l) : ∀ i, mapPut (tblFrom l i) (ofB s) v = tblFrom l i ++ [(ofB s, v)] := by
 induction l with
 | nil => intro i; rfl
 | cons a l ih =>
  intro i
  simp only [List.mem_cons, not_or] at h
  simp only [tblFrom, mapPut]
  rw [if_neg (fun e => h.1 (ofB_inj e).symm), ih h.2]
  rfl
def tblF : AObj := .cells 226 [.val (.slice none 0 0), .val (.map none)]
def tblO (n m : Nat) (l : List B) : AObj := .cells 226 [.sl (some n) 1 (strs l), .mapv m]
def tblR (l : List B) : AObj := .row 9 1 l.length
def tblM (l : List B) : AObj := .map (tblFrom l 0)
def tblP (l : List B) (s : B) : List B := if s ∈ l then l else l ++ [s]
theorem bytes_str : (tab.ti 9).bytes = 16 := rfl
theorem put_new (s : B) {R} (h : R (.tup [vi 0, .val (.bool true)]) [tblO 1 2 [s], tblR [s], tblM [s]]) :
  ACalls Tryz.prog 153 [.ptr 0 0, vs s] [tblF] R := by
 refine acalls_of_xwp (an := an153) tab_ok Tryz.func153 ?_
 conv => whnf
 refine ⟨(by rw [bytes_str]; decide : 1 * ((tab.ti 9).bytes + 1) ≤ 140737488355328), ?_⟩
 conv => whnf
 exact h
theorem put_old (l : List B) (s : B) (hs : s ∈ l) {R} (h : ∀ j, R (.tup [vi j, .val (.bool false)]) [tblO 1 2 l, tblR l, tblM l]) :
  ACalls Tryz.prog 153 [.ptr 0 0, vs s] [tblO 1 2 l, tblR l, tblM l] R := by
 refine acalls_of_xwp (an := an153) tab_ok Tryz.func153 ?_
 obtain ⟨j, hj⟩ := mapFind_some hs 0
 conv => whnf
 rw [hj]
 conv => whnf
 exact h j
theorem put_more (l : List B) (s : B) (hl : l.length < 1000000) (hs : s ∉ l) {R} (h : R (.tup [vi l.length, .val (.bool true)]) [tblO 1 2 (l ++ [s]), tblR (l ++ [s]), tblM (l ++ [s])]) :
  ACalls Tryz.prog 153 [.ptr 0 0, vs s] [tblO 1 2 l, tblR l, tblM l] R := by
 refine acalls_of_xwp (an := an153) tab_ok Tryz.func153 ?_
 conv => whnf
 rw [mapFind_none hs]
 conv => whnf
 refine ⟨(strs_length l).symm, ?_, ?_⟩
 ·rw [strs_length, bytes_str]; simp; omega
 conv => whnf
 have e1 : (strs l ++ [[AV.val (Value.string (ofB s))]]) = strs (l ++ [s]) := (strs_append l [s]).symm
 have e2 : IntKind.i64.wrap (((strs (l ++ [s])).length : Int) - 1) = (l.length : Int) := by
  rw [strs_length, wrap_i64 (by rw [List.length_append]; simp <;> omega) (by rw [List.length_append]; simp <;> omega)]; simp
 have e3 : (strs l).length + [[AV.val (Value.string (ofB s))]].length = (l ++ [s]).length := by simp [strs_length]
 rw [mapPut_new hs, e3, e1, e2, strs_length]
 unfold tblM at h
 rw [tblFrom_append, show (((0 : Nat) : Int) + (l.length : Int)) = l.length by omega] at h
 exact h
theorem tblP_some {l : List B} {s : B} (h : s ∈ l) : tblP l s = l := by simp [tblP, h]
theorem tblP_none {l : List B} {s : B} (h : s ∉ l) : tblP l s = l ++ [s] := by simp [tblP, h]
theorem ID_new (s : B) {R} (h : R (.tup [uv 0, .val (.bool true)]) [tblO 1 2 [s], tblR [s], tblM [s]]) :
  ACalls Tryz.prog 148 [.ptr 0 0, vs s] [tblF] R := by
 refine acalls_of_xwp (an := an148) tab_ok Tryz.func148 ?_
 conv => whnf
 refine put_new s ?_
 conv => whnf
 exact h
theorem ID_old (l : List B) (s : B) (hs : s ∈ l) {R} (h : ∀ j : Int, R (.tup [.val (.int .u64 j), .val (.bool false)]) [tblO 1 2 l, tblR l, tblM l]) :
  ACalls Tryz.prog 148 [.ptr 0 0, vs s] [tblO 1 2 l, tblR l, tblM l] R := by
 refine acalls_of_xwp (an := an148) tab_ok Tryz.func148 ?_
 conv => whnf
 refine put_old l s hs fun j => ?_
 conv => whnf
 exact h _
theorem ID_more (l : List B) (s : B) (hl : l.length < 1000000) (hs : s ∉ l) {R} (h : ∀ j : Int, R (.tup [.val (.int .u64 j), .val (.bool true)]) [tblO 1 2 (l ++ [s]), tblR (l ++ [s]), tblM (l ++ [s])]) :
  ACalls Tryz.prog 148 [.ptr 0 0, vs s] [tblO 1 2 l, tblR l, tblM l] R := by
 refine acalls_of_xwp (an := an148) tab_ok Tryz.func148 ?_
 conv => whnf
 refine put_more l s hl hs ?_
 conv => whnf
 exact h _
theorem Len_old (l : List B) {R} (h : R (vi l.length) [tblO 1 2 l, tblR l, tblM l]) :
  ACalls Tryz.prog 181 [.ptr 0 0] [tblO 1 2 l, tblR l, tblM l] R := by
 refine acalls_of_xwp (an := an181) tab_ok Tryz.func181 ?_
 conv => whnf
 rw [strs_length]
 exact h
def tblS (l : List B) : List AObj := match l with | [] => [tblF] | _ => [tblO 1 2 l, tblR l, tblM l]
theorem New_nil {R} (h : R (.ptr 0 0) [tblF]) : ACalls Tryz.prog 120 [.val (.slice none 0 0)] [] R := by
 refine acalls_of_xwp (an := an120) tab_ok Tryz.func120 ?_
 conv => whnf
 refine LoopP.step ?_
 conv => whnf
 exact h
def tblN (l : List B) : List B := l.foldl tblP []
theorem New_calls (a : B) (l : List B) (hl : l.length < 100000) {R} (h : ∀ m, m = tblN (a :: l) → R (.ptr 0 0) [tblO 1 2 m, tblR m, tblM m]) : ACalls Tryz.prog 120 [.sl none 1 (strs (a :: l))] [] R := by
 refine acalls_of_xwp (an := an120) tab_ok Tryz.func120 ?_
 conv => whnf
 have hsl : (strs (a :: l)).length = l.length + 1 := by rw [strs_length]; rfl
 refine LoopP.step ?_
 conv => whnf
 refine br_true (by rw [hsl]; simp <;> omega) ?_
 conv => whnf
 refine put_new a ?_
 conv => whnf
 refine LoopP.ind2 (fun (i : Nat) (m : List B) => [(10, vi i)]) (fun i m => [(nameOf 7, tblO (freshN 18 0) (freshN 18 1) m), (freshN 18 0, tblR m), (freshN 18 1, tblM m)]) (fun i _ => l.length + 1 - i)
  (fun i m => 1 ≤ i ∧ i ≤ l.length + 1 ∧ m.length ≤ i ∧ (l.drop (i - 1)).foldl tblP m = tblN (a :: l)) 1 [a] rfl ⟨by omega, by omega, by simp, by simp [tblN, tblP]⟩ ?_
 rintro i m ⟨h0, h1, h2, h3⟩ IH
 conv => whnf
 refine br_intro (fun hc => ?_) (fun hc => ?_)
 ·have hc : i < l.length + 1 := by rw [hsl] at hc; simp at hc; omega
  have hi : i < (a :: l).length := by simpa using hc
  conv => whnf
  refine idxK_map_intro (show (i : Int).toNat < (a :: l).length by simpa using hc) ?_
  obtain ⟨s, hs⟩ : ∃ s, s = (a :: l)[(i : Int).toNat]'(by simpa using hc) := ⟨_, rfl⟩
  rw [← hs]
  have hd : l.drop (i - 1) = s :: l.drop i := by
   rw [List.drop_eq_getElem_cons (show i - 1 < l.length by omega), show i - 1 + 1 = i by omega, hs]
   congr 1
   obtain ⟨j, rfl⟩ : ∃ j, i = j + 1 := ⟨i - 1, by omega⟩
   simp
  rw [hd, List.foldl_cons] at h3
  conv => whnf
  by_cases hm : s ∈ m
  ·refine put_old m s hm fun j => ?_
   rw [tblP_some hm] at h3
   conv => whnf
   rw [wrap_i64 (by omega) (by omega)]
   exact IH (i + 1) m ⟨by omega, by omega, by omega, by simpa using h3⟩ (by omega)
  ·refine put_more m s (by omega) hm ?_
   rw [tblP_none hm] at h3
   conv => whnf
   rw [wrap_i64 (by omega) (by omega)]
   exact IH (i + 1) (m ++ [s]) ⟨by omega, by omega, by simp; omega, by simpa using h3⟩ (by omega)
 ·have hc : i = l.length + 1 := by rw [hsl] at hc; simp at hc; omega
  subst hc
  rw [Nat.add_sub_cancel, List.drop_length] at h3
  conv => whnf
  exact h m h3
end Go.Abs
end
section
namespace Go.Abs
open Go Go.Proofs Go.Sort
def entryS (G : Gh) (w : World) : Entry := ⟨G, w, fun b => ∃ n, G.at n b, True⟩
theorem invS {G : Gh} {os : List AObj} {w : World} (hW : WR G (numbered 0 os) w) : Inv (entryS G w) ⟨[], numbered 0 os⟩ G { tmps := #[], defers := [] } w :=
 ⟨by simp [RepL], Marks.nil _ _ _, hW, Gh.le.refl _, ⟨rfl, rfl, rfl, Nat.le_refl _, fun _ _ _ => rfl, fun _ _ _ _ => rfl⟩, fun n b hb => .inl ⟨n, hb⟩⟩
theorem packS {P : Program} {f : FuncId} {args : List AV} {os : List AObj} {R : AV → List AObj → Prop}
  (h : ∀ (G : Gh) (w : World) (vals : List Value), WR G (numbered 0 os) w → RepL G args vals → Calls P f vals.toArray w fun e w' => ∃ (v : Value) (r : AV) (os' : List AObj) (G' : Gh), e = .returned v ∧ R r os' ∧ Rep G' r v ∧
   Inv (entryS G w) ⟨[], numbered 0 os'⟩ G' { tmps := #[], defers := [] } w' ∧ (∀ (i : Nat) (o : AObj), os'[i]? = some o → ∀ m ∈ objNames o, m < os'.length) ∧ ∀ m ∈ r.names, m < os'.length) : ACalls P f args os R :=
 ⟨fun G w vals hW hA => (h G w vals hW hA).mono fun e w' ⟨v, r, os', G', h1, h2, h3, h4, h5, h6⟩ => ⟨v, r, os', G', h1, h2, h3, h4.wr, h4.le, h4.ext, h4.newb, h5, h6⟩⟩
def sortB (l : List B) : List B := l.mergeSort fun x y => decide (x ≤ y)
theorem strs_flat (G : Gh) (l : List B) (vs : List Value) : RepL G (strs l).flatten vs ↔ vs = l.map encStr := by
 induction l generalizing vs with
 | nil => simp [strs, RepL]
 | cons s l ih =>
  simp only [strs, List.map_cons, List.flatten_cons, List.cons_append, List.nil_append, RepL, Rep]
  constructor
  ·rintro ⟨v, us, rfl, h, h2⟩
   have := (ih us).1 h2
   simp only [vs] at h
   rw [this, h]
   rfl
  ·rintro rfl
   exact ⟨_, _, rfl, rfl, (ih _).2 rfl⟩
theorem repE_strs {K : Nat → Nat → Option Value} {ob : Nm → Option GO} {g : Nat} : ∀ (ss : List B) (i : Nat), (∀ j s, ss[j]? = some s → K g (i + j) = some (encStr s)) → RepE ⟨K, ob⟩ 1 (some ⟨g, 0, none⟩) i (strs ss)
 | [], _, _ => trivial
 | s :: ss, i, h => by
  refine ⟨⟨g, 0, rfl, rfl, rfl, ⟨encStr s, by have := h 0 s rfl; simpa using this, rfl⟩, trivial⟩, repE_strs ss (i + 1) fun j s' hs => ?_⟩
  have := h (j + 1) s' (by simpa using hs)
  rw [show i + 1 + j = i + (j + 1) by omega]
  exact this
end Go.Abs
end
section
namespace Go.Abs
open Go Go.Proofs
def vrn (n : Nat) : B := if h : n < 128 then [UInt8.ofNat n] else UInt8.ofNat (n % 128 + 128) :: vrn (n / 128)
termination_by n
decreasing_by omega
theorem vrn_small {n : Nat} (h : n < 128) : vrn n = [UInt8.ofNat n] := by rw [vrn, dif_pos h]
theorem vrn_big {n : Nat} (h : ¬ n < 128) : vrn n = UInt8.ofNat (n % 128 + 128) :: vrn (n / 128) := by
 conv => lhs; rw [vrn]
 rw [dif_neg h]
theorem vrn_pos (n : Nat) : 1 ≤ (vrn n).length := by
 by_cases h : n < 128
 ·rw [vrn_small h]; simp
 ·rw [vrn_big h]; simp
theorem vrn_len : ∀ (k n : Nat), n < 128 ^ (k + 1) → (vrn n).length ≤ k + 1 := by
 intro k
 induction k with
 | zero => intro n h; rw [vrn_small (by simpa using h)]; simp
 | succ k ih =>
  intro n h
  by_cases h1 : n < 128
  ·rw [vrn_small h1]; simp
  ·rw [vrn_big h1]
   have := ih (n / 128) (by rw [Nat.pow_succ] at h; omega)
   simp only [List.length_cons]
   omega
theorem vrn_u64 {n : Nat} (h : n < 18446744073709551616) : (vrn n).length ≤ 10 := vrn_len 9 n (by omega)
theorem u8_nat {n : Nat} (h : n < 256) : (UInt8.ofNat n).toNat = n := by rw [UInt8.toNat_ofNat']; omega
theorem vrn_at : ∀ (n i : Nat) (h : i < (vrn n).length), ((vrn n)[i]).toNat = n / 128 ^ i % 128 + (if i + 1 < (vrn n).length then 128 else 0) ∧ (i + 1 = (vrn n).length → n / 128 ^ i < 128 ∧ (0 < i → 0 < n / 128 ^ i)) ∧ (i + 1 < (vrn n).length → 128 ≤ n / 128 ^ i) := by
 intro n
 induction n using Nat.strongRecOn with
 | ind n ih =>
  intro i h
  by_cases h1 : n < 128
  ·have hl : (vrn n).length = 1 := by rw [vrn_small h1]; rfl
   have hi : i = 0 := by omega
   subst hi
   have e : (vrn n)[0] = UInt8.ofNat n := by
    have := List.getElem_of_eq (vrn_small h1) h
    simpa using this
   rw [e, u8_nat (by omega), hl]
   simp
   omega
  ·have hb := vrn_big h1
   have hl : (vrn n).length = (vrn (n / 128)).length + 1 := by rw [hb]; rfl
   have hp := vrn_pos (n / 128)
   cases i with
   | zero =>
    have e : (vrn n)[0] = UInt8.ofNat (n % 128 + 128) := by
     have := List.getElem_of_eq hb h
     simpa using this
    rw [e, u8_nat (by omega), hl, if_pos (by omega)]
    refine ⟨by simp, fun h3 => by omega, fun _ => ?_⟩
    rw [Nat.pow_zero, Nat.div_one]
    omega
   | succ i =>
    have h2 : i < (vrn (n / 128)).length := by omega
    have e : (vrn n)[i + 1] = (vrn (n / 128))[i] := by
     have := List.getElem_of_eq hb h
     simpa using this
    have hd : n / 128 ^ (i + 1) = n / 128 / 128 ^ i := by rw [Nat.pow_succ, Nat.mul_comm, Nat.div_div_eq_div_mul]
    obtain ⟨i1, i2, i3⟩ := ih (n / 128) (by omega) i h2
    rw [e, hd, i1, hl]
    refine ⟨?_, ?_, ?_⟩
    ·congr 1
     by_cases h3 : i + 1 < (vrn (n / 128)).length
     ·rw [if_pos h3, if_pos (by omega)]
     ·rw [if_neg h3, if_neg (by omega)]
    ·intro h3
     obtain ⟨j1, j2⟩ := i2 (by omega)
     refine ⟨j1, fun _ => ?_⟩
     by_cases h4 : 0 < i
     ·exact j2 h4
     ·have : i = 0 := by omega
      subst this
      simp
      omega
    ·intro h3
     exact i3 (by omega)
end Go.Abs
end
section
namespace Go.Proofs
open Go.Shelf
def Tryz.lays190_ren : Go.Shelf.Ren := ⟨fun | 190 => 134 | 125 => 174 | 258 => 173 | 128 => 212 | 129 => 213 | 302 => 203 | 303 => 204 | 304 => 205 | 305 => 206 | 306 => 207 | 307 => 208 | 308 => 209 | 309 => 210 | 310 => 211 | 333 => 226 | 329 => 227 | 330 => 228 | 334 => 229 | 335 => 230 | 336 => 231 | 344 => 240 | n => n, fun | 31 => 104 | 9 => 9 | 3 => 3 | 46 => 254 | 0 => 0 | 51 => 242 | 53 => 64 | 4 => 4 | 183 => 290 | 182 => 289 | 131 => 201 | 5 => 5 | 218 => 310 | 222 => 313 | 228 => 326 | 229 => 190 | n => n, fun | n => n⟩
theorem Tryz.lays190 : Go.Proofs.Lays.n190 Tryz.prog Tryz.lays190_ren := {
  mixed := by kernel_rfl
  f125 := Tryz.func174.trans (congrArg some (by kernel_rfl))
  f128 := Tryz.func212.trans (congrArg some (by kernel_rfl))
  f129 := Tryz.func213.trans (congrArg some (by kernel_rfl))
  f190 := Tryz.func134.trans (congrArg some (by kernel_rfl))
  f258 := Tryz.func173.trans (congrArg some (by kernel_rfl))
  f302 := Tryz.func203.trans (congrArg some (by kernel_rfl))
  f303 := Tryz.func204.trans (congrArg some (by kernel_rfl))
  f304 := Tryz.func205.trans (congrArg some (by kernel_rfl))
  f305 := Tryz.func206.trans (congrArg some (by kernel_rfl))
  f306 := Tryz.func207.trans (congrArg some (by kernel_rfl))
  f307 := Tryz.func208.trans (congrArg some (by kernel_rfl))
  f308 := Tryz.func209.trans (congrArg some (by kernel_rfl))
  f309 := Tryz.func210.trans (congrArg some (by kernel_rfl))
  f310 := Tryz.func211.trans (congrArg some (by kernel_rfl))
  f329 := Tryz.func227.trans (congrArg some (by kernel_rfl))
  f330 := Tryz.func228.trans (congrArg some (by kernel_rfl))
  f333 := Tryz.func226.trans (congrArg some (by kernel_rfl))
  f334 := Tryz.func229.trans (congrArg some (by kernel_rfl))
  f335 := Tryz.func230.trans (congrArg some (by kernel_rfl))
  f336 := Tryz.func231.trans (congrArg some (by kernel_rfl))
  f344 := Tryz.func240.trans (congrArg some (by kernel_rfl))
  t0 := Tryz.underlying0
  a0 := Tryz.isAgg0
  z0 := Tryz.sizeOf0
  v0 := Tryz.zeroValue0
  t3 := Tryz.underlying3
  a3 := Tryz.isAgg3
  z3 := Tryz.sizeOf3
  v3 := Tryz.zeroValue3
  t4 := Tryz.underlying4
  a4 := Tryz.isAgg4
  z4 := Tryz.sizeOf4
  v4 := Tryz.zeroValue4
  t5 := Tryz.underlying5
  a5 := Tryz.isAgg5
  z5 := Tryz.sizeOf5
  v5 := Tryz.zeroValue5
  t9 := Tryz.underlying9
  a9 := Tryz.isAgg9
  z9 := Tryz.sizeOf9
  v9 := Tryz.zeroValue9
  t31 := Tryz.underlying104
  a31 := Tryz.isAgg104
  z31 := Tryz.sizeOf104
  v31 := Tryz.zeroValue104
  t46 := Tryz.underlying254
  a46 := Tryz.isAgg254
  z46 := Tryz.sizeOf254
  v46 := Tryz.zeroValue254
  t51 := Tryz.underlying242
  a51 := Tryz.isAgg242
  z51 := Tryz.sizeOf242
  v51 := Tryz.zeroValue242
  t53 := Tryz.underlying64
  a53 := Tryz.isAgg64
  z53 := Tryz.sizeOf64
  v53 := Tryz.zeroValue64
  t131 := Tryz.underlying201
  a131 := Tryz.isAgg201
  z131 := Tryz.sizeOf201
  v131 := Tryz.zeroValue201
  t182 := Tryz.underlying289
  a182 := Tryz.isAgg289
  z182 := Tryz.sizeOf289
  v182 := Tryz.zeroValue289
  t183 := Tryz.underlying290
  a183 := Tryz.isAgg290
  z183 := Tryz.sizeOf290
  v183 := Tryz.zeroValue290
  t218 := Tryz.underlying310
  a218 := Tryz.isAgg310
  z218 := Tryz.sizeOf310
  v218 := Tryz.zeroValue310
  t222 := Tryz.underlying313
  a222 := Tryz.isAgg313
  z222 := Tryz.sizeOf313
  v222 := Tryz.zeroValue313
  t228 := Tryz.underlying326
  a228 := Tryz.isAgg326
  z228 := Tryz.sizeOf326
  v228 := Tryz.zeroValue326
  t229 := Tryz.underlying190
  a229 := Tryz.isAgg190
  z229 := Tryz.sizeOf190
  v229 := Tryz.zeroValue190 }
open Go.Sort Go.RowKit in
theorem Tryz.slices_Sort_string (blk off cap : Nat) (ss : List (List UInt8)) (w : World) (hH : Holds encStr w blk off ss.toArray) (hblk : blk < w.heap.size) (hsz : ss.length < 4611686018427387904) :
    Calls Tryz.prog 134 #[.slice (some ⟨blk, off, none⟩) ss.length cap] w fun e w' =>
      e = .returned (.tuple #[]) ∧ ∃ n os, w' = grow (putRow encStr (Sort.ahead w n) blk off (ss.mergeSort fun x y => decide (x ≤ y)).toArray) os := Any.slices_Sort_string Tryz.lays190 blk off cap ss w hH hblk hsz
open Go.RowKit Go.Sort in
theorem Tryz.slices_Sort_string_none (p : Option Addr) (cap : Nat) (w : World) :
    Calls Tryz.prog 134 #[.slice p 0 cap] w fun e w' => e = .returned (.tuple #[]) ∧ w' = w := Any.slices_Sort_string_none Tryz.lays190 p cap w
end Go.Proofs
end
section
namespace Go.Proofs
open Go.RowKit Go.Maps Go.Sort Go.Shelf
theorem Kx.law26 : Keyed Tryz.prog 9 := string_keyed Tryz.underlying9
def Kx.apAssign : Code := (Code.region 2 #[{ dst := some 5, op := Op.assign (Operand.tmp 7), type := 9, pos := "iter.go:51", after := #[], guard := none }] false)
def Kx.apBody : Code := (Code.block 1 (Code.region 3 #[{ dst := some 8, op := Op.load 104 (Operand.tmp 2), type := 104, pos := "iter.go:52", after := #[], guard := none }, { dst := some 9, op := Op.move (Operand.tmp 5), type := 9, pos := "iter.go:52", after := #[], guard := none }, { dst := some 10, op := Op.buildSlice 104 1 #[(0, Operand.tmp 9)], type := 104, pos := "iter.go:52", after := #[{ on := 1, ground := Ground.data }], guard := none }, { dst := some 11, op := Op.call { callee := Callee.builtin Builtin.append, args := #[Operand.tmp 8, Operand.tmp 10], argTypes := #[104, 104] }, type := 104, pos := "iter.go:52", after := #[{ on := 0, ground := Ground.data }, { on := 2, ground := Ground.data }], guard := none }, { dst := none, op := Op.store 104 (Operand.tmp 2) (Operand.tmp 11), type := 0, pos := "iter.go:52", after := #[{ on := 3, ground := Ground.data }, { on := 3, ground := Ground.chain }, { on := 0, ground := Ground.phase }, { on := 1, ground := Ground.phase }, { on := 2, ground := Ground.phase }, { on := 3, ground := Ground.phase }], guard := none }] false))
def Kx.apRec (fn : FuncId) (sv : Value) (Bs D : Nat) (st : LoopState) (pend : Option Code) : Loop :=
 { state := st, pending := pend, fn, tmps := #[.slice none 0 0, sv, .pointer (some ⟨Bs, 0, none⟩), undef, .slice none 0 0, undef, sv, undef, undef, undef, undef, undef, undef], params := #[7], assign := Kx.apAssign, body := Kx.apBody, defers := D }
structure Kx.ApAt (w0 : World) (fn : FuncId) (sv : Value) (Bs l D : Nat) (ss : List (List UInt8)) (W : World) : Prop where
 box : ∃ v, W.heap[Bs]? = some (.cells #[v] 104 (0, 0)) ∧ W.ownsRow w0.heap.size 9 1 v ss.length (ss.map encStr) ∧ (v = .slice none 0 0 ↔ ss = [])
 L : W.heap[l]? = some (.loop (Kx.apRec fn sv Bs D .ready none))
 K : W.heap[D]? = some (.deferred (some []))
 below : Below w0.heap.size w0 W
theorem kx_ownsRow_abides {W W' : World} {row : Option Nat} {base : Nat} {e : TypeId} {size : Nat} {v : Value} {k : Nat} {xs : List Value} (h : W.ownsRow base e size v k xs) (hg : W.grownBy W' row)
  (hrow : ∀ r, row = some r → ∃ o : Obj, W.heap[r]? = some o ∧ o.isWalk = true) : W'.ownsRow base e size v k xs := by
 refine h.kept hg ?_
 rcases h.2 with ⟨rfl, _⟩ | ⟨g, cap, cur, rfl, _, hgb, _⟩
 ·exact .inl rfl
 ·refine .inr fun e' => ?_
  obtain ⟨o, ho, hw⟩ := hrow g (by simpa [Value.ownBlock] using e'.symm)
  rw [hgb] at ho; cases ho; cases hw
theorem Kx.ap_abides (w0 : World) (fn : FuncId) (sv : Value) (Bs l D B : Nat) (hB : w0.heap.size ≤ B) : AbidesFrom B (Kx.ApAt w0 fn sv Bs l D) := fun s W W' row h hg hrow => by
 have hrow' : ∀ r, row = some r → ∃ o : Obj, W.heap[r]? = some o ∧ o.isWalk = true := fun r e => (hrow r e).2
 obtain ⟨v, hv, hr, hn⟩ := h.box
 exact ⟨⟨v, (grownBy_keeps hg hrow' hv rfl).trans hv, kx_ownsRow_abides hr hg hrow', hn⟩, (grownBy_keeps hg hrow' h.L rfl).trans h.L, (grownBy_keeps hg hrow' h.K rfl).trans h.K,
  h.below.grown hg h.below.size (fun k e => Nat.le_trans hB (hrow k e).1)⟩
theorem kx_grownBy_putObj (W : World) (l : Nat) (o : Obj) : W.grownBy (W.putObj l o) (some l) :=
 ⟨rfl, rfl, rfl, by simp, fun k _ hk => World.putObj_heap_other (fun e => hk (by rw [e]))⟩
theorem kx_grownBy_setCell0 (W : World) (b : Nat) (v : Value) : W.grownBy (W.setCell ⟨b, 0, none⟩ v) (some b) :=
 ⟨rfl, rfl, rfl, (KeepsWalks.setCell W _ v).size, fun k _ hk => Below.heap_setCell _ _ _ k (fun e => hk (by rw [e]))⟩
theorem kx_ownsRow_ne {W : World} {base : Nat} {e : TypeId} {size : Nat} {v : Value} {k : Nat} {xs : List Value} (h : W.ownsRow base e size v k xs) {j : Nat} {o : Obj} (hj : W.heap[j]? = some o) (hno : ∀ cur, o ≠ .cells cur e (0, 0)) :
  v.ownBlock = none ∨ v.ownBlock ≠ some j := by
 rcases h.2 with ⟨rfl, _⟩ | ⟨g, cap, cur, rfl, _, hgb, _⟩
 ·exact .inl rfl
 ·refine .inr fun e' => ?_
  have : g = j := by simpa [Value.ownBlock] using e'
  subst this; rw [hgb] at hj; cases hj; exact hno cur rfl
theorem kx_cell_of_box {W : World} {B : Nat} {v : Value} {t : TypeId} (h : W.heap[B]? = some (.cells #[v] t (0, 0))) : W.cell? ⟨B, 0, none⟩ = some v ∧ W.frozen? ⟨B, 0, none⟩ = false := by
 constructor <;> simp [World.cell?, World.frozen?, h]
theorem kx_heap_setCell_box {W : World} {B : Nat} {v : Value} {t : TypeId} (v' : Value) (h : W.heap[B]? = some (.cells #[v] t (0, 0))) : (W.setCell ⟨B, 0, none⟩ v').heap[B]? = some (.cells #[v'] t (0, 0)) := by
 obtain ⟨hlt, hk⟩ := Array.getElem?_eq_some_iff.1 h
 show (W.heap.modify B _)[B]? = _
 rw [Array.getElem?_eq_getElem (by rw [Array.size_modify]; exact hlt), Array.getElem_modify_self, hk]
 rfl
theorem kx_ownsRow_not_walk {W : World} {base : Nat} {e : TypeId} {size : Nat} {v : Value} {k : Nat} {xs : List Value} (h : W.ownsRow base e size v k xs) : ∀ (j : Nat) (o : Obj), v.ownBlock = some j → W.heap[j]? = some o → o.isWalk = false := by
 intro j o hj ho
 rcases h.2 with ⟨rfl, _⟩ | ⟨g, cap, cur, rfl, _, hgb, _⟩
 ·simp [Value.ownBlock] at hj
 ·have : g = j := by simpa [Value.ownBlock] using hj
  subst this; rw [hgb] at ho; cases ho; rfl
theorem Kx.info26 : (Tryz.prog.info? 9).map (fun i => (i.zero, i.size, i.bytes)) = some (some (.string ⟨#[]⟩), 1, 16) := by kernel_rfl
set_option maxRecDepth 100000 in
set_option maxHeartbeats 2000000 in
theorem Kx.apYield (F : Fence) (m : Nat) (w0 : World) (fn : FuncId) (hfn : F.fn fn) (sv : Value) (Bs l D : Nat) (hBl : Bs ≠ l) (hDl : D ≠ l) (hDB : D ≠ Bs) (h0B : w0.heap.size ≤ Bs) (h0l : w0.heap.size ≤ l)
  (N : Nat) (hN : N ≤ maxLen) (hNb : N * 16 ≤ 140737488355328) (ss : List (List UInt8)) (x : List UInt8) (W : World) (h : Kx.ApAt w0 fn sv Bs l D ss W) (hlen : ss.length < N) :
  YieldAt F m Tryz.prog l #[encStr x] W fun e W' => e = .returned (.bool true) ∧ Kx.ApAt w0 fn sv Bs l D (ss ++ [x]) W' ∧ KeepsWalks W W' := by
 obtain ⟨i0, hi, hz0, hz1, hz2⟩ := info_parts Kx.info26
 obtain ⟨v, hv, hrow, _⟩ := h.box
 refine ⟨fn, #[.slice none 0 0, sv, .pointer (some ⟨Bs, 0, none⟩), undef, .slice none 0 0, undef, sv, encStr x, undef, undef, undef, undef, undef], Kx.apAssign, Kx.apBody, by simpa [Kx.apRec] using run_yield (P := Tryz.prog) (args := #[encStr x]) h.L rfl, roundIn_of_wpIn hfn ?_⟩
 have hl : l < W.heap.size := (Array.getElem?_eq_some_iff.1 h.L).1
 have hbr := run_beginRound (P := Tryz.prog) h.L rfl
 obtain ⟨W2, hW2⟩ : ∃ W2, W.putObj l (.loop { Kx.apRec fn sv Bs D .ready none with state := .busy }) = W2 := ⟨_, rfl⟩
 rw [hW2] at hbr
 have hg2 : W.grownBy W2 (some l) := by rw [← hW2]; exact kx_grownBy_putObj _ _ _
 have hk2 : KeepsWalks W W2 := by rw [← hW2]; exact KeepsWalks.putObj _ h.L rfl
 have hv2 : W2.heap[Bs]? = some (.cells #[v] 104 (0, 0)) := by rw [← hW2]; exact (World.putObj_heap_other hBl).trans hv
 have hK2 : W2.heap[D]? = some (.deferred (some [])) := by rw [← hW2]; exact (World.putObj_heap_other hDl).trans h.K
 have hL2 : W2.heap[l]? = some (.loop { Kx.apRec fn sv Bs D .ready none with state := .busy }) := by rw [← hW2]; exact World.putObj_heap_same hl
 have hrow2 : W2.ownsRow w0.heap.size 9 1 v ss.length (ss.map encStr) := hrow.kept hg2 (kx_ownsRow_ne hrow h.L (fun cur e => by cases e))
 have hb2 : Below w0.heap.size w0 W2 := h.below.grown hg2 h.below.size (fun k e => by cases e; exact h0l)
 obtain ⟨hc2, hf2⟩ := kx_cell_of_box hv2
 have hBlt : Bs < W2.heap.size := (Array.getElem?_eq_some_iff.1 hv2).1
 have hl2 : l < W2.heap.size := (Array.getElem?_eq_some_iff.1 hL2).1
 have hDlt : D < W2.heap.size := (Array.getElem?_eq_some_iff.1 hK2).1
 have ne_of : ∀ {j : Nat} {o : Obj}, W2.heap[j]? = some o → (∀ cur, o ≠ .cells cur 9 (0, 0)) → some j ≠ v.ownBlock := fun hj hno => by
  rcases kx_ownsRow_ne hrow2 hj hno with e | e
  ·rw [e]; simp
  ·exact fun e' => e e'.symm
 clear hW2
 unfold Kx.apAssign
 gi_wp2_with (rw [Oper.semAt_eq _ _ _ (fun c h => by cases h)]; go_simp; try go_bits)
 unfold Kx.apBody
 gi_wp2_with (first
  | (
    gi_at_builtin; refine wpListIn_append_own _ rfl _ _ 104 rfl w0.heap.size 9 i0 (.string ⟨#[]⟩) 1 16 Tryz.underlying104 hi hz0 hz1 hz2 rfl (by decide) _ _ _ rfl (hrow2.alloc _) ⟨W2.heap.size, 0, none⟩ 1 1 [encStr x] rfl rfl (cell_one_new _ _ _) (by simp [Value.oneCell', encStr]) (by omega) (by omega) (by have := hb2.size; simp; omega) ?_; intro v' w3 hown' hg3 hnil3
    have hv3 : w3.heap[Bs]? = some (.cells #[v] 104 (0, 0)) := (hg3.block Bs (by simp; omega) (ne_of hv2 (fun cur e => by cases e))).trans ((Below.heap_alloc _ _ Bs hBlt).trans hv2)
    obtain ⟨hc3, hf3⟩ := kx_cell_of_box hv3
    obtain ⟨g', cap', cur', rfl, hbase', hgb', hr1, hr2, hr3, hr4⟩ : ∃ g' cap' cur', v' = .slice (some ⟨g', 0, none⟩) (ss.length + 1) cap' ∧ w0.heap.size ≤ g' ∧ w3.heap[g']? = some (.cells cur' 9 (0, 0)) ∧ ss.length + 1 ≤ cap' ∧ cap' ≤ maxLen ∧ cur'.size = cap' * 1 ∧ cur'.toList.take ((ss.length + 1) * 1) = ss.map encStr ++ [encStr x] := by
     rcases hown'.2 with ⟨_, h0⟩ | h'
     ·exact absurd h0 (by omega)
     ·exact h'
    go_frame)
  | (rw [Oper.semAt_eq _ _ _ (fun c h => by cases h)]; go_simp; try go_bits))
 have hg3' : (W2.alloc (.cells #[encStr x] 9)).grownBy w3 v.ownBlock := hg3
 have hL3 : w3.heap[l]? = some (.loop { Kx.apRec fn sv Bs D .ready none with state := .busy }) := (hg3'.block l (by simp; omega) (ne_of hL2 (fun cur e => by cases e))).trans ((Below.heap_alloc _ _ l hl2).trans hL2)
 have hK3 : w3.heap[D]? = some (.deferred (some [])) := (hg3'.block D (by simp; omega) (ne_of hK2 (fun cur e => by cases e))).trans ((Below.heap_alloc _ _ D hDlt).trans hK2)
 obtain ⟨w4, hw4⟩ : ∃ w4, w3.setCell ⟨Bs, 0, none⟩ (.slice (some ⟨g', 0, none⟩) (ss.length + 1) cap') = w4 := ⟨_, rfl⟩
 rw [hw4]
 have hg4 : w3.grownBy w4 (some Bs) := by rw [← hw4]; exact kx_grownBy_setCell0 _ _ _
 have hv4 : w4.heap[Bs]? = some (.cells #[.slice (some ⟨g', 0, none⟩) (ss.length + 1) cap'] 104 (0, 0)) := by rw [← hw4]; exact kx_heap_setCell_box _ hv3
 have hL4 : w4.heap[l]? = some (.loop { Kx.apRec fn sv Bs D .ready none with state := .busy }) := (hg4.block l (Array.getElem?_eq_some_iff.1 hL3).1 (fun e => hBl (by cases e; rfl))).trans hL3
 have hK4 : w4.heap[D]? = some (.deferred (some [])) := (hg4.block D (Array.getElem?_eq_some_iff.1 hK3).1 (fun e => hDB (by cases e; rfl))).trans hK3
 have hrow4 := hown'.kept hg4 (kx_ownsRow_ne hown' hv3 (fun cur e => by cases e))
 have hl4 : l < w4.heap.size := (Array.getElem?_eq_some_iff.1 hL4).1
 have hb3 : Below w0.heap.size w0 w3 := (hb2.alloc hb2.size _).grown hg3' (by have := hb2.size; simp; omega) (fun k e => (hrow2.lt k e).1)
 have hb4 : Below w0.heap.size w0 w4 := hb3.grown hg4 hb3.size (fun k e => by cases e; exact h0B)
 have hk4 : KeepsWalks W w4 := ((hk2.trans (KeepsWalks.alloc _ _)).trans (KeepsWalks.of_grownBy hg3' (kx_ownsRow_not_walk (hrow2.alloc _)))).trans (by rw [← hw4]; exact KeepsWalks.setCell _ _ _)
 clear hw4
 refine ⟨_, _, run_endRound none hL4, rfl, ⟨⟨_, (World.putObj_heap_other hBl).trans hv4, ?_, by simp⟩, World.putObj_heap_same hl4, (World.putObj_heap_other hDl).trans hK4, hb4.grown (kx_grownBy_putObj _ _ _) hb4.size (fun k e => by cases e; exact h0l)⟩, hk4.trans (KeepsWalks.putObj _ hL4 rfl)⟩
 have := hrow4.kept (kx_grownBy_putObj w4 l (.loop { { Kx.apRec fn sv Bs D .ready none with state := .busy } with state := if (none : Option Code).isNone then .ready else .done, pending := none })) (kx_ownsRow_ne hrow4 hL4 (fun cur e => by cases e))
 simpa using this
set_option maxRecDepth 100000 in
set_option maxHeartbeats 2000000 in
theorem Kx.appendSeq_in (F : Fence) (n : Nat) (h11 : F.fn 172) (hro : F.round = none) (hn : 2 ≤ n) (g : Nat) (lb : Array Value) (hFg : F.fn g) (eg : ∀ args w, (callFunc g args).run Tryz.prog w = .ok (.enter g args) w)
  (S : List (List UInt8) → Prop) (N : Nat) (hN : N ≤ maxLen) (hNb : N * 16 ≤ 140737488355328) (w : World) (hseq : SeqGives F (n - 1) Tryz.prog g lb encStr S N w) :
  CallsIn F n Tryz.prog 172 #[.slice none 0 0, .func (.func g) #[] lb] w fun e w' => ∃ (v : Value) (ss : List (List UInt8)), e = .returned v ∧ S ss ∧ w'.ownsRow w.heap.size 9 1 v ss.length (ss.map encStr) ∧ (v = .slice none 0 0 ↔ ss = []) ∧ Below w.heap.size w w' := by
 have h1 : 1 ≤ n := by omega
 refine callsIn_of_wp_marks Tryz.func172 rfl h11 ?_ hro
 simp only [Tryz.ntmps172, List.size_toArray, List.length_cons, List.length_nil, Nat.reduceAdd, Nat.reduceSub, Array.replicate_succ, Array.replicate_zero, List.push_toArray, List.append_toArray, List.nil_append, List.cons_append]
 gi_wp2
 refine wpIn_rangeFunc ?_
 intro fn hfn
 rw [hro]
 obtain ⟨W0, hW0⟩ : ∃ W0, w.alloc (.cells #[.slice none 0 0] 104) = W0 := ⟨_, rfl⟩
 have hs0 : W0.heap.size = w.heap.size + 1 := by rw [← hW0]; simp
 have hv0 : W0.heap[w.heap.size]? = some (.cells #[.slice none 0 0] 104 (0, 0)) := by rw [← hW0]; exact World.alloc_heap_new w _
 have hb0 : Below w.heap.size w W0 := by rw [← hW0]; exact (Below.refl _ w).alloc (Nat.le_refl _) _
 rw [hW0]
 obtain ⟨W1, hW1⟩ : ∃ W1, (W0.alloc (.deferred (some []))).alloc (.loop (Kx.apRec fn (.func (.func g) #[] lb) w.heap.size W0.heap.size .ready none)) = W1 := ⟨_, rfl⟩
 have hold : ∀ k, k < W0.heap.size → W1.heap[k]? = W0.heap[k]? := fun k hk => by
  rw [← hW1]; exact (Below.heap_alloc _ _ k (by simp; omega)).trans (Below.heap_alloc _ _ k hk)
 have hb1 : Below w.heap.size w W1 := by rw [← hW1]; exact (hb0.alloc hb0.size _).alloc (by have := hb0.size; simp; omega) _
 have hs1 : W1.heap.size = W0.heap.size + 2 := by rw [← hW1]; simp
 have hM : Kx.ApAt w fn (.func (.func g) #[] lb) w.heap.size (W0.heap.size + 1) W0.heap.size [] W1 :=
  ⟨⟨_, (hold w.heap.size (by omega)).trans hv0, ⟨rfl, .inl ⟨rfl, rfl⟩⟩, by simp⟩,
   by rw [← hW1]; have := World.alloc_heap_new (W0.alloc (.deferred (some []))) (.loop (Kx.apRec fn (.func (.func g) #[] lb) w.heap.size W0.heap.size .ready none)); rwa [World.size_alloc] at this,
   by rw [← hW1]; exact (Below.heap_alloc _ _ _ (by simp)).trans (World.alloc_heap_new W0 _), hb1⟩
 refine ⟨W0.heap.size + 1, [{ target := .collected W0.heap.size, args := #[] }], W1, { target := .fn (.func g) lb, args := #[.func (.yield (W0.heap.size + 1)) #[] #[]] }, W1, g,
  #[.func (.yield (W0.heap.size + 1)) #[] #[]] ++ lb, W1, ?_, ?_, ?_, ?_, fun _ => h1, ?_⟩
 ·rw [← hW1]; exact run_enterLoop_outer _ _ _ _ _
 ·simp [resolve, go_sem]
 ·intro f' hf'; simp [Target.leads] at hf'; subst hf'; exact hFg
 ·simp [invoke, go_sem, eg]
 ·refine (hseq (W0.heap.size + 1) (Kx.ApAt w fn (.func (.func g) #[] lb) w.heap.size (W0.heap.size + 1) W0.heap.size) W1 hb1 (Kx.ap_abides _ _ _ _ _ _ _ hb1.size)
   (fun pre x W hJ hl => Kx.apYield F (n - 1 - 1) w fn hfn _ w.heap.size (W0.heap.size + 1) W0.heap.size (by omega) (by omega) (by omega) (Nat.le_refl _) (by omega) N hN hNb pre x W hJ hl) hM).mono ?_
  rintro e W2 ⟨⟨v0, rfl⟩, ss, hS, h2⟩
  obtain ⟨v, hv, hrow, hnil⟩ := h2.box
  have hend := run_endLoop (P := Tryz.prog) h2.L (by simp [Kx.apRec])
  obtain ⟨W3, hW3⟩ : ∃ W3, W2.putObj (W0.heap.size + 1) (.loop { Kx.apRec fn (.func (.func g) #[] lb) w.heap.size W0.heap.size .ready none with state := .exhausted }) = W3 := ⟨_, rfl⟩
  rw [hW3] at hend
  have hg3 : W2.grownBy W3 (some (W0.heap.size + 1)) := by rw [← hW3]; exact kx_grownBy_putObj _ _ _
  have hv3 : W3.heap[w.heap.size]? = some (.cells #[v] 104 (0, 0)) := by rw [← hW3]; exact (World.putObj_heap_other (by omega)).trans hv
  have hK3 : W3.heap[W0.heap.size]? = some (.deferred (some [])) := by rw [← hW3]; exact (World.putObj_heap_other (by omega)).trans h2.K
  have hrow3 := hrow.kept hg3 (kx_ownsRow_ne hrow h2.L (fun cur e => by cases e))
  have hb3 : Below w.heap.size w W3 := h2.below.grown hg3 h2.below.size (fun k e => by cases e; omega)
  obtain ⟨hc3, hf3⟩ := kx_cell_of_box hv3
  clear hW3
  refine ⟨none, W3, hend, ?_⟩
  gi_wp2
  rw [← hs0]
  refine ⟨by simp, .inl ⟨_, _, rfl, run_takeDeferred hK3, ?_⟩⟩
  exact ⟨_, results_tmp rfl _ _ _, v, ss, rfl, hS, hrow3.kept (kx_grownBy_putObj _ _ _) (kx_ownsRow_ne hrow3 hK3 (fun cur e => by cases e)), hnil, hb3.grown (kx_grownBy_putObj _ _ _) hb3.size (fun k e => by cases e; omega)⟩
set_option maxHeartbeats 1000000 in
theorem Kx.collect_in (F : Fence) (n : Nat) (h8 : F.fn 133) (h11 : F.fn 172) (hro : F.round = none) (hn : 3 ≤ n) (g : Nat) (lb : Array Value) (hFg : F.fn g) (eg : ∀ args w, (callFunc g args).run Tryz.prog w = .ok (.enter g args) w)
  (S : List (List UInt8) → Prop) (N : Nat) (hN : N ≤ maxLen) (hNb : N * 16 ≤ 140737488355328) (w : World) (hseq : SeqGives F (n - 1 - 1) Tryz.prog g lb encStr S N w) :
  CallsIn F n Tryz.prog 133 #[.func (.func g) #[] lb] w fun e w' => ∃ (v : Value) (ss : List (List UInt8)), e = .returned v ∧ S ss ∧ w'.ownsRow w.heap.size 9 1 v ss.length (ss.map encStr) ∧ (v = .slice none 0 0 ↔ ss = []) ∧ Below w.heap.size w w' := by
 have h1 : 1 ≤ n := by omega
 refine callsIn_of_wp Tryz.func133 rfl h8 ?_ hro
 simp only [Tryz.ntmps133, List.size_toArray, List.length_cons, List.length_nil, Nat.reduceAdd, Nat.reduceSub, Array.replicate_succ, Array.replicate_zero, List.push_toArray, List.append_toArray, List.nil_append, List.cons_append]
 gi_wp2_with (gi_at_call 172; refine (Kx.appendSeq_in F (n - 1) h11 hro (by omega) g lb hFg eg S N hN hNb _ hseq).mono ?_; rintro e w' ⟨v, ss, rfl, hS, hrow, hnil, hb⟩)
 go_ret
 exact ⟨v, ss, rfl, hS, hrow, hnil, hb⟩
def Kx.SortsIn (F : Fence) (m : Nat) : Prop :=
 (∀ (blk off cap : Nat) (ss : List (List UInt8)) (W : World), Holds encStr W blk off ss.toArray → blk < W.heap.size → ss.length < 4611686018427387904 →
  CallsIn F m Tryz.prog 134 #[.slice (some ⟨blk, off, none⟩) ss.length cap] W fun e w' => e = .returned (.tuple #[]) ∧ ∃ k os, w' = grow (putRow encStr (Sort.ahead W k) blk off (ss.mergeSort fun x y => decide (x ≤ y)).toArray) os) ∧
 (∀ (p : Option Addr) (cap : Nat) (W : World), CallsIn F m Tryz.prog 134 #[.slice p 0 cap] W fun e w' => e = .returned (.tuple #[]) ∧ w' = W)
set_option maxRecDepth 100000 in
set_option maxHeartbeats 2000000 in
theorem Kx.sorted_in (F : Fence) (n : Nat) (h6 : F.fn 87) (h8 : F.fn 133) (h9 : F.fn 134) (h11 : F.fn 172) (hro : F.round = none) (hn : 4 ≤ n) (hsort : Kx.SortsIn F (n - 1)) (g : Nat) (lb : Array Value) (hFg : F.fn g) (eg : ∀ args w, (callFunc g args).run Tryz.prog w = .ok (.enter g args) w)
  (S : List (List UInt8) → Prop) (N : Nat) (hN : N ≤ maxLen) (hNb : N * 16 ≤ 140737488355328) (w : World) (hseq : SeqGives F (n - 1 - 1 - 1) Tryz.prog g lb encStr S N w) :
  CallsIn F n Tryz.prog 87 #[.func (.func g) #[] lb] w fun e w' => ∃ (v : Value) (ss : List (List UInt8)), e = .returned v ∧ S ss ∧
   w'.ownsRow w.heap.size 9 1 v ss.length ((ss.mergeSort (fun x y => decide (x ≤ y))).map encStr) ∧ (v = .slice none 0 0 ↔ ss = []) ∧ Below w.heap.size w w' := by
 have h1 : 1 ≤ n := by omega
 refine callsIn_of_wp Tryz.func87 rfl h6 ?_ hro
 simp only [Tryz.ntmps87, List.size_toArray, List.length_cons, List.length_nil, Nat.reduceAdd, Nat.reduceSub, Array.replicate_succ, Array.replicate_zero, List.push_toArray, List.append_toArray, List.nil_append, List.cons_append]
 gi_wp2_with (gi_at_call 133; refine (Kx.collect_in F (n - 1) h8 h11 hro (by omega) g lb hFg eg _ N hN hNb _ hseq.bounded).mono ?_; rintro e W ⟨v, ss, rfl, ⟨hS, hlen⟩, hrow, hnil, hb⟩)
 rcases hrow.2 with ⟨rfl, hz⟩ | ⟨gb, cap, cur, rfl, hbase, hgb, r1, r2, r3, r4⟩
 ·-- nothing came: the nil slice is sorted and handed back
  have hss : ss = [] := List.eq_nil_of_length_eq_zero hz
  subst hss
  gi_wp2_with (gi_at_call 134; refine (hsort.2 none 0 W).mono ?_; rintro e w' ⟨rfl, rfl⟩)
  go_ret
  exact ⟨.slice none 0 0, [], rfl, hS, by simpa using hrow, by simp, hb⟩
 ·have hH : Holds encStr W gb 0 ss.toArray := holds_of_block hgb (by simpa using r4)
  have hgl : gb < W.heap.size := (Array.getElem?_eq_some_iff.1 hgb).1
  have hsz : ss.length < 4611686018427387904 := by omega
  have cS := hsort.1 gb 0 cap ss W hH hgl hsz
  gi_wp2_with (gi_at_call 134; refine cS.mono ?_; rintro e w' ⟨rfl, nn, os, rfl⟩)
  go_ret
  exact ⟨_, ss, rfl, hS, ownsRow_sorted (by simp) hbase hgb r1 r2 r3, hnil, hb.grown (grownBy_sorted _) hb.size (fun j hj => by cases hj; exact hbase)⟩
end Go.Proofs
end
section
namespace Go.Abs
open Go Go.Proofs Go.RowKit
attribute [local go_sem] Oper.semAt_some
def vrnA (n : Nat) : List (List AV) := (vrn n).map fun c => [.val (.int .u8 (c.toNat : Int))]
theorem steps_box {K : Nat → Nat → Option Value} {W : World} {b : Nat} {v v' : Value} {t : TypeId} {Own : Nat → Prop} (hO : ∀ c, Own c ↔ c = b) (hb : W.heap[b]? = some (.cells #[v] t (0, 0))) (hKb : ∀ o, K b o = none)
  (hk : ∀ c o u, K c o = some u → W.cell? ⟨c, o, none⟩ = some u) : Steps Own K W Own K (W.setCell ⟨b, 0, none⟩ v') := by
 have hlt : b < W.heap.size := (Array.getElem?_eq_some_iff.1 hb).1
 have hsz : (W.setCell ⟨b, 0, none⟩ v').heap.size = W.heap.size := by simp [World.setCell]
 have hot : ∀ c, c ≠ b → (W.setCell ⟨b, 0, none⟩ v').heap[c]? = W.heap[c]? := fun c hc => Below.heap_setCell _ _ _ _ hc
 refine ⟨rfl, rfl, rfl, by rw [hsz]; exact Nat.le_refl _, fun c _ hc => hot c (fun e => hc ((hO c).2 e)), fun c hc => .inl hc, fun _ _ _ h => h, fun _ _ _ _ => rfl, fun c o u hu => ?_, fun c hc => ?_⟩
 ·by_cases e : c = b
  ·subst e; rw [hKb] at hu; cases hu
  ·rw [cell_of_heap (hot c e)]; exact hk c o u hu
 ·rw [(hO c).1 hc, hsz]; exact hlt
theorem or128_0 : (List.range 256).all (fun n => decide (bits BinOp.or IntKind.u8 (n : Int) 128 = ((n % 128 + 128 : Nat) : Int))) = true := by decide +kernel
theorem or128 {m : Nat} : bits BinOp.or IntKind.u8 ((m : Int) % 256) 128 = ((m % 128 + 128 : Nat) : Int) := by
 have h := of_decide_eq_true (List.all_eq_true.1 or128_0 (m % 256) (List.mem_range.2 (Nat.mod_lt _ (by omega))))
 rw [show ((m : Int) % 256) = ((m % 256 : Nat) : Int) by omega, h]
 congr 1
 omega
set_option maxHeartbeats 4000000 in
theorem groups_iter (n : Nat) (hn : n < 18446744073709551616) : SIter Tryz.prog 241 [.ptr 0 0] [.cells 64 [.val (.int .u64 (n : Int))]] (vrnA n) := by
 refine ⟨fun args w => run_callFunc (by kernel_rfl), fun G w lb hW hr l n' J Jx hY hS hK h0 => ?_⟩
 simp only [RepL, Rep] at hr
 obtain ⟨_, _, rfl, ⟨b, hb, rfl⟩, rfl⟩ := hr
 obtain ⟨b', vs, e1, e2, e3, e4⟩ := hW.obj 0 _ rfl
 rw [hb] at e1; cases e1
 simp only [RepL, Rep] at e3
 obtain ⟨_, _, rfl, rfl, rfl⟩ := e3
 have hO : ∀ c, (∃ k, G.at k c) ↔ c = b := fun c => by
  constructor
  ·rintro ⟨k, hk⟩
   have h1 : ∃ o, objGet (numbered 0 [AObj.cells 64 [.val (.int .u64 (n : Int))]]) k = some o := by
    rcases hk with h4 | ⟨u, t, h4, _⟩ <;> exact hW.dom k _ h4
   obtain ⟨o, ho⟩ := h1
   rw [objGet_numbered0] at ho
   have : k = 0 := by
    cases k with
    | zero => rfl
    | succ k => simp at ho
   subst this
   rcases hk with h4 | ⟨u, t, h4, _⟩
   ·rw [hb] at h4; cases h4; rfl
   ·rw [hb] at h4; cases h4
  ·rintro rfl; exact ⟨0, .inl hb⟩
 obtain ⟨Own, hOwn⟩ : ∃ Own : Nat → Prop, Own = fun c => ∃ k, G.at k c := ⟨_, rfl⟩
 rw [← hOwn] at h0
 have hO : ∀ c, Own c ↔ c = b := by rw [hOwn]; exact hO
 clear hOwn
 have hlen : (vrnA n).length = (vrn n).length := by simp [vrnA]
 have hat := vrn_at n
 have hpos := vrn_pos n
 rw [show FW none = Fence.wide from rfl] at hY ⊢
 refine callsIn_of_wp Tryz.func241 rfl trivial ?_ rfl
 simp only [Tryz.ntmps241, List.size_toArray, List.length_cons, List.length_nil, Nat.reduceAdd, Nat.reduceSub, Array.replicate_succ, Array.replicate_zero, List.push_toArray, List.append_toArray, List.nil_append, List.cons_append, Nat.add_zero]
 gi_wp2
 gi_loopw [3] (fun _ wr => ∃ (i : Nat) (K : Nat → Nat → Option Value), i < (vrn n).length ∧ J i Own K wr ∧ (∀ o, K b o = none) ∧ wr.heap[b]? = some (.cells #[.int .u64 ((n / 128 ^ i : Nat) : Int)] 64 (0, 0)))
  (fun _ wr => match wr.cell? ⟨b, 0, none⟩ with | some (.int _ x) => x.toNat | _ => 0)
 case atStart => exact ⟨0, G.K, by omega, h0, e4, by simpa using e2⟩
 case round =>
  obtain ⟨i, K, hi, hJi, hKb, hbx⟩ := hrel
  obtain ⟨hcell, hfz⟩ := kx_cell_of_box hbx
  obtain ⟨a1, a2, a3⟩ := hat i hi
  have hmn : n / 128 ^ i ≤ n := Nat.div_le_self _ _
  generalize hm : n / 128 ^ i = m at *
  have hm64 : (m : Int) < 18446744073709551616 := by omega
  have hm0 : (0 : Int) ≤ m := by omega
  by_cases hlt : i + 1 < (vrn n).length
  ·have h128 : ¬ ((m : Int) < 128) := by have := a3 hlt; omega
   have h128' : (m : Int) ≥ 128 := by omega
   clear hat a2 a3 h0 hW hlen hpos
   have hx : ((vrn n)[i].toNat : Int) = (m : Int) % 128 + 128 := by rw [a1, if_pos hlt]; omega
   have hxs : (vrnA n)[i]? = some [.val (.int .u8 ((m : Int) % 128 + 128))] := by
    unfold vrnA
    rw [List.getElem?_map, List.getElem?_eq_getElem hi, ← hx]
    rfl
   have hval : bits BinOp.or IntKind.u8 ((m : Int) % 256) 128 = (m : Int) % 128 + 128 := by
    rw [or128]; omega
   obtain ⟨fn, tmps, assign, body, hy, hR⟩ := hY (n' - 1) i _ #[.int .u8 ((m : Int) % 128 + 128)] Own K wr hxs (by simp only [RepL, Rep]; exact ⟨_, _, rfl, rfl, rfl⟩) hJi
   clear hY a1 hx hxs
   gi_wp2
   refine ⟨fun h => by simp [Fence.wide] at h, hR.mono ?_⟩
   rintro e W3 (⟨rfl, K', hJ3, hKK, hO3, hos3, htape3, hout3, hsz3⟩ | ⟨rfl, hJx3⟩)
   ·clear hR hy
    have hbx3 := (hO3 b ((hO b).2 rfl)).1.trans hbx
    obtain ⟨hcell3, hfz3⟩ := kx_cell_of_box hbx3
    clear hcell hfz
    have hKb3 : ∀ o, K' b o = none := fun o => by rw [(hO3 b ((hO b).2 rfl)).2 o]; exact hKb o
    have hst := steps_box (v' := .int .u64 ((m : Int) / 128)) hO hbx3 hKb3 (hK (i + 1) Own K' W3 hJ3)
    have hJ4 := hS (i + 1) Own K' W3 Own K' _ hJ3 hst
    have hbx4 := kx_heap_setCell_box (.int .u64 ((m : Int) / 128)) hbx3
    have hc4 := (kx_cell_of_box hbx4).1
    have hd : ((n / 128 ^ (i + 1) : Nat) : Int) = (m : Int) / 128 := by
     rw [Nat.pow_succ, ← Nat.div_div_eq_div_mul, hm]; omega
    have hwr := (kx_cell_of_box hbx).1
    clear hS hK hst hO3
    gi_wp2
    refine ⟨⟨i + 1, K', hlt, hJ4, hKb3, by rw [hd]; exact hbx4⟩, ?_⟩
    rw [hc4, hwr]
    show ((m : Int) / 128).toNat < (m : Int).toNat
    omega
   ·clear hR hy
    gi_wp2
    refine bodyPost_ret (results_none rfl _ _ _) rfl ?_
    exact ⟨⟨_, rfl⟩, .inr hJx3⟩
  ·have hfin : i + 1 = (vrn n).length := by omega
   have hm128 : m < 128 := (a2 hfin).1
   have h128 : (m : Int) < 128 := by omega
   have h128' : ¬ (m : Int) ≥ 128 := by omega
   have hx : ((vrn n)[i].toNat : Int) = (m : Int) := by rw [a1, if_neg hlt]; omega
   have hxs : (vrnA n)[i]? = some [.val (.int .u8 (m : Int))] := by
    unfold vrnA
    rw [List.getElem?_map, List.getElem?_eq_getElem hi, ← hx]
    rfl
   have hval : (m : Int) % 256 = (m : Int) := by omega
   obtain ⟨fn, tmps, assign, body, hy, hR⟩ := hY (n' - 1) i _ #[.int .u8 (m : Int)] Own K wr hxs (by simp only [RepL, Rep]; exact ⟨_, _, rfl, rfl, rfl⟩) hJi
   have hend : (vrnA n).length = i + 1 := by omega
   clear hY a1 hx hxs hat a2 a3 h0 hW hlen hpos hS hK
   gi_wp2
   refine ⟨fun h => by simp [Fence.wide] at h, hR.mono ?_⟩
   rintro e W3 (⟨rfl, K', hJ3, _⟩ | ⟨rfl, hJx3⟩)
   ·clear hR hy
    gi_wp2
    go_end0
    exact ⟨⟨_, rfl⟩, .inl ⟨Own, K', by rw [hend]; exact hJ3⟩⟩
   ·clear hR hy
    gi_wp2
    go_end0
    exact ⟨⟨_, rfl⟩, .inr hJx3⟩
end Go.Abs
end
section
namespace Go.Abs
open Go Go.Proofs Go.Sort
theorem Sort_calls (l : List B) (ver : Nat) (hl : l.length < 1000000) {R} (h : R (.tup []) [.vec 9 1 (strs (sortB l)) ver]) :
  ACalls Tryz.prog 134 [.slv 0 1 ver 0 l.length] [.vec 9 1 (strs l) ver] R := by
 refine packS fun G w vals hW hA => ?_
 have hI := invS hW
 obtain ⟨u, xs, e1, e2, e3, e4, e5⟩ := hW.obj 0 (.vec 9 1 (strs l) ver) rfl
 have hsl := strs_length l
 have hx : xs = l.map encStr := (strs_flat G l xs).1 e3
 subst hx
 simp only [RepL, Rep] at hA
 obtain ⟨v, _, rfl, ⟨_, u', top, q1, q2, q3⟩, rfl⟩ := hA
 rw [e1] at q1
 injection q1 with q1
 injection q1 with q1 q1'
 subst q1 q1'
 rw [hsl] at e2
 have hv : v = u := by
  obtain ⟨A, L, c, A', hu, hL, hLc, hve, hA0, _⟩ := q3 rfl
  have hA0 := hA0 rfl
  have hLl : L = l.length := by
   rcases e2.2 with ⟨hn, h0⟩ | ⟨g, cap, cur, hn, _⟩
   ·rw [hn] at hu; injection hu with _ q2 _; omega
   ·rw [hn] at hu; injection hu with _ q2 _; omega
  rw [hve, hu, hLl, hA0]; rfl
 subst hv
 have hsort : (sortB l).length = l.length := by simp [sortB]
 have hsls := strs_length (sortB l)
 have hok : ∀ e ∈ strs (sortB l), e.length = 1 ∧ okCells e = true := fun e he => by
  obtain ⟨s, _, rfl⟩ := List.mem_map.1 he
  exact ⟨rfl, rfl⟩
 rcases e2.2 with ⟨rfl, hz⟩ | ⟨g, cap, cur, rfl, hbase, hgb, r1, r2, r3, r4⟩
 ·have hnil : l = [] := List.eq_nil_of_length_eq_zero hz
  subst hnil
  refine (Tryz.slices_Sort_string_none none 0 w).mono ?_
  rintro e w' ⟨rfl, rfl⟩
  refine ⟨_, .tup [], _, G, rfl, h, by simp only [Rep]; exact ⟨[], rfl, by simp [RepL]⟩, ?_, ?_, by simp [AV.names, namesL]⟩
  ·have : sortB ([] : List B) = [] := by simp [sortB]
   rw [this]
   exact hI
  ·intro i o ho m hm
   cases i with
   | zero => simp at ho; subst ho; simp [objNames] at hm
   | succ i => simp at ho
 ·have hH := holds_of_block (w := w) (ss := l) hgb (by simpa using r4)
  have hglt : g < w.heap.size := (Array.getElem?_eq_some_iff.1 hgb).1
  refine (Tryz.slices_Sort_string g 0 cap l w hH hglt (by omega)).mono ?_
  rintro e w' ⟨rfl, n, os, rfl⟩
  have hown := ownsRow_sorted (n := n) (os := os) (ss := l) (ts := sortB l) hsort hbase hgb r1 r2 (by simpa using r3)
  have hgr := grownBy_sorted (w := w) (g := g) (n := n) (os := os) (sortB l).toArray
  have hat : ∀ b, G.at 0 b ↔ b = g := fun b => by
   constructor
   ·rintro (h1 | ⟨u1, t1, h1, h2⟩)
    ·rw [e1] at h1; cases h1
    ·rw [e1] at h1; cases h1; simp [Value.ownBlock] at h2; exact h2.symm
   ·rintro rfl; exact .inr ⟨_, _, e1, rfl⟩
  have heq : (⟨G.K, addOb G.ob 0 (.rowv (.slice (some ⟨g, 0, none⟩) l.length cap) ver)⟩ : Gh) = G := by
   cases G with
   | mk K ob =>
    congr 1
    funext m
    by_cases hm : m = 0
    ·subst hm; simp [addOb]; exact e1.symm
    ·simp [addOb, hm]
  have hI' := hI.setObj (w' := grow (putRow encStr (Sort.ahead w n) g 0 (sortB l).toArray) os) (n := 0) (o := .vec 9 1 (strs l) ver) (o' := .vec 9 1 (strs (sortB l)) ver) (objs' := numbered 0 [.vec 9 1 (strs (sortB l)) ver]) (g := .rowv (.slice (some ⟨g, 0, none⟩) l.length cap) ver) (K' := G.K)
   rfl hgr.os hgr.tape hgr.output hgr.size (fun b hb hnat => hgr.block b hb (fun e => hnat ((hat b).2 (by injection e)))) (fun _ _ _ _ => rfl)
   (by rw [heq]; exact Gh.le.refl G)
   (fun b o v hb ev => by
    rcases hb with hb | hb
    ·have := hI.wr.kltb ev; omega
    ·rw [(hat b).1 hb, e5 g rfl o] at ev; cases ev)
   (fun m => by
    by_cases hm : m = 0
    ·subst hm; rfl
    ·simp only [hm, if_false]
     have : Nat.beq 0 m = false := by
      cases m with
      | zero => exact absurd rfl hm
      | succ m => rfl
     simp [numbered, objGet, this])
   (by
    rw [heq]
    refine ⟨_, (sortB l).map encStr, e1, by rw [hsls, hsort]; exact hown, (strs_flat _ _ _).2 rfl, hok, fun g' hg' o => ?_⟩
    simp [Value.ownBlock] at hg'
    subst hg'
    exact e5 _ rfl o)
   (fun b hb => by rw [heq] at hb; exact .inr hb)
  rw [heq] at hI'
  refine ⟨_, .tup [], _, G, rfl, h, by simp only [Rep]; exact ⟨[], rfl, by simp [RepL]⟩, hI', ?_, by simp [AV.names, namesL]⟩
  intro i o ho m hm
  cases i with
  | zero => simp at ho; subst ho; simp [objNames] at hm
  | succ i => simp at ho
end Go.Abs
end
section
namespace Go.Abs
open Go Go.Proofs Go.Sort Go.Maps
theorem sorts_wide (m : Nat) : Kx.SortsIn Fence.wide m :=
 ⟨fun blk off cap ss W hH hblk hsz => callsIn_wide.2 (Tryz.slices_Sort_string blk off cap ss W hH hblk hsz),
  fun p cap W => callsIn_wide.2 (Tryz.slices_Sort_string_none p cap W)⟩
end Go.Abs
end
section
namespace Go.Abs
open Go Go.Proofs
section assoc
variable {α : Type}
def amap (e : α → AV) (m : List (B × α)) : List (ByteArray × AV) := m.map fun p => (ofB p.1, e p.2)
def lk : List (B × α) → B → Option α
 | [], _ => none
 | (s, v) :: m, k => if s = k then some v else lk m k
def pt : List (B × α) → B → α → List (B × α)
 | [], k, v => [(k, v)]
 | (s, u) :: m, k, v => if s = k then (k, v) :: m else (s, u) :: pt m k v
def dl : List (B × α) → B → List (B × α)
 | [], _ => []
 | (s, u) :: m, k => if s = k then m else (s, u) :: dl m k
def kys (m : List (B × α)) : List B := m.map (·.1)
theorem amap_find (e : α → AV) (m : List (B × α)) (k : B) : mapFind (amap e m) (ofB k) = (lk m k).map e := by
 induction m with
 | nil => rfl
 | cons p m ih =>
  obtain ⟨s, v⟩ := p
  show (if ofB s = ofB k then some (e v) else mapFind (amap e m) (ofB k)) = _
  rw [ih]
  by_cases h : s = k
  ·subst h; simp [lk]
  ·have : ofB s ≠ ofB k := fun x => h (ofB_inj x)
   simp [lk, h, this]
theorem amap_put (e : α → AV) (m : List (B × α)) (k : B) (v : α) : mapPut (amap e m) (ofB k) (e v) = amap e (pt m k v) := by
 induction m with
 | nil => rfl
 | cons p m ih =>
  obtain ⟨s, u⟩ := p
  show (if ofB s = ofB k then (ofB k, e v) :: amap e m else (ofB s, e u) :: mapPut (amap e m) (ofB k) (e v)) = _
  rw [ih]
  by_cases h : s = k
  ·subst h; simp [pt, amap]
  ·have : ofB s ≠ ofB k := fun x => h (ofB_inj x)
   simp [pt, h, this, amap]
theorem amap_del (e : α → AV) (m : List (B × α)) (k : B) : mapDel (amap e m) (ofB k) = amap e (dl m k) := by
 induction m with
 | nil => rfl
 | cons p m ih =>
  obtain ⟨s, u⟩ := p
  show (if ofB s = ofB k then amap e m else (ofB s, e u) :: mapDel (amap e m) (ofB k)) = _
  rw [ih]
  by_cases h : s = k
  ·subst h; simp [dl, amap]
  ·have : ofB s ≠ ofB k := fun x => h (ofB_inj x)
   simp [dl, h, this, amap]
theorem lk_some {m : List (B × α)} {k : B} {v : α} (h : lk m k = some v) : (k, v) ∈ m := by
 induction m with
 | nil => cases h
 | cons p m ih =>
  obtain ⟨s, u⟩ := p
  simp only [lk] at h
  split at h
  ·rename_i e; subst e; cases h; simp
  ·exact List.mem_cons_of_mem _ (ih h)
theorem lk_none {m : List (B × α)} {k : B} : lk m k = none ↔ k ∉ kys m := by
 induction m with
 | nil => simp [lk, kys]
 | cons p m ih =>
  obtain ⟨s, u⟩ := p
  by_cases e : s = k
  ·subst e; simp [lk, kys]
  ·have : k ≠ s := fun x => e x.symm
   simp only [lk, e, if_false, ih, kys, List.map_cons, List.mem_cons, this, false_or]
theorem lk_mem {m : List (B × α)} {k : B} (h : k ∈ kys m) : ∃ v, lk m k = some v := by
 cases e : lk m k with
 | none => exact absurd h (lk_none.1 e)
 | some v => exact ⟨v, rfl⟩
theorem lk_key {m : List (B × α)} {k : B} {v : α} (h : lk m k = some v) : k ∈ kys m := List.mem_map_of_mem (f := (·.1)) (lk_some h)
theorem lk_pt (m : List (B × α)) (k j : B) (v : α) : lk (pt m k v) j = if k = j then some v else lk m j := by
 induction m with
 | nil => simp [pt, lk]
 | cons p m ih =>
  obtain ⟨s, u⟩ := p
  by_cases e : s = k
  ·subst e
   simp only [pt, if_true, lk]
   split <;> rfl
  ·simp only [pt, e, if_false, lk, ih]
   by_cases e2 : s = j
   ·subst e2; simp [Ne.symm e]
   ·simp [e2]
theorem kys_pt {m : List (B × α)} {k : B} {v : α} (h : k ∈ kys m) : kys (pt m k v) = kys m := by
 induction m with
 | nil => simp [kys] at h
 | cons p m ih =>
  obtain ⟨s, u⟩ := p
  by_cases e : s = k
  ·subst e; simp [pt, kys]
  ·have h2 : k ∈ kys m := by
    simp only [kys, List.map_cons, List.mem_cons] at h
    exact h.resolve_left (Ne.symm e)
   have := ih h2
   unfold kys at this ⊢
   simp only [pt, e, if_false, List.map_cons, this]
theorem kys_pt_new {m : List (B × α)} {k : B} {v : α} (h : k ∉ kys m) : pt m k v = m ++ [(k, v)] := by
 induction m with
 | nil => rfl
 | cons p m ih =>
  obtain ⟨s, u⟩ := p
  have h1 : s ≠ k := fun e => h (by simp [kys, e])
  have h2 : k ∉ kys m := fun e => h (by unfold kys at e ⊢; simp [e])
  simp [pt, h1, ih h2]
theorem mem_kys_pt {m : List (B × α)} {k j : B} {v : α} : j ∈ kys (pt m k v) ↔ j = k ∨ j ∈ kys m := by
 by_cases h : k ∈ kys m
 ·rw [kys_pt h]
  exact ⟨fun x => .inr x, fun x => x.elim (fun e => e ▸ h) id⟩
 ·rw [kys_pt_new h]; unfold kys; simp [or_comm]
theorem nodup_pt {m : List (B × α)} {k : B} {v : α} (hn : (kys m).Nodup) : (kys (pt m k v)).Nodup := by
 by_cases h : k ∈ kys m
 ·rw [kys_pt h]; exact hn
 ·rw [kys_pt_new h]
  unfold kys at *
  simp only [List.map_append, List.map_cons, List.map_nil]
  exact List.nodup_append.2 ⟨hn, by simp, fun a ha b hb => by
   simp only [List.mem_cons, List.not_mem_nil, or_false] at hb
   subst hb
   exact fun e => h (e ▸ ha)⟩
theorem dl_sub {m : List (B × α)} {k : B} : (dl m k).Sublist m := by
 induction m with
 | nil => simp [dl]
 | cons p m ih =>
  obtain ⟨s, u⟩ := p
  simp only [dl]
  split
  ·exact List.sublist_cons_self _ _
  ·exact ih.cons_cons _
theorem nodup_dl {m : List (B × α)} {k : B} (hn : (kys m).Nodup) : (kys (dl m k)).Nodup := (dl_sub.map _).nodup hn
theorem pt_length (m : List (B × α)) (k : B) (v : α) : (pt m k v).length ≤ m.length + 1 := by
 induction m with
 | nil => simp [pt]
 | cons p m ih =>
  obtain ⟨s, u⟩ := p
  simp only [pt]
  split <;> simp; omega
theorem dl_length (m : List (B × α)) (k : B) : (dl m k).length ≤ m.length := dl_sub.length_le
theorem pt_mem {m : List (B × α)} {k : B} {v : α} {p : B × α} (h : p ∈ pt m k v) : p = (k, v) ∨ p ∈ m := by
 induction m with
 | nil => simpa [pt] using h
 | cons q m ih =>
  obtain ⟨s, u⟩ := q
  simp only [pt] at h
  split at h
  ·rcases List.mem_cons.1 h with h | h
   ·exact .inl h
   ·exact .inr (List.mem_cons_of_mem _ h)
  ·rcases List.mem_cons.1 h with h | h
   ·exact .inr (by rw [h]; simp)
   ·exact (ih h).imp id (List.mem_cons_of_mem _)
end assoc
structure Fl where
 b : B
 safe : Nat
def flZ : Fl := ⟨[], 0⟩
abbrev FM := List (B × Fl)
def gF (m : FM) (k : B) : Fl := (lk m k).getD flZ
structure FSt where
 fs : FM
 fail : Int
 fall : Int
 down : Bool
def fs0 : FSt := ⟨[], -1, -1, false⟩
def cnt (a : Int) : Int := if a - 1 < -1 then -1 else a - 1
def FSt.act (s : FSt) (late : Bool) (g : FM → FM) : FSt × Int :=
 if s.fall = 0 then (⟨if late then g s.fs else s.fs, cnt s.fail, cnt s.fall, true⟩, 7)
 else if s.fail = 0 then (⟨s.fs, cnt s.fail, cnt s.fall, s.down⟩, 8)
 else (⟨g s.fs, cnt s.fail, cnt s.fall, s.down⟩, 0)
def addF (name b : B) (m : FM) : FM := pt m name ⟨(gF m name).b ++ b, (gF m name).safe⟩
def syncF (name : B) (m : FM) : FM := pt m name ⟨(gF m name).b, (gF m name).b.length⟩
def renF (a b : B) (m : FM) : FM := pt (dl m a) b (gF m a)
def FSt.may (s : FSt) (name : B) : Int := if s.down then 7 else if (lk s.fs name).isNone then 6 else 0
def FSt.append (s : FSt) (name b : B) : FSt × Int := if s.down then (s, 7) else s.act true (addF name b)
def FSt.sync (s : FSt) (name : B) : FSt × Int := if s.may name ≠ 0 then (s, s.may name) else s.act false (syncF name)
def FSt.rename (s : FSt) (a b : B) : FSt × Int := if s.may a ≠ 0 then (s, s.may a) else s.act false (renF a b)
def FSt.remove (s : FSt) (name : B) : FSt × Int := if s.may name ≠ 0 then (s, s.may name) else s.act false fun m => dl m name
def crashF : List B → List Int → FM → FM
 | [], _, m => m
 | n :: l, keep, m =>
  if (gF m n).safe = (gF m n).b.length then crashF l keep m
  else match keep with
   | [] => crashF l [] (pt m n ⟨(gF m n).b.take (gF m n).safe, (gF m n).safe⟩)
   | k :: keep => crashF l keep (pt m n ⟨(gF m n).b.take ((gF m n).safe + (min (max k 0) ((gF m n).b.length - (gF m n).safe : Int)).toNat), (gF m n).safe + (min (max k 0) ((gF m n).b.length - (gF m n).safe : Int)).toNat⟩)
def FSt.names (s : FSt) : List B := sortB (kys s.fs)
def FSt.crash (s : FSt) (keep : List Int) : FSt := ⟨crashF s.names keep s.fs, -1, -1, false⟩
structure FMOk (m : FM) (nb fb : Nat) : Prop where
 nodup : (kys m).Nodup
 safe : ∀ p ∈ m, p.2.safe ≤ p.2.b.length
 len : m.length ≤ nb
 bytes : ∀ p ∈ m, p.2.b.length ≤ fb
 names : ∀ n ∈ kys m, n.length < 1000000
def okN (a : Int) : Prop := -1 ≤ a ∧ a < 9223372036854775808
structure FOk (s : FSt) (nb fb : Nat) : Prop where
 m : FMOk s.fs nb fb
 fail : okN s.fail
 fall : okN s.fall
theorem FMOk.mono {m : FM} {nb fb nb' fb' : Nat} (h : FMOk m nb fb) (h1 : nb ≤ nb') (h2 : fb ≤ fb') : FMOk m nb' fb' :=
 ⟨h.nodup, h.safe, Nat.le_trans h.len h1, fun p hp => Nat.le_trans (h.bytes p hp) h2, h.names⟩
theorem FMOk.get {m : FM} {nb fb : Nat} (h : FMOk m nb fb) (k : B) : (gF m k).safe ≤ (gF m k).b.length ∧ (gF m k).b.length ≤ fb := by
 unfold gF
 cases e : lk m k with
 | none => simp [flZ]
 | some v => exact ⟨h.safe _ (lk_some e), h.bytes _ (lk_some e)⟩
theorem FMOk.put {m : FM} {nb fb fb' : Nat} (h : FMOk m nb fb) {k : B} {v : Fl} (hk : k.length < 1000000) (hs : v.safe ≤ v.b.length) (hb : v.b.length ≤ fb') (hf : fb ≤ fb') : FMOk (pt m k v) (nb + 1) fb' := by
 refine ⟨nodup_pt h.nodup, fun p hp => ?_, Nat.le_trans (pt_length m k v) (Nat.succ_le_succ h.len), fun p hp => ?_, fun n hn => ?_⟩
 ·rcases pt_mem hp with rfl | hp
  ·exact hs
  ·exact h.safe p hp
 ·rcases pt_mem hp with rfl | hp
  ·exact hb
  ·exact Nat.le_trans (h.bytes p hp) hf
 ·rcases mem_kys_pt.1 hn with rfl | hn
  ·exact hk
  ·exact h.names n hn
theorem FMOk.put_old {m : FM} {nb fb fb' : Nat} (h : FMOk m nb fb) {k : B} {v : Fl} (hk : k ∈ kys m) (hs : v.safe ≤ v.b.length) (hb : v.b.length ≤ fb') (hf : fb ≤ fb') : FMOk (pt m k v) nb fb' := by
 have h1 := h.put (h.names k hk) hs hb hf
 refine ⟨h1.nodup, h1.safe, ?_, h1.bytes, h1.names⟩
 have := congrArg List.length (kys_pt (v := v) hk)
 simp only [kys, List.length_map] at this
 rw [this]; exact h.len
theorem FMOk.del {m : FM} {nb fb : Nat} (h : FMOk m nb fb) (k : B) : FMOk (dl m k) nb fb :=
 ⟨nodup_dl h.nodup, fun p hp => h.safe p (dl_sub.subset hp), Nat.le_trans (dl_length m k) h.len, fun p hp => h.bytes p (dl_sub.subset hp), fun n hn => h.names n ((dl_sub.map _).subset hn)⟩
theorem cnt_ok {a : Int} (h : okN a) : okN (cnt a) := by
 unfold okN cnt at *; split <;> omega
theorem gF_pt (m : FM) (k j : B) (v : Fl) : gF (pt m k v) j = if k = j then v else gF m j := by
 unfold gF; rw [lk_pt]; split <;> rfl
theorem addF_ok {m : FM} {nb fb : Nat} (h : FMOk m nb fb) {name b : B} (hn : name.length < 1000000) : FMOk (addF name b m) (nb + 1) (fb + b.length) := by
 have := h.get name
 exact h.put hn (by simp; omega) (by simp; omega) (by omega)
theorem syncF_ok {m : FM} {nb fb : Nat} (h : FMOk m nb fb) {name : B} (hn : name ∈ kys m) : FMOk (syncF name m) nb fb := by
 have := h.get name
 exact h.put_old hn (by simp) (by simp; omega) (by omega)
theorem act_ok {s : FSt} {nb fb nb' fb' : Nat} (h : FOk s nb fb) (late : Bool) {g : FM → FM} (hg : FMOk (g s.fs) nb' fb') (h1 : nb ≤ nb') (h2 : fb ≤ fb') : FOk (s.act late g).1 nb' fb' := by
 unfold FSt.act
 have := h.m.mono h1 h2
 split
 ·exact ⟨by cases late <;> assumption, cnt_ok h.fail, cnt_ok h.fall⟩
 ·split
  ·exact ⟨this, cnt_ok h.fail, cnt_ok h.fall⟩
  ·exact ⟨hg, cnt_ok h.fail, cnt_ok h.fall⟩
theorem FOk.mono {s : FSt} {nb fb nb' fb' : Nat} (h : FOk s nb fb) (h1 : nb ≤ nb') (h2 : fb ≤ fb') : FOk s nb' fb' := ⟨h.m.mono h1 h2, h.fail, h.fall⟩
theorem may_mem {s : FSt} {name : B} (h : ¬ s.may name ≠ 0) : s.down = false ∧ name ∈ kys s.fs := by
 unfold FSt.may at h
 split at h
 ·simp at h
 ·rename_i hd
  split at h
  ·simp at h
  ·rename_i hl
   refine ⟨by simpa using hd, ?_⟩
   cases e : lk s.fs name with
   | none => simp [e] at hl
   | some v => exact lk_key e
theorem append_ok {s : FSt} {nb fb : Nat} (h : FOk s nb fb) {name b : B} (hn : name.length < 1000000) : FOk (s.append name b).1 (nb + 1) (fb + b.length) := by
 unfold FSt.append
 split
 ·exact h.mono (by omega) (by omega)
 ·exact act_ok h true (addF_ok h.m hn) (by omega) (by omega)
theorem sync_ok {s : FSt} {nb fb : Nat} (h : FOk s nb fb) {name : B} : FOk (s.sync name).1 nb fb := by
 unfold FSt.sync
 split
 ·exact h
 ·rename_i hm
  exact act_ok h false (syncF_ok h.m (may_mem hm).2) (by omega) (by omega)
theorem remove_ok {s : FSt} {nb fb : Nat} (h : FOk s nb fb) {name : B} : FOk (s.remove name).1 nb fb := by
 unfold FSt.remove
 split
 ·exact h
 ·exact act_ok h false (h.m.del name) (by omega) (by omega)
theorem crashF_spec {nb fb : Nat} : ∀ (l : List B) (keep : List Int) (m : FM), l.Nodup → (∀ n ∈ l, n ∈ kys m) → FMOk m nb fb →
  FMOk (crashF l keep m) nb fb ∧ kys (crashF l keep m) = kys m ∧
   (∀ n ∈ l, ∃ k, (gF m n).safe ≤ k ∧ k ≤ (gF m n).b.length ∧ gF (crashF l keep m) n = ⟨(gF m n).b.take k, k⟩) ∧ ∀ n, n ∉ l → gF (crashF l keep m) n = gF m n := by
 intro l
 induction l with
 | nil => intro keep m _ _ h; exact ⟨h, rfl, by simp, fun n _ => rfl⟩
 | cons a l ih =>
  intro keep m hnd hmem h
  obtain ⟨ha, hnd⟩ := List.nodup_cons.1 hnd
  have hg := h.get a
  have ham := hmem a (by simp)
  have key : ∀ (k : Nat) (keep' : List Int), (gF m a).safe ≤ k → k ≤ (gF m a).b.length →
    FMOk (crashF l keep' (pt m a ⟨(gF m a).b.take k, k⟩)) nb fb ∧ kys (crashF l keep' (pt m a ⟨(gF m a).b.take k, k⟩)) = kys m ∧
    (∀ n ∈ a :: l, ∃ k', (gF m n).safe ≤ k' ∧ k' ≤ (gF m n).b.length ∧ gF (crashF l keep' (pt m a ⟨(gF m a).b.take k, k⟩)) n = ⟨(gF m n).b.take k', k'⟩) ∧
    ∀ n, n ∉ a :: l → gF (crashF l keep' (pt m a ⟨(gF m a).b.take k, k⟩)) n = gF m n := by
   intro k keep' h1 h2
   obtain ⟨i1, i2, i3, i4⟩ := ih keep' (pt m a ⟨(gF m a).b.take k, k⟩) hnd (fun n hn => by rw [kys_pt ham]; exact hmem n (by simp [hn])) (h.put_old ham (by simp; omega) (by simp; omega) (by omega))
   refine ⟨i1, by rw [i2, kys_pt ham], fun n hn => ?_, fun n hn => ?_⟩
   ·rcases List.mem_cons.1 hn with rfl | hn
    ·exact ⟨k, h1, h2, by rw [i4 n ha, gF_pt, if_pos rfl]⟩
    ·have hne : a ≠ n := fun e => ha (e ▸ hn)
     obtain ⟨k', e1, e2, e3⟩ := i3 n hn
     rw [gF_pt, if_neg hne] at e1 e2 e3
     exact ⟨k', e1, e2, e3⟩
   ·have hne : a ≠ n := fun e => hn (by simp [e])
    rw [i4 n (fun e => hn (by simp [e])), gF_pt, if_neg hne]
  unfold crashF
  split
  ·rename_i hs
   obtain ⟨i1, i2, i3, i4⟩ := ih keep m hnd (fun n hn => hmem n (by simp [hn])) h
   refine ⟨i1, i2, fun n hn => ?_, fun n hn => i4 n fun e => hn (by simp [e])⟩
   rcases List.mem_cons.1 hn with rfl | hn
   ·refine ⟨(gF m n).b.length, by omega, Nat.le_refl _, ?_⟩
    rw [i4 n ha, List.take_length, ← hs]
   ·exact i3 n hn
  ·cases keep with
   | nil => exact key _ _ (Nat.le_refl _) hg.1
   | cons k keep => exact key _ _ (by omega) (by omega)
theorem names_perm (s : FSt) : s.names.Perm (kys s.fs) := List.mergeSort_perm _ _
theorem crash_spec {s : FSt} {nb fb : Nat} (h : FOk s nb fb) (keep : List Int) : FOk (s.crash keep) nb fb ∧ kys (s.crash keep).fs = kys s.fs ∧
  ∀ n ∈ kys s.fs, ∃ k, (gF s.fs n).safe ≤ k ∧ k ≤ (gF s.fs n).b.length ∧ gF (s.crash keep).fs n = ⟨(gF s.fs n).b.take k, k⟩ := by
 have hp := names_perm s
 obtain ⟨i1, i2, i3, i4⟩ := crashF_spec s.names keep s.fs (hp.nodup_iff.2 h.m.nodup) (fun n hn => hp.mem_iff.1 hn) h.m
 have hm1 : okN (-1) := by unfold okN; omega
 exact ⟨⟨i1, hm1, hm1⟩, i2, fun n hn => i3 n (hp.mem_iff.2 hn)⟩
end Go.Abs
end
section
namespace Go.Abs
open Go Go.Proofs Go.Shelf Go.RowKit
def byteEls (l : B) : List (List AV) := l.map fun c => [.val (.int .u8 c.toNat)]
end Go.Abs
end
section
namespace Go.Abs
open Go Go.Proofs
structure Ac where
 kind : Int
 name : B
 to : B
 body : B
 n : Int
 keep : List Int
def intsZ (l : List Int) : List (List AV) := l.map fun i => [vi i]
def Ac.enc (a : Ac) : List AV := [vi a.kind, vs a.name, vs a.to, .sl none 1 (byteEls a.body), vi a.n, .sl none 1 (intsZ a.keep)]
def capN (n : Int) : Int := if n < -1 then -1 else n
theorem capN_ok {n : Int} (h : -9223372036854775808 ≤ n ∧ n < 9223372036854775808) : okN (capN n) := by
 unfold okN capN; split <;> omega
end Go.Abs
end
section
namespace Go.Proofs
open Go.RowKit Go.Maps Go.Sort Go.Shelf
def vElem {H : Type} : Value → Option (DataW H × List MemPlace) := fun _ => some (.lit (.bool true), [])
set_option maxRecDepth 100000 in
set_option maxHeartbeats 1000000 in
theorem Fx.keys1N_in {H : Type} (F : Fence) (n : Nat) (h10 : F.fn 135) (hro : F.round = none) (hn : 1 ≤ n) (l Bm b nn : Nat) (D0 : DataW H) (J : List (List UInt8) → World → Prop)
  (hY : ∀ pre x W, J pre W → pre.length < Maps.size D0 → YieldAt F (n - 1) Tryz.prog l #[encStr x] W fun e W' => e = .returned (.bool true) ∧ J (pre ++ [x]) W' ∧ KeepsWalks W W')
  (W : World) (hJ : AbidesFrom W.heap.size J) (hm : W.cell? ⟨Bm, 0, none⟩ = some (.map (some b))) (hown : W.ownsMap Tryz.prog 9 vElem b nn D0) (h0 : J [] W) :
  CallsIn F n Tryz.prog 135 #[.func (.yield l) #[] #[], .pointer (some ⟨Bm, 0, none⟩)] W fun e W' => (∃ v, e = .returned v) ∧ ∃ ss : List (List UInt8), ss.Perm (strKeys D0) ∧ J ss W' := by
 refine callsIn_of_wp Tryz.func135 rfl h10 ?_ hro
 simp only [Tryz.ntmps135, List.size_toArray, List.length_cons, List.length_nil, Nat.reduceAdd, Nat.reduceSub, Array.replicate_succ, Array.replicate_zero, List.push_toArray, List.append_toArray, List.nil_append, List.cons_append]
 gi_wp2_with (first
  | (gi_at_range; refine wpListIn_range_own _ rfl _ 97 rfl 9 121 Kx.law26 Tryz.underlying97 _ b nn _ rfl hown ?_; intro w0 hrg0 hg0 hs0)
  | gi_in)
 go_frame
 gi_loopw [3] (fun _ wr => ∃ (left : Lit → Bool) (cnt : Nat) (ss : List (List UInt8)), wr.ranges Tryz.prog 9 vElem b W.heap.size nn D0 left cnt ∧ ss.length + cnt ≤ Maps.size D0 ∧ Collected D0 left ss ∧ J ss wr)
  (fun _ wr => wr.rangeLeft b W.heap.size)
 case atStart =>
  exact ⟨_, _, [], hrg0, by simp, Collected.start D0, hJ [] W w0 none h0 hg0 (fun r e => by cases e)⟩
 case round =>
  obtain ⟨left, cnt, ss, hrg, hcs, hC, hJs⟩ := hrel
  gi_wp2_with (first
   | (gi_at_next; refine wpListIn_next_ranges _ rfl _ rfl 9 Kx.law26 vElem encStr (fun v : Value => v) (fun key kl hk => by obtain ⟨x, hx, _⟩ := Maps.keyOf_str Tryz.underlying9 hk; exact ⟨x, hx⟩) (fun v y hv => ⟨v, rfl⟩) b W.heap.size nn _ _ _ rfl hrg ?_ ?_)
   | gi_in)
  ·-- NOTHING IS LEFT
   intro hc0 hl0
   gi_wp2
   go_end0
   exact ⟨⟨_, rfl⟩, ss, hC.perm hown Kx.law26 Tryz.underlying9 hl0, hJs⟩
  ·-- AN ENTRY HAS COME: yield(k)
   intro x c kl yd yp w2 cnt2 hkey hlk hv hat hrg2 hlt hg2 hs2 hen
   obtain ⟨x', ex, rfl, _⟩ := Maps.keyOf_str Tryz.underlying9 hkey
   obtain rfl : x = x' := encStr_inj ex
   have hJ2 : J ss w2 := hJ ss wr w2 (some W.heap.size) hJs hg2 (fun r e => by cases e; exact ⟨Nat.le_refl _, hrg.iter_walk⟩)
   obtain ⟨fn, tmps, assign, body, hy, hR⟩ := hY ss x w2 hJ2 (by omega)
   clear hs2
   gi_wp2
   refine hR.mono ?_
   rintro e W3 ⟨rfl, hJ3, hk3⟩
   gi_wp2
   have hrg3 := hrg2.of_walks hk3
   go_roundw
   case rel => exact ⟨_, cnt2, ss ++ [x], hrg3, by simp; omega, hC.step hlk hat, hJ3⟩
   case measure => rw [hrg3.left_eq, hrg.left_eq]; exact hlt
theorem Fx.keys_gives {H : Type} (F : Fence) (n : Nat) (h10 : F.fn 135) (hro : F.round = none) (hn : 1 ≤ n) (Bm b nn : Nat) (D0 : DataW H) (w : World) (hBm : Bm < w.heap.size)
  (hm : w.cell? ⟨Bm, 0, none⟩ = some (.map (some b))) (hown : w.ownsMap Tryz.prog 9 vElem b nn D0) :
  SeqGives F n Tryz.prog 135 #[.pointer (some ⟨Bm, 0, none⟩)] encStr (fun ss => ss.Perm (strKeys D0)) (Maps.size D0) w := fun l J W hW hJ hY h0 => by
 have hown' : W.ownsMap Tryz.prog 9 vElem b nn D0 := by
  have hbl := hown.lt
  obtain ⟨es, clock, hb, Ft, hs, hD⟩ := hown
  exact ⟨es, clock, (hW.block b hbl).trans hb, Ft, hs, hD⟩
 exact Fx.keys1N_in F n h10 hro hn l Bm b nn D0 J hY W hJ ((hW.cell (p := ⟨Bm, 0, none⟩) hBm).trans hm) hown' h0
end Go.Proofs
namespace Go.Abs
open Go Go.Proofs Go.Sort Go.Maps
def fEnc (x : Fl) : AV := .agg [.sl none 1 (byteEls x.b), vi (x.safe : Int)]
theorem fmap_keys {G : Gh} : ∀ {m : FM} {ms : List MapEntry}, MapR G (amap fEnc m) ms → ms.map (·.key) = (kys m).map encStr
 | [], [], _ => rfl
 | [], _ :: _, h => by simp [amap, MapR] at h
 | _ :: _, [], h => by simp [amap, MapR] at h
 | a :: m, x :: ms, h => by
  obtain ⟨⟨h1, _⟩, h2, h3⟩ : (x.key = .string (ofB a.1) ∧ _) ∧ Rep G (fEnc a.2) x.val ∧ MapR G (amap fEnc m) ms := h
  have i1 := fmap_keys h3
  rw [List.map_cons, i1, h1]
  rfl
theorem fKeys_calls (es : List (ByteArray × AV)) {R} (h : R (.fn (.func 135) [] [.ptr 1 0]) [.map es, .cells 97 [.mapv 0]]) :
  ACalls Tryz.prog 88 [.mapv 0] [.map es] R := by
 refine acalls_of_xwp (an := an88) tab_ok Tryz.func88 ?_
 conv => whnf
 exact h
theorem fowns_of {H : Type} {G : Gh} {w : World} {b : Nat} {ms : Array MapEntry} {clock : Nat} {m : FM} (hb : w.heap[b]? = some (.map ms clock)) (hr : MapR G (amap fEnc m) ms.toList) (hok : MapOk ms clock) (hnd : (kys m).Nodup)
  (hl : (kys m).length ≤ maxLen) (hs : ∀ s ∈ (kys m), s.length ≤ maxLen) : ∃ D0 : DataW H, w.ownsMap Tryz.prog 9 vElem b (kys m).length D0 ∧ Maps.size D0 = (kys m).length ∧ (strKeys D0).Perm (kys m) := by
 have k1 := fmap_keys hr
 have hsz : ms.size = (kys m).length := by
  have := congrArg List.length k1
  simpa using this
 have hread : ∀ x ∈ ms.toList, ∃ s ∈ (kys m), x.key = encStr s ∧ Go.WideElems.rd Tryz.prog 9 (vElem (H := H)) x = some (Lit.string s, DataW.lit (.bool true)) := fun x hx => by
  have hk : x.key ∈ (kys m).map encStr := by rw [← k1]; exact List.mem_map_of_mem hx
  obtain ⟨s, hsl, hsk⟩ := List.mem_map.1 hk
  refine ⟨s, hsl, hsk.symm, ?_⟩
  have h1 : keyOf Tryz.prog 9 x.key = some (.string s) := by
   rw [← hsk]
   have := hs s hsl
   simp [keyOf, mapKey, Tryz.underlying9, encStr]
   exact this
  have h2 : vElem (H := H) x.val = some (.lit (.bool true), []) := rfl
  simp [Go.WideElems.rd, h1, h2]
 have hfit : Go.WideElems.Fit Tryz.prog 9 (vElem (H := H)) ms clock := by
  refine ⟨by omega, ⟨hok.2, hok.1, ?_⟩, fun x hx => ?_⟩
  ·rw [k1]
   refine (List.pairwise_map.2 (hnd.imp fun hne e => hne (encStr_inj e)))
  ·obtain ⟨s, _, _, h⟩ := hread x hx
   exact ⟨_, h⟩
 refine ⟨_, ⟨ms, clock, hb, hfit, by omega, rfl⟩, ?_, ?_⟩
 ·simp [Maps.size, length_sorted, hsz]
 ·show (((ms.toList.map _).foldr DataW.insert []).map fun p => strOf p.1).Perm (kys m)
  refine ((Go.WideShapes.sorted_perm _).map _).trans ?_
  rw [List.map_map]
  have : (ms.toList.map ((fun p : Lit × DataW H => strOf p.1) ∘ Go.WideElems.rg Tryz.prog 9 (vElem (H := H)))) = (kys m) := by
   have h1 : ∀ x ∈ ms.toList, encStr (((fun p : Lit × DataW H => strOf p.1) ∘ Go.WideElems.rg Tryz.prog 9 (vElem (H := H))) x) = x.key := fun x hx => by
    obtain ⟨s, _, h2, h3⟩ := hread x hx
    simp only [Function.comp]
    rw [Go.WideElems.rg_of h3, h2]
    rfl
   have h2 : (ms.toList.map ((fun p : Lit × DataW H => strOf p.1) ∘ Go.WideElems.rg Tryz.prog 9 (vElem (H := H)))).map encStr = (kys m).map encStr := by
    rw [← k1, List.map_map]
    exact List.map_congr_left h1
   exact List.map_inj_right (f := encStr) (fun _ _ e => encStr_inj e) |>.1 h2
  rw [this]
theorem fSorted_calls (m : FM) (hl : (kys m).length < 1000000) (hs : ∀ s ∈ (kys m), s.length < 1000000) (hnd : (kys m).Nodup) {R} (h : R (.sl none 1 (strs (sortB (kys m)))) [.cells 97 [.mapv 1], .map (amap fEnc m)]) :
  ACalls Tryz.prog 87 [.fn (.func 135) [] [.ptr 0 0]] [.cells 97 [.mapv 1], .map (amap fEnc m)] R := by
 have h47 : 1000000 ≤ maxLen := by unfold maxLen; omega
 refine packS fun G w vals hW hA => ?_
 have hI := invS hW
 obtain ⟨bm, vs, e1, e2, e3, e4⟩ := hW.obj 0 (.cells 97 [.mapv 1]) rfl
 obtain ⟨b, ms, clock, m1, m2, m3, m4, m5⟩ := hW.obj 1 (.map (amap fEnc m)) rfl
 simp only [RepL, Rep] at hA e3
 obtain ⟨_, _, rfl, ⟨vf, us, rfl, rfl, v1, us1, rfl, ⟨b', hb', rfl⟩, rfl⟩, rfl⟩ := hA
 obtain ⟨_, _, rfl, ⟨b2, hb2, rfl⟩, rfl⟩ := e3
 rw [e1] at hb'; cases hb'
 rw [m1] at hb2; cases hb2
 obtain ⟨D0, hown, hDs, hDk⟩ := fowns_of (H := Unit) m2 m3 m5 hnd (by omega) (fun s hx => by have := hs s hx; omega)
 have hbm : bm < w.heap.size := (Array.getElem?_eq_some_iff.1 e2).1
 have hcell : w.cell? ⟨bm, 0, none⟩ = some (.map (some b)) := by rw [cell_row e2 0]; rfl
 have hseq := Fx.keys_gives Fence.wide (6 - 1 - 1 - 1) trivial rfl (by omega) bm b (kys m).length D0 w hbm hcell hown
 refine (callsIn_wide.1 (Kx.sorted_in Fence.wide 6 trivial trivial trivial trivial rfl (by omega) (sorts_wide _) _ _ trivial (enters_of Tryz.func135 (by kernel_rfl) rfl) _ _ (by omega) (by omega) w hseq)).mono ?_
 rintro e w' ⟨v, ss, rfl, hperm, hrow, hnil, hbl⟩
 have hpl : ss.Perm (kys m) := hperm.trans hDk
 have hsort : (ss.mergeSort fun x y => decide (x ≤ y)) = sortB (kys m) := mergeSort_of_perm hpl
 rw [hsort] at hrow
 have hlen : ss.length = (sortB (kys m)).length := by rw [hpl.length_eq]; simp [sortB]
 rw [hlen] at hrow
 have hsls := strs_length (sortB (kys m))
 have hob : ∀ (i : Nat) (o : AObj), [AObj.cells 97 [.mapv 1], .map (amap fEnc m)][i]? = some o → ∀ m ∈ objNames o, m < 2 := by
  intro i o ho m hm
  match i, ho with
  | 0, ho => simp at ho; subst ho; have hm : m = 1 := (by simpa [objNames, namesL, AV.names] using hm); subst hm; decide
  | 1, ho => simp at ho; subst ho; simp [objNames] at hm
 rcases hrow.2 with ⟨rfl, hz⟩ | ⟨g, cap, cur, rfl, hbase, hgb, r1, r2, r3, r4⟩
 ·have hnil : sortB (kys m) = [] := List.eq_nil_of_length_eq_zero hz
  obtain ⟨hI', hle⟩ := hI.grow (w' := w') (K' := G.K) hbl.os hbl.tape hbl.output hbl.size (fun b hb => hbl.block b hb) (fun _ _ _ => rfl) (fun b o v hb ev => by have := hI.wr.kltb ev; omega)
  refine ⟨_, _, _, _, rfl, h, ?_, hI', hob, by simp [AV.names]⟩
  rw [hnil]
  simp only [Rep, strs, List.map_nil]
  exact ⟨⟨none, 0, rfl, Nat.le_refl _, trivial⟩, trivial⟩
 ·have htake : ∀ (j : Nat) (s : B), (sortB (kys m))[j]? = some s → cur[j]? = some (encStr s) := fun j s hj => by
   have h1 : (cur.toList.take ((sortB (kys m)).length * 1))[j]? = some (encStr s) := by rw [r4]; simp [hj]
   have hjl := (List.getElem?_eq_some_iff.1 hj).1
   rw [List.getElem?_take, if_pos (by omega)] at h1
   simpa using h1
  obtain ⟨hI', hle⟩ := hI.grow (w' := w') (K' := addK G.K g cur.toList) hbl.os hbl.tape hbl.output hbl.size (fun b hb => hbl.block b hb) (fun b o hb => by
    have : b ≠ g := by omega
    show (if b = g then _ else _) = _
    rw [if_neg this]) (fun b o v hb ev => by
    by_cases e : b = g
    ·subst e
     simp only [addK, if_true] at ev
     rw [cell_row hgb]
     simpa using ev
    ·simp only [addK, e, if_false] at ev
     have := hI.wr.kltb ev; omega)
  refine ⟨_, _, _, _, rfl, h, ?_, hI', hob, by simp [AV.names]⟩
  simp only [Rep]
  rw [hsls]
  refine ⟨⟨_, cap, rfl, r1, repE_strs _ _ fun j s hj => ?_⟩, trivial⟩
  simp [addK, htake j s hj]
end Go.Abs
end
section
namespace Go.Abs
open Go Go.Proofs Go.RowKit Go.Lib
attribute [local irreducible] ibits byteAt strLt firstIdx
theorem bel_length (l : B) : (byteEls l).length = l.length := by simp [byteEls]
theorem bel_append (l m : B) : byteEls (l ++ m) = byteEls l ++ byteEls m := by simp [byteEls]
theorem bel_bytes : (tab.ti 5).bytes = 1 := rfl
theorem bel_nil {b : B} (h : byteEls b = []) : b = [] := by
 cases b with
 | nil => rfl
 | cons a l => simp [byteEls] at h
theorem bClone_calls (b : B) (hb : b.length < 100000000) {R} (h : R (.sl none 1 (byteEls b)) []) : ACalls Tryz.prog 70 [.sl none 1 (byteEls b)] [] R := by
 refine ACalls.res ?_
 refine acalls_of_xwp (an := an70) tab_ok Tryz.func70 ?_
 have hsl := bel_length b
 conv => whnf
 intro p hp
 refine br_intro (fun g => ?_) (fun g => ?_)
 ·have e := bel_nil (hp g)
  subst e
  conv => whnf
  exact res_le (le_nil 1) rfl h
 ·conv => whnf
  refine ⟨rfl, (by show (0 + (byteEls b).length) * (1 + 1) ≤ _; omega), ?_⟩
  conv => whnf
  rw [show [] ++ byteEls b = byteEls b from rfl]
  exact res_same h
theorem u8_info : (Tryz.prog.info? 5).map (fun i => (i.zero, i.size, i.bytes)) = some (some (.int .u8 0), 1, 1) := by kernel_rfl
theorem grow_room (w : World) : Calls Tryz.prog 176 #[.slice none 0 0, .int .i64 0] w fun e w' => e = .returned (.slice none 0 0) ∧ w' = w := by
 have mixed := mixed_ok
 go_enter Tryz.func176, Tryz.ntmps176
 go_wp2
 go_ret
 exact ⟨rfl, rfl⟩
theorem grow_new (n : Nat) (h0 : 0 < n) (hn : n ≤ 1000000000) (w : World) : Calls Tryz.prog 176 #[.slice none 0 0, .int .i64 n] w fun e w' =>
  e = .returned (.slice (some ⟨w.heap.size, 0, none⟩) 0 (grownCap w n 0 5)) ∧ ∃ cur, w' = w.drew.alloc (.cells cur 5) ∧ cur.size = grownCap w n 0 5 := by
 obtain ⟨i0, hi, hz0, hz1, hz2⟩ := info_parts u8_info
 have mixed := mixed_ok
 have h1 : ¬ ((n : Int) < 0) := by omega
 have h2 : wrap64 ((n : Int) - wrap64 (((0 : Nat) : Int) - ((0 : Nat) : Int))) = (n : Int) := by unfold wrap64; omega
 have h4 : (n : Int) > 0 := by omega
 have hold : (Builtin.firstCells i0.size 0 (.slice none 0 0)).run Tryz.prog w.drew = .ok ([] : List Value).toArray w.drew := run_firstCells_none w.drew i0.size 0 0 0
 have hrz : ∀ ty, (Builtin.append_ #[82, 3] ty #[.slice none 0 0, .int .i64 (n : Int)]).run Tryz.prog w =
   .ok (.slice (some ⟨w.heap.size, 0, none⟩) n (grownCap w n 0 5)) (w.drew.alloc (.cells (([] : List Value).toArray ++ Builtin.zeroCells (Value.int .u8 0).cells n ++ Builtin.zeroCells (Value.int .u8 0).cells (grownCap w n 0 5 - n)) 5)) := fun ty => by
  have h := Lib.run_append_grow_zeros w 82 3 ty 5 i0 (.int .u8 0) .i64 .i64 Tryz.underlying82 Tryz.underlying3 hi hz0 none 0 0 [] hold n h0 (by omega) (by omega) (by omega)
   (by rw [hz2]; omega) (by rw [Nat.zero_add]; exact growslice_fits (by omega) (by rw [hz2]; omega))
  simpa using h
 have hGn : n ≤ grownCap w n 0 5 := grownCap_ge w _ _ _
 obtain ⟨G, hG⟩ : ∃ G, G = grownCap w n 0 5 := ⟨_, rfl⟩
 rw [← hG] at hrz hGn ⊢
 have hG63 : G ≤ 9223372036854775807 := by
  have := grownCap_le_maxLen w n 0 5 (by unfold maxLen; omega)
  rw [← hG] at this
  unfold maxLen at this
  omega
 clear hold hG
 go_enter Tryz.func176, Tryz.ntmps176
 go_wp2_with (at_builtin; refine Lib.wpList_append_run _ rfl _ _ _ _ rfl _ _ rfl rfl _ _ (hrz _) ?_)
 all_goals (go_ret; exact ⟨rfl, _, rfl, by simp [size_zeroCells]; omega⟩)
end Go.Abs
end
section
namespace Go.Abs
open Go Go.Proofs
attribute [local irreducible] ibits byteAt strLt firstIdx
theorem groups_calls (n : Nat) {R} (h : R (.fn (.func 241) [] [.ptr 0 0]) [.cells 64 [.val (.int .u64 (n : Int))]]) : ACalls Tryz.prog 233 [.val (.int .u64 (n : Int))] [] R := by
 refine acalls_of_xwp (an := an233) tab_ok Tryz.func233 ?_
 conv => whnf
 exact h
theorem bCloneO_calls (b : B) (hb : b.length < 100000000) {R} (h1 : b = [] → R (.val (.slice none 0 0)) []) (h : R (.sl (some 0) 1 (byteEls b)) [.row 5 1 b.length]) : ACalls Tryz.prog 70 [.sl none 1 (byteEls b)] [] R := by
 refine acalls_of_xwp (an := { an70 with keepRes := true }) tab_ok Tryz.func70 ?_
 have hsl := bel_length b
 conv => whnf
 intro p hp
 refine br_intro (fun g => ?_) (fun g => ?_)
 ·have e := bel_nil (hp g)
  conv => whnf
  exact h1 e
 ·conv => whnf
  refine ⟨rfl, (by show (0 + (byteEls b).length) * (1 + 1) ≤ _; omega), ?_⟩
  conv => whnf
  rw [show [] ++ byteEls b = byteEls b from rfl, hsl, show [].length + b.length = b.length by simp]
  exact h
theorem vrnA_get {n i : Nat} {x : List AV} (h : (vrnA n)[i]? = some x) : ∃ c : UInt8, (vrn n)[i]? = some c ∧ x = [.val (.int .u8 (c.toNat : Int))] := by
 unfold vrnA at h
 rw [List.getElem?_map, Option.map_eq_some_iff] at h
 obtain ⟨c, hc, rfl⟩ := h
 exact ⟨c, hc, rfl⟩
theorem take_snoc {l : B} {i : Nat} {c : UInt8} (h : l[i]? = some c) : l.take (i + 1) = l.take i ++ [c] := by
 obtain ⟨hi, rfl⟩ := List.getElem?_eq_some_iff.1 h
 rw [List.take_succ_eq_append_getElem hi]
def vpS : List AV := [.junk, .junk, .junk, .junk, .junk, .ptr (nameOf 5) 0, .junk, .junk, .junk, .junk, .junk, .junk, .junk, .junk, .junk, .junk, .junk]
theorem vPut_calls (b : B) (n : Nat) (hn : n < 18446744073709551616) (hb : b.length < 10000000) {R} (h : R (.sl (some 0) 1 (byteEls (b ++ vrn n))) [.row 5 1 (b ++ vrn n).length]) : ACalls Tryz.prog 216 [.sl none 1 (byteEls b), .val (.int .u64 (n : Int))] [] R := by
 refine acalls_of_xwp (an := { an216 with keepRes := true }) tab_ok Tryz.func216 ?_
 have hvl := vrn_u64 hn
 have hpos := vrn_pos n
 have hlen : ∀ x ∈ vrnA n, x.length = 1 := fun x hx => by
  obtain ⟨c, _, rfl⟩ := List.mem_map.1 hx
  rfl
 have hvA : (vrnA n).length = (vrn n).length := by simp [vrnA]
 conv => whnf
 refine bCloneO_calls b (by omega) (fun hb0 => ?_) ?_
 ·subst hb0
  conv => whnf
  refine groups_calls n ?_
  conv => whnf
  refine .inr ?_
  conv => whnf
  refine ⟨vrnA n, groups_iter n hn, hlen, ?_⟩
  refine ⟨fun i s => (i = 0 ∧ s = ⟨vpS, [(nameOf 5, .cells 82 [.val (.slice none 0 0)])]⟩) ∨ (0 < i ∧ ∃ o, o = (vrn n).take i ∧ s = ⟨vpS, [(nameOf 5, .cells 82 [.sl (some (nameOf 15)) 1 (byteEls o)]), (nameOf 15, .row 5 1 o.length)]⟩), .inl ⟨rfl, rfl⟩, ?_, ?_⟩
  ·rintro i x s hx (⟨rfl, rfl⟩ | ⟨hi, o, ho, rfl⟩)
   ·obtain ⟨c, hc, rfl⟩ := vrnA_get hx
    conv => whnf
    refine ⟨(by rw [bel_bytes]; decide : 1 * ((tab.ti 5).bytes + 1) ≤ 140737488355328), ?_⟩
    conv => whnf
    exact .inr ⟨by omega, [c], by rw [take_snoc hc]; simp, rfl⟩
   ·obtain ⟨c, hc, rfl⟩ := vrnA_get hx
    have hol : o.length ≤ 10 := by rw [ho, List.length_take]; omega
    have hbl := bel_length o
    conv => whnf
    refine ⟨hbl.symm, by rw [hbl, bel_bytes]; simp; omega, ?_⟩
    conv => whnf
    refine .inr ⟨by omega, o ++ [c], by rw [ho, take_snoc hc], ?_⟩
    rw [bel_append, List.length_append, ← hbl]
    rfl
  ·rintro s (⟨h0, rfl⟩ | ⟨hi, o, ho, rfl⟩)
   ·exfalso; omega
   ·rw [hvA, List.take_length] at ho
    subst ho
    conv => whnf
    exact h
 ·conv => whnf
  refine groups_calls n ?_
  conv => whnf
  refine .inr ?_
  conv => whnf
  refine ⟨vrnA n, groups_iter n hn, hlen, ?_⟩
  refine ⟨fun i s => ∃ o, o = b ++ (vrn n).take i ∧ s = ⟨vpS, [(nameOf 5, .cells 82 [.sl (some (freshN 8 0)) 1 (byteEls o)]), (freshN 8 0, .row 5 1 o.length)]⟩, ⟨b, by simp, rfl⟩, ?_, ?_⟩
  ·rintro i x s hx ⟨o, ho, rfl⟩
   obtain ⟨c, hc, rfl⟩ := vrnA_get hx
   have hol : o.length ≤ b.length + 10 := by rw [ho, List.length_append, List.length_take]; omega
   have hbl := bel_length o
   conv => whnf
   refine ⟨hbl.symm, by rw [hbl, bel_bytes]; simp; omega, ?_⟩
   conv => whnf
   refine ⟨o ++ [c], by rw [ho, take_snoc hc, List.append_assoc], ?_⟩
   rw [bel_append, List.length_append, ← hbl]
   rfl
  ·rintro s ⟨o, ho, rfl⟩
   rw [hvA, List.take_length] at ho
   subst ho
   conv => whnf
   exact h
theorem vPutN_calls (b : B) (n : Nat) (hn : n < 18446744073709551616) (hb : b.length < 10000000) {R} (h : R (.sl none 1 (byteEls (b ++ vrn n))) []) : ACalls Tryz.prog 216 [.sl none 1 (byteEls b), .val (.int .u64 (n : Int))] [] R := by
 refine acalls_of_xwp (an := an216) tab_ok Tryz.func216 ?_
 have hvl := vrn_u64 hn
 have hpos := vrn_pos n
 have hlen : ∀ x ∈ vrnA n, x.length = 1 := fun x hx => by
  obtain ⟨c, _, rfl⟩ := List.mem_map.1 hx
  rfl
 have hvA : (vrnA n).length = (vrn n).length := by simp [vrnA]
 conv => whnf
 refine bCloneO_calls b (by omega) (fun hb0 => ?_) ?_
 ·subst hb0
  conv => whnf
  refine groups_calls n ?_
  conv => whnf
  refine .inr ?_
  conv => whnf
  refine ⟨vrnA n, groups_iter n hn, hlen, ?_⟩
  refine ⟨fun i s => (i = 0 ∧ s = ⟨vpS, [(nameOf 5, .cells 82 [.val (.slice none 0 0)])]⟩) ∨ (0 < i ∧ ∃ o, o = (vrn n).take i ∧ s = ⟨vpS, [(nameOf 5, .cells 82 [.sl (some (nameOf 15)) 1 (byteEls o)]), (nameOf 15, .row 5 1 o.length)]⟩), .inl ⟨rfl, rfl⟩, ?_, ?_⟩
  ·rintro i x s hx (⟨rfl, rfl⟩ | ⟨hi, o, ho, rfl⟩)
   ·obtain ⟨c, hc, rfl⟩ := vrnA_get hx
    conv => whnf
    refine ⟨(by rw [bel_bytes]; decide : 1 * ((tab.ti 5).bytes + 1) ≤ 140737488355328), ?_⟩
    conv => whnf
    exact .inr ⟨by omega, [c], by rw [take_snoc hc]; simp, rfl⟩
   ·obtain ⟨c, hc, rfl⟩ := vrnA_get hx
    have hol : o.length ≤ 10 := by rw [ho, List.length_take]; omega
    have hbl := bel_length o
    conv => whnf
    refine ⟨hbl.symm, by rw [hbl, bel_bytes]; simp; omega, ?_⟩
    conv => whnf
    refine .inr ⟨by omega, o ++ [c], by rw [ho, take_snoc hc], ?_⟩
    rw [bel_append, List.length_append, ← hbl]
    rfl
  ·rintro s (⟨h0, rfl⟩ | ⟨hi, o, ho, rfl⟩)
   ·exfalso; omega
   ·rw [hvA, List.take_length] at ho
    subst ho
    conv => whnf
    exact h
 ·conv => whnf
  refine groups_calls n ?_
  conv => whnf
  refine .inr ?_
  conv => whnf
  refine ⟨vrnA n, groups_iter n hn, hlen, ?_⟩
  refine ⟨fun i s => ∃ o, o = b ++ (vrn n).take i ∧ s = ⟨vpS, [(nameOf 5, .cells 82 [.sl (some (freshN 8 0)) 1 (byteEls o)]), (freshN 8 0, .row 5 1 o.length)]⟩, ⟨b, by simp, rfl⟩, ?_, ?_⟩
  ·rintro i x s hx ⟨o, ho, rfl⟩
   obtain ⟨c, hc, rfl⟩ := vrnA_get hx
   have hol : o.length ≤ b.length + 10 := by rw [ho, List.length_append, List.length_take]; omega
   have hbl := bel_length o
   conv => whnf
   refine ⟨hbl.symm, by rw [hbl, bel_bytes]; simp; omega, ?_⟩
   conv => whnf
   refine ⟨o ++ [c], by rw [ho, take_snoc hc, List.append_assoc], ?_⟩
   rw [bel_append, List.length_append, ← hbl]
   rfl
  ·rintro s ⟨o, ho, rfl⟩
   rw [hvA, List.take_length] at ho
   subst ho
   conv => whnf
   exact h
def blobP (s : B) : B := vrn s.length ++ s
theorem bList_calls (b s : B) (hb : b.length < 1000000) (hs : s.length < 10000000) {R} (h : R (.sl none 1 (byteEls (b ++ blobP s))) []) : ACalls Tryz.prog 188 [.sl none 1 (byteEls b), .sl none 1 [[vs s]]] [] R := by
 refine acalls_of_xwp (an := an188) tab_ok Tryz.func188 ?_
 have hsz := size_ofB s
 have hw : IntKind.u64.wrap (((ofB s).size : Nat) : Int) = (s.length : Int) := by
  rw [hsz]
  show (s.length : Int) % 18446744073709551616 = _
  omega
 have hv := vrn_u64 (n := s.length) (by omega)
 have hbl := bel_length (b ++ vrn s.length)
 have hsl := bel_length s
 conv => whnf
 refine bClone_calls b (by omega) ?_
 conv => whnf
 refine LoopP.step ?_
 conv => whnf
 rw [hw]
 refine vPut_calls b s.length (by omega) (by omega) ?_
 conv => whnf
 have hba : byteA (ofB s) = byteEls s := by simp [byteA, byteEls, ofB]
 rw [hba]
 refine ⟨hbl.symm, by rw [hbl, hsl, bel_bytes, List.length_append]; omega, ?_⟩
 conv => whnf
 refine LoopP.step ?_
 conv => whnf
 rw [show byteEls (b ++ vrn s.length) ++ byteEls s = byteEls (b ++ blobP s) by rw [← bel_append, blobP, List.append_assoc]]
 exact h
theorem bPut_calls (b s : B) (hb : b.length < 1000000) (hs : s.length < 10000000) {R} (h : R (.sl none 1 (byteEls (b ++ blobP s))) []) : ACalls Tryz.prog 157 [.sl none 1 (byteEls b), vs s] [] R := by
 refine acalls_of_xwp (an := an157) tab_ok Tryz.func157 ?_
 conv => whnf
 refine bList_calls b s hb hs ?_
 conv => whnf
 exact h
def w4 (n : Nat) : B := [UInt8.ofNat (n % 256), UInt8.ofNat (n / 256 % 256), UInt8.ofNat (n / 65536 % 256), UInt8.ofNat (n / 16777216 % 256)]
theorem w4_length (n : Nat) : (w4 n).length = 4 := rfl
theorem u8_part {n : Nat} : IntKind.u8.wrap ((n : Nat) : Int) = (((UInt8.ofNat (n % 256)).toNat : Nat) : Int) := by
 rw [UInt8.toNat_ofNat']
 show (n : Int) % 256 = _
 omega
theorem fdiv_n (n k : Nat) : ((n : Nat) : Int).fdiv (2 ^ k) = ((n / 2 ^ k : Nat) : Int) := by
 rw [Int.fdiv_eq_ediv_of_nonneg _ (Int.le_of_lt (Int.pow_pos (by decide)))]
 push_cast
 rfl
theorem Bytes_calls (n : Nat) (hn : n < 4294967296) {R} (h : R (.sl none 1 (byteEls (w4 n))) []) : ACalls Tryz.prog 179 [.val (.int .u32 (n : Int))] [] R := by
 refine acalls_of_xwp (an := an179) tab_ok Tryz.func179 ?_
 have e1 : (n : Int).fdiv (2 ^ min (Int.toNat 8) IntKind.u32.bits) = ((n / 256 : Nat) : Int) := fdiv_n n 8
 have e2 : (n : Int).fdiv (2 ^ min (Int.toNat 16) IntKind.u32.bits) = ((n / 65536 : Nat) : Int) := fdiv_n n 16
 have e3 : (n : Int).fdiv (2 ^ min (Int.toNat 24) IntKind.u32.bits) = ((n / 16777216 : Nat) : Int) := fdiv_n n 24
 conv => whnf
 rw [e1, e2, e3, u8_part, u8_part, u8_part, u8_part]
 exact h
theorem u8_low0 : (List.range 256).all (fun n => decide (ibits .andNot .u8 (n : Int) 128 = ((n % 128 : Nat) : Int))) = true := by decide +kernel
theorem u8_low {n : Nat} (h : n < 256) : ibits .andNot .u8 (n : Int) 128 = ((n % 128 : Nat) : Int) := of_decide_eq_true (List.all_eq_true.1 u8_low0 n (List.mem_range.2 h))
theorem or_nat {a b : Nat} (ha : a < 2 ^ 64) (hb : b < 2 ^ 64) : ibits .or .u64 (a : Int) (b : Int) = ((a ||| b : Nat) : Int) := by
 unfold ibits
 show IntKind.u64.wrap (((BitVec.ofInt 64 (a : Int) ||| BitVec.ofInt 64 (b : Int)).toNat : Nat) : Int) = _
 rw [BitVec.toNat_or]
 have h1 : (BitVec.ofInt 64 (a : Int)).toNat = a := by rw [BitVec.toNat_ofInt]; omega
 have h2 : (BitVec.ofInt 64 (b : Int)).toNat = b := by rw [BitVec.toNat_ofInt]; omega
 rw [h1, h2]
 have h3 : a ||| b < 2 ^ 64 := Nat.or_lt_two_pow ha hb
 show ((a ||| b : Nat) : Int) % 18446744073709551616 = _
 omega
theorem vor {n x i : Nat} (hn : n < 18446744073709551616) (hi : i < 10) (hx : x < 256) (hd : x % 128 = n / 128 ^ i % 128) :
  ibits .or .u64 ((n % 128 ^ i : Nat) : Int) (IntKind.u64.wrap (IntKind.u64.wrap (ibits .andNot .u8 (x : Int) 128) * 2 ^ min (IntKind.i64.wrap (7 * (i : Int))).toNat IntKind.u64.bits)) = ((n % 128 ^ (i + 1) : Nat) : Int) := by
 have e7 : IntKind.i64.wrap (7 * (i : Int)) = ((7 * i : Nat) : Int) := by rw [wrap_i64 (by omega) (by omega)]; omega
 have hp : (128 : Nat) ^ i = 2 ^ (7 * i) := by rw [Nat.pow_mul]
 have hm := Nat.mod_pow_succ (x := n) (b := 128) (k := i)
 have hle : n % 128 ^ (i + 1) ≤ n := Nat.mod_le _ _
 have hlt : n % 128 ^ i ≤ n := Nat.mod_le _ _
 have hlo : n % 128 ^ i < 2 ^ (7 * i) := by rw [← hp]; exact Nat.mod_lt _ (Nat.pow_pos (by omega))
 have e8 : IntKind.u64.wrap (((x % 128 : Nat) : Int)) = ((x % 128 : Nat) : Int) := by
  show ((x % 128 : Nat) : Int) % 18446744073709551616 = _
  omega
 have hprod : 2 ^ (7 * i) * (x % 128) < 18446744073709551616 := by rw [hd, ← hp]; omega
 have e9 : IntKind.u64.wrap (((x % 128 : Nat) : Int) * 2 ^ (7 * i)) = ((2 ^ (7 * i) * (x % 128) : Nat) : Int) := by
  have : ((x % 128 : Nat) : Int) * 2 ^ (7 * i) = ((2 ^ (7 * i) * (x % 128) : Nat) : Int) := by push_cast; rw [Int.mul_comm]
  rw [this]
  show ((2 ^ (7 * i) * (x % 128) : Nat) : Int) % 18446744073709551616 = _
  omega
 have hmin : min (((7 * i : Nat) : Int)).toNat IntKind.u64.bits = 7 * i := by
  rw [Int.toNat_natCast]
  show min (7 * i) 64 = 7 * i
  omega
 rw [u8_low hx, e8, e7, hmin, e9, or_nat (by omega) (by omega)]
 congr 1
 rw [Nat.or_comm, ← Nat.two_pow_add_eq_or_of_lt hlo, hm, hd, hp]
 omega
theorem vGet_calls (p q : B) (n : Nat) (hn : n < 18446744073709551616) (hl : p.length + q.length < 100000000) {R} (h : R (.tup [.val (.int .u64 (n : Int)), vi ((p.length + (vrn n).length : Nat) : Int), vi 0]) []) :
  ACalls Tryz.prog 234 [.sl none 1 (byteEls (p ++ vrn n ++ q)), vi (p.length : Int)] [] R := by
 refine acalls_of_xwp (an := an234) tab_ok Tryz.func234 ?_
 have hv := vrn_u64 hn
 have hp := vrn_pos n
 have hat := vrn_at n
 have hbl : (byteEls (p ++ vrn n ++ q)).length = p.length + (vrn n).length + q.length := by simp [byteEls]; omega
 conv => whnf
 refine br_intro (fun g => ?_) (fun g => ?_)
 ·exfalso
  have g := of_decide_eq_true g
  rw [hbl] at g
  omega
 conv => whnf
 refine LoopP.ind1 (fun (i : Nat) => [(4, .val (.int .u64 ((n % 128 ^ i : Nat) : Int))), (17, vi i)]) (fun _ => []) (fun i => 10 - i) (fun i => i < (vrn n).length) 0 (by simp [Nat.mod_one]; rfl) (by omega) ?_
 rintro i h0 IH
 have hb := (vrn n)[i].toNat_lt
 obtain ⟨a1, a2, a3⟩ := hat i h0
 have e1 : IntKind.i64.wrap ((p.length : Int) + (i : Int)) = ((p.length + i : Nat) : Int) := by rw [wrap_i64 (by omega) (by omega)]; omega
 have e7 : IntKind.i64.wrap (7 * (i : Int)) = ((7 * i : Nat) : Int) := by rw [wrap_i64 (by omega) (by omega)]; omega
 have hget : (byteEls (p ++ vrn n ++ q))[p.length + i]? = some [.val (.int .u8 ((vrn n)[i].toNat : Int))] := by
  unfold byteEls
  rw [List.getElem?_map, List.append_assoc, List.getElem?_append_right (by omega), Nat.add_sub_cancel_left, List.getElem?_append_left h0, List.getElem?_eq_getElem h0]
  rfl
 conv => whnf
 refine br_intro (fun g2 => ?_) (fun g2 => ?_)
 ·conv => whnf
  refine br_intro (fun g3 => ?_) (fun g3 => ?_)
  ·exfalso
   rw [e1, hbl] at g3
   have g3 := of_decide_eq_true g3
   omega
  conv => whnf
  refine must_intro (decide_eq_true (by rw [e1]; omega)) ?_
  rw [e1]
  refine idxK_iff.2 ⟨_, hget, ?_⟩
  have hlow := u8_low hb
  generalize hx : (vrn n)[i].toNat = x at a1 hb hlow hget ⊢
  have h9 : i = 9 → x ≤ 1 := by
   intro h
   subst h
   have hl10 : 9 + 1 = (vrn n).length := by omega
   obtain ⟨b1, _⟩ := a2 hl10
   rw [if_neg (by omega)] at a1
   have : n / 128 ^ 9 ≤ 1 := by
    have : (128 : Nat) ^ 9 = 9223372036854775808 := by decide
    rw [this]
    omega
   omega
  have h0x : 0 < i → x ≠ 0 := by
   intro h
   by_cases hi : i + 1 = (vrn n).length
   ·have := (a2 hi).2 h
    have := (a2 hi).1
    rw [if_neg (by omega)] at a1
    omega
   ·rw [if_pos (by omega)] at a1
    omega
  conv => whnf
  refine br_intro (fun g4 => ?_) (fun g4 => ?_)
  ·have g4 : i = 9 := by have := beq_iff_eq.1 g4; omega
   conv => whnf
   refine br_intro (fun g5 => ?_) (fun g5 => ?_)
   ·exfalso
    have g5 := of_decide_eq_true g5
    have := h9 g4
    omega
   conv => whnf
   refine br_intro (fun g6 => ?_) (fun g6 => ?_)
   ·have g6 := of_decide_eq_true g6
    conv => whnf
    refine br_intro (fun g7 => ?_) (fun g7 => ?_)
    ·exfalso
     have g7 := beq_iff_eq.1 g7
     have := h0x (by omega)
     omega
    conv => whnf
    refine must_intro (decide_eq_true (by rw [e7]; omega)) ?_
    conv => whnf
    refine br_intro (fun g8 => ?_) (fun g8 => ?_)
    ·have g8 := of_decide_eq_true g8
     have hfin : i + 1 = (vrn n).length := by
      by_cases hh : i + 1 < (vrn n).length
      ·rw [if_pos hh] at a1; omega
      ·omega
     have hnn : n % 128 ^ (i + 1) = n := by
      refine Nat.mod_eq_of_lt ?_
      have := (a2 hfin).1
      have h2 := (Nat.div_lt_iff_lt_mul (Nat.pow_pos (show 0 < 128 by omega))).1 this
      rw [Nat.pow_succ, Nat.mul_comm]
      exact h2
     conv => whnf
     rw [vor hn (by omega) hb (by rw [a1]; split <;> omega), hnn, e1, wrap_i64 (by omega) (by omega), show ((p.length + i : Nat) : Int) + 1 = ((p.length + (vrn n).length : Nat) : Int) by omega]
     exact h
    ·have g8 := of_decide_eq_false g8
     have hfin : i + 1 < (vrn n).length := by
      by_cases hh : i + 1 < (vrn n).length
      ·exact hh
      ·rw [if_neg hh] at a1; omega
     have hnx := IH (i + 1) hfin (by omega)
     conv => whnf
     rw [vor hn (by omega) hb (by rw [a1]; split <;> omega), wrap_i64 (by omega) (by omega), show (i : Int) + 1 = ((i + 1 : Nat) : Int) by omega]
     exact hnx
   ·conv => whnf
    refine must_intro (decide_eq_true (by rw [e7]; omega)) ?_
    conv => whnf
    refine br_intro (fun g8 => ?_) (fun g8 => ?_)
    ·have g8 := of_decide_eq_true g8
     have hfin : i + 1 = (vrn n).length := by
      by_cases hh : i + 1 < (vrn n).length
      ·rw [if_pos hh] at a1; omega
      ·omega
     have hnn : n % 128 ^ (i + 1) = n := by
      refine Nat.mod_eq_of_lt ?_
      have := (a2 hfin).1
      have h2 := (Nat.div_lt_iff_lt_mul (Nat.pow_pos (show 0 < 128 by omega))).1 this
      rw [Nat.pow_succ, Nat.mul_comm]
      exact h2
     conv => whnf
     rw [vor hn (by omega) hb (by rw [a1]; split <;> omega), hnn, e1, wrap_i64 (by omega) (by omega), show ((p.length + i : Nat) : Int) + 1 = ((p.length + (vrn n).length : Nat) : Int) by omega]
     exact h
    ·have g8 := of_decide_eq_false g8
     have hfin : i + 1 < (vrn n).length := by
      by_cases hh : i + 1 < (vrn n).length
      ·exact hh
      ·rw [if_neg hh] at a1; omega
     have hnx := IH (i + 1) hfin (by omega)
     conv => whnf
     rw [vor hn (by omega) hb (by rw [a1]; split <;> omega), wrap_i64 (by omega) (by omega), show (i : Int) + 1 = ((i + 1 : Nat) : Int) by omega]
     exact hnx
  ·conv => whnf
   refine br_intro (fun g6 => ?_) (fun g6 => ?_)
   ·have g6 := of_decide_eq_true g6
    conv => whnf
    refine br_intro (fun g7 => ?_) (fun g7 => ?_)
    ·exfalso
     have g7 := beq_iff_eq.1 g7
     have := h0x (by omega)
     omega
    conv => whnf
    refine must_intro (decide_eq_true (by rw [e7]; omega)) ?_
    conv => whnf
    refine br_intro (fun g8 => ?_) (fun g8 => ?_)
    ·have g8 := of_decide_eq_true g8
     have hfin : i + 1 = (vrn n).length := by
      by_cases hh : i + 1 < (vrn n).length
      ·rw [if_pos hh] at a1; omega
      ·omega
     have hnn : n % 128 ^ (i + 1) = n := by
      refine Nat.mod_eq_of_lt ?_
      have := (a2 hfin).1
      have h2 := (Nat.div_lt_iff_lt_mul (Nat.pow_pos (show 0 < 128 by omega))).1 this
      rw [Nat.pow_succ, Nat.mul_comm]
      exact h2
     conv => whnf
     rw [vor hn (by omega) hb (by rw [a1]; split <;> omega), hnn, e1, wrap_i64 (by omega) (by omega), show ((p.length + i : Nat) : Int) + 1 = ((p.length + (vrn n).length : Nat) : Int) by omega]
     exact h
    ·have g8 := of_decide_eq_false g8
     have hfin : i + 1 < (vrn n).length := by
      by_cases hh : i + 1 < (vrn n).length
      ·exact hh
      ·rw [if_neg hh] at a1; omega
     have hnx := IH (i + 1) hfin (by omega)
     conv => whnf
     rw [vor hn (by omega) hb (by rw [a1]; split <;> omega), wrap_i64 (by omega) (by omega), show (i : Int) + 1 = ((i + 1 : Nat) : Int) by omega]
     exact hnx
   ·conv => whnf
    refine must_intro (decide_eq_true (by rw [e7]; omega)) ?_
    conv => whnf
    refine br_intro (fun g8 => ?_) (fun g8 => ?_)
    ·have g8 := of_decide_eq_true g8
     have hfin : i + 1 = (vrn n).length := by
      by_cases hh : i + 1 < (vrn n).length
      ·rw [if_pos hh] at a1; omega
      ·omega
     have hnn : n % 128 ^ (i + 1) = n := by
      refine Nat.mod_eq_of_lt ?_
      have := (a2 hfin).1
      have h2 := (Nat.div_lt_iff_lt_mul (Nat.pow_pos (show 0 < 128 by omega))).1 this
      rw [Nat.pow_succ, Nat.mul_comm]
      exact h2
     conv => whnf
     rw [vor hn (by omega) hb (by rw [a1]; split <;> omega), hnn, e1, wrap_i64 (by omega) (by omega), show ((p.length + i : Nat) : Int) + 1 = ((p.length + (vrn n).length : Nat) : Int) by omega]
     exact h
    ·have g8 := of_decide_eq_false g8
     have hfin : i + 1 < (vrn n).length := by
      by_cases hh : i + 1 < (vrn n).length
      ·exact hh
      ·rw [if_neg hh] at a1; omega
     have hnx := IH (i + 1) hfin (by omega)
     conv => whnf
     rw [vor hn (by omega) hb (by rw [a1]; split <;> omega), wrap_i64 (by omega) (by omega), show (i : Int) + 1 = ((i + 1 : Nat) : Int) by omega]
     exact hnx
 ·exfalso
  have g2 := of_decide_eq_false g2
  omega
end Go.Abs
end
section
namespace Go.Abs
open Go Go.Proofs Go.RowKit Go.Lib
attribute [local irreducible] ibits byteAt strLt firstIdx
abbrev nilV : AV := .val (.slice none 0 0)
theorem Grow_calls (n : Nat) (hn : n ≤ 1000000000) {R} (h0 : n = 0 → R nilV []) (h1 : 0 < n → R (.sl (some 0) 1 []) [.row 5 1 0]) : ACalls Tryz.prog 176 [nilV, vi n] [] R := by
 refine packS fun G w vals hW hA => ?_
 have hI := invS hW
 simp only [RepL, Rep] at hA
 obtain ⟨_, _, rfl, rfl, _, _, rfl, rfl, rfl⟩ := hA
 by_cases hz : n = 0
 ·subst hz
  refine (grow_room w).mono ?_
  rintro e w' ⟨rfl, rfl⟩
  exact ⟨_, nilV, [], G, rfl, h0 rfl, by simp only [Rep], hI, (by intro i o ho; cases ho), by simp [AV.names]⟩
 ·refine (grow_new n (by omega) hn w).mono ?_
  rintro e w' ⟨rfl, cur, rfl, hcs⟩
  have hge := grownCap_ge w n 0 5
  have hgm := grownCap_le_maxLen w n 0 5 (by unfold maxLen; omega)
  have hKn : ∀ o, G.K w.heap.size o = none := fun o => by
   cases e : G.K w.heap.size o with
   | none => rfl
   | some v => have := hI.wr.kltb e; omega
  have hhp : (w.drew.alloc (.cells cur 5)).heap[w.heap.size]? = some (.cells cur 5 (0, 0)) := heap_alloc_new w.drew _
  obtain ⟨hI', hle⟩ := hI.newObj (w' := w.drew.alloc (.cells cur 5)) (n := 0) (o := .row 5 1 0) (objs' := numbered 0 [.row 5 1 0]) (g := .rowv (.slice (some ⟨w.heap.size, 0, none⟩) 0 (grownCap w n 0 5)) 0) (K' := G.K)
   rfl rfl rfl (by simp) (fun b hb => heap_alloc_old w.drew _ hb) (fun _ _ _ => rfl) (fun b o v hb ev => by have := hI.wr.kltb ev; omega) rfl
   (fun m => by rw [objGet_numbered0]; cases m <;> simp [numbered, objGet])
   (by
    refine ⟨_, [], by simp [addOb], ⟨by simp, .inr ⟨w.heap.size, _, cur, rfl, Nat.zero_le _, hhp, Nat.zero_le _, hgm, by rw [hcs]; simp, by simp⟩⟩, fun g hg o => ?_⟩
    have : g = w.heap.size := by simpa [Value.ownBlock] using hg.symm
    subst this
    simpa using hKn o)
   (fun b hb => by
    rcases hb with hb | ⟨u, t, hb, hub⟩
    ·simp [addOb] at hb
    ·simp only [addOb, if_true, Option.some.injEq, GO.rowv.injEq] at hb
     obtain ⟨rfl, rfl⟩ := hb
     have : b = w.heap.size := by simpa [Value.ownBlock] using hub.symm
     omega)
  refine ⟨_, .sl (some 0) 1 [], [.row 5 1 0], _, rfl, h1 (by omega), ?_, hI', ?_, ?_⟩
  ·simp only [Rep]
   exact ⟨⟨_, _, rfl, by simp, trivial⟩, _, 0, by simp [addOb], by simp, fun _ => rfl⟩
  ·intro i o ho m hm
   cases i with
   | zero => cases ho; simp [objNames] at hm
   | succ i => simp at ho
  ·intro m hm
   simp [AV.names] at hm
   subst hm; decide
theorem Concat_calls (p q : B) (hp : p.length < 100000000) (hq : q.length < 100000000) {R} (h : R (.sl none 1 (byteEls (p ++ q))) []) : ACalls Tryz.prog 139 [.sl none 1 [[.sl none 1 (byteEls p)], [.sl none 1 (byteEls q)]]] [] R := by
 refine ACalls.res ?_
 refine acalls_of_xwp (an := an139) tab_ok Tryz.func139 ?_
 have h1 := bel_length p
 have h2 := bel_length q
 conv => whnf
 have e1 : IntKind.i64.wrap (0 + ((byteEls p).length : Int)) = (p.length : Int) := by rw [h1, wrap_i64 (by omega) (by omega)]; omega
 have e2 : IntKind.i64.wrap ((p.length : Int) + ((byteEls q).length : Int)) = ((p.length + q.length : Nat) : Int) := by rw [h2, wrap_i64 (by omega) (by omega)]; omega
 refine LoopP.step ?_
 conv => whnf
 refine br_intro (fun g => ?_) (fun _ => ?_)
 ·rw [e1] at g
  have g := of_decide_eq_true g
  omega
 rw [e1]
 conv => whnf
 refine LoopP.step ?_
 conv => whnf
 refine br_intro (fun g => ?_) (fun _ => ?_)
 ·rw [e2] at g
  have g := of_decide_eq_true g
  omega
 rw [e2]
 conv => whnf
 refine LoopP.step ?_
 conv => whnf
 refine Grow_calls (p.length + q.length) (by omega) (fun hz => ?_) (fun hz => ?_)
 ·have ep : p = [] := List.eq_nil_of_length_eq_zero (by omega)
  have eq : q = [] := List.eq_nil_of_length_eq_zero (by omega)
  subst ep eq
  conv => whnf
  refine LoopP.step ?_
  conv => whnf
  refine ⟨by rw [h1, bel_bytes]; simp, ?_⟩
  conv => whnf
  refine LoopP.step ?_
  conv => whnf
  refine ⟨rfl, by rw [h1, bel_bytes]; simp, ?_⟩
  conv => whnf
  refine LoopP.step ?_
  conv => whnf
  exact res_same h
 ·conv => whnf
  refine LoopP.step ?_
  conv => whnf
  refine ⟨rfl, by rw [h1, bel_bytes]; simp; omega, ?_⟩
  conv => whnf
  refine LoopP.step ?_
  conv => whnf
  refine ⟨by simp, by rw [h2, bel_bytes]; simp [h1]; omega, ?_⟩
  conv => whnf
  refine LoopP.step ?_
  conv => whnf
  rw [bel_append] at h
  exact res_same h
end Go.Abs
end
section
namespace Go.Abs
open Go Go.Proofs
attribute [local irreducible] ibits byteAt strLt firstIdx
namespace Crc
abbrev W := BitVec 32
def poly : W := 0xedb88320#32
def s0 (c : W) : W := (c >>> 1) ^^^ (if c.getLsbD 0 then poly else 0#32)
def four (c : W) : W := s0 (s0 (s0 (s0 c)))
def half (c : W) (n : W) : W := (c >>> 4) ^^^ four ((c ^^^ n) &&& 15#32)
def ofByte (x : UInt8) : W := BitVec.ofNat 32 x.toNat
def byte (c : W) (x : UInt8) : W := half (half c (ofByte x)) (ofByte x >>> 4)
def run (c : W) (l : B) : W := l.foldl byte c
def sum (l : B) : W := ~~~ run 0xffffffff#32 l
def bitS (c : W) (b : Bool) : W := (c >>> 1) ^^^ (if c.getLsbD 0 != b then poly else 0#32)
theorem xor4 {w : Nat} (a b c d : BitVec w) : (a ^^^ b) ^^^ (c ^^^ d) = (a ^^^ c) ^^^ (b ^^^ d) := by
 apply BitVec.eq_of_getLsbD_eq
 intro i hi
 simp only [BitVec.getLsbD_xor]
 cases a.getLsbD i <;> cases b.getLsbD i <;> cases c.getLsbD i <;> cases d.getLsbD i <;> rfl
theorem s0_xor (a b : W) : s0 (a ^^^ b) = s0 a ^^^ s0 b := by
 unfold s0
 rw [BitVec.ushiftRight_xor_distrib, BitVec.getLsbD_xor]
 have : (if (a.getLsbD 0 ^^ b.getLsbD 0) = true then poly else 0#32) = (if a.getLsbD 0 = true then poly else 0#32) ^^^ (if b.getLsbD 0 = true then poly else 0#32) := by
  cases a.getLsbD 0 <;> cases b.getLsbD 0 <;> simp
 rw [this, xor4]
theorem four_xor (a b : W) : four (a ^^^ b) = four a ^^^ four b := by unfold four; rw [s0_xor, s0_xor, s0_xor, s0_xor]
theorem s0_even {a : W} (h : a.getLsbD 0 = false) : s0 a = a >>> 1 := by unfold s0; rw [h]; simp
theorem four_hi {a : W} (h : ∀ i, i < 4 → a.getLsbD i = false) : four a = a >>> 4 := by
 unfold four
 have e1 : s0 a = a >>> 1 := s0_even (h 0 (by omega))
 have e2 : s0 (a >>> 1) = a >>> 1 >>> 1 := s0_even (by rw [BitVec.getLsbD_ushiftRight]; exact h 1 (by omega))
 have e3 : s0 (a >>> 1 >>> 1) = a >>> 1 >>> 1 >>> 1 := s0_even (by rw [BitVec.getLsbD_ushiftRight, BitVec.getLsbD_ushiftRight]; exact h 2 (by omega))
 have e4 : s0 (a >>> 1 >>> 1 >>> 1) = a >>> 1 >>> 1 >>> 1 >>> 1 := s0_even (by rw [BitVec.getLsbD_ushiftRight, BitVec.getLsbD_ushiftRight, BitVec.getLsbD_ushiftRight]; exact h 3 (by omega))
 rw [e1, e2, e3, e4]
 apply BitVec.eq_of_getLsbD_eq
 intro i hi
 simp only [BitVec.getLsbD_ushiftRight]
 congr 1
 omega
theorem split15 (c : W) : c = (c &&& ~~~ 15#32) ^^^ (c &&& 15#32) := by
 apply BitVec.eq_of_getLsbD_eq
 intro i hi
 simp only [BitVec.getLsbD_xor, BitVec.getLsbD_and, BitVec.getLsbD_not, hi, decide_true, Bool.true_and]
 cases c.getLsbD i <;> cases (15#32).getLsbD i <;> rfl
theorem bit15 (i : Nat) : (15#32).getLsbD i = decide (i < 4) := by
 by_cases h : i < 4
 ·have : i = 0 ∨ i = 1 ∨ i = 2 ∨ i = 3 := by omega
  rcases this with rfl | rfl | rfl | rfl <;> rfl
 ·simp only [h, decide_false]
  by_cases h2 : i < 32
  ·have := (by decide +kernel : (List.range 32).all (fun i => decide (i < 4) || !((15#32).getLsbD i)) = true)
   have := List.all_eq_true.1 this i (List.mem_range.2 h2)
   simpa [h] using this
  ·exact BitVec.getLsbD_of_ge _ _ (by omega)
theorem half_eq {c n : W} (hn : ∀ i, 4 ≤ i → n.getLsbD i = false) : four (c ^^^ n) = (c >>> 4) ^^^ four ((c ^^^ n) &&& 15#32) := by
 conv => lhs; rw [split15 (c ^^^ n), four_xor]
 congr 1
 rw [four_hi]
 ·apply BitVec.eq_of_getLsbD_eq
  intro i hi
  have h4 : ¬ 4 + i < 4 := by omega
  have h2 := hn (4 + i) (by omega)
  rw [BitVec.getLsbD_ushiftRight, BitVec.getLsbD_ushiftRight, BitVec.getLsbD_and, BitVec.getLsbD_xor, BitVec.getLsbD_not, bit15, h2]
  by_cases h3 : 4 + i < 32
  ·rw [decide_eq_true h3, decide_eq_false h4]; simp only [Bool.xor_false, Bool.not_false, Bool.and_true]
  ·rw [BitVec.getLsbD_of_ge c _ (Nat.le_of_not_lt h3)]; rfl
 ·intro i hi
  rw [BitVec.getLsbD_and, BitVec.getLsbD_not, bit15, decide_eq_true hi]
  simp only [Bool.not_true, Bool.and_false]
theorem bitS_eq (c n : W) (b : Bool) (hb : n.getLsbD 0 = b) : bitS c b ^^^ (n >>> 1) = s0 (c ^^^ n) := by
 unfold bitS s0
 rw [BitVec.ushiftRight_xor_distrib, BitVec.getLsbD_xor, hb]
 have : (if (c.getLsbD 0 != b) = true then poly else 0#32) = (if (c.getLsbD 0 ^^ b) = true then poly else 0#32) := by cases c.getLsbD 0 <;> cases b <;> rfl
 rw [this]
 apply BitVec.eq_of_getLsbD_eq
 intro i hi
 simp only [BitVec.getLsbD_xor]
 cases (c >>> 1).getLsbD i <;> cases (n >>> 1).getLsbD i <;> simp
theorem four_bits (c n : W) : bitS (bitS (bitS (bitS c (n.getLsbD 0)) (n.getLsbD 1)) (n.getLsbD 2)) (n.getLsbD 3) ^^^ (n >>> 4) = four (c ^^^ n) := by
 have e1 := bitS_eq c n _ rfl
 have e2 := bitS_eq (bitS c (n.getLsbD 0)) (n >>> 1) (n.getLsbD 1) (by simp)
 have e3 := bitS_eq (bitS (bitS c (n.getLsbD 0)) (n.getLsbD 1)) (n >>> 1 >>> 1) (n.getLsbD 2) (by simp)
 have e4 := bitS_eq (bitS (bitS (bitS c (n.getLsbD 0)) (n.getLsbD 1)) (n.getLsbD 2)) (n >>> 1 >>> 1 >>> 1) (n.getLsbD 3) (by simp)
 unfold four
 rw [← e1, ← e2, ← e3, ← e4]
 rfl
def bits (c : W) (x : UInt8) : Nat → W
 | 0 => c
 | k + 1 => bitS (bits c x k) ((ofByte x).getLsbD k)
theorem low4 (n : W) : ∀ i, 4 ≤ i → (n &&& 15#32).getLsbD i = false := fun i hi => by
 have : ¬ i < 4 := by omega
 simp [bit15, this]
theorem four_low (c n : W) : four ((c ^^^ n) &&& 15#32) = four ((c ^^^ (n &&& 15#32)) &&& 15#32) := by
 congr 1
 apply BitVec.eq_of_getLsbD_eq
 intro i hi
 simp only [BitVec.getLsbD_and, BitVec.getLsbD_xor]
 cases (15#32).getLsbD i <;> simp
theorem half_bits (c n : W) : half c n = bitS (bitS (bitS (bitS c (n.getLsbD 0)) (n.getLsbD 1)) (n.getLsbD 2)) (n.getLsbD 3) := by
 unfold half
 rw [four_low, ← half_eq (low4 n), ← four_bits c (n &&& 15#32)]
 have e : (n &&& 15#32) >>> 4 = 0#32 := by
  apply BitVec.eq_of_getLsbD_eq
  intro i hi
  have : ¬ 4 + i < 4 := by omega
  simp [bit15, this]
 rw [e, BitVec.xor_zero]
 simp [bit15]
theorem byte_bits (c : W) (x : UInt8) : byte c x = bits c x 8 := by
 unfold byte
 rw [half_bits, half_bits]
 simp only [BitVec.getLsbD_ushiftRight]
 rfl
theorem run_append (c : W) (l m : B) : run c (l ++ m) = run (run c l) m := List.foldl_append
end Crc
open Crc
def wv (x : Crc.W) : AV := .val (.int .u32 x.toNat)
theorem w_ofInt (x : Crc.W) : BitVec.ofInt IntKind.u32.bits (x.toNat : Int) = x := by
 show BitVec.ofInt 32 (x.toNat : Int) = x
 simp
theorem wrap_u32 {x : Int} (h0 : 0 ≤ x) (h1 : x < 4294967296) : IntKind.u32.wrap x = x := by
 show x % 4294967296 = x
 omega
theorem w_xor (x y : Crc.W) : ibits .xor .u32 (x.toNat : Int) (y.toNat : Int) = ((x ^^^ y).toNat : Int) := by
 simp only [ibits]
 rw [w_ofInt, w_ofInt]
 exact wrap_u32 (Int.natCast_nonneg _) (show (((x ^^^ y : BitVec 32).toNat : Nat) : Int) < ((4294967296 : Nat) : Int) from Int.ofNat_lt.2 (x ^^^ y : BitVec 32).isLt)
theorem w_and (x y : Crc.W) : ibits .and .u32 (x.toNat : Int) (y.toNat : Int) = ((x &&& y).toNat : Int) := by
 simp only [ibits]
 rw [w_ofInt, w_ofInt]
 exact wrap_u32 (Int.natCast_nonneg _) (show (((x &&& y : BitVec 32).toNat : Nat) : Int) < ((4294967296 : Nat) : Int) from Int.ofNat_lt.2 (x &&& y : BitVec 32).isLt)
theorem w_shr (x : Crc.W) (k : Nat) (hk : k ≤ 32) : ((x.toNat : Int)).fdiv (2 ^ min ((k : Int)).toNat IntKind.u32.bits) = ((x >>> k).toNat : Int) := by
 have : min ((k : Int)).toNat IntKind.u32.bits = k := by
  show min ((k : Int)).toNat 32 = k
  simp; omega
 rw [this, BitVec.toNat_ushiftRight, Nat.shiftRight_eq_div_pow, Int.fdiv_eq_ediv_of_nonneg _ (by exact Int.le_of_lt (Int.pow_pos (by omega)))]
 simp
end Go.Abs
end
section
namespace Go.Abs
open Go Go.Proofs
namespace Dig
def plus : U := 0x9e3779b97f4a7c15#64
def first : U := 0xbf58476d1ce4e5b9#64
def other : U := 0x94d049bb133111eb#64
def down (k : Nat) (x : U) : U := x ^^^ (x >>> k)
def dig (n : U) : U := down 31 (down 27 (down 30 (n + plus) * first) * other)
def up (k : Nat) (h : U) : U := h ^^^ ((h ^^^ (h >>> k)) >>> k)
def back (n : U) : U := let b0 := n; let s := fun b : U => b * (2 - n * b); s (s (s (s (s (s b0)))))
def fold (n : U) (l : List U) : U := l.foldl (fun h x => dig (h ^^^ x)) (dig n)
end Dig
open Dig
end Go.Abs
end
section
namespace Go.Abs
open Go Go.Proofs Dig
theorem args_nil {l : List AV} (h : Args tab 12 [] l) : l = [] := h
theorem wf_u64 {x : Int} (h : (Lit.int .u64 x).wf = true) : x = ((BitVec.ofInt 64 x : U).toNat : Int) := by
 simp only [Lit.wf, Bool.and_eq_true, decide_eq_true_eq] at h
 have e1 : IntKind.u64.min = 0 := rfl
 have e2 : IntKind.u64.max = 18446744073709551615 := rfl
 rw [e1, e2] at h
 exact u_of (by omega) (by omega)
theorem args_u8 {ts : List TypeId} {l : List AV} (h : Args tab 12 (5 :: ts) l) : ∃ (x : Int) (l' : List AV), l = .val (.int .u8 x) :: l' ∧ (0 ≤ x ∧ x ≤ 255) ∧ Args tab 12 ts l' := by
 obtain ⟨a, l', rfl, h1, h2⟩ := h
 obtain ⟨x, e, hx⟩ : ∃ x, [a] = [.val (.int .u8 x)] ∧ (Lit.int .u8 x).wf = true := h1
 simp only [Lit.wf, Bool.and_eq_true, decide_eq_true_eq] at hx
 have e1 : IntKind.u8.min = 0 := rfl
 have e2 : IntKind.u8.max = 255 := rfl
 rw [e1, e2] at hx
 simp only [List.cons.injEq, and_true] at e
 exact ⟨x, l', by rw [e], hx, h2⟩
end Go.Abs
end
section
namespace Go.Abs
open Go Go.Proofs
attribute [local irreducible] ibits byteAt strLt firstIdx
structure Nd where
 name : B
 source : Bool
 rule : U
 deps : List B
def Nd.enc (n : Nd) : List AV := [vs n.name, .val (.bool n.source), uv n.rule, .sl none 1 (strs n.deps)]
def ints (l : List Nat) : List (List AV) := l.map fun (i : Nat) => [vi (i : Int)]
theorem ints_length (l : List Nat) : (ints l).length = l.length := by simp [ints]
def nameOk (s : B) : Bool := decide (1 ≤ s.length) && decide (s.length ≤ 64)
theorem Name_calls (s : B) {R} (h : R (.val (.bool (nameOk s))) []) : ACalls Tryz.prog 74 [vs s] [] R := by
 refine acalls_of_xwp (an := an74) tab_ok Tryz.func74 ?_
 have hsz : (ofB s).size = s.length := size_ofB s
 conv => whnf
 rw [hsz]
 refine br_intro (fun hc => ?_) (fun hc => ?_)
 ·conv => whnf
  have : nameOk s = decide ((s.length : Int) ≤ 64) := by
   unfold nameOk
   rw [hsz] at *
   have hc : 1 ≤ s.length := by simp at hc; omega
   simp [hc]
   omega
  rw [hsz, ← this]
  exact h
 ·conv => whnf
  have : nameOk s = false := by
   have hc : s.length = 0 := by simp at hc; omega
   simp [nameOk, hc]
  rw [this] at h
  exact h
theorem refName_calls (s : B) {R} (h : R (.val (.bool (nameOk s))) []) : ACalls Tryz.prog 76 [vs s] [] R := by
 refine acalls_of_xwp (an := an76) tab_ok Tryz.func76 ?_
 have hsz : (ofB s).size = s.length := size_ofB s
 conv => whnf
 refine br_intro (fun hc => ?_) (fun hc => ?_)
 ·have hc : s ≠ [] := by
   rintro rfl
   simp at hc
   exact hc rfl
  have hl : 1 ≤ s.length := by cases s with | nil => exact absurd rfl hc | cons a s => simp
  conv => whnf
  have : nameOk s = decide ((s.length : Int) < 65) := by
   unfold nameOk
   simp [hl]
   omega
  rw [hsz, ← this]
  exact h
 ·have hc : s = [] := by
   simp at hc
   have : ofB s = ofB [] := hc
   exact ofB_inj this
  subst hc
  conv => whnf
  exact h
def placeOf : List B → B → Option Nat
 | [], _ => none
 | a :: l, s => if a = s then some 0 else (placeOf l s).map (· + 1)
def placeI (l : List B) (s : B) : Int := match placeOf l s with | some i => i | none => -1
theorem placeOf_none {l : List B} {s : B} : placeOf l s = none ↔ s ∉ l := by
 induction l with
 | nil => simp [placeOf]
 | cons a l ih =>
  simp only [placeOf]
  by_cases h : a = s
  ·simp [h]
  ·rw [if_neg h]
   simp only [Option.map_eq_none_iff, ih, List.mem_cons, not_or]
   exact ⟨fun h' => ⟨fun e => h e.symm, h'⟩, fun h' => h'.2⟩
theorem placeOf_some {l : List B} {s : B} {i : Nat} (h : placeOf l s = some i) : l[i]? = some s ∧ ∀ j, j < i → l[j]? ≠ some s := by
 induction l generalizing i with
 | nil => simp [placeOf] at h
 | cons a l ih =>
  simp only [placeOf] at h
  by_cases e : a = s
  ·rw [if_pos e] at h
   cases h
   subst e
   exact ⟨rfl, fun j hj => by omega⟩
  ·rw [if_neg e] at h
   obtain ⟨k, hk, rfl⟩ := Option.map_eq_some_iff.1 h
   obtain ⟨h1, h2⟩ := ih hk
   refine ⟨by simpa using h1, fun j hj => ?_⟩
   cases j with
   | zero => simpa using e
   | succ j => simpa using h2 j (by omega)
theorem placeI_neg {l : List B} {s : B} : placeI l s < 0 ↔ s ∉ l := by
 rw [← placeOf_none]
 unfold placeI
 cases placeOf l s with
 | none => simp
 | some i => simp
theorem placeOf_of {l : List B} {s : B} {i : Nat} (h : l[i]? = some s) (h' : ∀ j, j < i → l[j]? ≠ some s) : placeOf l s = some i := by
 cases e : placeOf l s with
 | none => exact absurd (List.mem_of_getElem? h) (placeOf_none.1 e)
 | some k =>
  obtain ⟨h1, h2⟩ := placeOf_some e
  rcases Nat.lt_trichotomy i k with hl | rfl | hl
  ·exact absurd h (h2 _ hl)
  ·rfl
  ·exact absurd h1 (h' _ hl)
theorem i64_nat {i : Nat} (h : i < 1000000000) : IntKind.i64.wrap ((i : Int) + 1) = ((i + 1 : Nat) : Int) := wrap_i64 (by omega) (by omega)
theorem lt_of_dec {i n : Nat} (h : decide ((i : Int) < (n : Int)) = true) : i < n := by simpa using h
theorem ge_of_dec {i n : Nat} (h : decide ((i : Int) < (n : Int)) = false) : n ≤ i := by simp at h; omega
theorem lt_of_decE {i n m : Nat} (e : m = n) (h : decide ((i : Int) < (m : Int)) = true) : i < n := by subst e; simpa using h
theorem ge_of_decE {i n m : Nat} (e : m = n) (h : decide ((i : Int) < (m : Int)) = false) : n ≤ i := by subst e; simp at h; omega
theorem Place_calls (l : List B) (s : B) (hl : l.length < 1000000) {X : List (List AV)} (hX : X = strs l) {R} (h : ∀ p, p = placeI l s → R (vi p) []) : ACalls Tryz.prog 165 [.sl none 1 X, vs s] [] R := by
 subst hX
 refine acalls_of_xwp (an := an165) tab_ok Tryz.func165 ?_
 have hsl := strs_length l
 conv => whnf
 refine LoopP.ind1 (fun (i : Nat) => [(5, vi i)]) (fun _ => []) (fun i => l.length - i) (fun i => i ≤ l.length ∧ ∀ j, j < i → l[j]? ≠ some s) 0 rfl ⟨by omega, fun j hj => by omega⟩ ?_
 rintro i ⟨h0, h1⟩ IH
 conv => whnf
 rw [hsl]
 refine br_intro (fun hc => ?_) (fun hc => ?_)
 ·have hc := lt_of_dec hc
  (conv => whnf); (repeat ((with_reducible refine must_intro ?_ ?_); exact decide_eq_true (by omega); (conv => whnf)))
  refine idxK_map_intro (show (i : Int).toNat < l.length by simpa using hc) ?_
  rw [show l[(i : Int).toNat]'(by simpa using hc) = l[i] from by congr 1]
  conv => whnf
  refine br_intro (fun he => ?_) (fun he => ?_)
  ·have he : l[i] = s := by simpa [ofB_eq] using he
   conv => whnf
   refine h _ ?_
   rw [placeI, placeOf_of (i := i) (by rw [List.getElem?_eq_getElem hc, he]) h1]
  ·have he : l[i] ≠ s := by simpa [ofB_eq] using he
   conv => whnf
   rw [i64_nat (by omega)]
   refine IH (i + 1) ⟨by omega, fun j hj => ?_⟩ (by omega)
   rcases Nat.lt_or_ge j i with hlt | hge
   ·exact h1 j hlt
   ·obtain rfl : j = i := by omega
    rw [List.getElem?_eq_getElem hc]
    simpa using he
 ·have hc := ge_of_dec hc
  conv => whnf
  refine h (-1) ?_
  have : s ∉ l := by
   intro hm
   obtain ⟨j, hj, e⟩ := List.getElem_of_mem hm
   exact h1 j (by omega) (by rw [List.getElem?_eq_getElem hj, e])
  rw [placeI, placeOf_none.2 this]
def ltB (a b : B) : Bool := Op.bytesLess a b
theorem ltB_drop {a b : B} : ∀ {i : Nat}, (∀ j, j < i → a[j]? = b[j]?) → i ≤ a.length → i ≤ b.length → ltB (a.drop i) (b.drop i) = ltB a b := by
 intro i
 induction i generalizing a b with
 | zero => intro _ _ _; simp
 | succ i ih =>
  intro h ha hb
  cases a with
  | nil => simp at ha
  | cons x a =>
   cases b with
   | nil => simp at hb
   | cons y b =>
    have h0 : x = y := by simpa using h 0 (by omega)
    subst h0
    simp only [List.drop_succ_cons]
    rw [ih (fun j hj => by simpa using h (j + 1) (by omega)) (by simpa using ha) (by simpa using hb)]
    simp [ltB, Op.bytesLess]
theorem u8_lt {a b : UInt8} : decide (((a.toNat : Nat) : Int) < ((b.toNat : Nat) : Int)) = decide (a < b) := by
 apply decide_eq_decide.2
 rw [UInt8.lt_iff_toNat_lt]
 omega
theorem Less_calls (a b : B) (ha : a.length < 1000000) (hb : b.length < 1000000) {R} (h : ∀ p, p = ltB a b → R (.val (.bool p)) []) : ACalls Tryz.prog 132 [vs a, vs b] [] R := by
 refine acalls_of_xwp (an := an132) tab_ok Tryz.func132 ?_
 have hsa := size_ofB a
 have hsb := size_ofB b
 conv => whnf
 refine LoopP.ind1 (fun (i : Nat) => [(5, vi i)]) (fun _ => []) (fun i => a.length - i) (fun i => i ≤ a.length ∧ i ≤ b.length ∧ ∀ j, j < i → a[j]? = b[j]?) 0 rfl ⟨by omega, by omega, fun j hj => by omega⟩ ?_
 rintro i ⟨h0, h0', h1⟩ IH
 have hend : (a.length ≤ i ∨ b.length ≤ i) → ltB a b = decide ((a.length : Int) < (b.length : Int)) := by
  intro hc
  rw [← ltB_drop h1 h0 h0']
  rcases hc with hc | hc
  ·rw [List.drop_eq_nil_of_le hc]
   cases hd : b.drop i with
   | nil =>
    have := List.drop_eq_nil_iff.1 hd
    simp [ltB, Op.bytesLess]; omega
   | cons y l =>
    have : i < b.length := by
     rcases Nat.lt_or_ge i b.length with h | h
     ·exact h
     ·rw [List.drop_eq_nil_of_le h] at hd; cases hd
    simp [ltB, Op.bytesLess]; omega
  ·rw [List.drop_eq_nil_of_le hc]
   have : ltB (a.drop i) [] = false := by cases a.drop i <;> rfl
   rw [this]
   simp; omega
 conv => whnf
 rw [hsa]
 refine br_intro (fun hc => ?_) (fun hc => ?_)
 ·have hc := lt_of_dec hc
  conv => whnf
  rw [hsb]
  refine br_intro (fun hc' => ?_) (fun hc' => ?_)
  ·have hc' := lt_of_dec hc'
   have ea : byteAt (ofB a) (i : Int).toNat = ((a[i]).toNat : Int) := by rw [Int.toNat_natCast, byteAt_ofB a hc]
   have eb : byteAt (ofB b) (i : Int).toNat = ((b[i]).toNat : Int) := by rw [Int.toNat_natCast, byteAt_ofB b hc']
   (conv => whnf); (repeat ((with_reducible refine must_intro ?_ ?_); exact decide_eq_true (by omega); (conv => whnf)))
   rw [ea, eb]
   refine br_intro (fun he => ?_) (fun he => ?_)
   ·have he : a[i] ≠ b[i] := by
     intro e
     rw [e] at he
     simp at he
    (conv => whnf); (repeat ((with_reducible refine must_intro ?_ ?_); exact decide_eq_true (by omega); (conv => whnf)))
    rw [ea, eb, u8_lt]
    refine h _ ?_
    rw [← ltB_drop h1 h0 h0', List.drop_eq_getElem_cons hc, List.drop_eq_getElem_cons hc']
    simp [ltB, Op.bytesLess, he]
   ·have he : a[i] = b[i] := by
     simp at he
     exact u8_inj.1 he
    conv => whnf
    rw [i64_nat (by omega)]
    refine IH (i + 1) ⟨by omega, by omega, fun j hj => ?_⟩ (by omega)
    rcases Nat.lt_or_ge j i with hlt | hge
    ·exact h1 j hlt
    ·obtain rfl : j = i := by omega
     rw [List.getElem?_eq_getElem hc, List.getElem?_eq_getElem hc', he]
  ·have hc' := ge_of_dec hc'
   conv => whnf
   rw [hsa, hsb]
   exact h _ (hend (.inr hc')).symm
 ·have hc := ge_of_dec hc
  conv => whnf
  rw [hsa, hsb]
  exact h _ (hend (.inl hc)).symm
theorem lsb_and (c : Crc.W) : c &&& 1#32 = if c.getLsbD 0 then 1#32 else 0#32 := by
 apply BitVec.eq_of_getLsbD_eq
 intro i hi
 rw [BitVec.getLsbD_and]
 cases h : c.getLsbD 0 with
 | true =>
  by_cases e : i = 0
  ·subst e; simp [h]
  ·simp [BitVec.getLsbD_one, e]
 | false =>
  by_cases e : i = 0
  ·subst e; rw [h]; rfl
  ·simp [BitVec.getLsbD_one, e]
theorem s0_step (c : Crc.W) : ibits .xor .u32 ((c.toNat : Int).fdiv (2 ^ min ((1 : Nat) : Int).toNat IntKind.u32.bits)) (IntKind.u32.wrap (3988292384 * ibits .and .u32 (c.toNat : Int) 1)) = ((Crc.s0 c).toNat : Int) := by
 rw [w_shr c 1 (by omega), show (1 : Int) = ((1#32 : Crc.W).toNat : Int) from rfl, w_and, lsb_and]
 have : IntKind.u32.wrap (3988292384 * ((if c.getLsbD 0 then 1#32 else 0#32 : Crc.W).toNat : Int)) = ((if c.getLsbD 0 then Crc.poly else 0#32 : Crc.W).toNat : Int) := by
  cases c.getLsbD 0 <;> rfl
 rw [this, w_xor]
 rfl
def s0n (c : Crc.W) : Nat → Crc.W
 | 0 => c
 | k + 1 => Crc.s0 (s0n c k)
theorem four_calls (c : Crc.W) {X : AV} (hX : X = wv c) {R} (h : R (wv (Crc.four c)) []) : ACalls Tryz.prog 232 [X] [] R := by
 subst hX
 refine acalls_of_xwp (an := an232) tab_ok Tryz.func232 ?_
 conv => whnf
 refine LoopP.ind2 (fun (i : Nat) (x : Crc.W) => [(0, wv x), (4, vi i)]) (fun i x => []) (fun i _ => 4 - i) (fun i x => i ≤ 4 ∧ x = s0n c i) 0 c rfl ⟨by omega, rfl⟩ ?_
 rintro i x ⟨h0, hx⟩ IH
 conv => whnf
 refine br_intro (fun hc => ?_) (fun hc => ?_)
 ·have hc : i < 4 := by simp at hc; omega
  conv => whnf
  have e := s0_step x
  simp only [wv] at IH
  rw [i64_nat (by omega)]
  have := IH (i + 1) (Crc.s0 x) ⟨by omega, by rw [hx]; rfl⟩ (by omega)
  rw [← e] at this
  exact this
 ·have hc : i = 4 := by simp at hc; omega
  subst hc
  conv => whnf
  rw [hx]
  exact h
def crcT : List AV := (List.range 16).map fun i => wv (Crc.four (BitVec.ofNat 32 i))
theorem halves_calls {R} (h : R (.agg crcT) []) : ACalls Tryz.prog 214 [] [] R := by
 refine acalls_of_xwp (an := an214) tab_ok Tryz.func214 ?_
 conv => whnf
 refine LoopP.step ?_
 conv => whnf
 refine four_calls 0#32 rfl ?_
 conv => whnf
 refine LoopP.step ?_
 conv => whnf
 refine four_calls 1#32 rfl ?_
 conv => whnf
 refine LoopP.step ?_
 conv => whnf
 refine four_calls 2#32 rfl ?_
 conv => whnf
 refine LoopP.step ?_
 conv => whnf
 refine four_calls 3#32 rfl ?_
 conv => whnf
 refine LoopP.step ?_
 conv => whnf
 refine four_calls 4#32 rfl ?_
 conv => whnf
 refine LoopP.step ?_
 conv => whnf
 refine four_calls 5#32 rfl ?_
 conv => whnf
 refine LoopP.step ?_
 conv => whnf
 refine four_calls 6#32 rfl ?_
 conv => whnf
 refine LoopP.step ?_
 conv => whnf
 refine four_calls 7#32 rfl ?_
 conv => whnf
 refine LoopP.step ?_
 conv => whnf
 refine four_calls 8#32 rfl ?_
 conv => whnf
 refine LoopP.step ?_
 conv => whnf
 refine four_calls 9#32 rfl ?_
 conv => whnf
 refine LoopP.step ?_
 conv => whnf
 refine four_calls 10#32 rfl ?_
 conv => whnf
 refine LoopP.step ?_
 conv => whnf
 refine four_calls 11#32 rfl ?_
 conv => whnf
 refine LoopP.step ?_
 conv => whnf
 refine four_calls 12#32 rfl ?_
 conv => whnf
 refine LoopP.step ?_
 conv => whnf
 refine four_calls 13#32 rfl ?_
 conv => whnf
 refine LoopP.step ?_
 conv => whnf
 refine four_calls 14#32 rfl ?_
 conv => whnf
 refine LoopP.step ?_
 conv => whnf
 refine four_calls 15#32 rfl ?_
 conv => whnf
 refine LoopP.step ?_
 conv => whnf
 exact h
theorem load_at {l : List AV} {n : Nat} {a : AV} {K : AV → Prop} (h : l[n]? = some a) (hk : force a K) : (match dropL l n with | a :: _ => force a K | [] => False) := by
 rw [dropL_eq]
 obtain ⟨hl, rfl⟩ := List.getElem?_eq_some_iff.1 h
 rw [List.drop_eq_getElem_cons hl]
 exact hk
theorem crcT_at (i : Crc.W) (h : i.toNat < 16) : crcT[i.toNat]? = some (wv (Crc.four i)) := by
 unfold crcT
 rw [List.getElem?_map, List.getElem?_range h]
 simp
theorem w_byte (x : UInt8) : IntKind.u32.wrap ((x.toNat : Nat) : Int) = (((Crc.ofByte x).toNat : Nat) : Int) := by
 have := x.toNat_lt
 rw [wrap_u32 (Int.natCast_nonneg _) (by omega)]
 unfold Crc.ofByte
 rw [BitVec.toNat_ofNat, Nat.mod_eq_of_lt (by omega)]
theorem w_byte4 (x : UInt8) : IntKind.u32.wrap (((x.toNat : Nat) : Int).fdiv (2 ^ min (Int.toNat 4) IntKind.u8.bits)) = (((Crc.ofByte x >>> 4).toNat : Nat) : Int) := by
 have hx := x.toNat_lt
 have e : ((x.toNat : Nat) : Int).fdiv (2 ^ min (Int.toNat 4) IntKind.u8.bits) = ((x.toNat / 16 : Nat) : Int) := by
  show ((x.toNat : Nat) : Int).fdiv (2 ^ 4) = _
  rw [Int.fdiv_eq_ediv_of_nonneg _ (by decide)]; omega
 rw [e, wrap_u32 (Int.natCast_nonneg _) (by omega), BitVec.toNat_ushiftRight, Nat.shiftRight_eq_div_pow]
 unfold Crc.ofByte
 rw [BitVec.toNat_ofNat, Nat.mod_eq_of_lt (by omega)]
theorem and15_lt (c : Crc.W) : (c &&& 15#32).toNat < 16 := by
 rw [BitVec.toNat_and]
 exact Nat.lt_of_le_of_lt Nat.and_le_right (by decide)
theorem half_step (c n : Crc.W) : ibits .and .u32 (ibits .xor .u32 (c.toNat : Int) (n.toNat : Int)) 15 = (((c ^^^ n) &&& 15#32).toNat : Int) := by
 rw [w_xor, show (15 : Int) = ((15#32 : Crc.W).toNat : Int) from rfl, w_and]
theorem half_end (c n : Crc.W) : ibits .xor .u32 ((c.toNat : Int).fdiv (2 ^ min (Int.toNat 4) IntKind.u32.bits)) ((Crc.four ((c ^^^ n) &&& 15#32)).toNat : Int) = ((Crc.half c n).toNat : Int) := by
 have e : (c.toNat : Int).fdiv (2 ^ min (Int.toNat 4) IntKind.u32.bits) = ((c >>> 4).toNat : Int) := w_shr c 4 (by omega)
 rw [e, w_xor]; rfl
theorem w_compl (c : Crc.W) : ibits .xor .u32 4294967295 (c.toNat : Int) = ((~~~ c).toNat : Int) := by
 rw [show (4294967295 : Int) = ((0xffffffff#32 : Crc.W).toNat : Int) from rfl, w_xor]
 congr 2
theorem Sum_calls (b : B) (hb : b.length < 100000000) {R} (h : R (wv (Crc.sum b)) []) : ACalls Tryz.prog 180 [.sl none 1 [[.sl none 1 (byteEls b)]]] [] R := by
 refine acalls_of_xwp (an := an180) tab_ok Tryz.func180 ?_
 have hsl : (byteEls b).length = b.length := by simp [byteEls]
 conv => whnf
 refine halves_calls ?_
 conv => whnf
 refine LoopP.step ?_
 conv => whnf
 refine LoopP.ind2 (fun (i : Nat) (c : Crc.W) => [(4, wv c), (18, vi i)]) (fun i c => [(nameOf 3, .cells 297 crcT)]) (fun i _ => b.length - i) (fun i c => i ≤ b.length ∧ c = Crc.run 0xffffffff#32 (b.take i)) 0 0xffffffff#32 rfl ⟨by omega, rfl⟩ ?_
 rintro i c ⟨h0, hc0⟩ IH
 conv => whnf
 refine br_intro (fun hc => ?_) (fun hc => ?_)
 ·have hc := lt_of_decE hsl hc
  (conv => whnf); (repeat ((with_reducible refine must_intro ?_ ?_); exact decide_eq_true (by omega); (conv => whnf)))
  refine idxK_map_intro (show (i : Int).toNat < b.length by simpa using hc) ?_
  rw [show b[(i : Int).toNat]'(by simpa using hc) = b[i] from by congr 1]
  have IH' := IH (i + 1) (Crc.byte c b[i]) ⟨by omega, by rw [List.take_succ_eq_append_getElem hc, Crc.run_append, hc0]; rfl⟩ (by omega)
  clear IH
  generalize b[i] = x at IH' ⊢
  conv => whnf
  rw [w_byte, half_step]
  have hq := and15_lt (c ^^^ Crc.ofByte x)
  have hT := crcT_at _ hq
  have he := half_end c (Crc.ofByte x)
  generalize (c ^^^ Crc.ofByte x) &&& 15#32 = q at hq hT he ⊢
  refine must_intro (decide_eq_true (show ((q.toNat : Nat) : Int) < ((16 : Nat) : Int) by omega)) ?_
  conv => whnf
  refine load_at (a := wv (Crc.four q)) (by show crcT[0 + q.toNat * 1]? = _; rw [Nat.zero_add, Nat.mul_one]; exact hT) ?_
  conv => whnf
  rw [he, w_byte4, half_step]
  have hq := and15_lt (Crc.half c (Crc.ofByte x) ^^^ (Crc.ofByte x >>> 4))
  have hT := crcT_at _ hq
  have he := half_end (Crc.half c (Crc.ofByte x)) (Crc.ofByte x >>> 4)
  generalize (Crc.half c (Crc.ofByte x) ^^^ (Crc.ofByte x >>> 4)) &&& 15#32 = q2 at hq hT he ⊢
  refine must_intro (decide_eq_true (show ((q2.toNat : Nat) : Int) < ((16 : Nat) : Int) by omega)) ?_
  conv => whnf
  refine load_at (a := wv (Crc.four q2)) (by show crcT[0 + q2.toNat * 1]? = _; rw [Nat.zero_add, Nat.mul_one]; exact hT) ?_
  conv => whnf
  rw [he, i64_nat (by omega)]
  exact IH'
 ·have hc := ge_of_decE hsl hc
  rw [List.take_of_length_le hc] at hc0
  conv => whnf
  refine LoopP.step ?_
  conv => whnf
  have e : ibits .xor .u32 (match IntKind.u32.signed with | true => -1 | false => IntKind.u32.max) (c.toNat : Int) = ((Crc.sum b).toNat : Int) := by
   rw [Crc.sum, ← hc0]; exact w_compl c
  refine Eq.mp ?_ h
  rw [wv, ← e]
  rfl
theorem w_mod2 (c : Crc.W) : (c.toNat : Int).tmod 2 = if c.getLsbD 0 then 1 else 0 := by
 rw [Int.tmod_eq_emod_of_nonneg (Int.natCast_nonneg _)]
 have h : c.getLsbD 0 = decide (c.toNat % 2 = 1) := by
  rw [BitVec.getLsbD, Nat.testBit_zero]
 rw [h]
 by_cases e : c.toNat % 2 = 1
 ·rw [decide_eq_true e]; simp; omega
 ·rw [decide_eq_false e]; simp; omega
theorem w_div2 (c : Crc.W) : IntKind.u32.wrap ((c.toNat : Int).tdiv 2) = ((c >>> 1).toNat : Int) := by
 have := c.isLt
 rw [Int.tdiv_eq_ediv_of_nonneg (Int.natCast_nonneg _), wrap_u32 (by omega) (by omega), BitVec.toNat_ushiftRight, Nat.shiftRight_eq_div_pow]
 omega
theorem b_bit (x : UInt8) (k : Nat) (hk : k < 8) : (IntKind.u32.wrap (((x.toNat : Nat) : Int).fdiv (2 ^ min ((k : Nat) : Int).toNat IntKind.u8.bits))).tmod 2 = if (Crc.ofByte x).getLsbD k then 1 else 0 := by
 have hx := x.toNat_lt
 have e : ((x.toNat : Nat) : Int).fdiv (2 ^ min ((k : Nat) : Int).toNat IntKind.u8.bits) = ((x.toNat / 2 ^ k : Nat) : Int) := by
  have : min ((k : Nat) : Int).toNat IntKind.u8.bits = k := by
   show min ((k : Nat) : Int).toNat 8 = k
   rw [Int.toNat_natCast]; omega
  rw [this, Int.fdiv_eq_ediv_of_nonneg _ (by exact Int.le_of_lt (Int.pow_pos (by omega)))]
  simp
 have hlt : x.toNat / 2 ^ k < 256 := Nat.lt_of_le_of_lt (Nat.div_le_self _ _) hx
 rw [e, wrap_u32 (Int.natCast_nonneg _) (by omega), Int.tmod_eq_emod_of_nonneg (Int.natCast_nonneg _)]
 have h : (Crc.ofByte x).getLsbD k = decide (x.toNat / 2 ^ k % 2 = 1) := by
  unfold Crc.ofByte
  rw [BitVec.getLsbD_ofNat, Nat.testBit_eq_decide_div_mod_eq]
  simp; omega
 rw [h]
 generalize x.toNat / 2 ^ k = q
 by_cases e : q % 2 = 1
 ·rw [decide_eq_true e]; simp; omega
 ·rw [decide_eq_false e]; simp; omega
theorem refSum_calls (b : B) (hb : b.length < 100000000) {R} (h : R (wv (Crc.sum b)) []) : ACalls Tryz.prog 163 [vs b] [] R := by
 refine acalls_of_xwp (an := an163) tab_ok Tryz.func163 ?_
 have hsl := size_ofB b
 conv => whnf
 refine LoopP.ind2 (fun (i : Nat) (c : Crc.W) => [(3, wv c), (4, vi i)]) (fun i c => []) (fun i _ => b.length - i) (fun i c => i ≤ b.length ∧ c = Crc.run 0xffffffff#32 (b.take i)) 0 0xffffffff#32 rfl ⟨by omega, rfl⟩ ?_
 rintro i c ⟨h0, hc0⟩ IH
 conv => whnf
 refine br_intro (fun hc => ?_) (fun hc => ?_)
 ·have hc := lt_of_decE hsl hc
  have IH' := IH (i + 1) (Crc.bits c b[i] 8) ⟨by omega, by rw [List.take_succ_eq_append_getElem hc, Crc.run_append, hc0, ← Crc.byte_bits]; rfl⟩ (by omega)
  clear IH
  conv => whnf
  refine LoopP.ind2 (fun (k : Nat) (d : Crc.W) => [(3, wv d), (5, .val (.int .u64 (k : Int)))]) (fun _ _ => []) (fun k _ => 8 - k) (fun k d => k ≤ 8 ∧ d = Crc.bits c b[i] k) 0 c rfl ⟨by omega, rfl⟩ ?_
  rintro k d ⟨hk0, hd⟩ IH2
  conv => whnf
  refine br_intro (fun hk => ?_) (fun hk => ?_)
  ·have hk : k < 8 := by simp at hk; omega
   have hnx := IH2 (k + 1) (Crc.bits c b[i] (k + 1)) ⟨by omega, rfl⟩ (by omega)
   clear IH2
   have hbits : Crc.bits c b[i] (k + 1) = Crc.bitS d ((Crc.ofByte b[i]).getLsbD k) := by rw [hd]; rfl
   rw [hbits] at hnx
   clear hbits hd
   have hbyte := byteAt_ofB b hc
   have hkk : IntKind.u64.wrap ((k : Int) + 1) = ((k + 1 : Nat) : Int) := by
    show ((k : Int) + 1) % 18446744073709551616 = _
    omega
   generalize b[i] = x at hbyte hnx ⊢
   (conv => whnf); (repeat ((with_reducible refine must_intro ?_ ?_); exact decide_eq_true (by omega); (conv => whnf)))
   rw [show (i : Int).toNat = i from rfl, hbyte, b_bit x k hk, w_mod2, w_div2]
   refine br_intro (fun hu => ?_) (fun hu => ?_)
   ·conv => whnf
    rw [hkk]
    have hb2 : (d.getLsbD 0 != (Crc.ofByte x).getLsbD k) = true := by
     revert hu; cases d.getLsbD 0 <;> cases (Crc.ofByte x).getLsbD k <;> simp
    rw [Crc.bitS, hb2, if_pos rfl] at hnx
    have e : ibits .xor .u32 ((d >>> 1).toNat : Int) 3988292384 = ((d >>> 1 ^^^ Crc.poly).toNat : Int) := by
     rw [show (3988292384 : Int) = (Crc.poly.toNat : Int) from rfl, w_xor]
    rw [e]
    exact hnx
   ·conv => whnf
    rw [hkk]
    have hb2 : (d.getLsbD 0 != (Crc.ofByte x).getLsbD k) = false := by
     revert hu; cases d.getLsbD 0 <;> cases (Crc.ofByte x).getLsbD k <;> simp
    rw [Crc.bitS, hb2, if_neg (by simp), BitVec.xor_zero] at hnx
    exact hnx
  ·have hk : k = 8 := by simp at hk; omega
   subst hk
   subst hd
   conv => whnf
   rw [i64_nat (by omega)]
   exact IH'
 ·have hc := ge_of_decE hsl hc
  rw [List.take_of_length_le hc] at hc0
  conv => whnf
  have e : IntKind.u32.wrap (4294967295 - (c.toNat : Int)) = ((Crc.sum b).toNat : Int) := by
   have := c.isLt
   rw [wrap_u32 (by omega) (by omega), Crc.sum, ← hc0, BitVec.toNat_not]
   omega
  rw [e]
  exact h
def sealF (b : B) : B := b ++ w4 (Crc.sum b).toNat
theorem sealed_calls (b : B) (hb : b.length < 10000000) {R} (h : R (.sl none 1 (byteEls (sealF b))) []) : ACalls Tryz.prog 152 [.sl none 1 (byteEls b)] [] R := by
 refine acalls_of_xwp (an := an152) tab_ok Tryz.func152 ?_
 have hw := w4_length (Crc.sum b).toNat
 conv => whnf
 refine Sum_calls b (by omega) ?_
 conv => whnf
 refine Bytes_calls (Crc.sum b).toNat (Crc.sum b).isLt ?_
 conv => whnf
 refine Concat_calls b (w4 (Crc.sum b).toNat) (by omega) (by omega) ?_
 conv => whnf
 exact h
def frameP (p : B) : B := sealF (blobP p)
theorem framePut_calls (b p : B) (hb : b.length < 10000000) (h1 : 1 ≤ p.length) (h2 : p.length ≤ 2048) {R} (h : R (.tup [.sl none 1 (byteEls (b ++ frameP p)), vi 0]) []) : ACalls Tryz.prog 122 [.sl none 1 (byteEls b), .sl none 1 (byteEls p)] [] R := by
 refine acalls_of_xwp (an := an122) tab_ok Tryz.func122 ?_
 have hpl := bel_length p
 have hv := vrn_u64 (n := p.length) (by omega)
 have hbp : (blobP p).length = (vrn p.length).length + p.length := by simp [blobP]
 have hfp : (frameP p).length = (blobP p).length + 4 := by simp [frameP, sealF, w4_length]
 have hst : ∃ ns : List Int, byteEls p = ns.map (fun n => [AV.val (.int .u8 n)]) ∧ strOfNums ns = ofB p := ⟨p.map fun c => (c.toNat : Int), by simp [byteEls], strOfNums_ofB p⟩
 obtain ⟨ns, n1, n2⟩ := hst
 conv => whnf
 refine br_intro (fun g => ?_) (fun g => ?_)
 ·exfalso
  have g := of_decide_eq_true g
  rw [hpl] at g
  omega
 conv => whnf
 refine br_intro (fun g => ?_) (fun g => ?_)
 ·exfalso
  have g := of_decide_eq_true g
  rw [hpl] at g
  omega
 conv => whnf
 refine ⟨ns, n1, ?_⟩
 rw [n2]
 conv => whnf
 refine ACalls.args (leL.cons (le_nil 1) (leL.refl _)) (bPut_calls [] p (by simp) (by omega) ?_)
 conv => whnf
 refine sealed_calls ([] ++ blobP p) (by simp; omega) ?_
 conv => whnf
 refine Concat_calls b (sealF ([] ++ blobP p)) (by omega) (by rw [List.nil_append]; change (frameP p).length < _; omega) ?_
 conv => whnf
 exact h
theorem w4_at {n i : Nat} (hi : i < 4) : ((w4 n)[i]?).map (·.toNat) = some (n / 256 ^ i % 256) := by
 have h : ∀ m : Nat, (UInt8.ofNat (m % 256)).toNat = m % 256 := fun m => u8_nat (Nat.mod_lt _ (by omega))
 have : i = 0 ∨ i = 1 ∨ i = 2 ∨ i = 3 := by omega
 rcases this with rfl | rfl | rfl | rfl <;> simp [w4]
theorem or32 {c d : Nat} (hc : c < 16777216) (hd : d < 256) : ibits .or .u32 (IntKind.u32.wrap ((c : Int) * 2 ^ min (Int.toNat 8) IntKind.u32.bits)) (IntKind.u32.wrap (d : Int)) = ((256 * c + d : Nat) : Int) := by
 have e1 : IntKind.u32.wrap ((c : Int) * 2 ^ min (Int.toNat 8) IntKind.u32.bits) = ((256 * c : Nat) : Int) := by
  show ((c : Int) * 2 ^ 8) % 4294967296 = _
  omega
 have e2 : IntKind.u32.wrap (d : Int) = (d : Int) := by
  show (d : Int) % 4294967296 = _
  omega
 rw [e1, e2]
 unfold ibits
 show IntKind.u32.wrap (((BitVec.ofInt 32 ((256 * c : Nat) : Int) ||| BitVec.ofInt 32 (d : Int)).toNat : Nat) : Int) = _
 rw [BitVec.toNat_or]
 have h1 : (BitVec.ofInt 32 ((256 * c : Nat) : Int)).toNat = 256 * c := by rw [BitVec.toNat_ofInt]; omega
 have h2 : (BitVec.ofInt 32 (d : Int)).toNat = d := by rw [BitVec.toNat_ofInt]; omega
 have h3 := Nat.two_pow_add_eq_or_of_lt (i := 8) (b := d) (by omega) c
 rw [h1, h2, show 256 * c = 2 ^ 8 * c from rfl, ← h3]
 show ((2 ^ 8 * c + d : Nat) : Int) % 4294967296 = _
 omega
theorem cRead_calls (p q : B) (n : Nat) (hn : n < 4294967296) (hl : p.length + q.length < 100000000) {R} (h : R (.tup [.val (.int .u32 (n : Int)), .val (.bool true)]) []) : ACalls Tryz.prog 189 [.sl none 1 (byteEls (p ++ w4 n ++ q)), vi (p.length : Int)] [] R := by
 refine acalls_of_xwp (an := an189) tab_ok Tryz.func189 ?_
 have hbl : (byteEls (p ++ w4 n ++ q)).length = p.length + 4 + q.length := by simp [byteEls, w4_length]; omega
 have ew : IntKind.i64.wrap (((byteEls (p ++ w4 n ++ q)).length : Int) - (p.length : Int)) = ((4 + q.length : Nat) : Int) := by rw [hbl, wrap_i64 (by omega) (by omega)]; omega
 conv => whnf
 refine br_intro (fun g => ?_) (fun g => ?_)
 ·exfalso
  have g := of_decide_eq_true g
  rw [hbl] at g
  omega
 conv => whnf
 refine br_intro (fun g => ?_) (fun g => ?_)
 ·exfalso
  have g := of_decide_eq_true g
  rw [ew] at g
  omega
 conv => whnf
 refine LoopP.ind1 (fun (j : Nat) => [(6, .val (.int .u32 ((n / 256 ^ j : Nat) : Int))), (7, vi ((j : Int) - 1))]) (fun _ => []) (fun j => j) (fun j => j ≤ 4) 4 (by rw [show n / 256 ^ 4 = 0 from Nat.div_eq_of_lt (by omega)]; rfl) (by omega) ?_
 rintro j h0 IH
 conv => whnf
 refine br_intro (fun g2 => ?_) (fun g2 => ?_)
 ·have g2 := of_decide_eq_true g2
  obtain ⟨k, rfl⟩ : ∃ k, j = k + 1 := ⟨j - 1, by omega⟩
  have hnx := IH k (by omega) (by omega)
  have ek : ((k + 1 : Nat) : Int) - 1 = (k : Int) := by omega
  have e1 : IntKind.i64.wrap ((p.length : Int) + (((k + 1 : Nat) : Int) - 1)) = ((p.length + k : Nat) : Int) := by rw [ek, wrap_i64 (by omega) (by omega)]; omega
  have e2 : IntKind.i64.wrap (((k + 1 : Nat) : Int) - 1 - 1) = (k : Int) - 1 := by rw [ek, wrap_i64 (by omega) (by omega)]
  obtain ⟨c, hc, hcn⟩ := Option.map_eq_some_iff.1 (w4_at (n := n) (i := k) (by omega))
  have hget : (byteEls (p ++ w4 n ++ q))[p.length + k]? = some [.val (.int .u8 ((n / 256 ^ k % 256 : Nat) : Int))] := by
   unfold byteEls
   rw [List.getElem?_map, List.append_assoc, List.getElem?_append_right (by omega), Nat.add_sub_cancel_left, List.getElem?_append_left (by rw [w4_length]; omega), hc, ← hcn]
   rfl
  have hd1 : n / 256 ^ (k + 1) = n / 256 ^ k / 256 := by rw [Nat.pow_succ, Nat.div_div_eq_div_mul]
  have hle : n / 256 ^ k ≤ n := Nat.div_le_self _ _
  have hsum : 256 * (n / 256 ^ (k + 1)) + n / 256 ^ k % 256 = n / 256 ^ k := by rw [hd1]; omega
  have hor := or32 (c := n / 256 ^ (k + 1)) (d := n / 256 ^ k % 256) (by rw [hd1]; omega) (Nat.mod_lt _ (by omega))
  rw [hsum] at hor
  conv => whnf
  refine must_intro (decide_eq_true (by rw [e1]; omega)) ?_
  rw [e1]
  refine idxK_iff.2 ⟨_, hget, ?_⟩
  conv => whnf
  rw [hor, e2]
  exact hnx
 ·have g2 := of_decide_eq_false g2
  have hj : j = 0 := by omega
  subst hj
  rw [Nat.pow_zero, Nat.div_one]
  conv => whnf
  exact h
theorem whole_calls (p q : B) (hl : p.length + q.length < 9000000) {R} (h : R (.val (.bool true)) []) : ACalls Tryz.prog 158 [.sl none 1 (byteEls (sealF p ++ q)), vi (p.length : Int)] [] R := by
 refine acalls_of_xwp (an := an158) tab_ok Tryz.func158 ?_
 have hw := w4_length (Crc.sum p).toNat
 have hbl : (byteEls (sealF p ++ q)).length = p.length + 4 + q.length := by simp [byteEls, sealF, w4_length]; omega
 conv => whnf
 refine cRead_calls p q (Crc.sum p).toNat (Crc.sum p).isLt (by omega) ?_
 conv => whnf
 refine must_intro (decide_eq_true (by omega)) ?_
 conv => whnf
 have et : List.take p.length (byteEls (sealF p ++ q)) = byteEls p := by
  rw [sealF, List.append_assoc, bel_append, List.take_append_of_le_length (by rw [bel_length]; exact Nat.le_refl _)]
  exact List.take_of_length_le (by rw [bel_length]; exact Nat.le_refl _)
 refine (show ACalls Tryz.prog 180 [.sl none 1 [[.sl none 1 (List.take p.length (byteEls (sealF p ++ q)))]]] [] _ from ?_)
 rw [et]
 refine Sum_calls p (by omega) ?_
 have hb : ((((Crc.sum p).toNat : Nat) : Int) == (((Crc.sum p).toNat : Nat) : Int)) = true := beq_self_eq_true _
 conv => whnf
 rw [hb]
 exact h
theorem str_of (p : B) : ∃ ns : List Int, byteEls p = ns.map (fun n => [AV.val (.int .u8 n)]) ∧ strOfNums ns = ofB p := ⟨p.map fun c => (c.toNat : Int), by simp [byteEls], strOfNums_ofB p⟩
theorem bGet_calls (p q s : B) (most : Nat) (hs : s.length ≤ most) (hm : most < 10000000) (hl : p.length + q.length < 50000000) {R} (h : R (.tup [vs s, vi ((p.length + (blobP s).length : Nat) : Int), vi 0]) []) :
  ACalls Tryz.prog 217 [.sl none 1 (byteEls (p ++ blobP s ++ q)), vi (p.length : Int), vi (most : Int)] [] R := by
 refine acalls_of_xwp (an := an217) tab_ok Tryz.func217 ?_
 have eb : p ++ blobP s ++ q = p ++ vrn s.length ++ (s ++ q) := by simp [blobP]
 have hv := vrn_u64 (n := s.length) (by omega)
 have hbs : (blobP s).length = (vrn s.length).length + s.length := by simp [blobP]
 rw [eb]
 have hbl : (byteEls (p ++ vrn s.length ++ (s ++ q))).length = p.length + (vrn s.length).length + s.length + q.length := by simp [byteEls]; omega
 have em : IntKind.u64.wrap (if (most : Int) < 0 then 0 else (most : Int)) = (most : Int) := by
  rw [if_neg (by omega)]
  show (most : Int) % 18446744073709551616 = _
  omega
 have el : IntKind.u64.wrap (IntKind.i64.wrap (((byteEls (p ++ vrn s.length ++ (s ++ q))).length : Int) - ((p.length + (vrn s.length).length : Nat) : Int))) = ((s.length + q.length : Nat) : Int) := by
  rw [hbl, wrap_i64 (by omega) (by omega)]
  show _ % 18446744073709551616 = _
  omega
 have en : IntKind.i64.wrap (((p.length + (vrn s.length).length : Nat) : Int) + IntKind.i64.wrap (s.length : Int)) = ((p.length + (blobP s).length : Nat) : Int) := by
  rw [wrap_i64 (x := (s.length : Int)) (by omega) (by omega), wrap_i64 (by omega) (by omega), hbs]
  omega
 obtain ⟨ns, n1, n2⟩ := str_of s
 conv => whnf
 refine vGet_calls p (s ++ q) s.length (by omega) (by simp; omega) ?_
 conv => whnf
 refine br_intro (fun g => ?_) (fun g => ?_)
 ·exfalso
  rw [em] at g
  have g := of_decide_eq_true g
  omega
 conv => whnf
 refine br_intro (fun g => ?_) (fun g => ?_)
 ·exfalso
  rw [el] at g
  have g := of_decide_eq_true g
  omega
 conv => whnf
 refine must_intro (decide_eq_true (by rw [en, hbs]; omega)) ?_
 conv => whnf
 refine must_intro (decide_eq_true (by rw [en, hbl, hbs]; omega)) ?_
 conv => whnf
 have et : List.drop (((p.length + (vrn s.length).length : Nat) : Int)).toNat (List.take (((p.length + (blobP s).length : Nat) : Int)).toNat (byteEls (p ++ vrn s.length ++ (s ++ q)))) = byteEls s := by
  rw [Int.toNat_natCast, Int.toNat_natCast, bel_append (p ++ vrn s.length) (s ++ q), List.take_append, List.drop_append]
  have h1 : (byteEls (p ++ vrn s.length)).length = p.length + (vrn s.length).length := by simp [byteEls]
  have h2 : (byteEls s).length = s.length := bel_length s
  rw [List.take_of_length_le (by rw [h1, hbs]; omega), List.drop_of_length_le (by rw [h1]; exact Nat.le_refl _), h1, hbs]
  rw [show p.length + ((vrn s.length).length + s.length) - (p.length + (vrn s.length).length) = s.length by omega, Nat.sub_self, List.drop_zero, List.nil_append]
  rw [bel_append s q, List.take_append_of_le_length (by rw [h2]; exact Nat.le_refl _)]
  exact List.take_of_length_le (by rw [h2]; exact Nat.le_refl _)
 refine ⟨ns, by rw [en, et]; exact n1, ?_⟩
 rw [n2, en]
 conv => whnf
 exact h
theorem fGet_calls (p q s : B) (h1 : 1 ≤ s.length) (h2 : s.length ≤ 2048) (hl : p.length + q.length < 4000000) {R} (h : R (.tup [.sl none 1 (byteEls s), vi ((p.length + (frameP s).length : Nat) : Int), vi 0]) []) :
  ACalls Tryz.prog 191 [.sl none 1 (byteEls (p ++ frameP s ++ q)), vi (p.length : Int)] [] R := by
 refine acalls_of_xwp (an := an191) tab_ok Tryz.func191 ?_
 have hv := vrn_u64 (n := s.length) (by omega)
 have hbs : (blobP s).length = (vrn s.length).length + s.length := by simp [blobP]
 have hfs : (frameP s).length = (blobP s).length + 4 := by simp [frameP, sealF, w4_length]
 have eb : p ++ frameP s ++ q = p ++ blobP s ++ (w4 (Crc.sum (blobP s)).toNat ++ q) := by simp [frameP, sealF]
 have hbl : (byteEls (p ++ frameP s ++ q)).length = p.length + (blobP s).length + 4 + q.length := by rw [bel_length]; simp [hfs]; omega
 have hne : decide (ofB s = ofB []) = false := decide_eq_false (fun e => by have := ofB_inj e; rw [this] at h1; simp at h1)
 have e1 : IntKind.i64.wrap (((byteEls (p ++ frameP s ++ q)).length : Int) - ((p.length + (blobP s).length : Nat) : Int)) = ((4 + q.length : Nat) : Int) := by rw [hbl, wrap_i64 (by omega) (by omega)]; omega
 have e2 : IntKind.i64.wrap (((p.length + (blobP s).length : Nat) : Int) - (p.length : Int)) = (((blobP s).length : Nat) : Int) := by rw [wrap_i64 (by omega) (by omega)]; omega
 have e3 : IntKind.i64.wrap (((p.length + (blobP s).length : Nat) : Int) + 4) = ((p.length + (frameP s).length : Nat) : Int) := by rw [hfs, wrap_i64 (by omega) (by omega)]; omega
 conv => whnf
 refine br_intro (fun g => ?_) (fun g => ?_)
 ·exfalso
  have g := beq_iff_eq.1 g
  rw [hbl] at g
  omega
 conv => whnf
 refine (show ACalls Tryz.prog 217 [.sl none 1 (byteEls (p ++ frameP s ++ q)), vi (p.length : Int), vi ((2048 : Nat) : Int)] [] _ from ?_)
 rw [eb]
 refine bGet_calls p (w4 (Crc.sum (blobP s)).toNat ++ q) s 2048 h2 (by omega) (by simp [w4_length]; omega) ?_
 rw [← eb]
 conv => whnf
 refine br_false hne ?_
 conv => whnf
 refine br_intro (fun g => ?_) (fun g => ?_)
 ·exfalso
  rw [e1] at g
  have g := of_decide_eq_true g
  omega
 conv => whnf
 refine must_intro (decide_eq_true (by rw [hbl]; omega)) ?_
 conv => whnf
 refine must_intro (decide_eq_true (by omega)) ?_
 conv => whnf
 have et : List.drop p.length (List.take (byteEls (p ++ frameP s ++ q)).length (byteEls (p ++ frameP s ++ q))) = byteEls (sealF (blobP s) ++ q) := by
  rw [List.take_length, List.append_assoc, bel_append, List.drop_append_of_le_length (by rw [bel_length]; exact Nat.le_refl _), List.drop_of_length_le (by rw [bel_length]; exact Nat.le_refl _)]
  rfl
 refine (show ACalls Tryz.prog 158 [.sl none 1 (List.drop p.length (List.take (byteEls (p ++ frameP s ++ q)).length (byteEls (p ++ frameP s ++ q)))), vi (IntKind.i64.wrap (((p.length + (blobP s).length : Nat) : Int) - (p.length : Int)))] [] _ from ?_)
 rw [et, e2]
 refine whole_calls (blobP s) q (by omega) ?_
 have hdat : (ofB s).data.toList = s := bs_ofB s
 conv => whnf
 rw [hdat, e3]
 exact h
theorem fGetEnd_calls (b : B) (hb : b.length < 10000000) {R} (h : R (.tup [.val (.slice none 0 0), vi 0, vi 6]) []) : ACalls Tryz.prog 191 [.sl none 1 (byteEls b), vi (b.length : Int)] [] R := by
 refine acalls_of_xwp (an := an191) tab_ok Tryz.func191 ?_
 have hbl := bel_length b
 have he : (((b.length : Nat) : Int) == (((byteEls b).length : Nat) : Int)) = true := by rw [hbl]; exact beq_self_eq_true _
 conv => whnf
 refine br_true he ?_
 conv => whnf
 exact h
end Go.Abs
end
section
namespace Go.Abs
open Go Go.Proofs Go.RowKit
attribute [local go_sem] Oper.semAt_some
def framesP (l : List B) : B := (l.map frameP).flatten
def endsP : Nat → List B → List Nat
 | _, [] => []
 | o, p :: l => (o + (frameP p).length) :: endsP (o + (frameP p).length) l
def framesA (o : Nat) (l : List B) : List (List AV) := (l.zip (endsP o l)).map fun q => [.sl none 1 (byteEls q.1), vi (q.2 : Int)]
theorem endsP_length : ∀ (l : List B) (o : Nat), (endsP o l).length = l.length := by
 intro l
 induction l with
 | nil => intro o; rfl
 | cons p l ih => intro o; simp [endsP, ih]
theorem framesA_length (o : Nat) (l : List B) : (framesA o l).length = l.length := by simp [framesA, endsP_length]
theorem endsP_at : ∀ (l : List B) (o i : Nat) (h : i < l.length), (endsP o l)[i]? = some (o + (framesP (l.take (i + 1))).length) := by
 intro l
 induction l with
 | nil => intro o i h; simp at h
 | cons p l ih =>
  intro o i h
  cases i with
  | zero => simp [endsP, framesP]
  | succ i =>
   simp only [endsP, List.getElem?_cons_succ]
   rw [ih _ i (by simpa using h)]
   simp [framesP]
   omega
theorem framesA_at {o i : Nat} {l : List B} (h : i < l.length) : (framesA o l)[i]? = some [.sl none 1 (byteEls l[i]), vi ((o + (framesP (l.take (i + 1))).length : Nat) : Int)] := by
 have hz : (l.zip (endsP o l))[i]? = some (l[i], o + (framesP (l.take (i + 1))).length) := List.getElem?_zip_eq_some.2 ⟨List.getElem?_eq_getElem h, endsP_at l o i h⟩
 unfold framesA
 rw [List.getElem?_map, hz]
 rfl
theorem framesP_split {l : List B} {i : Nat} (h : i < l.length) : framesP l = framesP (l.take i) ++ frameP l[i] ++ framesP (l.drop (i + 1)) := by
 have e : l.take i ++ (l[i] :: l.drop (i + 1)) = l := by rw [← List.drop_eq_getElem_cons h, List.take_append_drop]
 have e2 : framesP (l.take i ++ (l[i] :: l.drop (i + 1))) = framesP (l.take i) ++ frameP l[i] ++ framesP (l.drop (i + 1)) := by
  unfold framesP
  rw [List.map_append, List.map_cons, List.flatten_append, List.flatten_cons, List.append_assoc]
 rw [e] at e2
 exact e2
theorem framesP_snoc (l : List B) (p : B) : framesP (l ++ [p]) = framesP l ++ frameP p := by
 unfold framesP
 rw [List.map_append, List.flatten_append]
 simp
theorem framesP_take {l : List B} {i : Nat} (h : i < l.length) : (framesP (l.take (i + 1))).length = (framesP (l.take i)).length + (frameP l[i]).length := by
 rw [List.take_succ_eq_append_getElem h, framesP_snoc, List.length_append]
theorem ACalls.calm {P : Program} {f : FuncId} {args : List AV} {R : AV → List AObj → Prop} (h : ACalls P f args [] R) {K : Nat → Nat → Option Value} {W : World} {vals : List Value} (hk : ∀ b o v, K b o = some v → W.cell? ⟨b, o, none⟩ = some v) (hg : GlobOk K)
  (hv : RepL ⟨K, fun _ => none⟩ args vals) {Own : Nat → Prop} (hO : ∀ b, Own b → b < W.heap.size) {A : Array Value} (hA : A = vals.toArray) (m : Nat) :
  CallsIn Fence.wide m P f A W fun e W' => ∃ (v : Value) (r : AV) (os' : List AObj) (G' : Gh), e = .returned v ∧ R r os' ∧ Rep G' r v ∧ (∀ b o u, G'.K b o = some u → W'.cell? ⟨b, o, none⟩ = some u) ∧ Steps Own K W Own G'.K W' ∧ ∀ b, b < W.heap.size → W'.heap[b]? = W.heap[b]? ∧ ∀ o, G'.K b o = K b o := by
 have hW : WR ⟨K, fun _ => none⟩ (numbered 0 []) W := ⟨hk, fun n o e => (by cases e), fun n g e => (by cases e), fun n m b h1 h2 => (by rcases h1 with h1 | ⟨_, _, h1, _⟩ <;> cases h1), hg⟩
 subst hA
 refine (callsIn_wide.2 (h.run ⟨K, fun _ => none⟩ W vals hW hv)).mono ?_
 rintro e W' ⟨v, r, os', G', rfl, hR, hRep, hWR, hle, hext, _, _, _⟩
 have hnT : ∀ b, ¬ ∃ n, (⟨K, fun _ => none⟩ : Gh).at n b := fun b ⟨n, hn⟩ => by rcases hn with hn | ⟨_, _, hn, _⟩ <;> cases hn
 have hb : ∀ b, b < W.heap.size → W'.heap[b]? = W.heap[b]? ∧ ∀ o, G'.K b o = K b o := fun b hb => ⟨hext.block b hb (hnT b), fun o => hext.knew b o hb (hnT b)⟩
 exact ⟨v, r, os', G', rfl, hR, hRep, hWR.know, ⟨hext.os, hext.tape, hext.output, hext.size, fun b h1 _ => (hb b h1).1, fun b h1 => .inl h1, hle.K, fun b o h1 _ => (hb b h1).2 o, hWR.know, fun b h1 => Nat.lt_of_lt_of_le (hO b h1) hext.size⟩, hb⟩
end Go.Abs
end
section
namespace Go.Abs
open Go Go.Proofs
attribute [local irreducible] ibits byteAt strLt firstIdx
def KeyMap (Pv : AV → Prop) (es : List (ByteArray × AV)) (S : B → Prop) : Prop := ∀ s, (S s → ∃ v, mapFind es (ofB s) = some v ∧ Pv v) ∧ (¬ S s → mapFind es (ofB s) = none)
theorem mapFind_put (es : List (ByteArray × AV)) (k k' : ByteArray) (v : AV) : mapFind (mapPut es k v) k' = if k = k' then some v else mapFind es k' := by
 induction es with
 | nil => simp [mapPut, mapFind]
 | cons e es ih =>
  obtain ⟨s, u⟩ := e
  simp only [mapPut]
  by_cases h : s = k
  ·subst h
   rw [if_pos rfl]
   simp only [mapFind]
   split <;> simp_all
  ·rw [if_neg h]
   simp only [mapFind, ih]
   by_cases h1 : s = k'
   ·subst h1
    rw [if_pos rfl, if_neg (Ne.symm h), if_pos rfl]
   ·rw [if_neg h1, if_neg h1]
theorem KeyMap.nil (Pv : AV → Prop) : KeyMap Pv [] fun _ => False := fun s => ⟨fun h => h.elim, fun _ => rfl⟩
theorem KeyMap.put {Pv : AV → Prop} {es : List (ByteArray × AV)} {S S' : B → Prop} (h : KeyMap Pv es S) (k : B) {v : AV} (hv : Pv v) (hS : ∀ s, S' s ↔ S s ∨ s = k) : KeyMap Pv (mapPut es (ofB k) v) S' := by
 intro s
 rw [mapFind_put]
 by_cases e : k = s
 ·subst e
  rw [if_pos rfl]
  exact ⟨fun _ => ⟨v, rfl, hv⟩, fun hn => absurd ((hS k).2 (.inr rfl)) hn⟩
 ·rw [if_neg (fun e' => e (ofB_inj e'))]
  refine ⟨fun hs => (h s).1 (((hS s).1 hs).resolve_right (fun e' => e e'.symm)), fun hs => (h s).2 fun hs' => hs ((hS s).2 (.inl hs'))⟩
def nm (l : List Nd) (i : Nat) : B := ((l[i]?).map (·.name)).getD []
def dps (l : List Nd) (i : Nat) : List B := ((l[i]?).map (·.deps)).getD []
def ready (l : List Nd) (D : List B) (i : Nat) : Bool := decide (nm l i ∉ D) && decide (∀ d ∈ dps l i, d ∈ D)
def small (l : List Nd) : Prop := l.length < 100000 ∧ ∀ n ∈ l, n.deps.length < 10000 ∧ n.name.length < 10000 ∧ ∀ d ∈ n.deps, d.length < 10000
def names (l : List Nd) : List B := l.map (·.name)
end Go.Abs
end
section
namespace Go.Abs
open Go Go.Proofs Dig
attribute [local irreducible] ibits byteAt strLt firstIdx
structure Dp where
 name : B
 hash : U
 order : Bool
 deriving DecidableEq
def Dp.enc (d : Dp) : List AV := [vs d.name, uv d.hash, .val (.bool d.order)]
def dpsA (l : List Dp) : List (List AV) := l.map Dp.enc
theorem dpsA_length (l : List Dp) : (dpsA l).length = l.length := by simp [dpsA]
structure Rc where
 kind : Int
 target : B
 rule : U
 deps : List Dp
 out : U
 wen : U
 tag : B
 deriving DecidableEq
def Rc.enc (r : Rc) : List AV := [vi r.kind, vs r.target, uv r.rule, .sl none 3 (dpsA r.deps), uv r.out, uv r.wen, vs r.tag]
def recs (l : List Rc) : List (List AV) := l.map Rc.enc
theorem recs_length (l : List Rc) : (recs l).length = l.length := by simp [recs]
theorem Same8_calls (a b : Rc) (ha : a.deps.length < 1000000) {R} (h : ∀ p, p = decide (a = b) → R (.val (.bool p)) []) : ACalls Tryz.prog 58 [.agg a.enc, .agg b.enc] [] R := by
 refine acalls_of_xwp (an := an58) tab_ok Tryz.func58 ?_
 have hsa := dpsA_length a.deps
 have hsb := dpsA_length b.deps
 have no : a ≠ b → R (.val (.bool false)) [] := fun e => h false (decide_eq_false e).symm
 conv => whnf
 refine br_intro (fun g1 => ?_) (fun g1 => ?_)
 ·conv => whnf
  exact no (by rintro rfl; simp at g1)
 conv => whnf
 refine br_intro (fun g2 => ?_) (fun g2 => ?_)
 ·conv => whnf
  exact no (by rintro rfl; simp at g2)
 conv => whnf
 refine br_intro (fun g3 => ?_) (fun g3 => ?_)
 ·conv => whnf
  exact no (by rintro rfl; simp at g3)
 conv => whnf
 refine br_intro (fun g4 => ?_) (fun g4 => ?_)
 ·conv => whnf
  exact no (by rintro rfl; simp at g4)
 conv => whnf
 refine br_intro (fun g5 => ?_) (fun g5 => ?_)
 ·conv => whnf
  exact no (by rintro rfl; simp at g5)
 conv => whnf
 refine br_intro (fun g6 => ?_) (fun g6 => ?_)
 ·conv => whnf
  exact no (by rintro rfl; simp at g6)
 conv => whnf
 refine br_intro (fun g7 => ?_) (fun g7 => ?_)
 ·conv => whnf
  exact no (by rintro rfl; simp at g7)
 have g7 : a.deps.length = b.deps.length := by rw [hsa, hsb] at g7; simp at g7; omega
 conv => whnf
 refine LoopP.ind1 (fun (i : Nat) => [(5, vi i)]) (fun _ => []) (fun i => a.deps.length - i) (fun i => i ≤ a.deps.length ∧ a.deps.take i = b.deps.take i) 0 rfl ⟨by omega, by simp⟩ ?_
 rintro i ⟨h0, h1⟩ IH
 conv => whnf
 refine br_intro (fun hc => ?_) (fun hc => ?_)
 ·have hc := lt_of_decE hsa hc
  have hcb : i < b.deps.length := by omega
  have nox : a.deps[i] ≠ b.deps[i] → R (.val (.bool false)) [] := fun e => no fun hab => by subst hab; exact e rfl
  (conv => whnf); (repeat ((with_reducible refine must_intro ?_ ?_); exact decide_eq_true (by omega); (conv => whnf)))
  refine idxK_map_intro (show (i : Int).toNat < a.deps.length by simpa using hc) ?_
  rw [show a.deps[(i : Int).toNat]'(by simpa using hc) = a.deps[i] from by congr 1]
  (conv => whnf); (repeat ((with_reducible refine must_intro ?_ ?_); exact decide_eq_true (by omega); (conv => whnf)))
  refine idxK_map_intro (show (i : Int).toNat < b.deps.length by simpa using hcb) ?_
  rw [show b.deps[(i : Int).toNat]'(by simpa using hcb) = b.deps[i] from by congr 1]
  conv => whnf
  refine br_intro (fun e1 => ?_) (fun e1 => ?_)
  ·conv => whnf
   exact nox (fun e => by rw [e] at e1; simp at e1)
  (conv => whnf); (repeat ((with_reducible refine must_intro ?_ ?_); exact decide_eq_true (by omega); (conv => whnf)))
  refine idxK_map_intro (show (i : Int).toNat < a.deps.length by simpa using hc) ?_
  rw [show a.deps[(i : Int).toNat]'(by simpa using hc) = a.deps[i] from by congr 1]
  (conv => whnf); (repeat ((with_reducible refine must_intro ?_ ?_); exact decide_eq_true (by omega); (conv => whnf)))
  refine idxK_map_intro (show (i : Int).toNat < b.deps.length by simpa using hcb) ?_
  rw [show b.deps[(i : Int).toNat]'(by simpa using hcb) = b.deps[i] from by congr 1]
  conv => whnf
  refine br_intro (fun e2 => ?_) (fun e2 => ?_)
  ·conv => whnf
   exact nox (fun e => by rw [e] at e2; simp at e2)
  (conv => whnf); (repeat ((with_reducible refine must_intro ?_ ?_); exact decide_eq_true (by omega); (conv => whnf)))
  refine idxK_map_intro (show (i : Int).toNat < a.deps.length by simpa using hc) ?_
  rw [show a.deps[(i : Int).toNat]'(by simpa using hc) = a.deps[i] from by congr 1]
  (conv => whnf); (repeat ((with_reducible refine must_intro ?_ ?_); exact decide_eq_true (by omega); (conv => whnf)))
  refine idxK_map_intro (show (i : Int).toNat < b.deps.length by simpa using hcb) ?_
  rw [show b.deps[(i : Int).toNat]'(by simpa using hcb) = b.deps[i] from by congr 1]
  conv => whnf
  refine br_intro (fun e3 => ?_) (fun e3 => ?_)
  ·conv => whnf
   exact nox (fun e => by rw [e] at e3; simp at e3)
  have ee : a.deps[i] = b.deps[i] := by
   have q1 : a.deps[i].name = b.deps[i].name := by simpa [ofB_eq] using e1
   have q2 : a.deps[i].hash = b.deps[i].hash := by
    have : (a.deps[i].hash.toNat : Int) = b.deps[i].hash.toNat := by simpa using e2
    exact BitVec.eq_of_toNat_eq (by omega)
   have q3 : a.deps[i].order = b.deps[i].order := by simpa using e3
   cases hx : a.deps[i]; cases hy : b.deps[i]
   rw [hx, hy] at q1 q2 q3
   simp at q1 q2 q3
   simp [q1, q2, q3]
  conv => whnf
  rw [i64_nat (by omega)]
  refine IH (i + 1) ⟨by omega, ?_⟩ (by omega)
  rw [List.take_succ_eq_append_getElem hc, List.take_succ_eq_append_getElem hcb, h1, ee]
 ·have hc := ge_of_decE hsa hc
  rw [List.take_of_length_le hc, List.take_of_length_le (by omega)] at h1
  conv => whnf
  refine h true (decide_eq_true ?_).symm
  have uq : ∀ {x y : U}, (!((x.toNat : Int) == y.toNat)) = false → x = y := fun {x y} h => by
   have : (x.toNat : Int) = y.toNat := by simpa using h
   exact BitVec.eq_of_toNat_eq (by omega)
  have q1 : a.kind = b.kind := by simpa using g1
  have q2 : a.target = b.target := by simpa [ofB_eq] using g2
  have q3 : a.rule = b.rule := by
   have : (a.rule.toNat : Int) = b.rule.toNat := by simpa using g3
   exact BitVec.eq_of_toNat_eq (by omega)
  have q4 : a.out = b.out := by
   have : (a.out.toNat : Int) = b.out.toNat := by simpa using g4
   exact BitVec.eq_of_toNat_eq (by omega)
  have q5 : a.wen = b.wen := by
   have : (a.wen.toNat : Int) = b.wen.toNat := by simpa using g5
   exact BitVec.eq_of_toNat_eq (by omega)
  have q6 : a.tag = b.tag := by simpa [ofB_eq] using g6
  cases a; cases b
  simp_all
theorem Great8_calls (r : Rc) (hr : r.deps.length ≤ maxLen) {R} (h : ∀ b : Bool, (b = false → r.deps.length ≤ 60 ∧ r.target.length ≤ 300 ∧ r.tag.length ≤ 300 ∧ ∀ d ∈ r.deps, d.name.length ≤ 300) → R (.val (.bool b)) []) :
  ACalls Tryz.prog 38 [.agg r.enc] [] R := by
 refine acalls_of_xwp (an := an38) tab_ok Tryz.func38 ?_
 have hsl := dpsA_length r.deps
 have hmx : maxLen ≤ 9223372036854775807 := by decide
 have yes : R (.val (.bool true)) [] := h true (fun e => by cases e)
 conv => whnf
 refine LoopP.ind1 (fun (i : Nat) => [(8, vi i)]) (fun _ => []) (fun i => r.deps.length - i) (fun i => i ≤ r.deps.length ∧ ∀ d ∈ r.deps.take i, d.name.length ≤ 300) 0 rfl ⟨by omega, by simp⟩ ?_
 rintro i ⟨h0, hdo⟩ IH
 conv => whnf
 refine br_intro (fun hc => ?_) (fun hc => ?_)
 ·have hc := lt_of_decE hsl hc
  (conv => whnf); (repeat ((with_reducible refine must_intro ?_ ?_); exact decide_eq_true (by omega); (conv => whnf)))
  refine idxK_map_intro (show (i : Int).toNat < r.deps.length by simpa using hc) ?_
  rw [show r.deps[(i : Int).toNat]'(by simpa using hc) = r.deps[i] from by congr 1]
  have hsn := size_ofB r.deps[i].name
  conv => whnf
  rw [hsn]
  refine br_intro (fun g => ?_) (fun g => ?_)
  ·conv => whnf
   exact yes
  have g : r.deps[i].name.length ≤ 300 := by simp at g; omega
  conv => whnf
  rw [wrap_i64 (by omega) (by omega), show ((i : Int) + 1) = ((i + 1 : Nat) : Int) by omega]
  refine IH (i + 1) ⟨by omega, fun d hd => ?_⟩ (by omega)
  rw [List.take_succ_eq_append_getElem hc, List.mem_append, List.mem_singleton] at hd
  rcases hd with hd | rfl
  ·exact hdo d hd
  ·exact g
 ·have hc := ge_of_decE hsl hc
  rw [List.take_of_length_le hc] at hdo
  have hst := size_ofB r.target
  have hsg := size_ofB r.tag
  conv => whnf
  rw [hsl]
  refine br_intro (fun g1 => ?_) (fun g1 => ?_)
  ·conv => whnf
   exact yes
  have g1 : r.deps.length ≤ 60 := by simp at g1; omega
  conv => whnf
  rw [hst]
  refine br_intro (fun g2 => ?_) (fun g2 => ?_)
  ·conv => whnf
   exact yes
  have g2 : r.target.length ≤ 300 := by simp at g2; omega
  conv => whnf
  rw [hsg]
  refine h _ fun e => ⟨g1, g2, ?_, hdo⟩
  simp at e
  omega
theorem Great10_calls (l : List Rc) (hl : l.length ≤ maxLen) (hn : ∀ r ∈ l, r.deps.length ≤ maxLen) {R} (h : ∀ b : Bool, (b = false → l.length ≤ 30 ∧ ∀ r ∈ l, r.deps.length ≤ 60 ∧ r.target.length ≤ 300 ∧ r.tag.length ≤ 300 ∧ ∀ d ∈ r.deps, d.name.length ≤ 300) → R (.val (.bool b)) []) :
  ACalls Tryz.prog 8 [.sl none 7 (recs l)] [] R := by
 refine acalls_of_xwp (an := an8) tab_ok Tryz.func8 ?_
 have hsl := recs_length l
 have hmx : maxLen ≤ 9223372036854775807 := by decide
 have yes : R (.val (.bool true)) [] := h true (fun e => by cases e)
 conv => whnf
 refine LoopP.ind1 (fun (i : Nat) => [(7, vi i)]) (fun _ => []) (fun i => l.length - i) (fun i => i ≤ l.length ∧ ∀ r ∈ l.take i, r.deps.length ≤ 60 ∧ r.target.length ≤ 300 ∧ r.tag.length ≤ 300 ∧ ∀ d ∈ r.deps, d.name.length ≤ 300) 0 rfl ⟨by omega, by simp⟩ ?_
 rintro i ⟨h0, hdo⟩ IH
 conv => whnf
 refine br_intro (fun hc => ?_) (fun hc => ?_)
 ·have hc := lt_of_decE hsl hc
  (conv => whnf); (repeat ((with_reducible refine must_intro ?_ ?_); exact decide_eq_true (by omega); (conv => whnf)))
  refine idxK_map_intro (show (i : Int).toNat < l.length by simpa using hc) ?_
  rw [show l[(i : Int).toNat]'(by simpa using hc) = l[i] from by congr 1]
  conv => whnf
  refine Great8_calls l[i] (hn _ (List.getElem_mem hc)) fun b hb => ?_
  conv => whnf
  refine br_intro (fun g => ?_) (fun g => ?_)
  ·conv => whnf
   exact yes
  conv => whnf
  rw [wrap_i64 (by omega) (by omega), show ((i : Int) + 1) = ((i + 1 : Nat) : Int) by omega]
  refine IH (i + 1) ⟨by omega, fun d hd => ?_⟩ (by omega)
  rw [List.take_succ_eq_append_getElem hc, List.mem_append, List.mem_singleton] at hd
  rcases hd with hd | rfl
  ·exact hdo d hd
  ·exact hb g
 ·have hc := ge_of_decE hsl hc
  rw [List.take_of_length_le hc] at hdo
  conv => whnf
  rw [hsl]
  refine h _ fun e => ⟨?_, hdo⟩
  simp at e
  omega
theorem typed_dep {n : Nat} {x : List AV} (h : Typed tab (n + 3) 130 x) : ∃ d : Dp, x = d.enc := by
 obtain ⟨a1, r1, rfl, ⟨s, rfl, hs⟩, a2, r2, rfl, ⟨u, rfl, hu⟩, a3, r3, rfl, ⟨b, rfl⟩, rfl⟩ : ∃ a r, x = a ++ r ∧ (∃ s : ByteArray, a = [.val (.string s)] ∧ s.size ≤ maxLen) ∧
   ∃ a r', r = a ++ r' ∧ (∃ y, a = [.val (.int .u64 y)] ∧ (Lit.int .u64 y).wf = true) ∧ ∃ a r'', r' = a ++ r'' ∧ (∃ b, a = [.val (.bool b)]) ∧ r'' = [] := h
 refine ⟨⟨bs s, BitVec.ofInt 64 u, b⟩, ?_⟩
 simp only [Dp.enc, vs, ofB_bs, uv, List.cons_append, List.nil_append]
 rw [← wf_u64 hu]
theorem typed_deps {n : Nat} {l : List (List AV)} (h : ∀ x ∈ l, Typed tab (n + 3) 130 x) : ∃ m : List Dp, l = dpsA m := by
 induction l with
 | nil => exact ⟨[], rfl⟩
 | cons x l ih =>
  obtain ⟨m, rfl⟩ := ih fun y hy => h y (by simp [hy])
  obtain ⟨d, rfl⟩ := typed_dep (h x (by simp))
  exact ⟨d :: m, rfl⟩
theorem typed_rec {n : Nat} {x : List AV} (h : Typed tab (n + 6) 67 x) : ∃ r : Rc, x = r.enc ∧ r.deps.length ≤ maxLen ∧ (Lit.int .i64 r.kind).wf = true := by
 obtain ⟨a0, r0, rfl, ⟨k, rfl, hk⟩, a1, r1, rfl, ⟨s, rfl, hs⟩, a2, r2, rfl, ⟨u, rfl, hu⟩, a3, r3, rfl, ⟨l, rfl, hl, hx⟩, a4, r4, rfl, ⟨o, rfl, ho⟩, a5, r5, rfl, ⟨w, rfl, hw⟩, a6, r6, rfl, ⟨t, rfl, ht⟩, rfl⟩ :
   ∃ a r, x = a ++ r ∧ (∃ y, a = [.val (.int .i64 y)] ∧ (Lit.int .i64 y).wf = true) ∧ ∃ a r', r = a ++ r' ∧ (∃ s : ByteArray, a = [.val (.string s)] ∧ s.size ≤ maxLen) ∧
   ∃ a r'', r' = a ++ r'' ∧ (∃ y, a = [.val (.int .u64 y)] ∧ (Lit.int .u64 y).wf = true) ∧
   ∃ a r3, r'' = a ++ r3 ∧ (∃ l : List (List AV), a = [.sl none 3 l] ∧ l.length ≤ maxLen ∧ ∀ x ∈ l, Typed tab (n + 4) 130 x) ∧
   ∃ a r4, r3 = a ++ r4 ∧ (∃ y, a = [.val (.int .u64 y)] ∧ (Lit.int .u64 y).wf = true) ∧
   ∃ a r5, r4 = a ++ r5 ∧ (∃ y, a = [.val (.int .u64 y)] ∧ (Lit.int .u64 y).wf = true) ∧
   ∃ a r6, r5 = a ++ r6 ∧ (∃ s : ByteArray, a = [.val (.string s)] ∧ s.size ≤ maxLen) ∧ r6 = [] := h
 obtain ⟨m, rfl⟩ := typed_deps (n := n + 1) hx
 refine ⟨⟨k, bs s, BitVec.ofInt 64 u, m, BitVec.ofInt 64 o, BitVec.ofInt 64 w, bs t⟩, ?_, by simpa [dpsA] using hl, hk⟩
 simp only [Rc.enc, vs, vi, ofB_bs, uv, List.cons_append, List.nil_append]
 rw [← wf_u64 hu, ← wf_u64 ho, ← wf_u64 hw]
theorem typed_recs {n : Nat} {l : List (List AV)} (h : ∀ x ∈ l, Typed tab (n + 6) 67 x) : ∃ m : List Rc, l = recs m ∧ ∀ r ∈ m, r.deps.length ≤ maxLen := by
 induction l with
 | nil => exact ⟨[], rfl, by simp⟩
 | cons x l ih =>
  obtain ⟨m, rfl, hm⟩ := ih fun y hy => h y (by simp [hy])
  obtain ⟨r, rfl, hr, _⟩ := typed_rec (h x (by simp))
  exact ⟨r :: m, rfl, by
   intro y hy
   rw [List.mem_cons] at hy
   rcases hy with rfl | hy
   ·exact hr
   ·exact hm y hy⟩
theorem args_recs {ts : List TypeId} {l : List AV} (h : Args tab 12 (22 :: ts) l) : ∃ (x : List Rc) (l' : List AV), l = .sl none 7 (recs x) :: l' ∧ x.length ≤ maxLen ∧ (∀ r ∈ x, r.deps.length ≤ maxLen) ∧ Args tab 12 ts l' := by
 obtain ⟨a, l', rfl, h1, h2⟩ := h
 obtain ⟨x, e, hl, hx⟩ : ∃ x : List (List AV), [a] = [.sl none 7 x] ∧ x.length ≤ maxLen ∧ ∀ y ∈ x, Typed tab 11 67 y := h1
 obtain ⟨m, rfl, hm⟩ := typed_recs (n := 5) hx
 simp only [List.cons.injEq, and_true] at e
 subst e
 exact ⟨m, l', rfl, by simpa [recs] using hl, hm, h2⟩
def zeroR : Rc := ⟨0, [], 0, [], 0, 0, []⟩
theorem le_zeroR : leL [.val (.int .i64 0), .val (.string ⟨#[]⟩), .val (.int .u64 0), .val (.slice none 0 0), .val (.int .u64 0), .val (.int .u64 0), .val (.string ⟨#[]⟩)] zeroR.enc :=
 leL.cons (.refl _) (leL.cons (.refl _) (leL.cons (.refl _) (leL.cons (le_nil 3) (leL.refl _))))
end Go.Abs
end
section
namespace Go.Abs
open Go Go.Proofs Go.RowKit
attribute [local go_sem] Oper.semAt_some
theorem CloneD_calls (l : List Dp) (hl : l.length < 1000000) {R} (h : R (.sl none 3 (dpsA l)) []) : ACalls Tryz.prog 89 [.sl none 3 (dpsA l)] [] R := by
 refine ACalls.res ?_
 refine acalls_of_xwp (an := an89) tab_ok Tryz.func89 ?_
 have hsl := dpsA_length l
 conv => whnf
 intro b hb
 refine br_intro (fun g => ?_) (fun g => ?_)
 ·have e := hb g
  rw [e] at h
  conv => whnf
  exact res_le (le_nil 3) rfl h
 ·conv => whnf
  refine ⟨rfl, (by show (0 + (dpsA l).length) * (32 + 1) ≤ _; omega), ?_⟩
  conv => whnf
  refine res_same ?_
  exact h
theorem Clone_calls (r : Rc) (hl : r.deps.length < 1000000) {R} (h : R (.agg r.enc) []) : ACalls Tryz.prog 59 [.agg r.enc] [] R := by
 refine acalls_of_xwp (an := an59) tab_ok Tryz.func59 ?_
 conv => whnf
 refine CloneD_calls r.deps hl ?_
 conv => whnf
 exact h
def backsR (l : List Rc) : List (List AV) := l.zipIdx.reverse.map fun p => [.val (.int .i64 p.2), .agg p.1.enc]
theorem back_iterR (l : List Rc) (hl : l.length < 1000000) : AIter Tryz.prog 175 [.cptr [.sl none 7 (recs l)] 0] (backsR l) := by
 refine ⟨fun args w => run_callFunc (by kernel_rfl), fun G w lb hk hr => ?_⟩
 simp only [RepL, Rep, RepC] at hr
 obtain ⟨_, _, rfl, ⟨b, o, rfl, ⟨⟨v, hv, ⟨A, c, rfl, hc, hE⟩, _⟩, _⟩, _⟩, rfl⟩ := hr
 have hval : ∀ i : Nat, ∃ vs : List Value, ∀ s, l[i]? = some s → RepL ⟨G.K, fun _ => none⟩ s.enc vs ∧ ∃ b o, A = some ⟨b, o, none⟩ ∧ ∀ j v, vs[j]? = some v → G.K b (o + i * 7 + j) = some v := by
  intro i
  cases hs : l[i]? with
  | none => exact ⟨[], fun s h => by cases h⟩
  | some s =>
   obtain ⟨b', o', hA, _, _, hC⟩ := hE.get (i := i) (e := s.enc) (by rw [recs, List.getElem?_map, hs]; rfl)
   obtain ⟨vs, h1, h2⟩ := hC.vals
   refine ⟨vs, fun s' h => ?_⟩
   cases h
   refine ⟨RepL.nameless (G := G) (G' := ⟨G.K, fun _ => none⟩) (fun _ _ _ h => h) _ _ rfl h1, b', o', hA, fun j v hj => ?_⟩
   have := h2 j v hj
   simpa using this
 obtain ⟨f, hf⟩ := Classical.skolem.1 hval
 refine ⟨l.zipIdx.reverse.map fun p => #[.int .i64 p.2, .agg (f p.2).toArray], by simp [backsR], ?_, ?_⟩
 ·intro i x e hx he
  unfold backsR at hx
  rw [List.getElem?_map, Option.map_eq_some_iff] at hx he
  obtain ⟨p, hp, rfl⟩ := hx
  obtain ⟨p', hp', rfl⟩ := he
  rw [hp] at hp'
  cases hp'
  have hm : p ∈ l.zipIdx := by rw [← List.mem_reverse]; exact List.mem_of_getElem? hp
  have hg : l[p.2]? = some p.1 := List.mk_mem_zipIdx_iff_getElem?.1 hm
  have := (hf p.2 p.1 hg).1
  simp only [RepL, Rep]
  exact ⟨_, _, rfl, rfl, _, _, rfl, ⟨_, rfl, this⟩, rfl⟩
 ·intro lp n J Jx hY hJ h0
  rw [show FW none = Fence.wide from rfl] at hY ⊢
  refine callsIn_of_wp Tryz.func175 rfl trivial ?_ rfl
  simp only [Tryz.ntmps175, List.size_toArray, List.length_cons, List.length_nil, Nat.reduceAdd, Nat.reduceSub, Array.replicate_succ, Array.replicate_zero, List.push_toArray, List.append_toArray, List.nil_append, List.cons_append, Nat.add_zero]
  have hb := hJ 0 w h0 _ _ _ hv
  have hlen : (recs l).length = l.length := recs_length l
  rw [hlen] at hb hv hc
  have hNb : (l.length : Int) < 1000000 := by omega
  clear hl
  gi_wp2
  gi_loopw [3] (fun i wr => ∃ k : Nat, k ≤ l.length ∧ i = .int .i64 ((l.length : Int) - 1 - k) ∧ J k wr) (fun i _ => (Go.RowKit.intOf i + 1).toNat)
  case atStart => exact ⟨0, Nat.zero_le _, by simp, h0⟩
  case round =>
   obtain ⟨k, hk', rfl, hJs⟩ := hrel
   by_cases hlt : k < l.length
   ·obtain ⟨i, hi⟩ : ∃ i : Nat, i + k + 1 = l.length := ⟨l.length - 1 - k, by omega⟩
    have hil : i < l.length := by omega
    have ei : (l.length : Int) - 1 - k = (i : Int) := by omega
    rw [ei]
    clear ei
    obtain ⟨s, hs⟩ : ∃ s, l[i]? = some s := ⟨l[i], List.getElem?_eq_getElem hil⟩
    have hb' := hJ k wr hJs _ _ _ hv
    obtain ⟨hR1, b', o', hA, hK⟩ := hf i s hs
    subst hA
    have hes : (l.zipIdx.reverse.map fun p => (#[.int .i64 p.2, .agg (f p.2).toArray] : Array Value))[k]? = some #[.int .i64 i, .agg (f i).toArray] := by
     have hk : k < l.zipIdx.length := by simp; omega
     rw [List.getElem?_map, List.getElem?_reverse hk]
     have e : l.zipIdx.length - 1 - k = i := by simp; omega
     rw [e, List.getElem?_zipIdx, hs]
     simp
    generalize hfi : f i = vs at hR1 hK hes
    have hvl : vs.length = 7 := by rw [hR1.length]; rfl
    obtain ⟨v0, v1, v2, v3, v4, v5, v6, rfl⟩ : ∃ v0 v1 v2 v3 v4 v5 v6, vs = [v0, v1, v2, v3, v4, v5, v6] := by
     match vs, hvl with
     | [v0, v1, v2, v3, v4, v5, v6], _ => exact ⟨_, _, _, _, _, _, _, rfl⟩
    have d0 := hJ k wr hJs _ _ _ (hK 0 v0 rfl)
    have d1 := hJ k wr hJs _ _ _ (hK 1 v1 rfl)
    have d2 := hJ k wr hJs _ _ _ (hK 2 v2 rfl)
    have d3 := hJ k wr hJs _ _ _ (hK 3 v3 rfl)
    have d4 := hJ k wr hJs _ _ _ (hK 4 v4 rfl)
    have d5 := hJ k wr hJs _ _ _ (hK 5 v5 rfl)
    have d6 := hJ k wr hJs _ _ _ (hK 6 v6 rfl)
    simp only [Nat.add_zero] at d0
    obtain ⟨fn, tmps, assign, body, hy, hR⟩ := hY (n - 1) k #[.int .i64 i, .agg #[v0, v1, v2, v3, v4, v5, v6]] wr hes hJs
    have hi0 : (0 : Int) ≤ i := by omega
    clear hY hJ h0 hE hb hf hval hR1 hK
    gi_wp2
    refine ⟨fun h => by simp [Fence.wide] at h, hR.mono ?_⟩
    rintro e W3 (⟨rfl, hJ3⟩ | ⟨rfl, hJx3⟩)
    ·clear hR hy
     gi_wp2
     go_roundw
     case rel => exact ⟨k + 1, by omega, by congr 1 <;> (try push_cast) <;> omega, hJ3⟩
     case measure => first | (simp [Go.RowKit.intOf]; done) | (simp [Go.RowKit.intOf]; omega)
    ·clear hR hy
     gi_wp2
     refine bodyPost_ret (results_none rfl _ _ _) rfl ?_
     exact ⟨⟨_, rfl⟩, .inr ⟨_, hJx3⟩⟩
   ·have ek : k = l.length := by omega
    have e1 : (l.length : Int) - 1 - k = -1 := by omega
    rw [e1]
    have hJe : J l.length wr := ek ▸ hJs
    clear e1 ek hJs hlt hk' hY h0 hE hb hf hval
    gi_wp2
    go_end0
    refine ⟨⟨_, rfl⟩, .inl ?_⟩
    simpa using hJe
end Go.Abs
end
section
namespace Go.Abs
open Go Go.Proofs Dig
attribute [local irreducible] ibits byteAt strLt firstIdx
def isOf (t : B) (r : Rc) : Bool := decide (r.kind = 1) && decide (r.target = t)
def findP (l : List Rc) (t : B) : Option Rc := l.reverse.find? (isOf t)
def findR (l : List Rc) (t : B) : Rc := (findP l t).getD zeroR
theorem BackwardR (l : List (List AV)) {R} (h : R (.fn (.func 175) [] [.cptr [.sl none 7 l] 0]) []) :
  ACalls Tryz.prog 136 [.sl none 7 l] [] R := by
 refine acalls_of_xwp (an := an136) tab_ok Tryz.func136 ?_
 conv => whnf
 exact h
theorem backsR_get {l : List Rc} {i : Nat} {x : List AV} (h : (backsR l)[i]? = some x) : ∃ s k, l.reverse[i]? = some s ∧ x = [.val (.int .i64 k), .agg s.enc] := by
 unfold backsR at h
 rw [List.getElem?_map, Option.map_eq_some_iff] at h
 obtain ⟨p, hp, rfl⟩ := h
 have h1 : (l.zipIdx.reverse.map (·.1))[i]? = some p.1 := by rw [List.getElem?_map, hp]; rfl
 rw [List.map_reverse, List.zipIdx_map_fst] at h1
 exact ⟨p.1, p.2, h1, rfl⟩
theorem backsR_length (l : List Rc) : (backsR l).length = l.length := by simp [backsR]
theorem find?_at {α : Type} {l : List α} {f : α → Bool} {i : Nat} {s : α} (h0 : ∀ j x, j < i → l[j]? = some x → f x = false) (h1 : l[i]? = some s) (h2 : f s = true) : l.find? f = some s := by
 induction l generalizing i with
 | nil => simp at h1
 | cons a l ih =>
  cases i with
  | zero => simp at h1; subst h1; simp [h2]
  | succ i =>
   have : f a = false := h0 0 a (by omega) rfl
   simp only [List.find?_cons, this]
   exact ih (i := i) (fun j x hj hx => h0 (j + 1) x (by omega) (by simpa using hx)) (by simpa using h1)
theorem find?_no {α : Type} {l : List α} {f : α → Bool} (h0 : ∀ j x, j < l.length → l[j]? = some x → f x = false) : l.find? f = none := by
 rw [List.find?_eq_none]
 intro x hx
 obtain ⟨j, hj, rfl⟩ := List.getElem_of_mem hx
 simp [h0 j _ hj (List.getElem?_eq_getElem hj)]
theorem Find_calls (l : List Rc) (hl : l.length < 1000000) (hd : ∀ r ∈ l, r.deps.length < 1000000) (t : B) {R} (h : R (.tup [.agg (findR l t).enc, .val (.bool (findP l t).isSome)]) []) :
  ACalls Tryz.prog 90 [.sl none 7 (recs l), vs t] [] R := by
 refine ACalls.res ?_
 refine acalls_of_xwp (an := an90) tab_ok Tryz.func90 ?_
 conv => whnf
 refine BackwardR _ ?_
 conv => whnf
 refine .inl ?_
 conv => whnf
 refine ⟨backsR l, back_iterR l hl, ?_, ?_⟩
 ·intro x hx
  simp only [backsR, List.mem_map] at hx
  obtain ⟨p, _, rfl⟩ := hx
  rfl
 refine ⟨fun i s => s = _ ∧ ∀ j x, j < i → l.reverse[j]? = some x → isOf t x = false, ⟨rfl, fun j x hj => absurd hj (Nat.not_lt_zero _)⟩, ?_, ?_⟩
 ·rintro i x s hx ⟨rfl, hno⟩
  obtain ⟨s, k, hs, rfl⟩ := backsR_get hx
  have hsl : s.deps.length < 1000000 := hd s (by rw [← List.mem_reverse]; exact List.mem_of_getElem? hs)
  have next : isOf t s = false → ∀ j x, j < i + 1 → l.reverse[j]? = some x → isOf t x = false := by
   intro hb j x hj hxj
   rcases Nat.lt_or_ge j i with hji | hji
   ·exact hno j x hji hxj
   ·have : j = i := by omega
    subst this
    rw [hs] at hxj
    cases hxj
    exact hb
  conv => whnf
  refine br_intro (fun hb => ?_) (fun hb => ?_)
  ·have hb : s.kind = 1 := by simpa using hb
   conv => whnf
   refine br_intro (fun hc => ?_) (fun hc => ?_)
   ·have hc : s.target = t := ofB_inj (of_decide_eq_true hc)
    have hf : findP l t = some s := find?_at hno hs (by simp [isOf, hb, hc])
    have hr : findR l t = s := by rw [findR, hf]; rfl
    rw [hr, hf] at h
    conv => whnf
    refine Clone_calls s hsl ?_
    conv => whnf
    refine res_same ?_
    exact h
   ·have hc : ¬ s.target = t := fun e => of_decide_eq_false hc (by rw [e])
    conv => whnf
    exact ⟨rfl, next (by simp [isOf, hc])⟩
  ·have hb : ¬ s.kind = 1 := by simpa using hb
   conv => whnf
   exact ⟨rfl, next (by simp [isOf, hb])⟩
 ·rintro s ⟨rfl, hno⟩
  have hf : findP l t = none := find?_no (fun j x hj hx => hno j x (by rw [backsR_length]; simpa using hj) hx)
  have hr : findR l t = zeroR := by rw [findR, hf]; rfl
  rw [hr, hf] at h
  conv => whnf
  exact res_le (le_tup (leL.cons (le_agg le_zeroR) (leL.refl _))) rfl h
theorem docFind_calls (l : List Rc) (hl : l.length < 1000000) (t : B) {R} (h : R (.tup [.agg (findR l t).enc, .val (.bool (findP l t).isSome)]) []) :
  ACalls Tryz.prog 77 [.sl none 7 (recs l), vs t] [] R := by
 refine ACalls.res ?_
 refine acalls_of_xwp (an := an77) tab_ok Tryz.func77 ?_
 have hsl := recs_length l
 conv => whnf
 rw [hsl, wrap_i64 (by omega) (by omega), show (l.length : Int) - 1 = (l.length : Int) - 1 - ((0 : Nat) : Int) by omega]
 refine LoopP.ind1 (fun (k : Nat) => [(6, vi ((l.length : Int) - 1 - k))]) (fun _ => [(nameOf 4, .cells 67 [.val (.int .i64 0), .val (.string ⟨#[]⟩), .val (.int .u64 0), .val (.slice none 0 0), .val (.int .u64 0), .val (.int .u64 0), .val (.string ⟨#[]⟩)])]) (fun k => l.length - k)
  (fun k => k ≤ l.length ∧ ∀ j x, j < k → l.reverse[j]? = some x → isOf t x = false) 0 rfl ⟨by omega, fun j x hj => absurd hj (Nat.not_lt_zero _)⟩ ?_
 rintro k ⟨h0, hno⟩ IH
 by_cases hk : k < l.length
 ·obtain ⟨i, hi⟩ : ∃ i : Nat, i + k + 1 = l.length := ⟨l.length - 1 - k, by omega⟩
  have hil : i < l.length := by omega
  have hs : l.reverse[k]? = some l[i] := by
   rw [List.getElem?_reverse hk, show l.length - 1 - k = i by omega, List.getElem?_eq_getElem hil]
  have next : isOf t l[i] = false → ∀ j x, j < k + 1 → l.reverse[j]? = some x → isOf t x = false := by
   intro hb j x hj hxj
   rcases Nat.lt_or_ge j k with hji | hji
   ·exact hno j x hji hxj
   ·have : j = k := by omega
    subst this
    rw [hs] at hxj
    cases hxj
    exact hb
  have again : IntKind.i64.wrap ((i : Int) - 1) = (l.length : Int) - 1 - ((k + 1 : Nat) : Int) := by
   rw [wrap_i64 (by omega) (by omega)]; omega
  rw [show (l.length : Int) - 1 - k = (i : Int) by omega]
  (conv => whnf); (repeat ((with_reducible refine must_intro ?_ ?_); exact decide_eq_true (by omega); (conv => whnf)))
  refine idxK_map_intro (show (i : Int).toNat < l.length by simpa using hil) ?_
  rw [show l[(i : Int).toNat]'(by simpa using hil) = l[i] from by congr 1]
  conv => whnf
  refine br_intro (fun hb => ?_) (fun hb => ?_)
  ·have hb : l[i].kind = 1 := by simpa using hb
   (conv => whnf); (repeat ((with_reducible refine must_intro ?_ ?_); exact decide_eq_true (by omega); (conv => whnf)))
   refine idxK_map_intro (show (i : Int).toNat < l.length by simpa using hil) ?_
   rw [show l[(i : Int).toNat]'(by simpa using hil) = l[i] from by congr 1]
   conv => whnf
   refine br_intro (fun hc => ?_) (fun hc => ?_)
   ·have hc : l[i].target = t := ofB_inj (of_decide_eq_true hc)
    have hf : findP l t = some l[i] := find?_at hno hs (by simp [isOf, hb, hc])
    have hr : findR l t = l[i] := by rw [findR, hf]; rfl
    rw [hr, hf] at h
    (conv => whnf); (repeat ((with_reducible refine must_intro ?_ ?_); exact decide_eq_true (by omega); (conv => whnf)))
    refine idxK_map_intro (show (i : Int).toNat < l.length by simpa using hil) ?_
    rw [show l[(i : Int).toNat]'(by simpa using hil) = l[i] from by congr 1]
    conv => whnf
    refine res_same ?_
    exact h
   ·have hc : ¬ l[i].target = t := fun e => of_decide_eq_false hc (by rw [e])
    conv => whnf
    rw [again]
    exact IH (k + 1) ⟨by omega, next (by simp [isOf, hc])⟩ (by omega)
  ·have hb : ¬ l[i].kind = 1 := by simpa using hb
   conv => whnf
   rw [again]
   exact IH (k + 1) ⟨by omega, next (by simp [isOf, hb])⟩ (by omega)
 ·have ek : k = l.length := by omega
  have hf : findP l t = none := find?_no (fun j x hj hx => hno j x (by simpa [ek] using hj) hx)
  have hr : findR l t = zeroR := by rw [findR, hf]; rfl
  rw [hr, hf] at h
  rw [show (l.length : Int) - 1 - k = -1 by omega]
  conv => whnf
  exact res_le (le_tup (leL.cons (le_agg le_zeroR) (leL.refl _))) rfl h
theorem nodup_bound {l : List Nat} {n : Nat} (h : l.Nodup) (hb : ∀ x ∈ l, x < n) : l.length ≤ n := by
 have hp : l.Perm ((List.range n).filter fun x => decide (x ∈ l)) := by
  refine (List.perm_ext_iff_of_nodup h (List.nodup_range.filter _)).2 fun a => ?_
  simp
  exact fun ha => hb a ha
 rw [hp.length_eq]
 exact Nat.le_trans (List.length_filter_le _ _) (by simp)
abbrev RMap := List (B × Rc)
def rmap (mp : RMap) : List (ByteArray × AV) := mp.map fun p => (ofB p.1, .agg p.2.enc)
def keysM (mp : RMap) : List B := mp.map (·.1)
def lookM (mp : RMap) (k : B) : Option Rc := (mp.find? fun p => decide (p.1 = k)).map (·.2)
def lookZ (mp : RMap) (k : B) : Rc := (lookM mp k).getD zeroR
theorem rmap_find (mp : RMap) (k : B) : mapFind (rmap mp) (ofB k) = (lookM mp k).map fun r => .agg r.enc := by
 induction mp with
 | nil => rfl
 | cons p mp ih =>
  unfold rmap at ih ⊢
  simp only [List.map_cons, mapFind, lookM, List.find?_cons]
  by_cases h : p.1 = k
  ·simp [h]
  ·have : ofB p.1 ≠ ofB k := fun e => h (ofB_inj e)
   simp only [this, if_false, h, decide_false, ih]
   rfl
theorem lookM_mem {mp : RMap} {k : B} (h : k ∈ keysM mp) : ∃ r, lookM mp k = some r := by
 obtain ⟨p, hp, rfl⟩ := List.mem_map.1 h
 cases hf : mp.find? fun q => decide (q.1 = p.1) with
 | none => exact absurd (List.find?_eq_none.1 hf p hp) (by simp)
 | some q => exact ⟨q.2, by simp [lookM, hf]⟩
theorem values_calls (mp : RMap) (hm : mp.length < 1000000) {R} (h : ∀ ks, ks.Perm (keysM mp) → ks = sortB ks → R (.sl none 7 (recs (ks.map (lookZ mp)))) [.map (rmap mp)]) :
  ACalls Tryz.prog 105 [.mapv 0] [.map (rmap mp)] R := by
 refine acalls_of_xwp (an := an105) tab_ok Tryz.func105 ?_
 have hml : (rmap mp).length = mp.length := by simp [rmap]
 conv => whnf
 intro ms clock
 refine LoopP.ind2 (fun (seen : List Nat) (keys : List B) => [(3, .slv (nameOf 3) 1 keys.length 0 keys.length)]) (fun seen keys => [(0, .mapc (rmap mp) ms clock), (nameOf 3, .vec 9 1 (strs keys) keys.length), (nameOf 9, .iter 0 ms clock seen)])
  (fun seen _ => mp.length - seen.length) (fun seen keys => seen.Nodup ∧ (∀ i ∈ seen, i < mp.length) ∧ keys = seen.reverse.map fun i => ((mp[i]?).map (·.1)).getD []) [] [] rfl ⟨by simp, by simp, rfl⟩ ?_
 rintro seen keys ⟨hnd, hbd, hkeys⟩ IH
 have hkl : keys.length = seen.length := by rw [hkeys]; simp
 have hsb := nodup_bound hnd hbd
 have hsk := strs_length keys
 conv => whnf
 refine ⟨⟨rfl, rfl⟩, fun hall => ?_, fun i e he hns => ?_⟩
 ·have hperm : keys.Perm (keysM mp) := by
   have h1 : seen.Perm (List.range mp.length) := (List.perm_ext_iff_of_nodup hnd List.nodup_range).2 fun a => by
    rw [List.mem_range]
    exact ⟨hbd a, fun ha => hall a (by rw [hml]; exact ha)⟩
   have h2 : (List.range mp.length).map (fun i => ((mp[i]?).map (·.1)).getD []) = keysM mp := by
    apply List.ext_getElem
    ·simp [keysM]
    ·intro i h1 h2
     have hi : i < mp.length := by simpa using h1
     simp [keysM, List.getElem?_eq_getElem hi]
   rw [hkeys, ← h2]
   exact ((List.reverse_perm seen).trans h1).map _
  clear IH
  conv => whnf
  refine Sort_calls keys keys.length (by omega) ?_
  generalize hks : sortB keys = ks
  have hkp : ks.Perm keys := by rw [← hks]; exact List.mergeSort_perm _ _
  have hkl2 : ks.length = keys.length := hkp.length_eq
  have hks2 : ks = sortB ks := by
   rw [← hks]
   exact (List.mergeSort_of_pairwise (List.pairwise_mergeSort (fun a b c h1 h2 => by simp at h1 h2 ⊢; exact List.le_trans h1 h2) (fun a b => by simp; exact List.le_total a b) keys)).symm
  have hskk := strs_length ks
  have hbt : (tab.ti 67).bytes = 88 := rfl
  conv => whnf
  refine LoopP.ind2 (fun (i : Nat) (out : List Rc) => [(5, .sl (some (nameOf 5)) 7 (recs out)), (22, vi i)]) (fun i out => [(0, .map (rmap mp)), (nameOf 3, .vec 9 1 (strs ks) keys.length), (nameOf 5, .row 67 7 out.length)])
   (fun i _ => ks.length - i) (fun i out => i ≤ ks.length ∧ out = (ks.take i).map (lookZ mp)) 0 [] rfl ⟨by omega, by simp⟩ ?_
  rintro i out ⟨h0, ho⟩ IH
  have hol := recs_length out
  have hoi : out.length = i := by rw [ho]; simp; omega
  conv => whnf
  refine br_intro (fun hc => ?_) (fun hc => ?_)
  ·have hc : i < ks.length := by simp at hc; omega
   (conv => whnf); (repeat ((with_reducible refine must_intro ?_ ?_); exact decide_eq_true (by omega); (conv => whnf)))
   refine ⟨rfl, idxK_map_intro (show 0 + (i : Int).toNat < ks.length by simpa using hc) ?_⟩
   rw [show ks[0 + (i : Int).toNat]'(by simpa using hc) = ks[i] from by congr 1; simp]
   obtain ⟨r, hr⟩ := lookM_mem (mp := mp) (k := ks[i]) ((hkp.trans hperm).mem_iff.1 (List.getElem_mem hc))
   have hz : lookZ mp ks[i] = r := by rw [lookZ, hr]; rfl
   have hf : mapFind (rmap mp) (ofB ks[i]) = some (.agg r.enc) := by rw [rmap_find, hr]; rfl
   conv => whnf
   rw [hf]
   conv => whnf
   refine ⟨hol.symm, (by rw [hol]; show (out.length + 1) * (88 + 1) ≤ _; omega), ?_⟩
   conv => whnf
   have e1 : recs (out ++ [r]) = recs out ++ [r.enc] := by simp [recs]
   have e2 : (out ++ [r]).length = (recs out).length + [r.enc].length := by simp [hol]
   have := IH (i + 1) (out ++ [r]) ⟨by omega, by rw [List.take_succ_eq_append_getElem hc, List.map_append, ho]; simp [hz]⟩ (by omega)
   rw [e1, e2] at this
   rw [i64_nat (by omega)]
   exact this
  ·have hc : ks.length ≤ i := by simp at hc; omega
   rw [List.take_of_length_le hc] at ho
   conv => whnf
   rw [ho]
   exact h ks (hkp.trans hperm) hks2
 ·obtain ⟨p, hp, rfl⟩ : ∃ p, mp[i]? = some p ∧ (ofB p.1, AV.agg p.2.enc) = e := by
   unfold rmap at he
   rw [List.getElem?_map, Option.map_eq_some_iff] at he
   exact he
  have hil : i < mp.length := (List.getElem?_eq_some_iff.1 hp).1
  conv => whnf
  refine ⟨⟨rfl, rfl⟩, idxK_iff.2 ⟨_, he, ?_⟩⟩
  conv => whnf
  refine ⟨⟨rfl, rfl, Nat.le_of_eq hsk.symm⟩, (by show (keys.length + 1) * (16 + 1) ≤ _; omega), ?_⟩
  conv => whnf
  rw [List.take_of_length_le (Nat.le_of_eq hsk)]
  have e1 : strs keys ++ [[AV.val (Value.string (ofB p.1))]] = strs (keys ++ [p.1]) := by simp [strs, vs]
  have e2 : keys.length + [[AV.val (Value.string (ofB p.1))]].length = (keys ++ [p.1]).length := by simp
  rw [e1, e2, show keys.length + 1 = (keys ++ [p.1]).length by simp]
  refine IH (i :: seen) (keys ++ [p.1]) ⟨List.nodup_cons.2 ⟨hns, hnd⟩, ?_, ?_⟩ (by
   have := nodup_bound (n := mp.length) (List.nodup_cons.2 ⟨hns, hnd⟩) (by
    intro x hx
    rw [List.mem_cons] at hx
    rcases hx with rfl | hx
    ·exact hil
    ·exact hbd x hx)
   simp at this ⊢
   omega)
  ·intro x hx
   rw [List.mem_cons] at hx
   rcases hx with rfl | hx
   ·exact hil
   ·exact hbd x hx
  ·rw [List.reverse_cons, List.map_append, ← hkeys]
   simp [hp]
end Go.Abs
end
section
namespace Go.Abs
open Go Go.Proofs
theorem ltB_eq (a b : B) : ltB a b = decide (a < b) := bytesLess_eq a b
theorem b_total {a b : B} (h : ¬ a < b) (hn : b ≠ a) : b < a := by
 refine Classical.byContradiction fun h2 => hn ?_
 exact List.le_antisymm (show b ≤ a from h) (show a ≤ b from h2)
def docLoop (r : Rc) : Bool → List Rc → List Rc
 | laid, [] => if laid = true then [] else [r]
 | laid, s :: S => (if (!laid && ltB r.target s.target) = true then [r] else []) ++ ((if s.target = r.target then [] else [s]) ++ docLoop r (laid || (!laid && ltB r.target s.target)) S)
def docPut (S : List Rc) (r : Rc) : List Rc := if r.kind ≠ 1 ∧ r.kind ≠ 2 then S else docLoop r (decide (r.kind = 2)) S
def docOf (l : List Rc) : List Rc := l.foldl docPut []
abbrev Srt (S : List Rc) : Prop := S.Pairwise fun a b => a.target < b.target
theorem mem_ite1 {p : Prop} [Decidable p] {x r : Rc} : x ∈ (if p then [r] else []) ↔ p ∧ x = r := by by_cases h : p <;> simp [h]
theorem mem_ite2 {p : Prop} [Decidable p] {x r : Rc} : x ∈ (if p then [] else [r]) ↔ ¬ p ∧ x = r := by by_cases h : p <;> simp [h]
theorem docLoop_mem (r : Rc) : ∀ (S : List Rc) (laid : Bool) (x : Rc), x ∈ docLoop r laid S ↔ (laid = false ∧ x = r) ∨ (x ∈ S ∧ x.target ≠ r.target) := by
 intro S
 induction S with
 | nil => intro laid x; cases laid <;> simp [docLoop]
 | cons s S ih =>
  intro laid x
  simp only [docLoop, List.mem_append, ih, List.mem_cons, mem_ite1, mem_ite2]
  generalize hL : (!laid && ltB r.target s.target) = L
  have h1 : L = true → laid = false := by
   intro e
   rw [e] at hL
   cases laid
   ·rfl
   ·simp at hL
  constructor
  ·rintro (⟨h, rfl⟩ | ⟨h, rfl⟩ | ⟨h, rfl⟩ | ⟨h, h'⟩)
   ·exact .inl ⟨h1 h, rfl⟩
   ·exact .inr ⟨.inl rfl, h⟩
   ·exact .inl ⟨by cases laid <;> simp_all, rfl⟩
   ·exact .inr ⟨.inr h, h'⟩
  ·rintro (⟨h, rfl⟩ | ⟨rfl | h, h'⟩)
   ·cases hq : L
    ·exact .inr (.inr (.inl ⟨by simp [h], rfl⟩))
    ·exact .inl ⟨rfl, rfl⟩
   ·exact .inr (.inl ⟨h', rfl⟩)
   ·exact .inr (.inr (.inr ⟨h, h'⟩))
theorem docLoop_srt (r : Rc) : ∀ (S : List Rc) (laid : Bool), Srt S → (laid = true → ∀ s ∈ S, r.target < s.target ∨ s.target = r.target ∨ s.target < r.target) → Srt (docLoop r laid S) := by
 intro S
 induction S with
 | nil => intro laid _ _; cases laid <;> simp [docLoop, Srt]
 | cons s S ih =>
  intro laid hS hl
  have hS' := List.pairwise_cons.1 hS
  have hrec : ∀ b, Srt (docLoop r b S) := fun b => ih b hS'.2 fun _ x _ => by
   by_cases h1 : r.target < x.target
   ·exact .inl h1
   ·by_cases h2 : x.target = r.target
    ·exact .inr (.inl h2)
    ·exact .inr (.inr (b_total h1 h2))
  simp only [docLoop]
  cases hL : (!laid && ltB r.target s.target)
  ·simp only [Bool.or_false, Bool.false_eq_true, if_false, List.nil_append]
   by_cases hs : s.target = r.target
   ·simp only [hs, if_true, List.nil_append]
    exact hrec laid
   ·simp only [hs, if_false, List.cons_append, List.nil_append]
    refine List.pairwise_cons.2 ⟨fun x hx => ?_, hrec laid⟩
    rcases (docLoop_mem r S laid x).1 hx with ⟨h, rfl⟩ | ⟨h, _⟩
    ·rw [h] at hL
     simp only [Bool.not_false, Bool.true_and, ltB_eq, decide_eq_false_iff_not] at hL
     exact b_total hL hs
    ·exact hS'.1 x h
  ·have hlt : r.target < s.target := by
    simp only [Bool.and_eq_true, ltB_eq, decide_eq_true_eq] at hL
    exact hL.2
   have hs : ¬ s.target = r.target := fun e => List.lt_irrefl _ (e ▸ hlt)
   simp only [Bool.or_true, if_true, hs, if_false, List.cons_append, List.nil_append]
   have hnr : ∀ x ∈ docLoop r true S, x ∈ S := fun x hx => by
    rcases (docLoop_mem r S true x).1 hx with ⟨h, _⟩ | ⟨h, _⟩
    ·cases h
    ·exact h
   refine List.pairwise_cons.2 ⟨fun x hx => ?_, List.pairwise_cons.2 ⟨fun x hx => hS'.1 x (hnr x hx), hrec true⟩⟩
   rw [List.mem_cons] at hx
   rcases hx with rfl | hx
   ·exact hlt
   ·exact List.lt_trans hlt (hS'.1 x (hnr x hx))
theorem docPut_srt {S : List Rc} (r : Rc) (h : Srt S) : Srt (docPut S r) := by
 unfold docPut
 split
 ·exact h
 ·refine docLoop_srt r S _ h fun _ x _ => ?_
  by_cases h1 : r.target < x.target
  ·exact .inl h1
  ·by_cases h2 : x.target = r.target
   ·exact .inr (.inl h2)
   ·exact .inr (.inr (b_total h1 h2))
def putR : RMap → B → Rc → RMap
 | [], k, r => [(k, r)]
 | p :: mp, k, r => if p.1 = k then (k, r) :: mp else p :: putR mp k r
def delR : RMap → B → RMap
 | [], _ => []
 | p :: mp, k => if p.1 = k then mp else p :: delR mp k
def putM (mp : RMap) (r : Rc) : RMap := if r.kind = 1 then putR mp r.target r else if r.kind = 2 then delR mp r.target else mp
def ofM (l : List Rc) : RMap := l.foldl putM []
theorem rmap_put (mp : RMap) (k : B) (r : Rc) : rmap (putR mp k r) = mapPut (rmap mp) (ofB k) (.agg r.enc) := by
 induction mp with
 | nil => rfl
 | cons p mp ih =>
  simp only [putR, rmap, List.map_cons, mapPut]
  by_cases h : p.1 = k
  ·simp [h]
  ·have : ofB p.1 ≠ ofB k := fun e => h (ofB_inj e)
   simp only [h, if_false, this, List.map_cons]
   unfold rmap at ih
   rw [ih]
theorem rmap_del (mp : RMap) (k : B) : rmap (delR mp k) = mapDel (rmap mp) (ofB k) := by
 induction mp with
 | nil => rfl
 | cons p mp ih =>
  simp only [delR, rmap, List.map_cons, mapDel]
  by_cases h : p.1 = k
  ·simp [h]
  ·have : ofB p.1 ≠ ofB k := fun e => h (ofB_inj e)
   simp only [h, if_false, this, List.map_cons]
   unfold rmap at ih
   rw [ih]
def MOk (mp : RMap) : Prop := (keysM mp).Nodup ∧ ∀ p ∈ mp, p.2.target = p.1
theorem putR_mem {mp : RMap} (hn : (keysM mp).Nodup) (k : B) (r : Rc) (q : B × Rc) : q ∈ putR mp k r ↔ q = (k, r) ∨ (q ∈ mp ∧ q.1 ≠ k) := by
 induction mp with
 | nil => simp [putR]
 | cons p mp ih =>
  have hn' := List.nodup_cons.1 (show (p.1 :: keysM mp).Nodup from hn)
  simp only [putR]
  by_cases h : p.1 = k
  ·simp only [h, if_true, List.mem_cons]
   constructor
   ·rintro (h1 | h1)
    ·exact .inl h1
    ·refine .inr ⟨.inr h1, fun e => hn'.1 ?_⟩
     rw [h, ← e]
     exact List.mem_map_of_mem h1
   ·rintro (h1 | ⟨rfl | h1, h2⟩)
    ·exact .inl h1
    ·exact absurd h h2
    ·exact .inr h1
  ·simp only [h, if_false, List.mem_cons, ih hn'.2]
   constructor
   ·rintro (rfl | h1 | ⟨h1, h2⟩)
    ·exact .inr ⟨.inl rfl, h⟩
    ·exact .inl h1
    ·exact .inr ⟨.inr h1, h2⟩
   ·rintro (h1 | ⟨rfl | h1, h2⟩)
    ·exact .inr (.inl h1)
    ·exact .inl rfl
    ·exact .inr (.inr ⟨h1, h2⟩)
theorem delR_mem {mp : RMap} (hn : (keysM mp).Nodup) (k : B) (q : B × Rc) : q ∈ delR mp k ↔ q ∈ mp ∧ q.1 ≠ k := by
 induction mp with
 | nil => simp [delR]
 | cons p mp ih =>
  have hn' := List.nodup_cons.1 (show (p.1 :: keysM mp).Nodup from hn)
  simp only [delR]
  by_cases h : p.1 = k
  ·simp only [h, if_true, List.mem_cons]
   constructor
   ·intro h1
    refine ⟨.inr h1, fun e => hn'.1 ?_⟩
    rw [h, ← e]
    exact List.mem_map_of_mem h1
   ·rintro ⟨rfl | h1, h2⟩
    ·exact absurd h h2
    ·exact h1
  ·simp only [h, if_false, List.mem_cons, ih hn'.2]
   constructor
   ·rintro (rfl | ⟨h1, h2⟩)
    ·exact ⟨.inl rfl, h⟩
    ·exact ⟨.inr h1, h2⟩
   ·rintro ⟨rfl | h1, h2⟩
    ·exact .inl rfl
    ·exact .inr ⟨h1, h2⟩
theorem putR_nodup {mp : RMap} (hn : (keysM mp).Nodup) (k : B) (r : Rc) : (keysM (putR mp k r)).Nodup := by
 induction mp with
 | nil => simp [putR, keysM]
 | cons p mp ih =>
  have hn' := List.nodup_cons.1 (show (p.1 :: keysM mp).Nodup from hn)
  simp only [putR]
  by_cases h : p.1 = k
  ·simp only [h, if_true]
   exact List.nodup_cons.2 ⟨by rw [← h]; exact hn'.1, hn'.2⟩
  ·simp only [h, if_false]
   refine List.nodup_cons.2 ⟨fun hm => ?_, ih hn'.2⟩
   obtain ⟨q, hq, e⟩ := List.mem_map.1 hm
   rcases (putR_mem hn'.2 k r q).1 hq with rfl | ⟨h1, _⟩
   ·exact h e.symm
   ·have e : q.1 = p.1 := e
    exact hn'.1 (by rw [← e]; exact List.mem_map_of_mem h1)
theorem delR_nodup {mp : RMap} (hn : (keysM mp).Nodup) (k : B) : (keysM (delR mp k)).Nodup := by
 induction mp with
 | nil => simp [delR, keysM]
 | cons p mp ih =>
  have hn' := List.nodup_cons.1 (show (p.1 :: keysM mp).Nodup from hn)
  simp only [delR]
  by_cases h : p.1 = k
  ·simp only [h, if_true]
   exact hn'.2
  ·simp only [h, if_false]
   refine List.nodup_cons.2 ⟨fun hm => ?_, ih hn'.2⟩
   obtain ⟨q, hq, e⟩ := List.mem_map.1 hm
   have h1 := (delR_mem hn'.2 k q).1 hq
   have e : q.1 = p.1 := e
   exact hn'.1 (by rw [← e]; exact List.mem_map_of_mem h1.1)
theorem putM_ok {mp : RMap} (h : MOk mp) (r : Rc) : MOk (putM mp r) := by
 unfold putM
 split
 ·refine ⟨putR_nodup h.1 _ _, fun p hp => ?_⟩
  rcases (putR_mem h.1 _ _ p).1 hp with rfl | ⟨h1, _⟩
  ·rfl
  ·exact h.2 p h1
 ·split
  ·exact ⟨delR_nodup h.1 _, fun p hp => h.2 p ((delR_mem h.1 _ p).1 hp).1⟩
  ·exact h
structure Fits (mp : RMap) (S : List Rc) : Prop where
 ok : MOk mp
 srt : Srt S
 mem : ∀ x, x ∈ S ↔ (x.target, x) ∈ mp
theorem Fits.put {mp : RMap} {S : List Rc} (h : Fits mp S) (r : Rc) : Fits (putM mp r) (docPut S r) := by
 refine ⟨putM_ok h.ok r, docPut_srt r h.srt, fun x => ?_⟩
 unfold docPut putM
 by_cases h1 : r.kind = 1
 ·have hk2 : decide (r.kind = 2) = false := by rw [h1]; rfl
  rw [if_neg (by simp [h1]), if_pos h1, docLoop_mem, hk2, putR_mem h.ok.1, h.mem]
  constructor
  ·rintro (⟨_, rfl⟩ | h)
   ·exact .inl rfl
   ·exact .inr h
  ·rintro (h | h)
   ·exact .inl ⟨rfl, by injection h⟩
   ·exact .inr h
 ·by_cases h2 : r.kind = 2
  ·rw [if_neg (by simp [h2]), if_neg h1, if_pos h2, docLoop_mem, delR_mem h.ok.1, h.mem]
   simp [h2]
  ·rw [if_pos ⟨h1, h2⟩, if_neg h1, if_neg h2]
   exact h.mem x
theorem fits_of (l : List Rc) : Fits (ofM l) (docOf l) := by
 have : ∀ (l : List Rc) (mp : RMap) (S : List Rc), Fits mp S → Fits (l.foldl putM mp) (l.foldl docPut S) := by
  intro l
  induction l with
  | nil => intro mp S h; exact h
  | cons r l ih => intro mp S h; exact ih _ _ (h.put r)
 exact this l [] [] ⟨⟨by simp [keysM], by simp⟩, List.Pairwise.nil, by simp⟩
theorem srt_ext : ∀ {l m : List Rc}, Srt l → Srt m → (∀ x, x ∈ l ↔ x ∈ m) → l = m := by
 intro l
 induction l with
 | nil =>
  intro m _ _ h
  cases m with
  | nil => rfl
  | cons b m => exact absurd ((h b).2 (by simp)) (by simp)
 | cons a l ih =>
  intro m hl hm h
  cases m with
  | nil => exact absurd ((h a).1 (by simp)) (by simp)
  | cons b m =>
   have hl' := List.pairwise_cons.1 hl
   have hm' := List.pairwise_cons.1 hm
   have hab : a = b := by
    rcases List.mem_cons.1 ((h a).1 (by simp)) with e | h1
    ·exact e
    ·rcases List.mem_cons.1 ((h b).2 (by simp)) with e | h2
     ·exact e.symm
     ·exact absurd (hl'.1 b h2) (List.lt_asymm (hm'.1 a h1))
   subst hab
   congr 1
   refine ih hl'.2 hm'.2 fun x => ?_
   constructor
   ·intro hx
    rcases List.mem_cons.1 ((h x).1 (by simp [hx])) with rfl | h1
    ·exact absurd (hl'.1 _ hx) (List.lt_irrefl _)
    ·exact h1
   ·intro hx
    rcases List.mem_cons.1 ((h x).2 (by simp [hx])) with rfl | h1
    ·exact absurd (hm'.1 _ hx) (List.lt_irrefl _)
    ·exact h1
theorem lookM_of_mem {mp : RMap} (hn : (keysM mp).Nodup) {k : B} {r : Rc} (h : (k, r) ∈ mp) : lookM mp k = some r := by
 induction mp with
 | nil => simp at h
 | cons p mp ih =>
  have hn' := List.nodup_cons.1 (show (p.1 :: keysM mp).Nodup from hn)
  unfold lookM at ih ⊢
  simp only [List.find?_cons]
  rcases List.mem_cons.1 h with rfl | h
  ·simp
  ·have : p.1 ≠ k := fun e => hn'.1 (by rw [e]; exact List.mem_map_of_mem (f := (·.1)) h)
   simp only [this, decide_false]
   exact ih hn'.2 h
theorem mem_of_lookM {mp : RMap} {k : B} {r : Rc} (h : lookM mp k = some r) : (k, r) ∈ mp := by
 unfold lookM at h
 rw [Option.map_eq_some_iff] at h
 obtain ⟨p, h1, rfl⟩ := h
 have h2 := List.find?_some h1
 have : p.1 = k := by simpa using h2
 rw [← this]
 exact List.mem_of_find?_eq_some h1
theorem values_doc {mp : RMap} {S : List Rc} (h : Fits mp S) {ks : List B} (hp : ks.Perm (keysM mp)) (hs : ks = sortB ks) : ks.map (lookZ mp) = S := by
 have hz : ∀ k ∈ ks, ∃ r, (k, r) ∈ mp ∧ lookZ mp k = r := fun k hk => by
  obtain ⟨r, hr⟩ := lookM_mem (mp := mp) (k := k) (hp.mem_iff.1 hk)
  exact ⟨r, mem_of_lookM hr, by rw [lookZ, hr]; rfl⟩
 have hle : ks.Pairwise (fun a b => a ≤ b) := by
  have := List.pairwise_mergeSort (le := fun x y : B => decide (x ≤ y)) (fun a b c h1 h2 => by simp at h1 h2 ⊢; exact List.le_trans h1 h2) (fun a b => by simp; exact List.le_total a b) ks
  rw [show ks.mergeSort (fun x y => decide (x ≤ y)) = ks from hs.symm] at this
  exact this.imp fun h => of_decide_eq_true h
 have hnd : ks.Nodup := hp.nodup_iff.2 h.ok.1
 refine srt_ext ?_ h.srt fun x => ?_
 ·rw [Srt, List.pairwise_map]
  refine List.Pairwise.imp_of_mem ?_ (hle.and hnd)
  rintro a b ha hb ⟨h1, h2⟩
  obtain ⟨ra, a1, a2⟩ := hz a ha
  obtain ⟨rb, b1, b2⟩ := hz b hb
  rw [a2, b2, h.ok.2 _ a1, h.ok.2 _ b1]
  refine Classical.byContradiction fun hn => h2 ?_
  exact List.le_antisymm h1 (show b ≤ a from hn)
 ·rw [h.mem, List.mem_map]
  constructor
  ·rintro ⟨k, hk, rfl⟩
   obtain ⟨r, h1, h2⟩ := hz k hk
   rw [h2, h.ok.2 _ h1]
   exact h1
  ·intro hx
   have hk : x.target ∈ ks := hp.mem_iff.2 (List.mem_map_of_mem (f := (·.1)) hx)
   refine ⟨x.target, hk, ?_⟩
   rw [lookZ, lookM_of_mem h.ok.1 hx]; rfl
end Go.Abs
end
