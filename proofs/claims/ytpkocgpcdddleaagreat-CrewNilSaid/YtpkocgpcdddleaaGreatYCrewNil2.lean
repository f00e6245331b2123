/- Several texts of this claim, one behind the other: M1, M4, N6, N7, N8, F7, G1, G2, G3, H2, H3, H4, H5, H7, HB, P1, UA, N9, P2, P3, P4, UB, H8, MC, UC, P5, P6. -/
import Derived.Test.YtpkocgpcdddleaaGreatYCrewNil1
import Derived.Shelf.Abstract
import Derived.WalkKit
import Derived.OwnWalkIn
import Derived.TacticsInMore
import Derived.LoopNIn
import Derived.LoopIn
import Derived.Sort.Walk0
import Derived.Test.YtpkocgpcdddleaaGreatBA
set_option maxRecDepth 100000
set_option maxHeartbeats 4000000
set_option linter.unusedVariables false
set_option linter.unusedSimpArgs false
section
namespace Go.Abs
open Go Go.Proofs
attribute [local irreducible] ibits byteAt strLt firstIdx
namespace Crc
abbrev W := BitVec 32
def poly : W := 0xedb88320#32
def s0 (c : W) : W := (c >>> 1) ^^^ (if c.getLsbD 0 then poly else 0#32)
def four (c : W) : W := s0 (s0 (s0 (s0 c)))
def half (c : W) (n : W) : W := (c >>> 4) ^^^ four ((c ^^^ n) &&& 15#32)
def ofByte (x : UInt8) : W := BitVec.ofNat 32 x.toNat
def byte (c : W) (x : UInt8) : W := half (half c (ofByte x)) (ofByte x >>> 4)
def run (c : W) (l : B) : W := l.foldl byte c
def sum (l : B) : W := ~~~ run 0xffffffff#32 l
def bitS (c : W) (b : Bool) : W := (c >>> 1) ^^^ (if c.getLsbD 0 != b then poly else 0#32)
theorem xor4 {w : Nat} (a b c d : BitVec w) : (a ^^^ b) ^^^ (c ^^^ d) = (a ^^^ c) ^^^ (b ^^^ d) := by
 apply BitVec.eq_of_getLsbD_eq
 intro i hi
 simp only [BitVec.getLsbD_xor]
 cases a.getLsbD i <;> cases b.getLsbD i <;> cases c.getLsbD i <;> cases d.getLsbD i <;> rfl
theorem s0_xor (a b : W) : s0 (a ^^^ b) = s0 a ^^^ s0 b := by
 unfold s0
 rw [BitVec.ushiftRight_xor_distrib, BitVec.getLsbD_xor]
 have : (if (a.getLsbD 0 ^^ b.getLsbD 0) = true then poly else 0#32) = (if a.getLsbD 0 = true then poly else 0#32) ^^^ (if b.getLsbD 0 = true then poly else 0#32) := by
  cases a.getLsbD 0 <;> cases b.getLsbD 0 <;> simp
 rw [this, xor4]
theorem four_xor (a b : W) : four (a ^^^ b) = four a ^^^ four b := by unfold four; rw [s0_xor, s0_xor, s0_xor, s0_xor]
theorem s0_even {a : W} (h : a.getLsbD 0 = false) : s0 a = a >>> 1 := by unfold s0; rw [h]; simp
theorem four_hi {a : W} (h : ∀ i, i < 4 → a.getLsbD i = false) : four a = a >>> 4 := by
 unfold four
 have e1 : s0 a = a >>> 1 := s0_even (h 0 (by omega))
 have e2 : s0 (a >>> 1) = a >>> 1 >>> 1 := s0_even (by rw [BitVec.getLsbD_ushiftRight]; exact h 1 (by omega))
 have e3 : s0 (a >>> 1 >>> 1) = a >>> 1 >>> 1 >>> 1 := s0_even (by rw [BitVec.getLsbD_ushiftRight, BitVec.getLsbD_ushiftRight]; exact h 2 (by omega))
 have e4 : s0 (a >>> 1 >>> 1 >>> 1) = a >>> 1 >>> 1 >>> 1 >>> 1 := s0_even (by rw [BitVec.getLsbD_ushiftRight, BitVec.getLsbD_ushiftRight, BitVec.getLsbD_ushiftRight]; exact h 3 (by omega))
 rw [e1, e2, e3, e4]
 apply BitVec.eq_of_getLsbD_eq
 intro i hi
 simp only [BitVec.getLsbD_ushiftRight]
 congr 1
 omega
theorem split15 (c : W) : c = (c &&& ~~~ 15#32) ^^^ (c &&& 15#32) := by
 apply BitVec.eq_of_getLsbD_eq
 intro i hi
 simp only [BitVec.getLsbD_xor, BitVec.getLsbD_and, BitVec.getLsbD_not, hi, decide_true, Bool.true_and]
 cases c.getLsbD i <;> cases (15#32).getLsbD i <;> rfl
theorem bit15 (i : Nat) : (15#32).getLsbD i = decide (i < 4) := by
 by_cases h : i < 4
 ·have : i = 0 ∨ i = 1 ∨ i = 2 ∨ i = 3 := by omega
  rcases this with rfl | rfl | rfl | rfl <;> rfl
 ·simp only [h, decide_false]
  by_cases h2 : i < 32
  ·have := (by decide +kernel : (List.range 32).all (fun i => decide (i < 4) || !((15#32).getLsbD i)) = true)
   have := List.all_eq_true.1 this i (List.mem_range.2 h2)
   simpa [h] using this
  ·exact BitVec.getLsbD_of_ge _ _ (by omega)
theorem half_eq {c n : W} (hn : ∀ i, 4 ≤ i → n.getLsbD i = false) : four (c ^^^ n) = (c >>> 4) ^^^ four ((c ^^^ n) &&& 15#32) := by
 conv => lhs; rw [split15 (c ^^^ n), four_xor]
 congr 1
 rw [four_hi]
 ·apply BitVec.eq_of_getLsbD_eq
  intro i hi
  have h4 : ¬ 4 + i < 4 := by omega
  have h2 := hn (4 + i) (by omega)
  rw [BitVec.getLsbD_ushiftRight, BitVec.getLsbD_ushiftRight, BitVec.getLsbD_and, BitVec.getLsbD_xor, BitVec.getLsbD_not, bit15, h2]
  by_cases h3 : 4 + i < 32
  ·rw [decide_eq_true h3, decide_eq_false h4]; simp only [Bool.xor_false, Bool.not_false, Bool.and_true]
  ·rw [BitVec.getLsbD_of_ge c _ (Nat.le_of_not_lt h3)]; rfl
 ·intro i hi
  rw [BitVec.getLsbD_and, BitVec.getLsbD_not, bit15, decide_eq_true hi]
  simp only [Bool.not_true, Bool.and_false]
theorem bitS_eq (c n : W) (b : Bool) (hb : n.getLsbD 0 = b) : bitS c b ^^^ (n >>> 1) = s0 (c ^^^ n) := by
 unfold bitS s0
 rw [BitVec.ushiftRight_xor_distrib, BitVec.getLsbD_xor, hb]
 have : (if (c.getLsbD 0 != b) = true then poly else 0#32) = (if (c.getLsbD 0 ^^ b) = true then poly else 0#32) := by cases c.getLsbD 0 <;> cases b <;> rfl
 rw [this]
 apply BitVec.eq_of_getLsbD_eq
 intro i hi
 simp only [BitVec.getLsbD_xor]
 cases (c >>> 1).getLsbD i <;> cases (n >>> 1).getLsbD i <;> simp
theorem four_bits (c n : W) : bitS (bitS (bitS (bitS c (n.getLsbD 0)) (n.getLsbD 1)) (n.getLsbD 2)) (n.getLsbD 3) ^^^ (n >>> 4) = four (c ^^^ n) := by
 have e1 := bitS_eq c n _ rfl
 have e2 := bitS_eq (bitS c (n.getLsbD 0)) (n >>> 1) (n.getLsbD 1) (by simp)
 have e3 := bitS_eq (bitS (bitS c (n.getLsbD 0)) (n.getLsbD 1)) (n >>> 1 >>> 1) (n.getLsbD 2) (by simp)
 have e4 := bitS_eq (bitS (bitS (bitS c (n.getLsbD 0)) (n.getLsbD 1)) (n.getLsbD 2)) (n >>> 1 >>> 1 >>> 1) (n.getLsbD 3) (by simp)
 unfold four
 rw [← e1, ← e2, ← e3, ← e4]
 rfl
def bits (c : W) (x : UInt8) : Nat → W
 | 0 => c
 | k + 1 => bitS (bits c x k) ((ofByte x).getLsbD k)
theorem low4 (n : W) : ∀ i, 4 ≤ i → (n &&& 15#32).getLsbD i = false := fun i hi => by
 have : ¬ i < 4 := by omega
 simp [bit15, this]
theorem four_low (c n : W) : four ((c ^^^ n) &&& 15#32) = four ((c ^^^ (n &&& 15#32)) &&& 15#32) := by
 congr 1
 apply BitVec.eq_of_getLsbD_eq
 intro i hi
 simp only [BitVec.getLsbD_and, BitVec.getLsbD_xor]
 cases (15#32).getLsbD i <;> simp
theorem half_bits (c n : W) : half c n = bitS (bitS (bitS (bitS c (n.getLsbD 0)) (n.getLsbD 1)) (n.getLsbD 2)) (n.getLsbD 3) := by
 unfold half
 rw [four_low, ← half_eq (low4 n), ← four_bits c (n &&& 15#32)]
 have e : (n &&& 15#32) >>> 4 = 0#32 := by
  apply BitVec.eq_of_getLsbD_eq
  intro i hi
  have : ¬ 4 + i < 4 := by omega
  simp [bit15, this]
 rw [e, BitVec.xor_zero]
 simp [bit15]
theorem byte_bits (c : W) (x : UInt8) : byte c x = bits c x 8 := by
 unfold byte
 rw [half_bits, half_bits]
 simp only [BitVec.getLsbD_ushiftRight]
 rfl
theorem run_append (c : W) (l m : B) : run c (l ++ m) = run (run c l) m := List.foldl_append
end Crc
open Crc
def wv (x : Crc.W) : AV := .val (.int .u32 x.toNat)
theorem w_ofInt (x : Crc.W) : BitVec.ofInt IntKind.u32.bits (x.toNat : Int) = x := by
 show BitVec.ofInt 32 (x.toNat : Int) = x
 simp
theorem wrap_u32 {x : Int} (h0 : 0 ≤ x) (h1 : x < 4294967296) : IntKind.u32.wrap x = x := by
 show x % 4294967296 = x
 omega
theorem w_xor (x y : Crc.W) : ibits .xor .u32 (x.toNat : Int) (y.toNat : Int) = ((x ^^^ y).toNat : Int) := by
 simp only [ibits]
 rw [w_ofInt, w_ofInt]
 exact wrap_u32 (Int.natCast_nonneg _) (show (((x ^^^ y : BitVec 32).toNat : Nat) : Int) < ((4294967296 : Nat) : Int) from Int.ofNat_lt.2 (x ^^^ y : BitVec 32).isLt)
theorem w_and (x y : Crc.W) : ibits .and .u32 (x.toNat : Int) (y.toNat : Int) = ((x &&& y).toNat : Int) := by
 simp only [ibits]
 rw [w_ofInt, w_ofInt]
 exact wrap_u32 (Int.natCast_nonneg _) (show (((x &&& y : BitVec 32).toNat : Nat) : Int) < ((4294967296 : Nat) : Int) from Int.ofNat_lt.2 (x &&& y : BitVec 32).isLt)
theorem w_shr (x : Crc.W) (k : Nat) (hk : k ≤ 32) : ((x.toNat : Int)).fdiv (2 ^ min ((k : Int)).toNat IntKind.u32.bits) = ((x >>> k).toNat : Int) := by
 have : min ((k : Int)).toNat IntKind.u32.bits = k := by
  show min ((k : Int)).toNat 32 = k
  simp; omega
 rw [this, BitVec.toNat_ushiftRight, Nat.shiftRight_eq_div_pow, Int.fdiv_eq_ediv_of_nonneg _ (by exact Int.le_of_lt (Int.pow_pos (by omega)))]
 simp
theorem lsb_and (c : Crc.W) : c &&& 1#32 = if c.getLsbD 0 then 1#32 else 0#32 := by
 apply BitVec.eq_of_getLsbD_eq
 intro i hi
 rw [BitVec.getLsbD_and]
 cases h : c.getLsbD 0 with
 | true =>
  by_cases e : i = 0
  ·subst e; simp [h]
  ·simp [BitVec.getLsbD_one, e]
 | false =>
  by_cases e : i = 0
  ·subst e; rw [h]; rfl
  ·simp [BitVec.getLsbD_one, e]
theorem s0_step (c : Crc.W) : ibits .xor .u32 ((c.toNat : Int).fdiv (2 ^ min ((1 : Nat) : Int).toNat IntKind.u32.bits)) (IntKind.u32.wrap (3988292384 * ibits .and .u32 (c.toNat : Int) 1)) = ((Crc.s0 c).toNat : Int) := by
 rw [w_shr c 1 (by omega), show (1 : Int) = ((1#32 : Crc.W).toNat : Int) from rfl, w_and, lsb_and]
 have : IntKind.u32.wrap (3988292384 * ((if c.getLsbD 0 then 1#32 else 0#32 : Crc.W).toNat : Int)) = ((if c.getLsbD 0 then Crc.poly else 0#32 : Crc.W).toNat : Int) := by
  cases c.getLsbD 0 <;> rfl
 rw [this, w_xor]
 rfl
def s0n (c : Crc.W) : Nat → Crc.W
 | 0 => c
 | k + 1 => Crc.s0 (s0n c k)
theorem four_calls (c : Crc.W) {X : AV} (hX : X = wv c) {R} (h : R (wv (Crc.four c)) []) : ACalls Tryz.prog 256 [X] [] R := by
 subst hX
 refine acalls_of_xwp (an := an256) tab_ok Tryz.func256 ?_
 conv => whnf
 refine LoopP.ind2 (fun (i : Nat) (x : Crc.W) => [(0, wv x), (4, vi i)]) (fun i x => []) (fun i _ => 4 - i) (fun i x => i ≤ 4 ∧ x = s0n c i) 0 c rfl ⟨by omega, rfl⟩ ?_
 rintro i x ⟨h0, hx⟩ IH
 conv => whnf
 refine br_intro (fun hc => ?_) (fun hc => ?_)
 ·have hc : i < 4 := by simp at hc; omega
  conv => whnf
  have e := s0_step x
  simp only [wv] at IH
  rw [i64_nat (by omega)]
  have := IH (i + 1) (Crc.s0 x) ⟨by omega, by rw [hx]; rfl⟩ (by omega)
  rw [← e] at this
  exact this
 ·have hc : i = 4 := by simp at hc; omega
  subst hc
  conv => whnf
  rw [hx]
  exact h
def crcT : List AV := (List.range 16).map fun i => wv (Crc.four (BitVec.ofNat 32 i))
theorem halves_calls {R} (h : R (.agg crcT) []) : ACalls Tryz.prog 244 [] [] R := by
 refine acalls_of_xwp (an := an244) tab_ok Tryz.func244 ?_
 conv => whnf
 refine LoopP.step ?_
 conv => whnf
 refine four_calls 0#32 rfl ?_
 conv => whnf
 refine LoopP.step ?_
 conv => whnf
 refine four_calls 1#32 rfl ?_
 conv => whnf
 refine LoopP.step ?_
 conv => whnf
 refine four_calls 2#32 rfl ?_
 conv => whnf
 refine LoopP.step ?_
 conv => whnf
 refine four_calls 3#32 rfl ?_
 conv => whnf
 refine LoopP.step ?_
 conv => whnf
 refine four_calls 4#32 rfl ?_
 conv => whnf
 refine LoopP.step ?_
 conv => whnf
 refine four_calls 5#32 rfl ?_
 conv => whnf
 refine LoopP.step ?_
 conv => whnf
 refine four_calls 6#32 rfl ?_
 conv => whnf
 refine LoopP.step ?_
 conv => whnf
 refine four_calls 7#32 rfl ?_
 conv => whnf
 refine LoopP.step ?_
 conv => whnf
 refine four_calls 8#32 rfl ?_
 conv => whnf
 refine LoopP.step ?_
 conv => whnf
 refine four_calls 9#32 rfl ?_
 conv => whnf
 refine LoopP.step ?_
 conv => whnf
 refine four_calls 10#32 rfl ?_
 conv => whnf
 refine LoopP.step ?_
 conv => whnf
 refine four_calls 11#32 rfl ?_
 conv => whnf
 refine LoopP.step ?_
 conv => whnf
 refine four_calls 12#32 rfl ?_
 conv => whnf
 refine LoopP.step ?_
 conv => whnf
 refine four_calls 13#32 rfl ?_
 conv => whnf
 refine LoopP.step ?_
 conv => whnf
 refine four_calls 14#32 rfl ?_
 conv => whnf
 refine LoopP.step ?_
 conv => whnf
 refine four_calls 15#32 rfl ?_
 conv => whnf
 refine LoopP.step ?_
 conv => whnf
 exact h
theorem load_at {l : List AV} {n : Nat} {a : AV} {K : AV → Prop} (h : l[n]? = some a) (hk : force a K) : (match dropL l n with | a :: _ => force a K | [] => False) := by
 rw [dropL_eq]
 obtain ⟨hl, rfl⟩ := List.getElem?_eq_some_iff.1 h
 rw [List.drop_eq_getElem_cons hl]
 exact hk
theorem crcT_at (i : Crc.W) (h : i.toNat < 16) : crcT[i.toNat]? = some (wv (Crc.four i)) := by
 unfold crcT
 rw [List.getElem?_map, List.getElem?_range h]
 simp
theorem w_byte (x : UInt8) : IntKind.u32.wrap ((x.toNat : Nat) : Int) = (((Crc.ofByte x).toNat : Nat) : Int) := by
 have := x.toNat_lt
 rw [wrap_u32 (Int.natCast_nonneg _) (by omega)]
 unfold Crc.ofByte
 rw [BitVec.toNat_ofNat, Nat.mod_eq_of_lt (by omega)]
theorem w_byte4 (x : UInt8) : IntKind.u32.wrap (((x.toNat : Nat) : Int).fdiv (2 ^ min (Int.toNat 4) IntKind.u8.bits)) = (((Crc.ofByte x >>> 4).toNat : Nat) : Int) := by
 have hx := x.toNat_lt
 have e : ((x.toNat : Nat) : Int).fdiv (2 ^ min (Int.toNat 4) IntKind.u8.bits) = ((x.toNat / 16 : Nat) : Int) := by
  show ((x.toNat : Nat) : Int).fdiv (2 ^ 4) = _
  rw [Int.fdiv_eq_ediv_of_nonneg _ (by decide)]; omega
 rw [e, wrap_u32 (Int.natCast_nonneg _) (by omega), BitVec.toNat_ushiftRight, Nat.shiftRight_eq_div_pow]
 unfold Crc.ofByte
 rw [BitVec.toNat_ofNat, Nat.mod_eq_of_lt (by omega)]
theorem and15_lt (c : Crc.W) : (c &&& 15#32).toNat < 16 := by
 rw [BitVec.toNat_and]
 exact Nat.lt_of_le_of_lt Nat.and_le_right (by decide)
theorem half_step (c n : Crc.W) : ibits .and .u32 (ibits .xor .u32 (c.toNat : Int) (n.toNat : Int)) 15 = (((c ^^^ n) &&& 15#32).toNat : Int) := by
 rw [w_xor, show (15 : Int) = ((15#32 : Crc.W).toNat : Int) from rfl, w_and]
theorem half_end (c n : Crc.W) : ibits .xor .u32 ((c.toNat : Int).fdiv (2 ^ min (Int.toNat 4) IntKind.u32.bits)) ((Crc.four ((c ^^^ n) &&& 15#32)).toNat : Int) = ((Crc.half c n).toNat : Int) := by
 have e : (c.toNat : Int).fdiv (2 ^ min (Int.toNat 4) IntKind.u32.bits) = ((c >>> 4).toNat : Int) := w_shr c 4 (by omega)
 rw [e, w_xor]; rfl
theorem w_compl (c : Crc.W) : ibits .xor .u32 4294967295 (c.toNat : Int) = ((~~~ c).toNat : Int) := by
 rw [show (4294967295 : Int) = ((0xffffffff#32 : Crc.W).toNat : Int) from rfl, w_xor]
 congr 2
theorem Sum_calls (b : B) (hb : b.length < 100000000) {R} (h : R (wv (Crc.sum b)) []) : ACalls Tryz.prog 222 [.sl none 1 [[.sl none 1 (byteEls b)]]] [] R := by
 refine acalls_of_xwp (an := an222) tab_ok Tryz.func222 ?_
 have hsl : (byteEls b).length = b.length := by simp [byteEls]
 conv => whnf
 refine halves_calls ?_
 conv => whnf
 refine LoopP.step ?_
 conv => whnf
 refine LoopP.ind2 (fun (i : Nat) (c : Crc.W) => [(4, wv c), (18, vi i)]) (fun i c => [(nameOf 3, .cells 348 crcT)]) (fun i _ => b.length - i) (fun i c => i ≤ b.length ∧ c = Crc.run 0xffffffff#32 (b.take i)) 0 0xffffffff#32 rfl ⟨by omega, rfl⟩ ?_
 rintro i c ⟨h0, hc0⟩ IH
 conv => whnf
 refine br_intro (fun hc => ?_) (fun hc => ?_)
 ·have hc := lt_of_decE hsl hc
  (conv => whnf); (repeat ((with_reducible refine must_intro ?_ ?_); exact decide_eq_true (by omega); (conv => whnf)))
  refine idxK_map_intro (show (i : Int).toNat < b.length by simpa using hc) ?_
  rw [show b[(i : Int).toNat]'(by simpa using hc) = b[i] from by congr 1]
  have IH' := IH (i + 1) (Crc.byte c b[i]) ⟨by omega, by rw [List.take_succ_eq_append_getElem hc, Crc.run_append, hc0]; rfl⟩ (by omega)
  clear IH
  generalize b[i] = x at IH' ⊢
  conv => whnf
  rw [w_byte, half_step]
  have hq := and15_lt (c ^^^ Crc.ofByte x)
  have hT := crcT_at _ hq
  have he := half_end c (Crc.ofByte x)
  generalize (c ^^^ Crc.ofByte x) &&& 15#32 = q at hq hT he ⊢
  refine must_intro (decide_eq_true (show ((q.toNat : Nat) : Int) < ((16 : Nat) : Int) by omega)) ?_
  conv => whnf
  refine load_at (a := wv (Crc.four q)) (by show crcT[0 + q.toNat * 1]? = _; rw [Nat.zero_add, Nat.mul_one]; exact hT) ?_
  conv => whnf
  rw [he, w_byte4, half_step]
  have hq := and15_lt (Crc.half c (Crc.ofByte x) ^^^ (Crc.ofByte x >>> 4))
  have hT := crcT_at _ hq
  have he := half_end (Crc.half c (Crc.ofByte x)) (Crc.ofByte x >>> 4)
  generalize (Crc.half c (Crc.ofByte x) ^^^ (Crc.ofByte x >>> 4)) &&& 15#32 = q2 at hq hT he ⊢
  refine must_intro (decide_eq_true (show ((q2.toNat : Nat) : Int) < ((16 : Nat) : Int) by omega)) ?_
  conv => whnf
  refine load_at (a := wv (Crc.four q2)) (by show crcT[0 + q2.toNat * 1]? = _; rw [Nat.zero_add, Nat.mul_one]; exact hT) ?_
  conv => whnf
  rw [he, i64_nat (by omega)]
  exact IH'
 ·have hc := ge_of_decE hsl hc
  rw [List.take_of_length_le hc] at hc0
  conv => whnf
  refine LoopP.step ?_
  conv => whnf
  have e : ibits .xor .u32 (match IntKind.u32.signed with | true => -1 | false => IntKind.u32.max) (c.toNat : Int) = ((Crc.sum b).toNat : Int) := by
   rw [Crc.sum, ← hc0]; exact w_compl c
  refine Eq.mp ?_ h
  rw [wv, ← e]
  rfl
theorem w_mod2 (c : Crc.W) : (c.toNat : Int).tmod 2 = if c.getLsbD 0 then 1 else 0 := by
 rw [Int.tmod_eq_emod_of_nonneg (Int.natCast_nonneg _)]
 have h : c.getLsbD 0 = decide (c.toNat % 2 = 1) := by
  rw [BitVec.getLsbD, Nat.testBit_zero]
 rw [h]
 by_cases e : c.toNat % 2 = 1
 ·rw [decide_eq_true e]; simp; omega
 ·rw [decide_eq_false e]; simp; omega
theorem w_div2 (c : Crc.W) : IntKind.u32.wrap ((c.toNat : Int).tdiv 2) = ((c >>> 1).toNat : Int) := by
 have := c.isLt
 rw [Int.tdiv_eq_ediv_of_nonneg (Int.natCast_nonneg _), wrap_u32 (by omega) (by omega), BitVec.toNat_ushiftRight, Nat.shiftRight_eq_div_pow]
 omega
theorem b_bit (x : UInt8) (k : Nat) (hk : k < 8) : (IntKind.u32.wrap (((x.toNat : Nat) : Int).fdiv (2 ^ min ((k : Nat) : Int).toNat IntKind.u8.bits))).tmod 2 = if (Crc.ofByte x).getLsbD k then 1 else 0 := by
 have hx := x.toNat_lt
 have e : ((x.toNat : Nat) : Int).fdiv (2 ^ min ((k : Nat) : Int).toNat IntKind.u8.bits) = ((x.toNat / 2 ^ k : Nat) : Int) := by
  have : min ((k : Nat) : Int).toNat IntKind.u8.bits = k := by
   show min ((k : Nat) : Int).toNat 8 = k
   rw [Int.toNat_natCast]; omega
  rw [this, Int.fdiv_eq_ediv_of_nonneg _ (by exact Int.le_of_lt (Int.pow_pos (by omega)))]
  simp
 have hlt : x.toNat / 2 ^ k < 256 := Nat.lt_of_le_of_lt (Nat.div_le_self _ _) hx
 rw [e, wrap_u32 (Int.natCast_nonneg _) (by omega), Int.tmod_eq_emod_of_nonneg (Int.natCast_nonneg _)]
 have h : (Crc.ofByte x).getLsbD k = decide (x.toNat / 2 ^ k % 2 = 1) := by
  unfold Crc.ofByte
  rw [BitVec.getLsbD_ofNat, Nat.testBit_eq_decide_div_mod_eq]
  simp; omega
 rw [h]
 generalize x.toNat / 2 ^ k = q
 by_cases e : q % 2 = 1
 ·rw [decide_eq_true e]; simp; omega
 ·rw [decide_eq_false e]; simp; omega
theorem refSum_calls (b : B) (hb : b.length < 100000000) {R} (h : R (wv (Crc.sum b)) []) : ACalls Tryz.prog 206 [vs b] [] R := by
 refine acalls_of_xwp (an := an206) tab_ok Tryz.func206 ?_
 have hsl := size_ofB b
 conv => whnf
 refine LoopP.ind2 (fun (i : Nat) (c : Crc.W) => [(3, wv c), (4, vi i)]) (fun i c => []) (fun i _ => b.length - i) (fun i c => i ≤ b.length ∧ c = Crc.run 0xffffffff#32 (b.take i)) 0 0xffffffff#32 rfl ⟨by omega, rfl⟩ ?_
 rintro i c ⟨h0, hc0⟩ IH
 conv => whnf
 refine br_intro (fun hc => ?_) (fun hc => ?_)
 ·have hc := lt_of_decE hsl hc
  have IH' := IH (i + 1) (Crc.bits c b[i] 8) ⟨by omega, by rw [List.take_succ_eq_append_getElem hc, Crc.run_append, hc0, ← Crc.byte_bits]; rfl⟩ (by omega)
  clear IH
  conv => whnf
  refine LoopP.ind2 (fun (k : Nat) (d : Crc.W) => [(3, wv d), (5, .val (.int .u64 (k : Int)))]) (fun _ _ => []) (fun k _ => 8 - k) (fun k d => k ≤ 8 ∧ d = Crc.bits c b[i] k) 0 c rfl ⟨by omega, rfl⟩ ?_
  rintro k d ⟨hk0, hd⟩ IH2
  conv => whnf
  refine br_intro (fun hk => ?_) (fun hk => ?_)
  ·have hk : k < 8 := by simp at hk; omega
   have hnx := IH2 (k + 1) (Crc.bits c b[i] (k + 1)) ⟨by omega, rfl⟩ (by omega)
   clear IH2
   have hbits : Crc.bits c b[i] (k + 1) = Crc.bitS d ((Crc.ofByte b[i]).getLsbD k) := by rw [hd]; rfl
   rw [hbits] at hnx
   clear hbits hd
   have hbyte := byteAt_ofB b hc
   have hkk : IntKind.u64.wrap ((k : Int) + 1) = ((k + 1 : Nat) : Int) := by
    show ((k : Int) + 1) % 18446744073709551616 = _
    omega
   generalize b[i] = x at hbyte hnx ⊢
   (conv => whnf); (repeat ((with_reducible refine must_intro ?_ ?_); exact decide_eq_true (by omega); (conv => whnf)))
   rw [show (i : Int).toNat = i from rfl, hbyte, b_bit x k hk, w_mod2, w_div2]
   refine br_intro (fun hu => ?_) (fun hu => ?_)
   ·conv => whnf
    rw [hkk]
    have hb2 : (d.getLsbD 0 != (Crc.ofByte x).getLsbD k) = true := by
     revert hu; cases d.getLsbD 0 <;> cases (Crc.ofByte x).getLsbD k <;> simp
    rw [Crc.bitS, hb2, if_pos rfl] at hnx
    have e : ibits .xor .u32 ((d >>> 1).toNat : Int) 3988292384 = ((d >>> 1 ^^^ Crc.poly).toNat : Int) := by
     rw [show (3988292384 : Int) = (Crc.poly.toNat : Int) from rfl, w_xor]
    rw [e]
    exact hnx
   ·conv => whnf
    rw [hkk]
    have hb2 : (d.getLsbD 0 != (Crc.ofByte x).getLsbD k) = false := by
     revert hu; cases d.getLsbD 0 <;> cases (Crc.ofByte x).getLsbD k <;> simp
    rw [Crc.bitS, hb2, if_neg (by simp), BitVec.xor_zero] at hnx
    exact hnx
  ·have hk : k = 8 := by simp at hk; omega
   subst hk
   subst hd
   conv => whnf
   rw [i64_nat (by omega)]
   exact IH'
 ·have hc := ge_of_decE hsl hc
  rw [List.take_of_length_le hc] at hc0
  conv => whnf
  have e : IntKind.u32.wrap (4294967295 - (c.toNat : Int)) = ((Crc.sum b).toNat : Int) := by
   have := c.isLt
   rw [wrap_u32 (by omega) (by omega), Crc.sum, ← hc0, BitVec.toNat_not]
   omega
  rw [e]
  exact h
def sealF (b : B) : B := b ++ w4 (Crc.sum b).toNat
theorem sealed_calls (b : B) (hb : b.length < 10000000) {R} (h : R (.sl none 1 (byteEls (sealF b))) []) : ACalls Tryz.prog 195 [.sl none 1 (byteEls b)] [] R := by
 refine acalls_of_xwp (an := an195) tab_ok Tryz.func195 ?_
 have hw := w4_length (Crc.sum b).toNat
 conv => whnf
 refine Sum_calls b (by omega) ?_
 conv => whnf
 refine Bytes_calls (Crc.sum b).toNat (Crc.sum b).isLt ?_
 conv => whnf
 refine Concat_calls b (w4 (Crc.sum b).toNat) (by omega) (by omega) ?_
 conv => whnf
 exact h
def frameP (p : B) : B := sealF (blobP p)
theorem framePut_calls (b p : B) (hb : b.length < 10000000) (h1 : 1 ≤ p.length) (h2 : p.length ≤ 2048) {R} (h : R (.tup [.sl none 1 (byteEls (b ++ frameP p)), vi 0]) []) : ACalls Tryz.prog 148 [.sl none 1 (byteEls b), .sl none 1 (byteEls p)] [] R := by
 refine acalls_of_xwp (an := an148) tab_ok Tryz.func148 ?_
 have hpl := bel_length p
 have hv := vrn_u64 (n := p.length) (by omega)
 have hbp : (blobP p).length = (vrn p.length).length + p.length := by simp [blobP]
 have hfp : (frameP p).length = (blobP p).length + 4 := by simp [frameP, sealF, w4_length]
 have hst : ∃ ns : List Int, byteEls p = ns.map (fun n => [AV.val (.int .u8 n)]) ∧ strOfNums ns = ofB p := ⟨p.map fun c => (c.toNat : Int), by simp [byteEls], strOfNums_ofB p⟩
 obtain ⟨ns, n1, n2⟩ := hst
 conv => whnf
 refine br_intro (fun g => ?_) (fun g => ?_)
 ·exfalso
  have g := of_decide_eq_true g
  rw [hpl] at g
  omega
 conv => whnf
 refine br_intro (fun g => ?_) (fun g => ?_)
 ·exfalso
  have g := of_decide_eq_true g
  rw [hpl] at g
  omega
 conv => whnf
 refine ⟨ns, n1, ?_⟩
 rw [n2]
 conv => whnf
 refine ACalls.args (leL.cons (le_nil 1) (leL.refl _)) (bPut_calls [] p (by simp) (by omega) ?_)
 conv => whnf
 refine sealed_calls ([] ++ blobP p) (by simp; omega) ?_
 conv => whnf
 refine Concat_calls b (sealF ([] ++ blobP p)) (by omega) (by rw [List.nil_append]; change (frameP p).length < _; omega) ?_
 conv => whnf
 exact h
theorem w4_at {n i : Nat} (hi : i < 4) : ((w4 n)[i]?).map (·.toNat) = some (n / 256 ^ i % 256) := by
 have h : ∀ m : Nat, (UInt8.ofNat (m % 256)).toNat = m % 256 := fun m => u8_nat (Nat.mod_lt _ (by omega))
 have : i = 0 ∨ i = 1 ∨ i = 2 ∨ i = 3 := by omega
 rcases this with rfl | rfl | rfl | rfl <;> simp [w4]
theorem or32 {c d : Nat} (hc : c < 16777216) (hd : d < 256) : ibits .or .u32 (IntKind.u32.wrap ((c : Int) * 2 ^ min (Int.toNat 8) IntKind.u32.bits)) (IntKind.u32.wrap (d : Int)) = ((256 * c + d : Nat) : Int) := by
 have e1 : IntKind.u32.wrap ((c : Int) * 2 ^ min (Int.toNat 8) IntKind.u32.bits) = ((256 * c : Nat) : Int) := by
  show ((c : Int) * 2 ^ 8) % 4294967296 = _
  omega
 have e2 : IntKind.u32.wrap (d : Int) = (d : Int) := by
  show (d : Int) % 4294967296 = _
  omega
 rw [e1, e2]
 unfold ibits
 show IntKind.u32.wrap (((BitVec.ofInt 32 ((256 * c : Nat) : Int) ||| BitVec.ofInt 32 (d : Int)).toNat : Nat) : Int) = _
 rw [BitVec.toNat_or]
 have h1 : (BitVec.ofInt 32 ((256 * c : Nat) : Int)).toNat = 256 * c := by rw [BitVec.toNat_ofInt]; omega
 have h2 : (BitVec.ofInt 32 (d : Int)).toNat = d := by rw [BitVec.toNat_ofInt]; omega
 have h3 := Nat.two_pow_add_eq_or_of_lt (i := 8) (b := d) (by omega) c
 rw [h1, h2, show 256 * c = 2 ^ 8 * c from rfl, ← h3]
 show ((2 ^ 8 * c + d : Nat) : Int) % 4294967296 = _
 omega
theorem cRead_calls (p q : B) (n : Nat) (hn : n < 4294967296) (hl : p.length + q.length < 100000000) {R} (h : R (.tup [.val (.int .u32 (n : Int)), .val (.bool true)]) []) : ACalls Tryz.prog 230 [.sl none 1 (byteEls (p ++ w4 n ++ q)), vi (p.length : Int)] [] R := by
 refine acalls_of_xwp (an := an230) tab_ok Tryz.func230 ?_
 have hbl : (byteEls (p ++ w4 n ++ q)).length = p.length + 4 + q.length := by simp [byteEls, w4_length]; omega
 have ew : IntKind.i64.wrap (((byteEls (p ++ w4 n ++ q)).length : Int) - (p.length : Int)) = ((4 + q.length : Nat) : Int) := by rw [hbl, wrap_i64 (by omega) (by omega)]; omega
 conv => whnf
 refine br_intro (fun g => ?_) (fun g => ?_)
 ·exfalso
  have g := of_decide_eq_true g
  rw [hbl] at g
  omega
 conv => whnf
 refine br_intro (fun g => ?_) (fun g => ?_)
 ·exfalso
  have g := of_decide_eq_true g
  rw [ew] at g
  omega
 conv => whnf
 refine LoopP.ind1 (fun (j : Nat) => [(6, .val (.int .u32 ((n / 256 ^ j : Nat) : Int))), (7, vi ((j : Int) - 1))]) (fun _ => []) (fun j => j) (fun j => j ≤ 4) 4 (by rw [show n / 256 ^ 4 = 0 from Nat.div_eq_of_lt (by omega)]; rfl) (by omega) ?_
 rintro j h0 IH
 conv => whnf
 refine br_intro (fun g2 => ?_) (fun g2 => ?_)
 ·have g2 := of_decide_eq_true g2
  obtain ⟨k, rfl⟩ : ∃ k, j = k + 1 := ⟨j - 1, by omega⟩
  have hnx := IH k (by omega) (by omega)
  have ek : ((k + 1 : Nat) : Int) - 1 = (k : Int) := by omega
  have e1 : IntKind.i64.wrap ((p.length : Int) + (((k + 1 : Nat) : Int) - 1)) = ((p.length + k : Nat) : Int) := by rw [ek, wrap_i64 (by omega) (by omega)]; omega
  have e2 : IntKind.i64.wrap (((k + 1 : Nat) : Int) - 1 - 1) = (k : Int) - 1 := by rw [ek, wrap_i64 (by omega) (by omega)]
  obtain ⟨c, hc, hcn⟩ := Option.map_eq_some_iff.1 (w4_at (n := n) (i := k) (by omega))
  have hget : (byteEls (p ++ w4 n ++ q))[p.length + k]? = some [.val (.int .u8 ((n / 256 ^ k % 256 : Nat) : Int))] := by
   unfold byteEls
   rw [List.getElem?_map, List.append_assoc, List.getElem?_append_right (by omega), Nat.add_sub_cancel_left, List.getElem?_append_left (by rw [w4_length]; omega), hc, ← hcn]
   rfl
  have hd1 : n / 256 ^ (k + 1) = n / 256 ^ k / 256 := by rw [Nat.pow_succ, Nat.div_div_eq_div_mul]
  have hle : n / 256 ^ k ≤ n := Nat.div_le_self _ _
  have hsum : 256 * (n / 256 ^ (k + 1)) + n / 256 ^ k % 256 = n / 256 ^ k := by rw [hd1]; omega
  have hor := or32 (c := n / 256 ^ (k + 1)) (d := n / 256 ^ k % 256) (by rw [hd1]; omega) (Nat.mod_lt _ (by omega))
  rw [hsum] at hor
  conv => whnf
  refine must_intro (decide_eq_true (by rw [e1]; omega)) ?_
  rw [e1]
  refine idxK_iff.2 ⟨_, hget, ?_⟩
  conv => whnf
  rw [hor, e2]
  exact hnx
 ·have g2 := of_decide_eq_false g2
  have hj : j = 0 := by omega
  subst hj
  rw [Nat.pow_zero, Nat.div_one]
  conv => whnf
  exact h
theorem whole_calls (p q : B) (hl : p.length + q.length < 9000000) {R} (h : R (.val (.bool true)) []) : ACalls Tryz.prog 201 [.sl none 1 (byteEls (sealF p ++ q)), vi (p.length : Int)] [] R := by
 refine acalls_of_xwp (an := an201) tab_ok Tryz.func201 ?_
 have hw := w4_length (Crc.sum p).toNat
 have hbl : (byteEls (sealF p ++ q)).length = p.length + 4 + q.length := by simp [byteEls, sealF, w4_length]; omega
 conv => whnf
 refine cRead_calls p q (Crc.sum p).toNat (Crc.sum p).isLt (by omega) ?_
 conv => whnf
 refine must_intro (decide_eq_true (by omega)) ?_
 conv => whnf
 have et : List.take p.length (byteEls (sealF p ++ q)) = byteEls p := by
  rw [sealF, List.append_assoc, bel_append, List.take_append_of_le_length (by rw [bel_length]; exact Nat.le_refl _)]
  exact List.take_of_length_le (by rw [bel_length]; exact Nat.le_refl _)
 refine (show ACalls Tryz.prog 222 [.sl none 1 [[.sl none 1 (List.take p.length (byteEls (sealF p ++ q)))]]] [] _ from ?_)
 rw [et]
 refine Sum_calls p (by omega) ?_
 have hb : ((((Crc.sum p).toNat : Nat) : Int) == (((Crc.sum p).toNat : Nat) : Int)) = true := beq_self_eq_true _
 conv => whnf
 rw [hb]
 exact h
theorem str_of (p : B) : ∃ ns : List Int, byteEls p = ns.map (fun n => [AV.val (.int .u8 n)]) ∧ strOfNums ns = ofB p := ⟨p.map fun c => (c.toNat : Int), by simp [byteEls], strOfNums_ofB p⟩
theorem bGet_calls (p q s : B) (most : Nat) (hs : s.length ≤ most) (hm : most < 10000000) (hl : p.length + q.length < 50000000) {R} (h : R (.tup [vs s, vi ((p.length + (blobP s).length : Nat) : Int), vi 0]) []) :
  ACalls Tryz.prog 247 [.sl none 1 (byteEls (p ++ blobP s ++ q)), vi (p.length : Int), vi (most : Int)] [] R := by
 refine acalls_of_xwp (an := an247) tab_ok Tryz.func247 ?_
 have eb : p ++ blobP s ++ q = p ++ vrn s.length ++ (s ++ q) := by simp [blobP]
 have hv := vrn_u64 (n := s.length) (by omega)
 have hbs : (blobP s).length = (vrn s.length).length + s.length := by simp [blobP]
 rw [eb]
 have hbl : (byteEls (p ++ vrn s.length ++ (s ++ q))).length = p.length + (vrn s.length).length + s.length + q.length := by simp [byteEls]; omega
 have em : IntKind.u64.wrap (if (most : Int) < 0 then 0 else (most : Int)) = (most : Int) := by
  rw [if_neg (by omega)]
  show (most : Int) % 18446744073709551616 = _
  omega
 have el : IntKind.u64.wrap (IntKind.i64.wrap (((byteEls (p ++ vrn s.length ++ (s ++ q))).length : Int) - ((p.length + (vrn s.length).length : Nat) : Int))) = ((s.length + q.length : Nat) : Int) := by
  rw [hbl, wrap_i64 (by omega) (by omega)]
  show _ % 18446744073709551616 = _
  omega
 have en : IntKind.i64.wrap (((p.length + (vrn s.length).length : Nat) : Int) + IntKind.i64.wrap (s.length : Int)) = ((p.length + (blobP s).length : Nat) : Int) := by
  rw [wrap_i64 (x := (s.length : Int)) (by omega) (by omega), wrap_i64 (by omega) (by omega), hbs]
  omega
 obtain ⟨ns, n1, n2⟩ := str_of s
 conv => whnf
 refine vGet_calls p (s ++ q) s.length (by omega) (by simp; omega) ?_
 conv => whnf
 refine br_intro (fun g => ?_) (fun g => ?_)
 ·exfalso
  rw [em] at g
  have g := of_decide_eq_true g
  omega
 conv => whnf
 refine br_intro (fun g => ?_) (fun g => ?_)
 ·exfalso
  rw [el] at g
  have g := of_decide_eq_true g
  omega
 conv => whnf
 refine must_intro (decide_eq_true (by rw [en, hbs]; omega)) ?_
 conv => whnf
 refine must_intro (decide_eq_true (by rw [en, hbl, hbs]; omega)) ?_
 conv => whnf
 have et : List.drop (((p.length + (vrn s.length).length : Nat) : Int)).toNat (List.take (((p.length + (blobP s).length : Nat) : Int)).toNat (byteEls (p ++ vrn s.length ++ (s ++ q)))) = byteEls s := by
  rw [Int.toNat_natCast, Int.toNat_natCast, bel_append (p ++ vrn s.length) (s ++ q), List.take_append, List.drop_append]
  have h1 : (byteEls (p ++ vrn s.length)).length = p.length + (vrn s.length).length := by simp [byteEls]
  have h2 : (byteEls s).length = s.length := bel_length s
  rw [List.take_of_length_le (by rw [h1, hbs]; omega), List.drop_of_length_le (by rw [h1]; exact Nat.le_refl _), h1, hbs]
  rw [show p.length + ((vrn s.length).length + s.length) - (p.length + (vrn s.length).length) = s.length by omega, Nat.sub_self, List.drop_zero, List.nil_append]
  rw [bel_append s q, List.take_append_of_le_length (by rw [h2]; exact Nat.le_refl _)]
  exact List.take_of_length_le (by rw [h2]; exact Nat.le_refl _)
 refine ⟨ns, by rw [en, et]; exact n1, ?_⟩
 rw [n2, en]
 conv => whnf
 exact h
theorem fGet_calls (p q s : B) (h1 : 1 ≤ s.length) (h2 : s.length ≤ 2048) (hl : p.length + q.length < 4000000) {R} (h : R (.tup [.sl none 1 (byteEls s), vi ((p.length + (frameP s).length : Nat) : Int), vi 0]) []) :
  ACalls Tryz.prog 232 [.sl none 1 (byteEls (p ++ frameP s ++ q)), vi (p.length : Int)] [] R := by
 refine acalls_of_xwp (an := an232) tab_ok Tryz.func232 ?_
 have hv := vrn_u64 (n := s.length) (by omega)
 have hbs : (blobP s).length = (vrn s.length).length + s.length := by simp [blobP]
 have hfs : (frameP s).length = (blobP s).length + 4 := by simp [frameP, sealF, w4_length]
 have eb : p ++ frameP s ++ q = p ++ blobP s ++ (w4 (Crc.sum (blobP s)).toNat ++ q) := by simp [frameP, sealF]
 have hbl : (byteEls (p ++ frameP s ++ q)).length = p.length + (blobP s).length + 4 + q.length := by rw [bel_length]; simp [hfs]; omega
 have hne : decide (ofB s = ofB []) = false := decide_eq_false (fun e => by have := ofB_inj e; rw [this] at h1; simp at h1)
 have e1 : IntKind.i64.wrap (((byteEls (p ++ frameP s ++ q)).length : Int) - ((p.length + (blobP s).length : Nat) : Int)) = ((4 + q.length : Nat) : Int) := by rw [hbl, wrap_i64 (by omega) (by omega)]; omega
 have e2 : IntKind.i64.wrap (((p.length + (blobP s).length : Nat) : Int) - (p.length : Int)) = (((blobP s).length : Nat) : Int) := by rw [wrap_i64 (by omega) (by omega)]; omega
 have e3 : IntKind.i64.wrap (((p.length + (blobP s).length : Nat) : Int) + 4) = ((p.length + (frameP s).length : Nat) : Int) := by rw [hfs, wrap_i64 (by omega) (by omega)]; omega
 conv => whnf
 refine br_intro (fun g => ?_) (fun g => ?_)
 ·exfalso
  have g := beq_iff_eq.1 g
  rw [hbl] at g
  omega
 conv => whnf
 refine (show ACalls Tryz.prog 247 [.sl none 1 (byteEls (p ++ frameP s ++ q)), vi (p.length : Int), vi ((2048 : Nat) : Int)] [] _ from ?_)
 rw [eb]
 refine bGet_calls p (w4 (Crc.sum (blobP s)).toNat ++ q) s 2048 h2 (by omega) (by simp [w4_length]; omega) ?_
 rw [← eb]
 conv => whnf
 refine br_false hne ?_
 conv => whnf
 refine br_intro (fun g => ?_) (fun g => ?_)
 ·exfalso
  rw [e1] at g
  have g := of_decide_eq_true g
  omega
 conv => whnf
 refine must_intro (decide_eq_true (by rw [hbl]; omega)) ?_
 conv => whnf
 refine must_intro (decide_eq_true (by omega)) ?_
 conv => whnf
 have et : List.drop p.length (List.take (byteEls (p ++ frameP s ++ q)).length (byteEls (p ++ frameP s ++ q))) = byteEls (sealF (blobP s) ++ q) := by
  rw [List.take_length, List.append_assoc, bel_append, List.drop_append_of_le_length (by rw [bel_length]; exact Nat.le_refl _), List.drop_of_length_le (by rw [bel_length]; exact Nat.le_refl _)]
  rfl
 refine (show ACalls Tryz.prog 201 [.sl none 1 (List.drop p.length (List.take (byteEls (p ++ frameP s ++ q)).length (byteEls (p ++ frameP s ++ q)))), vi (IntKind.i64.wrap (((p.length + (blobP s).length : Nat) : Int) - (p.length : Int)))] [] _ from ?_)
 rw [et, e2]
 refine whole_calls (blobP s) q (by omega) ?_
 have hdat : (ofB s).data.toList = s := bs_ofB s
 conv => whnf
 rw [hdat, e3]
 exact h
theorem fGetEnd_calls (b : B) (hb : b.length < 10000000) {R} (h : R (.tup [.val (.slice none 0 0), vi 0, vi 6]) []) : ACalls Tryz.prog 232 [.sl none 1 (byteEls b), vi (b.length : Int)] [] R := by
 refine acalls_of_xwp (an := an232) tab_ok Tryz.func232 ?_
 have hbl := bel_length b
 have he : (((b.length : Nat) : Int) == (((byteEls b).length : Nat) : Int)) = true := by rw [hbl]; exact beq_self_eq_true _
 conv => whnf
 refine br_true he ?_
 conv => whnf
 exact h
end Go.Abs
end
section
namespace Go.Abs
open Go Go.Proofs Go.RowKit
attribute [local go_sem] Oper.semAt_some
def framesP (l : List B) : B := (l.map frameP).flatten
def endsP : Nat → List B → List Nat
 | _, [] => []
 | o, p :: l => (o + (frameP p).length) :: endsP (o + (frameP p).length) l
def framesA (o : Nat) (l : List B) : List (List AV) := (l.zip (endsP o l)).map fun q => [.sl none 1 (byteEls q.1), vi (q.2 : Int)]
theorem endsP_length : ∀ (l : List B) (o : Nat), (endsP o l).length = l.length := by
 intro l
 induction l with
 | nil => intro o; rfl
 | cons p l ih => intro o; simp [endsP, ih]
theorem framesA_length (o : Nat) (l : List B) : (framesA o l).length = l.length := by simp [framesA, endsP_length]
theorem endsP_at : ∀ (l : List B) (o i : Nat) (h : i < l.length), (endsP o l)[i]? = some (o + (framesP (l.take (i + 1))).length) := by
 intro l
 induction l with
 | nil => intro o i h; simp at h
 | cons p l ih =>
  intro o i h
  cases i with
  | zero => simp [endsP, framesP]
  | succ i =>
   simp only [endsP, List.getElem?_cons_succ]
   rw [ih _ i (by simpa using h)]
   simp [framesP]
   omega
theorem framesA_at {o i : Nat} {l : List B} (h : i < l.length) : (framesA o l)[i]? = some [.sl none 1 (byteEls l[i]), vi ((o + (framesP (l.take (i + 1))).length : Nat) : Int)] := by
 have hz : (l.zip (endsP o l))[i]? = some (l[i], o + (framesP (l.take (i + 1))).length) := List.getElem?_zip_eq_some.2 ⟨List.getElem?_eq_getElem h, endsP_at l o i h⟩
 unfold framesA
 rw [List.getElem?_map, hz]
 rfl
theorem framesP_split {l : List B} {i : Nat} (h : i < l.length) : framesP l = framesP (l.take i) ++ frameP l[i] ++ framesP (l.drop (i + 1)) := by
 have e : l.take i ++ (l[i] :: l.drop (i + 1)) = l := by rw [← List.drop_eq_getElem_cons h, List.take_append_drop]
 have e2 : framesP (l.take i ++ (l[i] :: l.drop (i + 1))) = framesP (l.take i) ++ frameP l[i] ++ framesP (l.drop (i + 1)) := by
  unfold framesP
  rw [List.map_append, List.map_cons, List.flatten_append, List.flatten_cons, List.append_assoc]
 rw [e] at e2
 exact e2
theorem framesP_snoc (l : List B) (p : B) : framesP (l ++ [p]) = framesP l ++ frameP p := by
 unfold framesP
 rw [List.map_append, List.flatten_append]
 simp
theorem framesP_take {l : List B} {i : Nat} (h : i < l.length) : (framesP (l.take (i + 1))).length = (framesP (l.take i)).length + (frameP l[i]).length := by
 rw [List.take_succ_eq_append_getElem h, framesP_snoc, List.length_append]
theorem ACalls.calm {P : Program} {f : FuncId} {args : List AV} {R : AV → List AObj → Prop} (h : ACalls P f args [] R) {K : Nat → Nat → Option Value} {W : World} {vals : List Value} (hk : ∀ b o v, K b o = some v → W.cell? ⟨b, o, none⟩ = some v) (hg : GlobOk K)
  (hv : RepL ⟨K, fun _ => none⟩ args vals) {Own : Nat → Prop} (hO : ∀ b, Own b → b < W.heap.size) {A : Array Value} (hA : A = vals.toArray) (m : Nat) :
  CallsIn Fence.wide m P f A W fun e W' => ∃ (v : Value) (r : AV) (os' : List AObj) (G' : Gh), e = .returned v ∧ R r os' ∧ Rep G' r v ∧ (∀ b o u, G'.K b o = some u → W'.cell? ⟨b, o, none⟩ = some u) ∧ Steps Own K W Own G'.K W' ∧ ∀ b, b < W.heap.size → W'.heap[b]? = W.heap[b]? ∧ ∀ o, G'.K b o = K b o := by
 have hW : WR ⟨K, fun _ => none⟩ (numbered 0 []) W := ⟨hk, fun n o e => (by cases e), fun n g e => (by cases e), fun n m b h1 h2 => (by rcases h1 with h1 | ⟨_, _, h1, _⟩ <;> cases h1), hg⟩
 subst hA
 refine (callsIn_wide.2 (h.run ⟨K, fun _ => none⟩ W vals hW hv)).mono ?_
 rintro e W' ⟨v, r, os', G', rfl, hR, hRep, hWR, hle, hext, _, _, _⟩
 have hnT : ∀ b, ¬ ∃ n, (⟨K, fun _ => none⟩ : Gh).at n b := fun b ⟨n, hn⟩ => by rcases hn with hn | ⟨_, _, hn, _⟩ <;> cases hn
 have hb : ∀ b, b < W.heap.size → W'.heap[b]? = W.heap[b]? ∧ ∀ o, G'.K b o = K b o := fun b hb => ⟨hext.block b hb (hnT b), fun o => hext.knew b o hb (hnT b)⟩
 exact ⟨v, r, os', G', rfl, hR, hRep, hWR.know, ⟨hext.os, hext.tape, hext.output, hext.size, fun b h1 _ => (hb b h1).1, fun b h1 => .inl h1, hle.K, fun b o h1 _ => (hb b h1).2 o, hWR.know, fun b h1 => Nat.lt_of_lt_of_le (hO b h1) hext.size⟩, hb⟩
end Go.Abs
end
section
namespace Go.Abs
open Go Go.Proofs Dig
attribute [local irreducible] ibits byteAt strLt firstIdx
structure Dp where
 name : B
 hash : U
 order : Bool
 deriving DecidableEq
def Dp.enc (d : Dp) : List AV := [vs d.name, uv d.hash, .val (.bool d.order)]
def dpsA (l : List Dp) : List (List AV) := l.map Dp.enc
theorem dpsA_length (l : List Dp) : (dpsA l).length = l.length := by simp [dpsA]
structure Rc where
 kind : Int
 target : B
 rule : U
 deps : List Dp
 out : U
 wen : U
 tag : B
 deriving DecidableEq
def Rc.enc (r : Rc) : List AV := [vi r.kind, vs r.target, uv r.rule, .sl none 3 (dpsA r.deps), uv r.out, uv r.wen, vs r.tag]
def recs (l : List Rc) : List (List AV) := l.map Rc.enc
theorem recs_length (l : List Rc) : (recs l).length = l.length := by simp [recs]
end Go.Abs
end
section
namespace Go.Abs
open Go Go.Proofs Go.RowKit
attribute [local go_sem] Oper.semAt_some
theorem CloneD_calls (l : List Dp) (hl : l.length < 1000000) {R} (h : R (.sl none 3 (dpsA l)) []) : ACalls Tryz.prog 59 [.sl none 3 (dpsA l)] [] R := by
 refine ACalls.res ?_
 refine acalls_of_xwp (an := an59) tab_ok Tryz.func59 ?_
 have hsl := dpsA_length l
 conv => whnf
 intro b hb
 refine br_intro (fun g => ?_) (fun g => ?_)
 ·have e := hb g
  rw [e] at h
  conv => whnf
  exact res_le (le_nil 3) rfl h
 ·conv => whnf
  refine ⟨rfl, (by show (0 + (dpsA l).length) * (32 + 1) ≤ _; omega), ?_⟩
  conv => whnf
  refine res_same ?_
  exact h
theorem Clone_calls (r : Rc) (hl : r.deps.length < 1000000) {R} (h : R (.agg r.enc) []) : ACalls Tryz.prog 27 [.agg r.enc] [] R := by
 refine acalls_of_xwp (an := an27) tab_ok Tryz.func27 ?_
 conv => whnf
 refine CloneD_calls r.deps hl ?_
 conv => whnf
 exact h
end Go.Abs
end
section
namespace Go.Abs
open Go Go.Proofs Dig
attribute [local irreducible] ibits byteAt strLt firstIdx
abbrev RMap := List (B × Rc)
def keysM (mp : RMap) : List B := mp.map (·.1)
end Go.Abs
end
section
namespace Go.Abs
open Go Go.Proofs
theorem ltB_eq (a b : B) : ltB a b = decide (a < b) := bytesLess_eq a b
theorem b_total {a b : B} (h : ¬ a < b) (hn : b ≠ a) : b < a := by
 refine Classical.byContradiction fun h2 => hn ?_
 exact List.le_antisymm (show b ≤ a from h) (show a ≤ b from h2)
def docLoop (r : Rc) : Bool → List Rc → List Rc
 | laid, [] => if laid = true then [] else [r]
 | laid, s :: S => (if (!laid && ltB r.target s.target) = true then [r] else []) ++ ((if s.target = r.target then [] else [s]) ++ docLoop r (laid || (!laid && ltB r.target s.target)) S)
def docPut (S : List Rc) (r : Rc) : List Rc := if r.kind ≠ 1 ∧ r.kind ≠ 2 then S else docLoop r (decide (r.kind = 2)) S
abbrev Srt (S : List Rc) : Prop := S.Pairwise fun a b => a.target < b.target
theorem mem_ite1 {p : Prop} [Decidable p] {x r : Rc} : x ∈ (if p then [r] else []) ↔ p ∧ x = r := by by_cases h : p <;> simp [h]
theorem mem_ite2 {p : Prop} [Decidable p] {x r : Rc} : x ∈ (if p then [] else [r]) ↔ ¬ p ∧ x = r := by by_cases h : p <;> simp [h]
theorem docLoop_mem (r : Rc) : ∀ (S : List Rc) (laid : Bool) (x : Rc), x ∈ docLoop r laid S ↔ (laid = false ∧ x = r) ∨ (x ∈ S ∧ x.target ≠ r.target) := by
 intro S
 induction S with
 | nil => intro laid x; cases laid <;> simp [docLoop]
 | cons s S ih =>
  intro laid x
  simp only [docLoop, List.mem_append, ih, List.mem_cons, mem_ite1, mem_ite2]
  generalize hL : (!laid && ltB r.target s.target) = L
  have h1 : L = true → laid = false := by
   intro e
   rw [e] at hL
   cases laid
   ·rfl
   ·simp at hL
  constructor
  ·rintro (⟨h, rfl⟩ | ⟨h, rfl⟩ | ⟨h, rfl⟩ | ⟨h, h'⟩)
   ·exact .inl ⟨h1 h, rfl⟩
   ·exact .inr ⟨.inl rfl, h⟩
   ·exact .inl ⟨by cases laid <;> simp_all, rfl⟩
   ·exact .inr ⟨.inr h, h'⟩
  ·rintro (⟨h, rfl⟩ | ⟨rfl | h, h'⟩)
   ·cases hq : L
    ·exact .inr (.inr (.inl ⟨by simp [h], rfl⟩))
    ·exact .inl ⟨rfl, rfl⟩
   ·exact .inr (.inl ⟨h', rfl⟩)
   ·exact .inr (.inr (.inr ⟨h, h'⟩))
theorem docLoop_srt (r : Rc) : ∀ (S : List Rc) (laid : Bool), Srt S → (laid = true → ∀ s ∈ S, r.target < s.target ∨ s.target = r.target ∨ s.target < r.target) → Srt (docLoop r laid S) := by
 intro S
 induction S with
 | nil => intro laid _ _; cases laid <;> simp [docLoop, Srt]
 | cons s S ih =>
  intro laid hS hl
  have hS' := List.pairwise_cons.1 hS
  have hrec : ∀ b, Srt (docLoop r b S) := fun b => ih b hS'.2 fun _ x _ => by
   by_cases h1 : r.target < x.target
   ·exact .inl h1
   ·by_cases h2 : x.target = r.target
    ·exact .inr (.inl h2)
    ·exact .inr (.inr (b_total h1 h2))
  simp only [docLoop]
  cases hL : (!laid && ltB r.target s.target)
  ·simp only [Bool.or_false, Bool.false_eq_true, if_false, List.nil_append]
   by_cases hs : s.target = r.target
   ·simp only [hs, if_true, List.nil_append]
    exact hrec laid
   ·simp only [hs, if_false, List.cons_append, List.nil_append]
    refine List.pairwise_cons.2 ⟨fun x hx => ?_, hrec laid⟩
    rcases (docLoop_mem r S laid x).1 hx with ⟨h, rfl⟩ | ⟨h, _⟩
    ·rw [h] at hL
     simp only [Bool.not_false, Bool.true_and, ltB_eq, decide_eq_false_iff_not] at hL
     exact b_total hL hs
    ·exact hS'.1 x h
  ·have hlt : r.target < s.target := by
    simp only [Bool.and_eq_true, ltB_eq, decide_eq_true_eq] at hL
    exact hL.2
   have hs : ¬ s.target = r.target := fun e => List.lt_irrefl _ (e ▸ hlt)
   simp only [Bool.or_true, if_true, hs, if_false, List.cons_append, List.nil_append]
   have hnr : ∀ x ∈ docLoop r true S, x ∈ S := fun x hx => by
    rcases (docLoop_mem r S true x).1 hx with ⟨h, _⟩ | ⟨h, _⟩
    ·cases h
    ·exact h
   refine List.pairwise_cons.2 ⟨fun x hx => ?_, List.pairwise_cons.2 ⟨fun x hx => hS'.1 x (hnr x hx), hrec true⟩⟩
   rw [List.mem_cons] at hx
   rcases hx with rfl | hx
   ·exact hlt
   ·exact List.lt_trans hlt (hS'.1 x (hnr x hx))
theorem docPut_srt {S : List Rc} (r : Rc) (h : Srt S) : Srt (docPut S r) := by
 unfold docPut
 split
 ·exact h
 ·refine docLoop_srt r S _ h fun _ x _ => ?_
  by_cases h1 : r.target < x.target
  ·exact .inl h1
  ·by_cases h2 : x.target = r.target
   ·exact .inr (.inl h2)
   ·exact .inr (.inr (b_total h1 h2))
def putR : RMap → B → Rc → RMap
 | [], k, r => [(k, r)]
 | p :: mp, k, r => if p.1 = k then (k, r) :: mp else p :: putR mp k r
def delR : RMap → B → RMap
 | [], _ => []
 | p :: mp, k => if p.1 = k then mp else p :: delR mp k
def putM (mp : RMap) (r : Rc) : RMap := if r.kind = 1 then putR mp r.target r else if r.kind = 2 then delR mp r.target else mp
def MOk (mp : RMap) : Prop := (keysM mp).Nodup ∧ ∀ p ∈ mp, p.2.target = p.1
theorem putR_mem {mp : RMap} (hn : (keysM mp).Nodup) (k : B) (r : Rc) (q : B × Rc) : q ∈ putR mp k r ↔ q = (k, r) ∨ (q ∈ mp ∧ q.1 ≠ k) := by
 induction mp with
 | nil => simp [putR]
 | cons p mp ih =>
  have hn' := List.nodup_cons.1 (show (p.1 :: keysM mp).Nodup from hn)
  simp only [putR]
  by_cases h : p.1 = k
  ·simp only [h, if_true, List.mem_cons]
   constructor
   ·rintro (h1 | h1)
    ·exact .inl h1
    ·refine .inr ⟨.inr h1, fun e => hn'.1 ?_⟩
     rw [h, ← e]
     exact List.mem_map_of_mem h1
   ·rintro (h1 | ⟨rfl | h1, h2⟩)
    ·exact .inl h1
    ·exact absurd h h2
    ·exact .inr h1
  ·simp only [h, if_false, List.mem_cons, ih hn'.2]
   constructor
   ·rintro (rfl | h1 | ⟨h1, h2⟩)
    ·exact .inr ⟨.inl rfl, h⟩
    ·exact .inl h1
    ·exact .inr ⟨.inr h1, h2⟩
   ·rintro (h1 | ⟨rfl | h1, h2⟩)
    ·exact .inr (.inl h1)
    ·exact .inl rfl
    ·exact .inr (.inr ⟨h1, h2⟩)
theorem delR_mem {mp : RMap} (hn : (keysM mp).Nodup) (k : B) (q : B × Rc) : q ∈ delR mp k ↔ q ∈ mp ∧ q.1 ≠ k := by
 induction mp with
 | nil => simp [delR]
 | cons p mp ih =>
  have hn' := List.nodup_cons.1 (show (p.1 :: keysM mp).Nodup from hn)
  simp only [delR]
  by_cases h : p.1 = k
  ·simp only [h, if_true, List.mem_cons]
   constructor
   ·intro h1
    refine ⟨.inr h1, fun e => hn'.1 ?_⟩
    rw [h, ← e]
    exact List.mem_map_of_mem h1
   ·rintro ⟨rfl | h1, h2⟩
    ·exact absurd h h2
    ·exact h1
  ·simp only [h, if_false, List.mem_cons, ih hn'.2]
   constructor
   ·rintro (rfl | ⟨h1, h2⟩)
    ·exact ⟨.inl rfl, h⟩
    ·exact ⟨.inr h1, h2⟩
   ·rintro ⟨rfl | h1, h2⟩
    ·exact .inl rfl
    ·exact .inr ⟨h1, h2⟩
theorem putR_nodup {mp : RMap} (hn : (keysM mp).Nodup) (k : B) (r : Rc) : (keysM (putR mp k r)).Nodup := by
 induction mp with
 | nil => simp [putR, keysM]
 | cons p mp ih =>
  have hn' := List.nodup_cons.1 (show (p.1 :: keysM mp).Nodup from hn)
  simp only [putR]
  by_cases h : p.1 = k
  ·simp only [h, if_true]
   exact List.nodup_cons.2 ⟨by rw [← h]; exact hn'.1, hn'.2⟩
  ·simp only [h, if_false]
   refine List.nodup_cons.2 ⟨fun hm => ?_, ih hn'.2⟩
   obtain ⟨q, hq, e⟩ := List.mem_map.1 hm
   rcases (putR_mem hn'.2 k r q).1 hq with rfl | ⟨h1, _⟩
   ·exact h e.symm
   ·have e : q.1 = p.1 := e
    exact hn'.1 (by rw [← e]; exact List.mem_map_of_mem h1)
theorem delR_nodup {mp : RMap} (hn : (keysM mp).Nodup) (k : B) : (keysM (delR mp k)).Nodup := by
 induction mp with
 | nil => simp [delR, keysM]
 | cons p mp ih =>
  have hn' := List.nodup_cons.1 (show (p.1 :: keysM mp).Nodup from hn)
  simp only [delR]
  by_cases h : p.1 = k
  ·simp only [h, if_true]
   exact hn'.2
  ·simp only [h, if_false]
   refine List.nodup_cons.2 ⟨fun hm => ?_, ih hn'.2⟩
   obtain ⟨q, hq, e⟩ := List.mem_map.1 hm
   have h1 := (delR_mem hn'.2 k q).1 hq
   have e : q.1 = p.1 := e
   exact hn'.1 (by rw [← e]; exact List.mem_map_of_mem h1.1)
theorem putM_ok {mp : RMap} (h : MOk mp) (r : Rc) : MOk (putM mp r) := by
 unfold putM
 split
 ·refine ⟨putR_nodup h.1 _ _, fun p hp => ?_⟩
  rcases (putR_mem h.1 _ _ p).1 hp with rfl | ⟨h1, _⟩
  ·rfl
  ·exact h.2 p h1
 ·split
  ·exact ⟨delR_nodup h.1 _, fun p hp => h.2 p ((delR_mem h.1 _ p).1 hp).1⟩
  ·exact h
structure Fits (mp : RMap) (S : List Rc) : Prop where
 ok : MOk mp
 srt : Srt S
 mem : ∀ x, x ∈ S ↔ (x.target, x) ∈ mp
theorem Fits.put {mp : RMap} {S : List Rc} (h : Fits mp S) (r : Rc) : Fits (putM mp r) (docPut S r) := by
 refine ⟨putM_ok h.ok r, docPut_srt r h.srt, fun x => ?_⟩
 unfold docPut putM
 by_cases h1 : r.kind = 1
 ·have hk2 : decide (r.kind = 2) = false := by rw [h1]; rfl
  rw [if_neg (by simp [h1]), if_pos h1, docLoop_mem, hk2, putR_mem h.ok.1, h.mem]
  constructor
  ·rintro (⟨_, rfl⟩ | h)
   ·exact .inl rfl
   ·exact .inr h
  ·rintro (h | h)
   ·exact .inl ⟨rfl, by injection h⟩
   ·exact .inr h
 ·by_cases h2 : r.kind = 2
  ·rw [if_neg (by simp [h2]), if_neg h1, if_pos h2, docLoop_mem, delR_mem h.ok.1, h.mem]
   simp [h2]
  ·rw [if_pos ⟨h1, h2⟩, if_neg h1, if_neg h2]
   exact h.mem x
end Go.Abs
end
section
namespace Go.Abs
open Go Go.Proofs Dig
attribute [local irreducible] ibits byteAt strLt firstIdx
def Rc.bare (r : Rc) : List AV := [vi r.kind, vs r.target, vs r.tag, uv r.rule, uv r.out, uv r.wen]
theorem of_calls (r : Rc) {R} (h : R (.agg r.bare) []) : ACalls Tryz.prog 165 [.agg r.enc] [] R := by
 refine acalls_of_xwp (an := an165) tab_ok Tryz.func165 ?_
 conv => whnf
 exact h
theorem dp_ne (a b : Dp) (h : (!(true && decide (ofB a.name = ofB b.name) && ((a.hash.toNat : Int) == (b.hash.toNat : Int)) && (a.order == b.order))) = true) : a ≠ b := by
 rintro rfl
 simp at h
theorem dp_eq (a b : Dp) (h : (!(true && decide (ofB a.name = ofB b.name) && ((a.hash.toNat : Int) == (b.hash.toNat : Int)) && (a.order == b.order))) = false) : a = b := by
 simp [ofB_eq] at h
 obtain ⟨⟨h1, h2⟩, h3⟩ := h
 have h2 : a.hash = b.hash := BitVec.eq_of_toNat_eq (by omega)
 cases a; cases b
 simp_all
theorem EqualD_calls (a b : List Dp) (ha : a.length < 1000000) {R} (h : ∀ p, p = decide (a = b) → R (.val (.bool p)) []) : ACalls Tryz.prog 166 [.sl none 3 (dpsA a), .sl none 3 (dpsA b)] [] R := by
 refine acalls_of_xwp (an := an166) tab_ok Tryz.func166 ?_
 have hsa := dpsA_length a
 have hsb := dpsA_length b
 conv => whnf
 rw [hsa, hsb]
 refine br_intro (fun hc => ?_) (fun hc => ?_)
 ·conv => whnf
  refine h false (decide_eq_false ?_).symm
  rintro rfl
  simp at hc
 have hlen : a.length = b.length := by simp at hc; omega
 conv => whnf
 refine LoopP.ind1 (fun (i : Nat) => [(13, vi i)]) (fun _ => []) (fun i => a.length - i) (fun i => i ≤ a.length ∧ a.take i = b.take i) 0 rfl ⟨by omega, by simp⟩ ?_
 rintro i ⟨h0, h1⟩ IH
 conv => whnf
 refine br_intro (fun hc => ?_) (fun hc => ?_)
 ·have hc := lt_of_decE hsa hc
  have hcb : i < b.length := by omega
  (conv => whnf); (repeat ((with_reducible refine must_intro ?_ ?_); exact decide_eq_true (by omega); (conv => whnf)))
  refine idxK_map_intro (show (i : Int).toNat < a.length by simpa using hc) ?_
  rw [show a[(i : Int).toNat]'(by simpa using hc) = a[i] from by congr 1]
  (conv => whnf); (repeat ((with_reducible refine must_intro ?_ ?_); exact decide_eq_true (by omega); (conv => whnf)))
  refine idxK_map_intro (show (i : Int).toNat < b.length by simpa using hcb) ?_
  rw [show b[(i : Int).toNat]'(by simpa using hcb) = b[i] from by congr 1]
  conv => whnf
  refine br_intro (fun he => ?_) (fun he => ?_)
  ·have he := dp_ne _ _ he
   conv => whnf
   refine h false (decide_eq_false ?_).symm
   rintro rfl
   exact he rfl
  ·have he := dp_eq _ _ he
   conv => whnf
   rw [i64_nat (by omega)]
   refine IH (i + 1) ⟨by omega, ?_⟩ (by omega)
   rw [List.take_succ_eq_append_getElem hc, List.take_succ_eq_append_getElem hcb, h1, he]
 ·have hc := ge_of_decE hsa hc
  rw [List.take_of_length_le hc, List.take_of_length_le (by omega)] at h1
  conv => whnf
  exact h true (decide_eq_true h1).symm
theorem SameR_calls (a b : Rc) (ha : a.deps.length < 1000000) {R} (h : ∀ p, p = decide (a = b) → R (.val (.bool p)) []) : ACalls Tryz.prog 90 [.agg a.enc, .agg b.enc] [] R := by
 refine acalls_of_xwp (an := an90) tab_ok Tryz.func90 ?_
 conv => whnf
 refine of_calls a ?_
 conv => whnf
 refine of_calls b ?_
 conv => whnf
 refine br_intro (fun g => ?_) (fun g => ?_)
 ·have g2 : a.kind = b.kind ∧ a.target = b.target ∧ a.tag = b.tag ∧ a.rule = b.rule ∧ a.out = b.out ∧ a.wen = b.wen := by
   simp [ofB_eq] at g
   obtain ⟨⟨⟨⟨⟨g1, g2⟩, g3⟩, g4⟩, g5⟩, g6⟩ := g
   exact ⟨g1, g2, g3, BitVec.eq_of_toNat_eq (by omega), BitVec.eq_of_toNat_eq (by omega), BitVec.eq_of_toNat_eq (by omega)⟩
  conv => whnf
  refine EqualD_calls a.deps b.deps ha fun p hp => ?_
  conv => whnf
  refine h _ ?_
  rw [hp]
  refine decide_eq_decide.2 ⟨fun e => ?_, fun e => by rw [e]⟩
  obtain ⟨g1, g2, g3, g4, g5, g6⟩ := g2
  cases a; cases b
  simp_all
 ·conv => whnf
  refine h false (decide_eq_false ?_).symm
  rintro rfl
  simp at g
theorem le_rec2 (k : Int) (t : B) (u o w : U) (g : B) : leL [.val (.int .i64 k), .val (.string (ofB t)), .val (.int .u64 (u.toNat : Int)), .val (.slice none 0 0), .val (.int .u64 (o.toNat : Int)), .val (.int .u64 (w.toNat : Int)), .val (.string (ofB g))] (Rc.enc ⟨k, t, u, [], o, w, g⟩) :=
 leL.cons (.refl _) (leL.cons (.refl _) (leL.cons (.refl _) (leL.cons (le_nil 3) (leL.refl _))))
def depsGo (v : Int) : List Dp → List B → Bool
 | [], _ => true
 | d :: ds, seen => nameOk d.name && (decide (d.name ∉ seen) && (!(d.order && decide (v < 3)) && depsGo v ds (seen ++ [d.name])))
def depsP (v : Int) (r : Rc) : Bool := depsGo v r.deps [r.target] && decide (r.deps.length ≤ 16)
theorem depsR_calls (v : Int) (r : Rc) (hd : r.deps.length < 100000) {R} (h : ∀ p, p = depsP v r → R (.val (.bool p)) []) : ACalls Tryz.prog 89 [vi v, .agg r.enc] [] R := by
 refine acalls_of_xwp (an := an89) tab_ok Tryz.func89 ?_
 have hsl := dpsA_length r.deps
 have no : depsGo v r.deps [r.target] = false → R (.val (.bool false)) [] := fun e => h false (by rw [depsP, e]; rfl)
 conv => whnf
 refine New_calls r.target [] (by simp) fun m hm => ?_
 have hm : m = [r.target] := by rw [hm]; simp [tblN, tblP]
 subst hm
 conv => whnf
 refine LoopP.ind2 (fun (i : Nat) (seen : List B) => [(17, vi i)]) (fun i seen => [(freshN 13 0, tblO (freshN 13 1) (freshN 13 2) seen), (freshN 13 1, tblR seen), (freshN 13 2, tblM seen)])
  (fun i _ => r.deps.length - i) (fun i seen => i ≤ r.deps.length ∧ seen.length ≤ i + 1 ∧ depsGo v (r.deps.drop i) seen = depsGo v r.deps [r.target]) 0 [r.target] rfl ⟨by omega, by simp, by simp⟩ ?_
 rintro i seen ⟨h0, hsn, hD⟩ IH
 conv => whnf
 refine br_intro (fun hc => ?_) (fun hc => ?_)
 ·have hc := lt_of_decE hsl hc
  rw [List.drop_eq_getElem_cons hc, depsGo] at hD
  (conv => whnf); (repeat ((with_reducible refine must_intro ?_ ?_); exact decide_eq_true (by omega); (conv => whnf)))
  refine idxK_map_intro (show (i : Int).toNat < r.deps.length by simpa using hc) ?_
  rw [show r.deps[(i : Int).toNat]'(by simpa using hc) = r.deps[i] from by congr 1]
  generalize r.deps[i] = d at hD ⊢
  conv => whnf
  by_cases hm : d.name ∈ seen
  ·have hbad : depsGo v r.deps [r.target] = false := by rw [← hD]; simp [hm]
   refine ID_old seen d.name hm fun j => ?_
   conv => whnf
   refine Name_calls d.name ?_
   conv => whnf
   refine br_intro (fun hq => ?_) (fun hq => ?_)
   ·conv => whnf
    exact no hbad
   ·conv => whnf
    exact no hbad
  ·refine ID_more seen d.name (by omega) hm fun j => ?_
   conv => whnf
   refine Name_calls d.name ?_
   conv => whnf
   refine br_intro (fun hq => ?_) (fun hq => ?_)
   ·have hq : nameOk d.name = false := by simpa using hq
    conv => whnf
    exact no (by rw [← hD, hq]; rfl)
   ·have hq : nameOk d.name = true := by simpa using hq
    rw [hq, decide_eq_true hm, Bool.true_and, Bool.true_and] at hD
    conv => whnf
    refine br_intro (fun ho => ?_) (fun ho => ?_)
    ·rw [ho, Bool.true_and] at hD
     conv => whnf
     refine br_intro (fun hv => ?_) (fun hv => ?_)
     ·rw [hv] at hD
      conv => whnf
      exact no (by rw [← hD]; rfl)
     ·rw [hv] at hD
      conv => whnf
      rw [i64_nat (by omega)]
      exact IH (i + 1) (seen ++ [d.name]) ⟨by omega, by simp; omega, by rw [← hD]; simp⟩ (by omega)
    ·rw [ho] at hD
     conv => whnf
     rw [i64_nat (by omega)]
     exact IH (i + 1) (seen ++ [d.name]) ⟨by omega, by simp; omega, by rw [← hD]; simp⟩ (by omega)
 ·have hc := ge_of_decE hsl hc
  rw [List.drop_eq_nil_of_le hc, depsGo] at hD
  conv => whnf
  rw [hsl]
  refine h _ ?_
  rw [depsP, ← hD, Bool.true_and]
  exact decide_eq_decide.2 (by omega)
def earlyP (v : Int) (r : Rc) : Bool := (decide (v < 2) && decide (r.wen ≠ 0)) || (decide (v < 3) && decide (r.tag ≠ []))
def goneR (r : Rc) : Rc := ⟨2, r.target, 0, [], 0, 0, []⟩
def mayP (v : Int) (r : Rc) : Bool :=
 if (decide (v < 1) || decide (3 < v) || !nameOk r.target) = true then false
 else if r.kind = 1 then !earlyP v r && (decide (r.tag.length ≤ 64) && depsP v r)
 else if r.kind = 2 then decide (r = goneR r) else false
theorem nilB : ofB [] = { data := #[] } := rfl
theorem May_calls (v : Int) (r : Rc) (hd : r.deps.length < 100000) {R} (h : ∀ p, p = mayP v r → R (.val (.bool p)) []) : ACalls Tryz.prog 39 [vi v, .agg r.enc] [] R := by
 refine acalls_of_xwp (an := an39) tab_ok Tryz.func39 ?_
 have hst := size_ofB r.tag
 conv => whnf
 refine br_intro (fun g1 => ?_) (fun g1 => ?_)
 ·conv => whnf
  exact h false (by rw [mayP, if_pos (by rw [g1]; rfl)])
 conv => whnf
 refine br_intro (fun g2 => ?_) (fun g2 => ?_)
 ·have g2 : 3 < v := by simpa using g2
  conv => whnf
  exact h false (by rw [mayP, if_pos (by rw [g1, decide_eq_true g2]; rfl)])
 have g2 : ¬ 3 < v := by simpa using g2
 conv => whnf
 refine Name_calls r.target ?_
 conv => whnf
 refine br_intro (fun g3 => ?_) (fun g3 => ?_)
 ·conv => whnf
  exact h false (by rw [mayP, if_pos (by rw [g3]; simp)])
 have hm : mayP v r = if r.kind = 1 then !earlyP v r && (decide (r.tag.length ≤ 64) && depsP v r) else if r.kind = 2 then decide (r = goneR r) else false := by
  rw [mayP, if_neg (by rw [g1, decide_eq_false g2, g3]; simp)]
 conv => whnf
 refine br_intro (fun k1 => ?_) (fun k1 => ?_)
 ·have k1 : r.kind = 1 := by simpa using k1
  rw [if_pos k1] at hm
  have wz : ((r.wen.toNat : Int) != 0) = decide (r.wen ≠ 0) := by
   by_cases e : r.wen = 0
   ·simp [e]
   ·have : r.wen.toNat ≠ 0 := fun x => e (BitVec.eq_of_toNat_eq (by simpa using x))
    rw [decide_eq_true e]; simp; omega
  conv => whnf
  refine br_intro (fun e1 => ?_) (fun e1 => ?_)
  ·conv => whnf
   refine br_intro (fun e2 => ?_) (fun e2 => ?_)
   ·rw [wz] at e2
    conv => whnf
    exact h false (by rw [hm, earlyP, e1, e2]; rfl)
   ·rw [wz] at e2
    have e3 : decide (v < 3) = true := by simp at e1 ⊢; omega
    conv => whnf
    refine br_true e3 ?_
    conv => whnf
    refine br_intro (fun e4 => ?_) (fun e4 => ?_)
    ·have e4 : r.tag = [] := by simpa [← nilB, ofB_eq] using e4
     have e4 : decide (r.tag ≠ []) = false := by rw [e4]; rfl
     have he : earlyP v r = false := by rw [earlyP, e2, e4]; simp
     conv => whnf
     refine br_intro (fun q => ?_) (fun q => ?_)
     ·have q : r.tag.length ≤ 64 := by have q := of_decide_eq_true q; omega
      conv => whnf
      refine depsR_calls v r hd fun p hp => ?_
      conv => whnf
      exact h p (by rw [hm, he, decide_eq_true q, hp]; rfl)
     ·have q : ¬ r.tag.length ≤ 64 := by have q := of_decide_eq_false q; omega
      conv => whnf
      exact h false (by rw [hm, decide_eq_false q]; simp)
    ·have e4 : r.tag ≠ [] := by simpa [← nilB, ofB_eq] using e4
     have e4 : decide (r.tag ≠ []) = true := decide_eq_true e4
     conv => whnf
     exact h false (by rw [hm, earlyP, e3, e4]; simp)
  ·conv => whnf
   refine br_intro (fun e3 => ?_) (fun e3 => ?_)
   ·conv => whnf
    refine br_intro (fun e4 => ?_) (fun e4 => ?_)
    ·have e4 : r.tag = [] := by simpa [← nilB, ofB_eq] using e4
     have e4 : decide (r.tag ≠ []) = false := by rw [e4]; rfl
     have he : earlyP v r = false := by rw [earlyP, e1, e4]; simp
     conv => whnf
     refine br_intro (fun q => ?_) (fun q => ?_)
     ·have q : r.tag.length ≤ 64 := by have q := of_decide_eq_true q; omega
      conv => whnf
      refine depsR_calls v r hd fun p hp => ?_
      conv => whnf
      exact h p (by rw [hm, he, decide_eq_true q, hp]; rfl)
     ·have q : ¬ r.tag.length ≤ 64 := by have q := of_decide_eq_false q; omega
      conv => whnf
      exact h false (by rw [hm, decide_eq_false q]; simp)
    ·have e4 : r.tag ≠ [] := by simpa [← nilB, ofB_eq] using e4
     have e4 : decide (r.tag ≠ []) = true := decide_eq_true e4
     conv => whnf
     exact h false (by rw [hm, earlyP, e3, e4]; simp)
   ·have he : earlyP v r = false := by rw [earlyP, e1, e3]; simp
    conv => whnf
    refine br_intro (fun q => ?_) (fun q => ?_)
    ·have q : r.tag.length ≤ 64 := by have q := of_decide_eq_true q; omega
     conv => whnf
     refine depsR_calls v r hd fun p hp => ?_
     conv => whnf
     exact h p (by rw [hm, he, decide_eq_true q, hp]; rfl)
    ·have q : ¬ r.tag.length ≤ 64 := by have q := of_decide_eq_false q; omega
     conv => whnf
     exact h false (by rw [hm, decide_eq_false q]; simp)
 ·have k1 : ¬ r.kind = 1 := by simpa using k1
  rw [if_neg k1] at hm
  conv => whnf
  refine br_intro (fun k2 => ?_) (fun k2 => ?_)
  ·have k2 : r.kind = 2 := by simpa using k2
   rw [if_pos k2] at hm
   conv => whnf
   refine ACalls.args ?_ (SameR_calls r (goneR r) (by omega) fun p hp => ?_)
   ·exact leL.cons (.refl _) (leL.cons (le_agg (le_rec2 2 r.target 0 0 0 [])) leL.nil)
   conv => whnf
   exact h p (by rw [hp, hm])
  ·have k2 : ¬ r.kind = 2 := by simpa using k2
   rw [if_neg k2] at hm
   conv => whnf
   exact h false hm.symm
end Go.Abs
end
section
namespace Go.Abs
open Go Go.Proofs Dig
theorem tblP_mem {l : List B} {s x : B} : x ∈ tblP l s ↔ x ∈ l ∨ x = s := by
 unfold tblP
 split
 ·rename_i h
  exact ⟨.inl, fun h1 => h1.elim id fun e => e ▸ h⟩
 ·simp
theorem tblP_nodup {l : List B} (h : l.Nodup) (s : B) : (tblP l s).Nodup := by
 unfold tblP
 split
 ·exact h
 ·rename_i h1
  rw [List.nodup_append]
  exact ⟨h, by simp, fun a ha b hb => by simp at hb; subst hb; exact fun e => h1 (e ▸ ha)⟩
theorem addAll_mem : ∀ (m t : List B) {x : B}, x ∈ m.foldl tblP t ↔ x ∈ t ∨ x ∈ m := by
 intro m
 induction m with
 | nil => intro t x; simp
 | cons a m ih => intro t x; rw [List.foldl_cons, ih, tblP_mem]; simp [or_assoc]
theorem addAll_nodup : ∀ (m t : List B), t.Nodup → (m.foldl tblP t).Nodup := by
 intro m
 induction m with
 | nil => intro t h; exact h
 | cons a m ih => intro t h; exact ih _ (tblP_nodup h a)
def newsP : List B → List B → List B
 | _, [] => []
 | t, s :: l => if s ∈ t then newsP t l else s :: newsP (t ++ [s]) l
theorem addAll_news : ∀ (m t : List B), m.foldl tblP t = t ++ newsP t m := by
 intro m
 induction m with
 | nil => intro t; simp [newsP]
 | cons a m ih =>
  intro t
  rw [List.foldl_cons, ih, newsP]
  unfold tblP
  by_cases h : a ∈ t
  ·rw [if_pos h, if_pos h]
  ·rw [if_neg h, if_neg h]; simp
theorem news_addAll : ∀ (m t : List B), (newsP t m).foldl tblP t = m.foldl tblP t := by
 intro m
 induction m with
 | nil => intro t; rfl
 | cons a m ih =>
  intro t
  rw [newsP, List.foldl_cons]
  by_cases h : a ∈ t
  ·rw [if_pos h, ih, tblP_some h]
  ·rw [if_neg h, List.foldl_cons, tblP_none h, ih]
theorem news_self : ∀ (m t : List B), (t ++ m).Nodup → newsP t m = m := by
 intro m
 induction m with
 | nil => intro t h; rfl
 | cons a m ih =>
  intro t h
  have h1 : a ∉ t := fun e => by
   rw [List.nodup_append] at h
   exact h.2.2 a e a (by simp) rfl
  rw [newsP, if_neg h1, ih (t ++ [a]) (by rw [List.append_assoc]; exact h)]
theorem tblN_self {l : List B} (h : l.Nodup) : tblN l = l := by
 unfold tblN
 rw [addAll_news, news_self l [] (by simpa using h)]
 rfl
theorem tblN_mem {l : List B} {x : B} : x ∈ tblN l ↔ x ∈ l := by unfold tblN; rw [addAll_mem]; simp
theorem news_sub : ∀ (m t : List B), ∀ x ∈ newsP t m, x ∈ m := by
 intro m
 induction m with
 | nil => intro t x h; exact h
 | cons a m ih =>
  intro t x h
  rw [newsP] at h
  split at h
  ·exact List.mem_cons_of_mem _ (ih _ _ h)
  ·rcases List.mem_cons.1 h with h | h
   ·rw [h]; exact List.mem_cons_self
   ·exact List.mem_cons_of_mem _ (ih _ _ h)
theorem news_len : ∀ (m t : List B), (newsP t m).length ≤ m.length := by
 intro m
 induction m with
 | nil => intro t; exact Nat.le_refl _
 | cons a m ih =>
  intro t
  rw [newsP]
  split
  ·have := ih t; simp; omega
  ·have := ih (t ++ [a]); simp; omega
def textW (v : Int) (t : List B) (s : B) : B := if v = 1 then blobP s else vrn (t.idxOf s)
def depN (t : List B) (d : Dp) : Nat := 2 * t.idxOf d.name + (if d.order then 1 else 0)
def depW (v : Int) (t : List B) (d : Dp) : B := (if v < 3 then textW v t d.name else vrn (depN t d)) ++ vrn d.hash.toNat
def depsW (v : Int) (t : List B) (l : List Dp) : B := (l.map (depW v t)).flatten
def tagW (t : List B) (s : B) : B := vrn (if s = [] then 0 else t.idxOf s + 1)
def endW (v : Int) (t : List B) (r : Rc) : B := vrn r.out.toNat ++ ((if 2 ≤ v then vrn r.wen.toNat else []) ++ (if 3 ≤ v then tagW t r.tag else []))
def lastW (v : Int) (t : List B) (r : Rc) : B :=
 if r.kind = 2 then 2 :: textW v t r.target
 else 1 :: (textW v t r.target ++ vrn r.rule.toNat ++ vrn r.deps.length ++ depsW v t r.deps ++ endW v t r)
def textsR (r : Rc) : List B := r.target :: (r.deps.map (·.name) ++ (if r.tag = [] then [] else [r.tag]))
def namesR (r : Rc) : List B := tblN (textsR r)
def addT (v : Int) (t : List B) (r : Rc) : List B := if v = 1 then t else (namesR r).foldl tblP t
def defP (s : B) : B := 0 :: s
def defsP (v : Int) (t : List B) (r : Rc) : List B := if v = 1 then [] else (newsP t (namesR r)).map defP
def payP (v : Int) (t : List B) (r : Rc) : List B := defsP v t r ++ [lastW v (addT v t r) r]
def paysP (v : Int) : List B → List Rc → List B
 | _, [] => []
 | t, r :: l => payP v t r ++ paysP v (addT v t r) l
def tblL (v : Int) (t : List B) (l : List Rc) : List B := l.foldl (addT v) t
def lettersB (v : Int) : B := [84, 80, 72, UInt8.ofNat v.toNat]
def headP (v : Int) : B := sealF (lettersB v)
def fileP (v : Int) (l : List Rc) : B := headP v ++ framesP (paysP v [] l)
theorem paysP_append (v : Int) : ∀ (l m : List Rc) (t : List B), paysP v t (l ++ m) = paysP v t l ++ paysP v (tblL v t l) m := by
 intro l
 induction l with
 | nil => intro m t; rfl
 | cons a l ih => intro m t; simp only [List.cons_append, paysP, ih, List.append_assoc]; rfl
theorem framesP_append (l m : List B) : framesP (l ++ m) = framesP l ++ framesP m := by
 unfold framesP
 rw [List.map_append, List.flatten_append]
theorem addT_one (t : List B) (r : Rc) : addT 1 t r = t := by simp [addT]
theorem addT_more {v : Int} (h : v ≠ 1) (t : List B) (r : Rc) : addT v t r = (namesR r).foldl tblP t := by simp [addT, h]
theorem addT_nodup (v : Int) {t : List B} (h : t.Nodup) (r : Rc) : (addT v t r).Nodup := by
 unfold addT
 split
 ·exact h
 ·exact addAll_nodup _ _ h
theorem tblL_nodup (v : Int) : ∀ (l : List Rc) {t : List B}, t.Nodup → (tblL v t l).Nodup := by
 intro l
 induction l with
 | nil => intro t h; exact h
 | cons a l ih => intro t h; exact ih (addT_nodup v h a)
theorem tblL_one : ∀ (l : List Rc) (t : List B), tblL 1 t l = t := by
 intro l
 induction l with
 | nil => intro t; rfl
 | cons a l ih => intro t; show tblL 1 (addT 1 t a) l = t; rw [addT_one, ih]
theorem namesR_ne (r : Rc) : namesR r ≠ [] := by
 intro e
 have : r.target ∈ namesR r := tblN_mem.2 (by simp [textsR])
 rw [e] at this
 cases this
theorem addT_mem {v : Int} (h : v ≠ 1) (t : List B) (r : Rc) {x : B} (hx : x ∈ textsR r) : x ∈ addT v t r := by
 rw [addT_more h, addAll_mem]
 exact .inr (tblN_mem.2 hx)
theorem addT_ne {v : Int} (h : v ≠ 1) (t : List B) (r : Rc) : addT v t r ≠ [] := by
 intro e
 have := addT_mem h t r (x := r.target) (by simp [textsR])
 rw [e] at this
 cases this
theorem tblP_len (l : List B) (s : B) : (tblP l s).length ≤ l.length + 1 := by
 unfold tblP
 split <;> simp
theorem addAll_len : ∀ (m t : List B), (m.foldl tblP t).length ≤ t.length + m.length := by
 intro m
 induction m with
 | nil => intro t; simp
 | cons a m ih => intro t; have := ih (tblP t a); have := tblP_len t a; simp only [List.foldl_cons, List.length_cons]; omega
theorem textsR_len (r : Rc) : (textsR r).length ≤ r.deps.length + 2 := by
 unfold textsR
 split <;> simp
theorem namesR_len (r : Rc) : (namesR r).length ≤ r.deps.length + 2 := by
 have h1 := addAll_len (textsR r) []
 have h2 := textsR_len r
 unfold namesR tblN
 simp only [List.length_nil] at h1
 omega
theorem addT_len (v : Int) (t : List B) (r : Rc) : (addT v t r).length ≤ t.length + r.deps.length + 2 := by
 unfold addT
 split
 ·omega
 ·have h1 := addAll_len (namesR r) t
  have h2 := namesR_len r
  omega
structure MayR (v : Int) (r : Rc) : Prop where
 lo : 1 ≤ v
 hi : v ≤ 3
 t1 : 1 ≤ r.target.length
 t2 : r.target.length ≤ 64
 deps : r.deps.length ≤ 16
 tag : r.tag.length ≤ 64
 names : ∀ d ∈ r.deps, 1 ≤ d.name.length ∧ d.name.length ≤ 64
 kind : r.kind = 1 ∨ r = goneR r
 wen : v = 1 → r.wen = 0
 tag3 : v < 3 → r.tag = []
 order : v < 3 → ∀ d ∈ r.deps, d.order = false
theorem depsGo_ok (v : Int) : ∀ (l : List Dp) (seen : List B), depsGo v l seen = true → ∀ d ∈ l, (1 ≤ d.name.length ∧ d.name.length ≤ 64) ∧ (v < 3 → d.order = false) := by
 intro l
 induction l with
 | nil => intro seen h d hd; cases hd
 | cons a l ih =>
  intro seen h d hd
  simp only [depsGo, nameOk, Bool.and_eq_true, decide_eq_true_eq, Bool.not_eq_true', Bool.and_eq_false_iff, decide_eq_false_iff_not] at h
  rcases List.mem_cons.1 hd with rfl | hd
  ·exact ⟨h.1, fun hv => h.2.2.1.elim id fun e => absurd hv e⟩
  ·exact ih _ h.2.2.2 d hd
theorem may_all {v : Int} {r : Rc} (h : mayP v r = true) : MayR v r := by
 unfold mayP at h
 split at h
 ·cases h
 ·rename_i h0
  simp only [Bool.or_eq_true, decide_eq_true_eq, Bool.not_eq_true', not_or, nameOk, Bool.and_eq_false_iff, decide_eq_false_iff_not] at h0
  obtain ⟨⟨h1, h2⟩, h3⟩ := h0
  have hv1 : 1 ≤ v := by omega
  have hv2 : v ≤ 3 := by omega
  have ht1 : 1 ≤ r.target.length := by
   exact Classical.not_not.1 h3.1
  have ht2 : r.target.length ≤ 64 := by
   exact Classical.not_not.1 h3.2
  split at h
  ·rename_i hk
   simp only [Bool.and_eq_true, Bool.not_eq_true', decide_eq_true_eq, depsP, earlyP, Bool.or_eq_false_iff, Bool.and_eq_false_iff, decide_eq_false_iff_not] at h
   obtain ⟨⟨e1, e2⟩, e3, e4, e5⟩ := h
   have hd := depsGo_ok v _ _ e4
   refine ⟨hv1, hv2, ht1, ht2, e5, e3, fun d hd' => (hd d hd').1, .inl hk, fun hv => ?_, fun hv => ?_, fun hv d hd' => (hd d hd').2 hv⟩
   ·refine Classical.byContradiction fun e => e1.elim (fun e' => e' (by omega)) fun e' => e' e
   ·refine Classical.byContradiction fun e => e2.elim (fun e' => e' hv) fun e' => e' e
  ·split at h
   ·have hg := of_decide_eq_true h
    have q1 : r.deps = [] := by rw [hg]; rfl
    have q2 : r.tag = [] := by rw [hg]; rfl
    have q3 : r.wen = 0 := by rw [hg]; rfl
    exact ⟨hv1, hv2, ht1, ht2, (by rw [q1]; simp), (by rw [q2]; simp), (by rw [q1]; simp), .inr hg, fun _ => q3, fun _ => q2, (by rw [q1]; simp)⟩
   ·cases h
theorem textsR_lens {v : Int} {r : Rc} (h : MayR v r) : ∀ s ∈ textsR r, 1 ≤ s.length ∧ s.length ≤ 64 := by
 intro s hs
 unfold textsR at hs
 rcases List.mem_cons.1 hs with rfl | hs
 ·exact ⟨h.t1, h.t2⟩
 rcases List.mem_append.1 hs with hs | hs
 ·obtain ⟨d, hd, rfl⟩ := List.mem_map.1 hs
  exact h.names d hd
 ·split at hs
  ·cases hs
  ·rename_i e
   rw [List.mem_singleton.1 hs]
   refine ⟨?_, h.tag⟩
   cases ht : r.tag with
   | nil => exact absurd ht e
   | cons a l => simp
theorem vrn_one {n : Nat} (h : n < 128) : (vrn n).length = 1 := by rw [vrn_small h]; rfl
theorem blobP_len {s : B} (h : s.length ≤ 64) : (blobP s).length ≤ 65 := by
 unfold blobP
 rw [List.length_append, vrn_one (by omega)]
 omega
theorem textW_len {v : Int} {t : List B} {s : B} (h : s.length ≤ 64) (ht : t.length < 1000000) : (textW v t s).length ≤ 65 := by
 unfold textW
 split
 ·exact blobP_len h
 ·have h1 := List.idxOf_le_length (a := s) (l := t)
  have := vrn_u64 (n := t.idxOf s) (by omega)
  omega
theorem u64_vrn (x : U) : (vrn x.toNat).length ≤ 10 := vrn_u64 (by have := x.isLt; omega)
theorem depW_len {v : Int} {t : List B} {d : Dp} (h : d.name.length ≤ 64) (ht : t.length < 1000000) : (depW v t d).length ≤ 75 := by
 unfold depW
 have h1 := u64_vrn d.hash
 have h3 := List.idxOf_le_length (a := d.name) (l := t)
 have h4 : (vrn (depN t d)).length ≤ 10 := vrn_u64 (by unfold depN; split <;> omega)
 rw [List.length_append]
 split
 ·have h2 := textW_len (v := v) h ht
  omega
 ·omega
theorem depsW_len {v : Int} {t : List B} (ht : t.length < 1000000) : ∀ {l : List Dp}, (∀ d ∈ l, d.name.length ≤ 64) → (depsW v t l).length ≤ 75 * l.length := by
 intro l
 induction l with
 | nil => intro h; simp [depsW]
 | cons a l ih =>
  intro h
  have h1 := depW_len (v := v) (t := t) (h a List.mem_cons_self) ht
  have h2 := ih fun d hd => h d (List.mem_cons_of_mem _ hd)
  unfold depsW at h2 ⊢
  rw [List.map_cons, List.flatten_cons, List.length_append, List.length_cons]
  omega
theorem endW_len {v : Int} {t : List B} {r : Rc} (ht : t.length < 1000000) : (endW v t r).length ≤ 30 := by
 unfold endW
 have h1 := u64_vrn r.out
 have h2 := u64_vrn r.wen
 have h3 : (tagW t r.tag).length ≤ 10 := by
  unfold tagW
  have h3 := List.idxOf_le_length (a := r.tag) (l := t)
  exact vrn_u64 (by split <;> omega)
 rw [List.length_append, List.length_append]
 split <;> split <;> simp <;> omega
theorem lastW_len {v : Int} {t : List B} {r : Rc} (h : MayR v r) (ht : t.length < 1000000) : 1 ≤ (lastW v t r).length ∧ (lastW v t r).length ≤ 1400 := by
 unfold lastW
 have h1 := textW_len (v := v) (t := t) h.t2 ht
 have h2 := u64_vrn r.rule
 have h3 : (vrn r.deps.length).length ≤ 10 := vrn_u64 (by have := h.deps; omega)
 have h4 := depsW_len (v := v) (t := t) (l := r.deps) ht fun d hd => (h.names d hd).2
 have h5 := endW_len (v := v) (t := t) (r := r) ht
 have h6 := h.deps
 split
 ·simp; omega
 ·simp only [List.length_cons, List.length_append]; omega
theorem payP_lens {v : Int} {t : List B} {r : Rc} (h : MayR v r) (ht : t.length < 900000) : ∀ p ∈ payP v t r, 1 ≤ p.length ∧ p.length ≤ 2048 := by
 intro p hp
 unfold payP at hp
 rcases List.mem_append.1 hp with hp | hp
 ·unfold defsP at hp
  split at hp
  ·cases hp
  ·obtain ⟨s, hs, rfl⟩ := List.mem_map.1 hp
   have := textsR_lens h s (tblN_mem.1 (news_sub _ _ s hs))
   simp [defP]; omega
 ·rw [List.mem_singleton.1 hp]
  have h1 := addT_len v t r
  have h2 := h.deps
  have := lastW_len (t := addT v t r) h (by omega)
  omega
theorem frameP_len {p : B} (h : p.length ≤ 2048) : (frameP p).length ≤ p.length + 14 := by
 unfold frameP sealF blobP
 have := vrn_u64 (n := p.length) (by omega)
 simp only [List.length_append, w4_length]
 omega
theorem framesP_len : ∀ {l : List B} {k : Nat}, (∀ p ∈ l, p.length ≤ k) → k ≤ 2048 → (framesP l).length ≤ l.length * (k + 14) := by
 intro l
 induction l with
 | nil => intro k h hk; simp [framesP]
 | cons a l ih =>
  intro k h hk
  have h1 := h a List.mem_cons_self
  have h2 := frameP_len (p := a) (by omega)
  have h3 := ih (k := k) (fun p hp => h p (List.mem_cons_of_mem _ hp)) hk
  unfold framesP at h3 ⊢
  rw [List.map_cons, List.flatten_cons, List.length_append, List.length_cons, Nat.succ_mul]
  omega
theorem payP_frames {v : Int} {t : List B} {r : Rc} (h : MayR v r) (ht : t.length < 900000) : (framesP (payP v t r)).length ≤ 3000 := by
 have h1 := addT_len v t r
 have h2 := h.deps
 have h3 := lastW_len (t := addT v t r) h (by omega)
 have h4 := frameP_len (p := lastW v (addT v t r) r) (by omega)
 have h5 : (framesP (defsP v t r)).length ≤ 18 * (65 + 14) := by
  have e1 : (defsP v t r).length ≤ 18 := by
   unfold defsP
   split
   ·simp
   ·have := news_len (namesR r) t
    have := namesR_len r
    rw [List.length_map]; omega
  have e2 : ∀ p ∈ defsP v t r, p.length ≤ 65 := by
   intro p hp
   unfold defsP at hp
   split at hp
   ·cases hp
   ·obtain ⟨s, hs, rfl⟩ := List.mem_map.1 hp
    have := textsR_lens h s (tblN_mem.1 (news_sub _ _ s hs))
    simp [defP]; omega
  exact Nat.le_trans (framesP_len e2 (by omega)) (Nat.mul_le_mul_right _ e1)
 unfold payP
 rw [framesP_snoc, List.length_append]
 omega
theorem tblL_len {v : Int} : ∀ {l : List Rc} {t : List B}, (∀ r ∈ l, MayR v r) → (tblL v t l).length ≤ t.length + 18 * l.length := by
 intro l
 induction l with
 | nil => intro t h; simp [tblL]
 | cons a l ih =>
  intro t h
  have h1 := ih (t := addT v t a) fun r hr => h r (List.mem_cons_of_mem _ hr)
  have h2 := addT_len v t a
  have h3 := (h a List.mem_cons_self).deps
  unfold tblL at h1 ⊢
  rw [List.foldl_cons, List.length_cons]
  omega
theorem paysP_frames {v : Int} : ∀ {l : List Rc} {t : List B}, (∀ r ∈ l, MayR v r) → t.length + 18 * l.length < 900000 → (framesP (paysP v t l)).length ≤ 3000 * l.length := by
 intro l
 induction l with
 | nil => intro t h ht; simp [paysP, framesP]
 | cons a l ih =>
  intro t h ht
  have h1 := addT_len v t a
  have h2 := (h a List.mem_cons_self).deps
  rw [List.length_cons] at ht
  have h3 := ih (t := addT v t a) (fun r hr => h r (List.mem_cons_of_mem _ hr)) (by omega)
  have h4 := payP_frames (t := t) (h a List.mem_cons_self) (by omega)
  rw [paysP, framesP_append, List.length_append, List.length_cons]
  omega
theorem paysP_lens {v : Int} : ∀ {l : List Rc} {t : List B}, (∀ r ∈ l, MayR v r) → t.length + 18 * l.length < 900000 → ∀ p ∈ paysP v t l, 1 ≤ p.length ∧ p.length ≤ 2048 := by
 intro l
 induction l with
 | nil => intro t h ht p hp; cases hp
 | cons a l ih =>
  intro t h ht p hp
  have h1 := addT_len v t a
  have h2 := (h a List.mem_cons_self).deps
  rw [List.length_cons] at ht
  rw [paysP] at hp
  rcases List.mem_append.1 hp with hp | hp
  ·exact payP_lens (h a List.mem_cons_self) (by omega) p hp
  ·exact ih (t := addT v t a) (fun r hr => h r (List.mem_cons_of_mem _ hr)) (by omega) p hp
end Go.Abs
end
section
namespace Go.Abs
open Go Go.Proofs Dig
attribute [local irreducible] ibits byteAt strLt firstIdx
theorem tmod_n (n k : Nat) : ((n : Nat) : Int).tmod (k : Int) = ((n % k : Nat) : Int) := by
 rw [Int.tmod_eq_emod_of_nonneg (Int.natCast_nonneg _)]
 exact (Int.natCast_emod n k).symm
theorem tdiv_n (n k : Nat) : ((n : Nat) : Int).tdiv (k : Int) = ((n / k : Nat) : Int) := by
 rw [Int.tdiv_eq_ediv_of_nonneg (Int.natCast_nonneg _)]
 exact (Int.natCast_ediv n k).symm
theorem u64_n {n : Nat} (h : n < 18446744073709551616) : IntKind.u64.wrap ((n : Nat) : Int) = (n : Int) := by
 show (n : Int) % 18446744073709551616 = _
 omega
theorem u32_n {n : Nat} (h : n < 4294967296) : IntKind.u32.wrap ((n : Nat) : Int) = (n : Int) := by
 show (n : Int) % 4294967296 = _
 omega
theorem ref1Put_calls : ∀ (n : Nat), n < 18446744073709551616 → ∀ {R : AV → List AObj → Prop}, R (vs (vrn n)) [] → ACalls Tryz.prog 210 [.val (.int .u64 (n : Int))] [] R := by
 intro n
 induction n using Nat.strongRecOn with
 | ind n ih =>
 intro hn R h
 refine acalls_of_xwp (an := an210) tab_ok Tryz.func210 ?_
 conv => whnf
 refine br_intro (fun g => ?_) (fun g => ?_)
 ·have g : n < 128 := by have := of_decide_eq_true g; omega
  rw [vrn_small g] at h
  conv => whnf
  rw [u8_part, show n % 256 = n by omega]
  refine ⟨[(((UInt8.ofNat n).toNat : Nat) : Int)], rfl, ?_⟩
  have e := strOfNums_ofB [UInt8.ofNat n]
  rw [show strOfNums [(((UInt8.ofNat n).toNat : Nat) : Int)] = ofB [UInt8.ofNat n] from e]
  conv => whnf
  exact h
 ·have g : ¬ n < 128 := by have := of_decide_eq_false g; omega
  rw [vrn_big g] at h
  have e1 : IntKind.u8.wrap (IntKind.u8.wrap ((n : Int).tmod 128) + 128) = (((UInt8.ofNat (n % 128 + 128)).toNat : Nat) : Int) := by
   rw [show (n : Int).tmod 128 = ((n % 128 : Nat) : Int) from tmod_n n 128, u8_nat (by omega)]
   show (((n % 128 : Nat) : Int) % 256 + 128) % 256 = _
   omega
  have e2 : (n : Int).tdiv 128 = ((n / 128 : Nat) : Int) := tdiv_n n 128
  have hl := vrn_u64 (n := n / 128) (by omega)
  conv => whnf
  rw [e1]
  refine ⟨[(((UInt8.ofNat (n % 128 + 128)).toNat : Nat) : Int)], rfl, ?_⟩
  have e := strOfNums_ofB [UInt8.ofNat (n % 128 + 128)]
  rw [show strOfNums [(((UInt8.ofNat (n % 128 + 128)).toNat : Nat) : Int)] = ofB [UInt8.ofNat (n % 128 + 128)] from e]
  conv => whnf
  rw [e2, u64_n (by omega)]
  refine ih (n / 128) (by omega) (by omega) ?_
  conv => whnf
  refine must_intro (decide_eq_true (by rw [size_ofB, size_ofB]; simp; omega)) ?_
  rw [ofB_append]
  conv => whnf
  exact h
theorem ref2Put_calls (s : B) (hs : s.length < 10000000) {R} (h : R (vs (blobP s)) []) : ACalls Tryz.prog 212 [vs s] [] R := by
 refine acalls_of_xwp (an := an212) tab_ok Tryz.func212 ?_
 have hv := vrn_u64 (n := s.length) (by omega)
 unfold blobP at h
 conv => whnf
 rw [size_ofB, u64_n (by omega)]
 refine ref1Put_calls s.length (by omega) ?_
 conv => whnf
 refine must_intro (decide_eq_true (by rw [size_ofB, size_ofB]; omega)) ?_
 rw [ofB_append]
 conv => whnf
 exact h
theorem ref3Bytes_calls (x : Crc.W) {R} (h : R (vs (w4 x.toNat)) []) : ACalls Tryz.prog 205 [wv x] [] R := by
 refine acalls_of_xwp (an := an205) tab_ok Tryz.func205 ?_
 have hx : x.toNat < 4294967296 := x.isLt
 unfold wv
 generalize x.toNat = n at h hx ⊢
 conv => whnf
 rw [show (n : Int).tmod 256 = ((n % 256 : Nat) : Int) from tmod_n n 256, show (n : Int).tdiv 256 = ((n / 256 : Nat) : Int) from tdiv_n n 256, show (n : Int).tdiv 65536 = ((n / 65536 : Nat) : Int) from tdiv_n n 65536, show (n : Int).tdiv 16777216 = ((n / 16777216 : Nat) : Int) from tdiv_n n 16777216,
  u32_n (n := n / 256) (by omega), u32_n (n := n / 65536) (by omega), u32_n (n := n / 16777216) (by omega), show ((n / 256 : Nat) : Int).tmod 256 = ((n / 256 % 256 : Nat) : Int) from tmod_n _ 256, show ((n / 65536 : Nat) : Int).tmod 256 = ((n / 65536 % 256 : Nat) : Int) from tmod_n _ 256]
 rw [u8_part (n := n % 256), u8_part (n := n / 256 % 256), u8_part (n := n / 65536 % 256), u8_part (n := n / 16777216), Nat.mod_mod, Nat.mod_mod, Nat.mod_mod]
 obtain ⟨ns, n1, n2⟩ := str_of (w4 n)
 refine ⟨ns, n1, ?_⟩
 rw [n2]
 conv => whnf
 exact h
theorem ref6Put_calls (p : B) (h1 : 1 ≤ p.length) (h2 : p.length ≤ 2048) {R} (h : R (.tup [vs (frameP p), vi 0]) []) : ACalls Tryz.prog 160 [vs p] [] R := by
 refine acalls_of_xwp (an := an160) tab_ok Tryz.func160 ?_
 have hne : ofB p ≠ ofB [] := fun e => by have := ofB_inj e; rw [this] at h1; simp at h1
 have hv := vrn_u64 (n := p.length) (by omega)
 have hbl : (blobP p).length ≤ 2058 := by unfold blobP; rw [List.length_append]; omega
 unfold frameP sealF at h
 conv => whnf
 refine br_false (decide_eq_false hne) ?_
 conv => whnf
 refine br_false (decide_eq_false (by rw [size_ofB]; omega)) ?_
 conv => whnf
 refine ref2Put_calls p (by omega) ?_
 generalize blobP p = b at h hbl ⊢
 conv => whnf
 refine refSum_calls b (by omega) ?_
 conv => whnf
 refine ref3Bytes_calls _ ?_
 have hw := w4_length (Crc.sum b).toNat
 conv => whnf
 refine must_intro (decide_eq_true (by rw [size_ofB, size_ofB]; omega)) ?_
 rw [ofB_append]
 conv => whnf
 exact h
theorem ref6Head_calls {v : Int} (h1 : 1 ≤ v) (h3 : v ≤ 3) {R} (h : R (.tup [vs (headP v), vi 0]) []) : ACalls Tryz.prog 158 [vi v] [] R := by
 refine acalls_of_xwp (an := an158) tab_ok Tryz.func158 ?_
 have e1 : IntKind.u8.wrap v = (((UInt8.ofNat v.toNat).toNat : Nat) : Int) := by
  rw [u8_nat (by omega)]
  show v % 256 = _
  omega
 unfold headP sealF at h
 conv => whnf
 refine br_false (decide_eq_false (by omega)) ?_
 conv => whnf
 refine br_false (decide_eq_false (by omega)) ?_
 conv => whnf
 rw [e1]
 refine ⟨[(((UInt8.ofNat v.toNat).toNat : Nat) : Int)], rfl, ?_⟩
 have e := strOfNums_ofB [UInt8.ofNat v.toNat]
 rw [show strOfNums [(((UInt8.ofNat v.toNat).toNat : Nat) : Int)] = ofB [UInt8.ofNat v.toNat] from e]
 conv => whnf
 have e3 : (⟨#[84, 80, 72]⟩ : ByteArray) = ofB [84, 80, 72] := rfl
 rw [e3, ofB_append]
 obtain ⟨b, hb⟩ : ∃ b, b = lettersB v := ⟨_, rfl⟩
 have hb2 : [84, 80, 72] ++ [UInt8.ofNat v.toNat] = b := hb.symm
 have hl : b.length = 4 := by rw [hb]; rfl
 rw [← hb] at h
 rw [hb2]
 clear hb hb2 e e1 e3
 conv => whnf
 refine refSum_calls b (by omega) ?_
 conv => whnf
 refine ref3Bytes_calls _ ?_
 have hw := w4_length (Crc.sum b).toNat
 conv => whnf
 refine must_intro (decide_eq_true (by rw [size_ofB, size_ofB]; omega)) ?_
 rw [ofB_append]
 conv => whnf
 exact h
theorem mapFind_idx {s : B} : ∀ {l : List B} (i : Nat), s ∈ l → mapFind (tblFrom l i) (ofB s) = some (vi ((i + l.idxOf s : Nat) : Int)) := by
 intro l
 induction l with
 | nil => intro i h; cases h
 | cons a l ih =>
  intro i h
  simp only [tblFrom, mapFind]
  by_cases e : a = s
  ·subst e; rw [if_pos rfl, List.idxOf_cons_self]; rfl
  ·have hx : (a :: l).idxOf s = l.idxOf s + 1 := by
    rw [List.idxOf_cons, show (a == s) = false from beq_eq_false_iff_ne.2 e]
    rfl
   rw [if_neg (fun e' => e (ofB_inj e')), ih (i + 1) ((List.mem_cons.1 h).elim (fun x => absurd x.symm e) id), hx]
   congr 3
   omega
theorem tFind_calls (l : List B) (s : B) (hs : s ∈ l) (hl : l.length < 1000000) {R} (h : R (.tup [.val (.int .u64 ((l.idxOf s : Nat) : Int)), .val (.bool true)]) [tblO 1 2 l, tblR l, tblM l]) :
  ACalls Tryz.prog 245 [.ptr 0 0, vs s] [tblO 1 2 l, tblR l, tblM l] R := by
 refine acalls_of_xwp (an := an245) tab_ok Tryz.func245 ?_
 have hj := mapFind_idx 0 hs
 rw [Nat.zero_add] at hj
 have hi := List.idxOf_le_length (a := s) (l := l)
 have ew : IntKind.u64.wrap ((l.idxOf s : Nat) : Int) = ((l.idxOf s : Nat) : Int) := by
  show ((l.idxOf s : Nat) : Int) % 18446744073709551616 = _
  omega
 conv => whnf
 rw [hj]
 conv => whnf
 rw [ew]
 exact h
theorem tText_calls (l : List B) (i : Nat) (hi : i < l.length) (hl : l.length < 1000000) {R} (h : R (.tup [vs l[i], .val (.bool true)]) [tblO 1 2 l, tblR l, tblM l]) :
  ACalls Tryz.prog 223 [.ptr 0 0, .val (.int .u64 (i : Int))] [tblO 1 2 l, tblR l, tblM l] R := by
 refine acalls_of_xwp (an := an223) tab_ok Tryz.func223 ?_
 have hsl := strs_length l
 have ew : IntKind.u64.wrap (((strs l).length : Nat) : Int) = ((l.length : Nat) : Int) := by
  rw [hsl]
  show ((l.length : Nat) : Int) % 18446744073709551616 = _
  omega
 conv => whnf
 refine br_false (by rw [ew]; exact decide_eq_false (by omega)) ?_
 (conv => whnf); (repeat ((with_reducible refine must_intro ?_ ?_); exact decide_eq_true (by omega); (conv => whnf)))
 refine idxK_map_intro (show (i : Int).toNat < l.length by simpa using hi) ?_
 rw [show l[(i : Int).toNat]'(by simpa using hi) = l[i] from by congr 1]
 conv => whnf
 exact h
theorem tCopy_nil {R} (h : R (.ptr 1 0) [tblF, tblF]) : ACalls Tryz.prog 233 [.ptr 0 0] [tblF] R := by
 refine acalls_of_xwp (an := an233) tab_ok Tryz.func233 ?_
 conv => whnf
 refine New_nil ?_
 conv => whnf
 exact h
theorem tCopy_calls (l : List B) (h0 : l ≠ []) (hn : l.Nodup) (hl : l.length < 100000) {R} (h : R (.ptr 3 0) [tblO 1 2 l, tblR l, tblM l, tblO 4 5 l, tblR l, tblM l]) :
  ACalls Tryz.prog 233 [.ptr 0 0] [tblO 1 2 l, tblR l, tblM l] R := by
 refine acalls_of_xwp (an := an233) tab_ok Tryz.func233 ?_
 have hs := tblN_self hn
 obtain ⟨a, m, rfl⟩ := List.exists_cons_of_ne_nil h0
 conv => whnf
 refine New_calls a m (by simp at hl; omega) fun q hq => ?_
 rw [hs] at hq
 subst hq
 conv => whnf
 exact h
theorem textsR_take (r : Rc) (i : Nat) (hi : i < r.deps.length) : (r.target :: (r.deps.take i).map (·.name)) ++ [r.deps[i].name] = r.target :: (r.deps.take (i + 1)).map (·.name) := by
 rw [List.take_succ_eq_append_getElem hi, List.map_append]
 rfl
theorem strs_take {l : List B} {i : Nat} (hi : i < l.length) : strs (l.take i) ++ [[vs l[i]]] = strs (l.take (i + 1)) := by
 rw [List.take_succ_eq_append_getElem hi, strs_append]
 rfl
theorem rNames_calls (r : Rc) (hd : r.deps.length < 50000) {R} (h : R (.sl none 1 (strs (namesR r))) []) : ACalls Tryz.prog 197 [.agg r.enc] [] R := by
 refine acalls_of_xwp (an := an197) tab_ok Tryz.func197 ?_
 have hsl := dpsA_length r.deps
 have hml := namesR_len r
 have hN : namesR r = tblN (textsR r) := rfl
 generalize namesR r = m at h hml hN
 conv => whnf
 refine LoopP.ind1 (fun (i : Nat) => [(3, .sl (some (nameOf 13)) 1 (strs (r.target :: (r.deps.take i).map (·.name)))), (17, vi i)]) (fun i => [(nameOf 13, .row 9 1 (i + 1))]) (fun i => r.deps.length - i) (fun i => i ≤ r.deps.length) 0 rfl (by omega) ?_
 rintro i h0 IH
 have hnl : (strs (r.target :: (r.deps.take i).map (·.name))).length = i + 1 := by rw [strs_length]; simp; omega
 conv => whnf
 refine br_intro (fun hc => ?_) (fun hc => ?_)
 ·have hc := lt_of_decE hsl hc
  have IH := IH (i + 1) hc (by omega)
  have e1 : strs (r.target :: (r.deps.take i).map (·.name)) ++ [[vs r.deps[i].name]] = strs (r.target :: (r.deps.take (i + 1)).map (·.name)) := by rw [← textsR_take r i hc, strs_append]; rfl
  rw [← e1] at IH
  (conv => whnf); (repeat ((with_reducible refine must_intro ?_ ?_); exact decide_eq_true (by omega); (conv => whnf)))
  refine idxK_map_intro (show (i : Int).toNat < r.deps.length by simpa using hc) ?_
  rw [show r.deps[(i : Int).toNat]'(by simpa using hc) = r.deps[i] from by congr 1]
  generalize r.deps[i] = d at IH e1 ⊢
  conv => whnf
  refine ⟨hnl.symm, by rw [hnl, bytes_str]; simp; omega, ?_⟩
  conv => whnf
  rw [i64_nat (by omega), hnl]
  exact IH
 ·have hc := ge_of_decE hsl hc
  have e : i = r.deps.length := by omega
  subst e
  rw [List.take_length] at hnl ⊢
  have hdl : (r.deps.map (·.name)).length = r.deps.length := by simp
  conv => whnf
  refine br_intro (fun g => ?_) (fun g => ?_)
  ·have g : r.tag ≠ [] := by
    have g : (!decide (ofB r.tag = ofB [])) = true := g
    intro e
    rw [e] at g
    simp at g
   have hT : textsR r = r.target :: (r.deps.map (·.name) ++ [r.tag]) := by simp [textsR, g]
   have e1 : strs (r.target :: r.deps.map (·.name)) ++ [[vs r.tag]] = strs (r.target :: (r.deps.map (·.name) ++ [r.tag])) := by
    rw [← List.cons_append, strs_append]; rfl
   conv => whnf
   refine ⟨hnl.symm, by rw [hnl, bytes_str]; simp; omega, ?_⟩
   conv => whnf
   refine (show ACalls Tryz.prog 95 [.sl none 1 (strs (r.target :: r.deps.map (·.name)) ++ [[vs r.tag]])] [] _ from ?_)
   rw [e1]
   refine New_calls r.target _ (by simp; omega) fun q hq => ?_
   rw [← hT, ← hN] at hq
   rw [hq]
   clear hq
   conv => whnf
   refine Len_old m ?_
   conv => whnf
   have hml2 := strs_length m
   refine LoopP.ind1 (fun (i : Nat) => [(7, .sl (some (nameOf 7)) 1 (strs (m.take i))), (39, vi i)]) (fun i => [(nameOf 7, .row 9 1 i), (freshN 36 0, tblO (freshN 36 1) (freshN 36 2) m), (freshN 36 1, tblR m), (freshN 36 2, tblM m)]) (fun i => m.length - i) (fun i => i ≤ m.length) 0 rfl (by omega) ?_
   rintro i h0 IH
   have htl : (strs (m.take i)).length = i := by rw [strs_length, List.length_take]; omega
   conv => whnf
   refine br_intro (fun hc => ?_) (fun hc => ?_)
   ·have hc := lt_of_dec hc
    have ew : IntKind.u64.wrap (i : Int) = (i : Int) := by
     show (i : Int) % 18446744073709551616 = _
     omega
    have IH := IH (i + 1) hc (by omega)
    rw [← strs_take hc] at IH
    conv => whnf
    rw [ew]
    refine tText_calls m i hc (by omega) ?_
    conv => whnf
    refine ⟨htl.symm, by rw [htl, bytes_str]; simp; omega, ?_⟩
    conv => whnf
    rw [i64_nat (by omega), htl]
    exact IH
   ·have hc := ge_of_dec hc
    have e : i = m.length := by omega
    subst e
    rw [List.take_length]
    conv => whnf
    exact h
  ·have g : r.tag = [] := by
    have g : (!decide (ofB r.tag = ofB [])) = false := g
    have g : ofB r.tag = ofB [] := by simpa using g
    exact ofB_inj g
   have hT : textsR r = r.target :: r.deps.map (·.name) := by simp [textsR, g]
   conv => whnf
   refine New_calls r.target _ (by omega) fun q hq => ?_
   rw [← hT, ← hN] at hq
   rw [hq]
   clear hq
   conv => whnf
   refine Len_old m ?_
   conv => whnf
   have hml2 := strs_length m
   refine LoopP.ind1 (fun (i : Nat) => [(7, .sl (some (nameOf 7)) 1 (strs (m.take i))), (39, vi i)]) (fun i => [(nameOf 7, .row 9 1 i), (freshN 36 0, tblO (freshN 36 1) (freshN 36 2) m), (freshN 36 1, tblR m), (freshN 36 2, tblM m)]) (fun i => m.length - i) (fun i => i ≤ m.length) 0 rfl (by omega) ?_
   rintro i h0 IH
   have htl : (strs (m.take i)).length = i := by rw [strs_length, List.length_take]; omega
   conv => whnf
   refine br_intro (fun hc => ?_) (fun hc => ?_)
   ·have hc := lt_of_dec hc
    have ew : IntKind.u64.wrap (i : Int) = (i : Int) := by
     show (i : Int) % 18446744073709551616 = _
     omega
    have IH := IH (i + 1) hc (by omega)
    rw [← strs_take hc] at IH
    conv => whnf
    rw [ew]
    refine tText_calls m i hc (by omega) ?_
    conv => whnf
    refine ⟨htl.symm, by rw [htl, bytes_str]; simp; omega, ?_⟩
    conv => whnf
    rw [i64_nat (by omega), htl]
    exact IH
   ·have hc := ge_of_dec hc
    have e : i = m.length := by omega
    subst e
    rw [List.take_length]
    conv => whnf
    exact h
def wO (b : B) (t : AV) : AObj := .cells 294 [.sl none 1 (byteEls b), t]
abbrev un (n : Nat) : AV := .val (.int .u64 (n : Int))
theorem number_F (b : B) (n : Nat) (hn : n < 18446744073709551616) (hb : b.length < 10000000) {R} (h : R (.tup []) [wO (b ++ vrn n) (.ptr 1 0), tblF]) :
  ACalls Tryz.prog 226 [.ptr 0 0, un n] [wO b (.ptr 1 0), tblF] R := by
 refine acalls_of_xwp (an := an226) tab_ok Tryz.func226 ?_
 conv => whnf
 refine vPutN_calls b n hn hb ?_
 conv => whnf
 exact h
theorem number_O (b : B) (l : List B) (n : Nat) (hn : n < 18446744073709551616) (hb : b.length < 10000000) {R} (h : R (.tup []) [wO (b ++ vrn n) (.ptr 1 0), tblO 2 3 l, tblR l, tblM l]) :
  ACalls Tryz.prog 226 [.ptr 0 0, un n] [wO b (.ptr 1 0), tblO 2 3 l, tblR l, tblM l] R := by
 refine acalls_of_xwp (an := an226) tab_ok Tryz.func226 ?_
 conv => whnf
 refine vPutN_calls b n hn hb ?_
 conv => whnf
 exact h
theorem blob_F (b s : B) (hb : b.length < 1000000) (hs : s.length < 10000000) {R} (h : R (.tup []) [wO (b ++ blobP s) (.ptr 1 0), tblF]) :
  ACalls Tryz.prog 225 [.ptr 0 0, vs s] [wO b (.ptr 1 0), tblF] R := by
 refine acalls_of_xwp (an := an225) tab_ok Tryz.func225 ?_
 conv => whnf
 refine bPut_calls b s hb hs ?_
 conv => whnf
 exact h
theorem known_O (b : B) (l : List B) (s : B) (hs : s ∈ l) (hl : l.length < 1000000) (hb : b.length < 10000000) {R} (h : R (.tup []) [wO (b ++ vrn (l.idxOf s)) (.ptr 1 0), tblO 2 3 l, tblR l, tblM l]) :
  ACalls Tryz.prog 224 [.ptr 0 0, vs s] [wO b (.ptr 1 0), tblO 2 3 l, tblR l, tblM l] R := by
 refine acalls_of_xwp (an := an224) tab_ok Tryz.func224 ?_
 have hi := List.idxOf_le_length (a := s) (l := l)
 conv => whnf
 refine tFind_calls l s hs hl ?_
 conv => whnf
 refine number_O b l (l.idxOf s) (by omega) hb ?_
 conv => whnf
 exact h
theorem tag_O (b : B) (l : List B) (s : B) (hs : s ≠ [] → s ∈ l) (hl : l.length < 1000000) (hb : b.length < 10000000) {R} (h : R (.tup []) [wO (b ++ tagW l s) (.ptr 1 0), tblO 2 3 l, tblR l, tblM l]) :
  ACalls Tryz.prog 228 [.ptr 0 0, vs s] [wO b (.ptr 1 0), tblO 2 3 l, tblR l, tblM l] R := by
 refine acalls_of_xwp (an := an228) tab_ok Tryz.func228 ?_
 have hi := List.idxOf_le_length (a := s) (l := l)
 conv => whnf
 refine br_intro (fun g => ?_) (fun g => ?_)
 ·have g : s = [] := by
   have g : ofB s = ofB [] := of_decide_eq_true g
   exact ofB_inj g
  rw [show tagW l s = vrn 0 by simp [tagW, g]] at h
  conv => whnf
  refine number_O b l 0 (by omega) hb ?_
  conv => whnf
  exact h
 ·have g : s ≠ [] := by
   have g : ¬ ofB s = ofB [] := of_decide_eq_false g
   exact fun e => g (by rw [e])
  rw [show tagW l s = vrn (l.idxOf s + 1) by simp [tagW, g]] at h
  have ew : IntKind.u64.wrap (((l.idxOf s : Nat) : Int) + 1) = ((l.idxOf s + 1 : Nat) : Int) := by
   show (((l.idxOf s : Nat) : Int) + 1) % 18446744073709551616 = _
   omega
  conv => whnf
  refine tFind_calls l s (hs g) hl ?_
  conv => whnf
  rw [ew]
  refine number_O b l (l.idxOf s + 1) (by omega) hb ?_
  conv => whnf
  exact h
theorem dep_1 (b : B) (d : Dp) (hb : b.length < 1000000) (hs : d.name.length < 10000000) {R} (h : R (.tup []) [wO (b ++ blobP d.name) (.ptr 1 0), tblF]) :
  ACalls Tryz.prog 227 [.ptr 0 0, vi 1, .agg d.enc, .fn (.func 225) [.ptr 0 0] []] [wO b (.ptr 1 0), tblF] R := by
 refine acalls_of_xwp (an := an227) tab_ok Tryz.func227 ?_
 conv => whnf
 refine blob_F b d.name hb hs ?_
 conv => whnf
 exact h
theorem dep_2 (b : B) (l : List B) (d : Dp) (hs : d.name ∈ l) (hl : l.length < 1000000) (hb : b.length < 1000000) {R} (h : R (.tup []) [wO (b ++ vrn (l.idxOf d.name)) (.ptr 1 0), tblO 2 3 l, tblR l, tblM l]) :
  ACalls Tryz.prog 227 [.ptr 0 0, vi 2, .agg d.enc, .fn (.func 224) [.ptr 0 0] []] [wO b (.ptr 1 0), tblO 2 3 l, tblR l, tblM l] R := by
 refine acalls_of_xwp (an := an227) tab_ok Tryz.func227 ?_
 conv => whnf
 refine known_O b l d.name hs hl (by omega) ?_
 conv => whnf
 exact h
theorem dep_3 (b : B) (l : List B) (d : Dp) (hs : d.name ∈ l) (hl : l.length < 1000000) (hb : b.length < 1000000) {R} (h : R (.tup []) [wO (b ++ vrn (depN l d)) (.ptr 1 0), tblO 2 3 l, tblR l, tblM l]) :
  ACalls Tryz.prog 227 [.ptr 0 0, vi 3, .agg d.enc, .fn (.func 224) [.ptr 0 0] []] [wO b (.ptr 1 0), tblO 2 3 l, tblR l, tblM l] R := by
 refine acalls_of_xwp (an := an227) tab_ok Tryz.func227 ?_
 have hi := List.idxOf_le_length (a := d.name) (l := l)
 have ew : IntKind.u64.wrap (((l.idxOf d.name : Nat) : Int) * 2) = ((2 * l.idxOf d.name : Nat) : Int) := by
  show (((l.idxOf d.name : Nat) : Int) * 2) % 18446744073709551616 = _
  omega
 have ew2 : IntKind.u64.wrap (((2 * l.idxOf d.name : Nat) : Int) + 1) = ((2 * l.idxOf d.name + 1 : Nat) : Int) := by
  show (((2 * l.idxOf d.name : Nat) : Int) + 1) % 18446744073709551616 = _
  omega
 conv => whnf
 refine tFind_calls l d.name hs hl ?_
 conv => whnf
 rw [ew]
 refine br_intro (fun g => ?_) (fun g => ?_)
 ·rw [show depN l d = 2 * l.idxOf d.name + 1 by simp [depN, g]] at h
  conv => whnf
  rw [ew2]
  refine number_O b l (2 * l.idxOf d.name + 1) (by omega) (by omega) ?_
  conv => whnf
  exact h
 ·rw [show depN l d = 2 * l.idxOf d.name by simp [depN, g]] at h
  conv => whnf
  refine number_O b l (2 * l.idxOf d.name) (by omega) (by omega) ?_
  conv => whnf
  exact h
def wN (t : AV) : AObj := .cells 294 [.val (.slice none 0 0), t]
theorem depsW_snoc {v : Int} {t : List B} {l : List Dp} {i : Nat} (hi : i < l.length) : depsW v t (l.take (i + 1)) = depsW v t (l.take i) ++ depW v t l[i] := by
 unfold depsW
 rw [List.take_succ_eq_append_getElem hi, List.map_append, List.flatten_append]
 simp
theorem depsW_take {v : Int} {t : List B} {r : Rc} (hm : MayR v r) (ht : t.length < 1000000) (i : Nat) : (depsW v t (r.deps.take i)).length ≤ 1200 := by
 have h1 := depsW_len (v := v) (t := t) (l := r.deps.take i) ht fun d hd => (hm.names d (List.mem_of_mem_take hd)).2
 have h2 := hm.deps
 rw [List.length_take] at h1
 omega
def frontW (v : Int) (t : List B) (r : Rc) : B := 1 :: (textW v t r.target ++ vrn r.rule.toNat ++ vrn r.deps.length)
theorem frontW_len {v : Int} {t : List B} {r : Rc} (hm : MayR v r) (ht : t.length < 1000000) : (frontW v t r).length ≤ 90 := by
 unfold frontW
 have h1 := textW_len (v := v) (t := t) hm.t2 ht
 have h2 := u64_vrn r.rule
 have h3 : (vrn r.deps.length).length ≤ 10 := vrn_u64 (by have := hm.deps; omega)
 simp only [List.length_cons, List.length_append]
 omega
theorem lastW_trace {v : Int} {t : List B} {r : Rc} (hk : r.kind = 1) : lastW v t r = frontW v t r ++ depsW v t r.deps ++ endW v t r := by
 unfold lastW frontW
 rw [if_neg (by rw [hk]; decide)]
 simp
theorem lastW_gone {v : Int} {t : List B} {r : Rc} (hk : r.kind = 2) : lastW v t r = 2 :: textW v t r.target := by
 unfold lastW
 rw [if_pos hk]
theorem len_u64 {r : Rc} (h : r.deps.length ≤ 16) : IntKind.u64.wrap (((dpsA r.deps).length : Nat) : Int) = ((r.deps.length : Nat) : Int) := by
 rw [dpsA_length]
 show ((r.deps.length : Nat) : Int) % 18446744073709551616 = _
 omega
theorem goneR_kind {r : Rc} (h : r = goneR r) : r.kind = 2 := by rw [h]; rfl
theorem last_1 (r : Rc) (hm : MayR 1 r) {R} (h : R (.sl none 1 (byteEls (lastW 1 [] r))) [wO (lastW 1 [] r) (.ptr 1 0), tblF]) :
  ACalls Tryz.prog 198 [.ptr 0 0, vi 1, .agg r.enc] [wN (.ptr 1 0), tblF] R := by
 have hk := hm.kind.imp id goneR_kind
 have ht : ([] : List B).length < 1000000 := by simp
 have hF := frontW_len (v := 1) (t := []) hm ht
 have hD := depsW_take (v := 1) (t := []) hm ht
 have hsl := dpsA_length r.deps
 have hlu := len_u64 hm.deps
 have hd16 := hm.deps
 have hbl := blobP_len hm.t2
 have h2 := u64_vrn r.rule
 have ho := u64_vrn r.out
 have htx : textW 1 [] r.target = blobP r.target := by simp [textW]
 have hnm := hm.names
 have ht2 := hm.t2
 refine acalls_of_xwp (an := an198) tab_ok Tryz.func198 ?_
 rcases hk with hk | hk
 ·have e1 := lastW_trace (v := 1) (t := []) hk
  have eF : frontW 1 [] r = [1] ++ blobP r.target ++ vrn r.rule.toNat ++ vrn r.deps.length := by unfold frontW; rw [htx]; simp
  have eE : endW 1 [] r = vrn r.out.toNat := by simp [endW]
  rw [e1, eE] at h
  obtain ⟨k, tg, ru, ds, ou, we, ta⟩ := r
  dsimp only at hk hF hD hsl hlu hd16 hbl h2 ho hnm ht2 h htx eF
  subst hk
  conv => whnf
  refine blob_F [1] tg (by simp) (by omega) ?_
  conv => whnf
  refine number_F ([1] ++ blobP tg) ru.toNat ru.isLt (by simp; omega) ?_
  conv => whnf
  rw [hlu]
  refine number_F ([1] ++ blobP tg ++ vrn ru.toNat) ds.length (by omega) (by simp at h2 ⊢; omega) ?_
  rw [← eF]
  generalize frontW 1 [] (Rc.mk 1 tg ru ds ou we ta) = F at h hF eF ⊢
  conv => whnf
  refine LoopP.ind2 (fun (i : Nat) (b : B) => [(47, vi i)]) (fun i b => [(0, wO b (.ptr 1 0)), (1, tblF)]) (fun i _ => ds.length - i) (fun i b => i ≤ ds.length ∧ b = F ++ depsW 1 [] (ds.take i)) 0 F rfl ⟨by omega, by simp [depsW]⟩ ?_
  rintro i X ⟨h0, hX⟩ IH
  have hDi : X.length ≤ 1300 := by have := hD i; rw [hX, List.length_append]; omega
  conv => whnf
  refine br_intro (fun hc => ?_) (fun hc => ?_)
  ·have hc := lt_of_decE hsl hc
   have hn := hnm ds[i] (List.getElem_mem hc)
   have eS : X ++ blobP ds[i].name ++ vrn ds[i].hash.toNat = F ++ depsW 1 [] (ds.take (i + 1)) := by
    rw [depsW_snoc hc, hX]
    simp [depW, textW]
   have IH := IH (i + 1) _ ⟨hc, eS⟩ (by omega)
   have hbl2 := blobP_len hn.2
   (conv => whnf); (repeat ((with_reducible refine must_intro ?_ ?_); exact decide_eq_true (by omega); (conv => whnf)))
   refine idxK_map_intro (show (i : Int).toNat < ds.length by simpa using hc) ?_
   rw [show ds[(i : Int).toNat]'(by simpa using hc) = ds[i] from by congr 1]
   generalize ds[i] = d at IH hn hbl2 eS ⊢
   clear hX eS
   conv => whnf
   refine dep_1 X d (by omega) (by omega) ?_
   conv => whnf
   refine number_F (X ++ blobP d.name) d.hash.toNat d.hash.isLt (by rw [List.length_append]; omega) ?_
   conv => whnf
   rw [i64_nat (by omega)]
   exact IH
  ·have hc := ge_of_decE hsl hc
   have e : i = ds.length := by omega
   subst e
   rw [List.take_length] at hX
   rw [← hX] at h
   clear hX
   conv => whnf
   refine number_F X ou.toNat ou.isLt (by omega) ?_
   conv => whnf
   exact h
 ·have e1 := lastW_gone (v := 1) (t := []) hk
  rw [e1, htx] at h
  obtain ⟨k, tg, ru, ds, ou, we, ta⟩ := r
  dsimp only at hk hbl ht2 h
  subst hk
  conv => whnf
  refine blob_F [2] tg (by simp) (by omega) ?_
  conv => whnf
  exact h
theorem last_2 (r : Rc) (l : List B) (hm : MayR 2 r) (hl : l.length < 100000) (ht : r.target ∈ l) (hds : ∀ d ∈ r.deps, d.name ∈ l) (htg : r.tag ≠ [] → r.tag ∈ l) {R} (h : R (.sl none 1 (byteEls (lastW 2 l r))) [wO (lastW 2 l r) (.ptr 1 0), tblO 2 3 l, tblR l, tblM l]) :
  ACalls Tryz.prog 198 [.ptr 0 0, vi 2, .agg r.enc] [wN (.ptr 1 0), tblO 2 3 l, tblR l, tblM l] R := by
 have hk := hm.kind.imp id goneR_kind
 have hF := frontW_len (v := 2) (t := l) hm (by omega)
 have hD := depsW_take (v := 2) (t := l) hm (by omega)
 have hsl := dpsA_length r.deps
 have hlu := len_u64 hm.deps
 have hd16 := hm.deps
 have hbl : (vrn (l.idxOf r.target)).length ≤ 10 := vrn_u64 (by have := List.idxOf_le_length (a := r.target) (l := l); omega)
 have h2 := u64_vrn r.rule
 have ho := u64_vrn r.out
 have hw := u64_vrn r.wen
 have htx : textW 2 l r.target = vrn (l.idxOf r.target) := by simp [textW]
 have hnm := hm.names
 have ht2 := hm.t2
 refine acalls_of_xwp (an := an198) tab_ok Tryz.func198 ?_
 rcases hk with hk | hk
 ·have e1 := lastW_trace (v := 2) (t := l) hk
  have eF : frontW 2 l r = [1] ++ vrn (l.idxOf r.target) ++ vrn r.rule.toNat ++ vrn r.deps.length := by unfold frontW; rw [htx]; simp
  have eE : endW 2 l r = vrn r.out.toNat ++ vrn r.wen.toNat := by simp [endW]
  rw [e1, eE] at h
  obtain ⟨k, tg, ru, ds, ou, we, ta⟩ := r
  dsimp only at hk hF hD hsl hlu hd16 hbl h2 ho hw hnm ht2 h htx eF ht hds htg
  subst hk
  conv => whnf
  refine known_O [1] l tg ht (by omega) (by simp) ?_
  conv => whnf
  refine number_O ([1] ++ vrn (l.idxOf tg)) l ru.toNat ru.isLt (by simp; omega) ?_
  conv => whnf
  rw [hlu]
  refine number_O ([1] ++ vrn (l.idxOf tg) ++ vrn ru.toNat) l ds.length (by omega) (by simp at h2 ⊢; omega) ?_
  rw [← eF]
  generalize frontW 2 l (Rc.mk 1 tg ru ds ou we ta) = F at h hF eF ⊢
  conv => whnf
  refine LoopP.ind2 (fun (i : Nat) (b : B) => [(47, vi i)]) (fun i b => [(0, wO b (.ptr 1 0)), (1, tblO 2 3 l), (2, tblR l), (3, tblM l)]) (fun i _ => ds.length - i) (fun i b => i ≤ ds.length ∧ b = F ++ depsW 2 l (ds.take i)) 0 F rfl ⟨by omega, by simp [depsW]⟩ ?_
  rintro i X ⟨h0, hX⟩ IH
  have hDi : X.length ≤ 1300 := by have := hD i; rw [hX, List.length_append]; omega
  conv => whnf
  refine br_intro (fun hc => ?_) (fun hc => ?_)
  ·have hc := lt_of_decE hsl hc
   have hn := hnm ds[i] (List.getElem_mem hc)
   have hin := hds ds[i] (List.getElem_mem hc)
   have hdl : (vrn (l.idxOf ds[i].name)).length ≤ 10 := vrn_u64 (by have := List.idxOf_le_length (a := ds[i].name) (l := l); omega)
   have eS : X ++ vrn (l.idxOf ds[i].name) ++ vrn ds[i].hash.toNat = F ++ depsW 2 l (ds.take (i + 1)) := by
    rw [depsW_snoc hc, hX]
    simp [depW, textW]
   have IH := IH (i + 1) _ ⟨hc, eS⟩ (by omega)
   (conv => whnf); (repeat ((with_reducible refine must_intro ?_ ?_); exact decide_eq_true (by omega); (conv => whnf)))
   refine idxK_map_intro (show (i : Int).toNat < ds.length by simpa using hc) ?_
   rw [show ds[(i : Int).toNat]'(by simpa using hc) = ds[i] from by congr 1]
   generalize ds[i] = d at IH hn hin hdl eS ⊢
   clear hX eS
   conv => whnf
   refine dep_2 X l d hin (by omega) (by omega) ?_
   conv => whnf
   refine number_O (X ++ vrn (l.idxOf d.name)) l d.hash.toNat d.hash.isLt (by rw [List.length_append]; omega) ?_
   conv => whnf
   rw [i64_nat (by omega)]
   exact IH
  ·have hc := ge_of_decE hsl hc
   have e : i = ds.length := by omega
   subst e
   rw [List.take_length] at hX
   rw [← hX] at h
   clear hX
   simp only [← List.append_assoc] at h
   conv => whnf
   refine number_O X l ou.toNat ou.isLt (by omega) ?_
   conv => whnf
   refine number_O (X ++ vrn ou.toNat) l we.toNat we.isLt (by rw [List.length_append]; omega) ?_
   conv => whnf
   exact h
 ·have e1 := lastW_gone (v := 2) (t := l) hk
  rw [e1, htx] at h
  obtain ⟨k, tg, ru, ds, ou, we, ta⟩ := r
  dsimp only at hk hbl ht2 h ht
  subst hk
  conv => whnf
  refine known_O [2] l tg ht (by omega) (by simp) ?_
  conv => whnf
  exact h
theorem last_3 (r : Rc) (l : List B) (hm : MayR 3 r) (hl : l.length < 100000) (ht : r.target ∈ l) (hds : ∀ d ∈ r.deps, d.name ∈ l) (htg : r.tag ≠ [] → r.tag ∈ l) {R} (h : R (.sl none 1 (byteEls (lastW 3 l r))) [wO (lastW 3 l r) (.ptr 1 0), tblO 2 3 l, tblR l, tblM l]) :
  ACalls Tryz.prog 198 [.ptr 0 0, vi 3, .agg r.enc] [wN (.ptr 1 0), tblO 2 3 l, tblR l, tblM l] R := by
 have hk := hm.kind.imp id goneR_kind
 have hF := frontW_len (v := 3) (t := l) hm (by omega)
 have hD := depsW_take (v := 3) (t := l) hm (by omega)
 have hsl := dpsA_length r.deps
 have hlu := len_u64 hm.deps
 have hd16 := hm.deps
 have hbl : (vrn (l.idxOf r.target)).length ≤ 10 := vrn_u64 (by have := List.idxOf_le_length (a := r.target) (l := l); omega)
 have h2 := u64_vrn r.rule
 have ho := u64_vrn r.out
 have hw := u64_vrn r.wen
 have htx : textW 3 l r.target = vrn (l.idxOf r.target) := by simp [textW]
 have hnm := hm.names
 have ht2 := hm.t2
 refine acalls_of_xwp (an := an198) tab_ok Tryz.func198 ?_
 rcases hk with hk | hk
 ·have e1 := lastW_trace (v := 3) (t := l) hk
  have eF : frontW 3 l r = [1] ++ vrn (l.idxOf r.target) ++ vrn r.rule.toNat ++ vrn r.deps.length := by unfold frontW; rw [htx]; simp
  have eE : endW 3 l r = vrn r.out.toNat ++ vrn r.wen.toNat ++ tagW l r.tag := by simp [endW]
  rw [e1, eE] at h
  obtain ⟨k, tg, ru, ds, ou, we, ta⟩ := r
  dsimp only at hk hF hD hsl hlu hd16 hbl h2 ho hw hnm ht2 h htx eF ht hds htg
  subst hk
  conv => whnf
  refine known_O [1] l tg ht (by omega) (by simp) ?_
  conv => whnf
  refine number_O ([1] ++ vrn (l.idxOf tg)) l ru.toNat ru.isLt (by simp; omega) ?_
  conv => whnf
  rw [hlu]
  refine number_O ([1] ++ vrn (l.idxOf tg) ++ vrn ru.toNat) l ds.length (by omega) (by simp at h2 ⊢; omega) ?_
  rw [← eF]
  generalize frontW 3 l (Rc.mk 1 tg ru ds ou we ta) = F at h hF eF ⊢
  conv => whnf
  refine LoopP.ind2 (fun (i : Nat) (b : B) => [(47, vi i)]) (fun i b => [(0, wO b (.ptr 1 0)), (1, tblO 2 3 l), (2, tblR l), (3, tblM l)]) (fun i _ => ds.length - i) (fun i b => i ≤ ds.length ∧ b = F ++ depsW 3 l (ds.take i)) 0 F rfl ⟨by omega, by simp [depsW]⟩ ?_
  rintro i X ⟨h0, hX⟩ IH
  have hDi : X.length ≤ 1300 := by have := hD i; rw [hX, List.length_append]; omega
  conv => whnf
  refine br_intro (fun hc => ?_) (fun hc => ?_)
  ·have hc := lt_of_decE hsl hc
   have hn := hnm ds[i] (List.getElem_mem hc)
   have hin := hds ds[i] (List.getElem_mem hc)
   have hdl : (vrn (depN l ds[i])).length ≤ 10 := vrn_u64 (by have := List.idxOf_le_length (a := ds[i].name) (l := l); unfold depN; split <;> omega)
   have eS : X ++ vrn (depN l ds[i]) ++ vrn ds[i].hash.toNat = F ++ depsW 3 l (ds.take (i + 1)) := by
    rw [depsW_snoc hc, hX]
    simp [depW, textW]
   have IH := IH (i + 1) _ ⟨hc, eS⟩ (by omega)
   (conv => whnf); (repeat ((with_reducible refine must_intro ?_ ?_); exact decide_eq_true (by omega); (conv => whnf)))
   refine idxK_map_intro (show (i : Int).toNat < ds.length by simpa using hc) ?_
   rw [show ds[(i : Int).toNat]'(by simpa using hc) = ds[i] from by congr 1]
   generalize ds[i] = d at IH hn hin hdl eS ⊢
   clear hX eS
   conv => whnf
   refine dep_3 X l d hin (by omega) (by omega) ?_
   conv => whnf
   refine number_O (X ++ vrn (depN l d)) l d.hash.toNat d.hash.isLt (by rw [List.length_append]; omega) ?_
   conv => whnf
   rw [i64_nat (by omega)]
   exact IH
  ·have hc := ge_of_decE hsl hc
   have e : i = ds.length := by omega
   subst e
   rw [List.take_length] at hX
   rw [← hX] at h
   clear hX
   simp only [← List.append_assoc] at h
   conv => whnf
   refine number_O X l ou.toNat ou.isLt (by omega) ?_
   conv => whnf
   refine number_O (X ++ vrn ou.toNat) l we.toNat we.isLt (by rw [List.length_append]; omega) ?_
   conv => whnf
   refine tag_O (X ++ vrn ou.toNat ++ vrn we.toNat) l ta htg (by omega) (by rw [List.length_append, List.length_append]; omega) ?_
   conv => whnf
   exact h
 ·have e1 := lastW_gone (v := 3) (t := l) hk
  rw [e1, htx] at h
  obtain ⟨k, tg, ru, ds, ou, we, ta⟩ := r
  dsimp only at hk hbl ht2 h ht
  subst hk
  conv => whnf
  refine known_O [2] l tg ht (by omega) (by simp) ?_
  conv => whnf
  exact h
def rowsB (l : List B) : List (List AV) := l.map fun p => [.sl none 1 (byteEls p)]
theorem rowsB_length (l : List B) : (rowsB l).length = l.length := by simp [rowsB]
theorem rowsB_append (l m : List B) : rowsB (l ++ m) = rowsB l ++ rowsB m := by simp [rowsB]
theorem bytes_bytes : (tab.ti 151).bytes = 24 := rfl
theorem def_els (s : B) : [[AV.val (.int .u8 0)]] ++ byteEls s = byteEls (defP s) := rfl
theorem byteA_ofB (s : B) : byteA (ofB s) = byteEls s := by
 unfold byteA byteEls
 rw [show (ofB s).data.toList = s from bs_ofB s]
theorem skn_1 {R} (h : R (.val (.bool true)) []) : ACalls Tryz.prog 196 [vi 1] [] R := by
 refine acalls_of_xwp (an := an196) tab_ok Tryz.func196 ?_
 conv => whnf
 exact h
theorem skn_2 {R} (h : R (.val (.bool true)) []) : ACalls Tryz.prog 196 [vi 2] [] R := by
 refine acalls_of_xwp (an := an196) tab_ok Tryz.func196 ?_
 conv => whnf
 exact h
theorem skn_3 {R} (h : R (.val (.bool true)) []) : ACalls Tryz.prog 196 [vi 3] [] R := by
 refine acalls_of_xwp (an := an196) tab_ok Tryz.func196 ?_
 conv => whnf
 exact h
theorem sPut_1 (r : Rc) (hm : mayP 1 r = true) {R} (h : R (.tup [.sl none 1 (rowsB (payP 1 [] r)), vi 0]) [tblF]) : ACalls Tryz.prog 147 [vi 1, .ptr 0 0, .agg r.enc] [tblF] R := by
 have hM := may_all hm
 have e : payP 1 [] r = [lastW 1 [] r] := by simp [payP, defsP, addT]
 rw [e] at h
 have hd := hM.deps
 refine acalls_of_xwp (an := an147) tab_ok Tryz.func147 ?_
 conv => whnf
 refine skn_1 ?_
 conv => whnf
 refine May_calls 1 r (by omega) fun p hp => ?_
 rw [hm] at hp
 subst hp
 conv => whnf
 refine last_1 r hM ?_
 conv => whnf
 refine ⟨(by rw [bytes_bytes]; decide : 1 * ((tab.ti 151).bytes + 1) ≤ 140737488355328), ?_⟩
 conv => whnf
 exact h
theorem sNo_1F (r : Rc) (hd : r.deps.length < 100000) (hm : mayP 1 r = false) {R} (h : R (.tup [.val (.slice none 0 0), vi 1]) [tblF]) : ACalls Tryz.prog 147 [vi 1, .ptr 0 0, .agg r.enc] [tblF] R := by
 refine acalls_of_xwp (an := an147) tab_ok Tryz.func147 ?_
 conv => whnf
 refine skn_1 ?_
 conv => whnf
 refine May_calls 1 r hd fun p hp => ?_
 rw [hm] at hp
 subst hp
 conv => whnf
 exact h
theorem sNo_2F (r : Rc) (hd : r.deps.length < 100000) (hm : mayP 2 r = false) {R} (h : R (.tup [.val (.slice none 0 0), vi 1]) [tblF]) : ACalls Tryz.prog 147 [vi 2, .ptr 0 0, .agg r.enc] [tblF] R := by
 refine acalls_of_xwp (an := an147) tab_ok Tryz.func147 ?_
 conv => whnf
 refine skn_2 ?_
 conv => whnf
 refine May_calls 2 r hd fun p hp => ?_
 rw [hm] at hp
 subst hp
 conv => whnf
 exact h
theorem sNo_3F (r : Rc) (hd : r.deps.length < 100000) (hm : mayP 3 r = false) {R} (h : R (.tup [.val (.slice none 0 0), vi 1]) [tblF]) : ACalls Tryz.prog 147 [vi 3, .ptr 0 0, .agg r.enc] [tblF] R := by
 refine acalls_of_xwp (an := an147) tab_ok Tryz.func147 ?_
 conv => whnf
 refine skn_3 ?_
 conv => whnf
 refine May_calls 3 r hd fun p hp => ?_
 rw [hm] at hp
 subst hp
 conv => whnf
 exact h
theorem sNo_2O (r : Rc) (l : List B) (hd : r.deps.length < 100000) (hm : mayP 2 r = false) {R} (h : R (.tup [.val (.slice none 0 0), vi 1]) [tblO 1 2 l, tblR l, tblM l]) : ACalls Tryz.prog 147 [vi 2, .ptr 0 0, .agg r.enc] [tblO 1 2 l, tblR l, tblM l] R := by
 refine acalls_of_xwp (an := an147) tab_ok Tryz.func147 ?_
 conv => whnf
 refine skn_2 ?_
 conv => whnf
 refine May_calls 2 r hd fun p hp => ?_
 rw [hm] at hp
 subst hp
 conv => whnf
 exact h
theorem sNo_3O (r : Rc) (l : List B) (hd : r.deps.length < 100000) (hm : mayP 3 r = false) {R} (h : R (.tup [.val (.slice none 0 0), vi 1]) [tblO 1 2 l, tblR l, tblM l]) : ACalls Tryz.prog 147 [vi 3, .ptr 0 0, .agg r.enc] [tblO 1 2 l, tblR l, tblM l] R := by
 refine acalls_of_xwp (an := an147) tab_ok Tryz.func147 ?_
 conv => whnf
 refine skn_3 ?_
 conv => whnf
 refine May_calls 3 r hd fun p hp => ?_
 rw [hm] at hp
 subst hp
 conv => whnf
 exact h
theorem sPut_2O (r : Rc) (l : List B) (hl : l.length < 90000) (hm : mayP 2 r = true) {R} (h : R (.tup [.sl none 1 (rowsB (payP 2 l r)), vi 0]) [tblO 1 2 (addT 2 l r), tblR (addT 2 l r), tblM (addT 2 l r)]) : ACalls Tryz.prog 147 [vi 2, .ptr 0 0, .agg r.enc] [tblO 1 2 l, tblR l, tblM l] R := by
 have hM := may_all hm
 have hd := hM.deps
 have hml := namesR_len r
 have hT1 := addT_mem (v := 2) (by decide) l r (x := r.target) (by simp [textsR])
 have hT2 : ∀ d ∈ r.deps, d.name ∈ addT 2 l r := fun d hd => addT_mem (by decide) l r (List.mem_cons_of_mem _ (List.mem_append_left _ (List.mem_map_of_mem hd)))
 have hT3 : r.tag ≠ [] → r.tag ∈ addT 2 l r := fun e => addT_mem (by decide) l r (by simp [textsR, e])
 have hTl := addT_len 2 l r
 have eA : addT 2 l r = (namesR r).foldl tblP l := addT_more (by decide) l r
 have eP : payP 2 l r = (newsP l (namesR r)).map defP ++ [lastW 2 (addT 2 l r) r] := by simp [payP, defsP]
 rw [eP] at h
 have hne := namesR_ne r
 have h64 : ∀ s ∈ namesR r, s.length ≤ 64 := fun s hs => (textsR_lens hM s (tblN_mem.1 hs)).2
 generalize hmr : namesR r = m at h hml eA eP hne h64
 generalize addT 2 l r = T at h hT1 hT2 hT3 hTl eA eP
 refine acalls_of_xwp (an := an147) tab_ok Tryz.func147 ?_
 have hsl := strs_length m
 conv => whnf
 refine skn_2 ?_
 conv => whnf
 refine May_calls 2 r (by omega) fun p hp => ?_
 rw [hm] at hp
 subst hp
 conv => whnf
 refine rNames_calls r (by omega) ?_
 rw [hmr]
 conv => whnf
 refine LoopP.ind3 (fun (i : Nat) (t o : List B) => [(8, .sl (some (nameOf 8)) 1 (rowsB o)), (30, vi i)]) (fun i t o => [(0, tblO 1 2 t), (1, tblR t), (2, tblM t), (nameOf 8, .row 151 1 o.length)]) (fun i _ _ => m.length - i) (fun i t o => i ≤ m.length ∧ 0 ≤ i ∧ o ++ (newsP t (m.drop i)).map defP = (newsP l m).map defP ∧ (m.drop i).foldl tblP t = m.foldl tblP l ∧ o.length ≤ i ∧ t.length ≤ l.length + i) 0 l [] rfl ⟨by omega, by omega, by simp, by simp, by simp, by omega⟩ ?_
 rintro i t o ⟨h0, hi1, ho1, ho2, hl1, hl2⟩ IH
 have hol : o.length ≤ 60 := by omega
 have hrl := rowsB_length o
 conv => whnf
 refine br_intro (fun hc => ?_) (fun hc => ?_)
 ·have hc := lt_of_decE hsl hc
  have IH0 := IH (i + 1)
  clear IH
  rw [List.drop_eq_getElem_cons hc] at ho1 ho2
  rw [newsP] at ho1
  rw [List.foldl_cons] at ho2
  (conv => whnf); (repeat ((with_reducible refine must_intro ?_ ?_); exact decide_eq_true (by omega); (conv => whnf)))
  refine idxK_map_intro (show (i : Int).toNat < m.length by simpa using hc) ?_
  rw [show m[(i : Int).toNat]'(by simpa using hc) = m[i] from by congr 1]
  have h64s := h64 m[i] (List.getElem_mem hc)
  generalize m[i] = s at ho1 ho2 h64s ⊢
  have eB := byteA_ofB s
  have hsl2 := bel_length s
  by_cases hs : s ∈ t
  ·have IH := IH0 t o ⟨by omega, by omega, by rw [if_pos hs] at ho1; exact ho1, by rw [tblP_some hs] at ho2; exact ho2, by omega, by omega⟩ (by omega)
   conv => whnf
   refine ID_old t s hs fun j => ?_
   conv => whnf
   rw [i64_nat (by omega)]
   exact IH
  ·have IH := IH0 (t ++ [s]) (o ++ [defP s]) ⟨by omega, by omega, by rw [if_neg hs] at ho1; rw [← ho1]; simp, by rw [tblP_none hs] at ho2; exact ho2, by simp; omega, by simp; omega⟩ (by omega)
   rw [rowsB_append] at IH
   conv => whnf
   refine ID_more t s (by omega) hs fun j => ?_
   conv => whnf
   refine ⟨rfl, by rw [bel_bytes]; rw [eB]; simp only [List.length_append, hsl2, List.length_cons, List.length_nil]; omega, ?_⟩
   rw [eB, def_els]
   conv => whnf
   refine ⟨hrl.symm, by rw [hrl, bytes_bytes]; simp; omega, ?_⟩
   conv => whnf
   rw [i64_nat (by omega), hrl]
   rw [show (o ++ [defP s]).length = o.length + 1 by simp] at IH
   exact IH
 ·have hc := ge_of_decE hsl hc
  have e : i = m.length := by omega
  subst e
  rw [List.drop_length] at ho1 ho2
  rw [show newsP t [] = [] from rfl, List.map_nil, List.append_nil] at ho1
  rw [List.foldl_nil] at ho2
  rw [← eA] at ho2
  subst ho2
  rw [← ho1, rowsB_append] at h
  conv => whnf
  refine last_2 r t hM (by omega) hT1 hT2 hT3 ?_
  conv => whnf
  refine ⟨hrl.symm, by rw [hrl, bytes_bytes]; simp; omega, ?_⟩
  conv => whnf
  exact h
theorem sPut_2F (r : Rc) (hm : mayP 2 r = true) {R} (h : R (.tup [.sl none 1 (rowsB (payP 2 [] r)), vi 0]) [tblO 1 2 (addT 2 [] r), tblR (addT 2 [] r), tblM (addT 2 [] r)]) : ACalls Tryz.prog 147 [vi 2, .ptr 0 0, .agg r.enc] [tblF] R := by
 have hM := may_all hm
 have hd := hM.deps
 have hml := namesR_len r
 have hT1 := addT_mem (v := 2) (by decide) [] r (x := r.target) (by simp [textsR])
 have hT2 : ∀ d ∈ r.deps, d.name ∈ addT 2 [] r := fun d hd => addT_mem (by decide) [] r (List.mem_cons_of_mem _ (List.mem_append_left _ (List.mem_map_of_mem hd)))
 have hT3 : r.tag ≠ [] → r.tag ∈ addT 2 [] r := fun e => addT_mem (by decide) [] r (by simp [textsR, e])
 have hTl := addT_len 2 [] r
 have eA : addT 2 [] r = (namesR r).foldl tblP [] := addT_more (by decide) [] r
 have eP : payP 2 [] r = (newsP [] (namesR r)).map defP ++ [lastW 2 (addT 2 [] r) r] := by simp [payP, defsP]
 rw [eP] at h
 have hne := namesR_ne r
 have h64 : ∀ s ∈ namesR r, s.length ≤ 64 := fun s hs => (textsR_lens hM s (tblN_mem.1 hs)).2
 generalize hmr : namesR r = m at h hml eA eP hne h64
 generalize addT 2 [] r = T at h hT1 hT2 hT3 hTl eA eP
 refine acalls_of_xwp (an := an147) tab_ok Tryz.func147 ?_
 have hsl := strs_length m
 conv => whnf
 refine skn_2 ?_
 conv => whnf
 refine May_calls 2 r (by omega) fun p hp => ?_
 rw [hm] at hp
 subst hp
 conv => whnf
 refine rNames_calls r (by omega) ?_
 rw [hmr]
 conv => whnf
 obtain ⟨a, n, rfl⟩ := List.exists_cons_of_ne_nil hne
 refine LoopP.step ?_
 conv => whnf
 refine br_true (by rw [hsl]; simp <;> omega) ?_
 conv => whnf
 refine ID_new a ?_
 have eB := byteA_ofB a
 have hsl2 := bel_length a
 have ha64 := h64 a List.mem_cons_self
 conv => whnf
 refine ⟨rfl, by rw [bel_bytes]; rw [eB]; simp only [List.length_append, hsl2, List.length_cons, List.length_nil]; omega, ?_⟩
 rw [eB, def_els]
 conv => whnf
 refine ⟨rfl, by rw [bytes_bytes]; simp, ?_⟩
 conv => whnf
 refine LoopP.ind3 (fun (i : Nat) (t o : List B) => [(8, .sl (some (nameOf 8)) 1 (rowsB o)), (30, vi i)]) (fun i t o => [(0, tblO (freshN 37 0) (freshN 37 1) t), (nameOf 8, .row 151 1 o.length), (freshN 37 0, tblR t), (freshN 37 1, tblM t)]) (fun i _ _ => (a :: n).length - i) (fun i t o => i ≤ (a :: n).length ∧ 1 ≤ i ∧ o ++ (newsP t ((a :: n).drop i)).map defP = (newsP [] (a :: n)).map defP ∧ ((a :: n).drop i).foldl tblP t = (a :: n).foldl tblP [] ∧ o.length ≤ i ∧ t.length ≤ i) 1 [a] [defP a] rfl ⟨by simp, by omega, by simp [newsP], by simp [tblP], by simp, by simp⟩ ?_
 rintro i t o ⟨h0, hi1, ho1, ho2, hl1, hl2⟩ IH
 have hol : o.length ≤ 60 := by omega
 have hrl := rowsB_length o
 conv => whnf
 refine br_intro (fun hc => ?_) (fun hc => ?_)
 ·have hc := lt_of_decE hsl hc
  have IH0 := IH (i + 1)
  clear IH
  rw [List.drop_eq_getElem_cons hc] at ho1 ho2
  rw [newsP] at ho1
  rw [List.foldl_cons] at ho2
  (conv => whnf); (repeat ((with_reducible refine must_intro ?_ ?_); exact decide_eq_true (by omega); (conv => whnf)))
  refine idxK_map_intro (show (i : Int).toNat < (a :: n).length by simpa using hc) ?_
  rw [show (a :: n)[(i : Int).toNat]'(by simpa using hc) = (a :: n)[i] from by congr 1]
  have h64s := h64 (a :: n)[i] (List.getElem_mem hc)
  generalize (a :: n)[i] = s at ho1 ho2 h64s ⊢
  have eB := byteA_ofB s
  have hsl2 := bel_length s
  by_cases hs : s ∈ t
  ·have IH := IH0 t o ⟨by omega, by omega, by rw [if_pos hs] at ho1; exact ho1, by rw [tblP_some hs] at ho2; exact ho2, by omega, by omega⟩ (by omega)
   conv => whnf
   refine ID_old t s hs fun j => ?_
   conv => whnf
   rw [i64_nat (by omega)]
   exact IH
  ·have IH := IH0 (t ++ [s]) (o ++ [defP s]) ⟨by omega, by omega, by rw [if_neg hs] at ho1; rw [← ho1]; simp, by rw [tblP_none hs] at ho2; exact ho2, by simp; omega, by simp; omega⟩ (by omega)
   rw [rowsB_append] at IH
   conv => whnf
   refine ID_more t s (by omega) hs fun j => ?_
   conv => whnf
   refine ⟨rfl, by rw [bel_bytes]; rw [eB]; simp only [List.length_append, hsl2, List.length_cons, List.length_nil]; omega, ?_⟩
   rw [eB, def_els]
   conv => whnf
   refine ⟨hrl.symm, by rw [hrl, bytes_bytes]; simp; omega, ?_⟩
   conv => whnf
   rw [i64_nat (by omega), hrl]
   rw [show (o ++ [defP s]).length = o.length + 1 by simp] at IH
   exact IH
 ·have hc := ge_of_decE hsl hc
  have e : i = (a :: n).length := by omega
  subst e
  rw [List.drop_length] at ho1 ho2
  rw [show newsP t [] = [] from rfl, List.map_nil, List.append_nil] at ho1
  rw [List.foldl_nil] at ho2
  rw [← eA] at ho2
  subst ho2
  rw [← ho1, rowsB_append] at h
  conv => whnf
  refine last_2 r t hM (by omega) hT1 hT2 hT3 ?_
  conv => whnf
  refine ⟨hrl.symm, by rw [hrl, bytes_bytes]; simp; omega, ?_⟩
  conv => whnf
  exact h
theorem sPut_3O (r : Rc) (l : List B) (hl : l.length < 90000) (hm : mayP 3 r = true) {R} (h : R (.tup [.sl none 1 (rowsB (payP 3 l r)), vi 0]) [tblO 1 2 (addT 3 l r), tblR (addT 3 l r), tblM (addT 3 l r)]) : ACalls Tryz.prog 147 [vi 3, .ptr 0 0, .agg r.enc] [tblO 1 2 l, tblR l, tblM l] R := by
 have hM := may_all hm
 have hd := hM.deps
 have hml := namesR_len r
 have hT1 := addT_mem (v := 3) (by decide) l r (x := r.target) (by simp [textsR])
 have hT2 : ∀ d ∈ r.deps, d.name ∈ addT 3 l r := fun d hd => addT_mem (by decide) l r (List.mem_cons_of_mem _ (List.mem_append_left _ (List.mem_map_of_mem hd)))
 have hT3 : r.tag ≠ [] → r.tag ∈ addT 3 l r := fun e => addT_mem (by decide) l r (by simp [textsR, e])
 have hTl := addT_len 3 l r
 have eA : addT 3 l r = (namesR r).foldl tblP l := addT_more (by decide) l r
 have eP : payP 3 l r = (newsP l (namesR r)).map defP ++ [lastW 3 (addT 3 l r) r] := by simp [payP, defsP]
 rw [eP] at h
 have hne := namesR_ne r
 have h64 : ∀ s ∈ namesR r, s.length ≤ 64 := fun s hs => (textsR_lens hM s (tblN_mem.1 hs)).2
 generalize hmr : namesR r = m at h hml eA eP hne h64
 generalize addT 3 l r = T at h hT1 hT2 hT3 hTl eA eP
 refine acalls_of_xwp (an := an147) tab_ok Tryz.func147 ?_
 have hsl := strs_length m
 conv => whnf
 refine skn_3 ?_
 conv => whnf
 refine May_calls 3 r (by omega) fun p hp => ?_
 rw [hm] at hp
 subst hp
 conv => whnf
 refine rNames_calls r (by omega) ?_
 rw [hmr]
 conv => whnf
 refine LoopP.ind3 (fun (i : Nat) (t o : List B) => [(8, .sl (some (nameOf 8)) 1 (rowsB o)), (30, vi i)]) (fun i t o => [(0, tblO 1 2 t), (1, tblR t), (2, tblM t), (nameOf 8, .row 151 1 o.length)]) (fun i _ _ => m.length - i) (fun i t o => i ≤ m.length ∧ 0 ≤ i ∧ o ++ (newsP t (m.drop i)).map defP = (newsP l m).map defP ∧ (m.drop i).foldl tblP t = m.foldl tblP l ∧ o.length ≤ i ∧ t.length ≤ l.length + i) 0 l [] rfl ⟨by omega, by omega, by simp, by simp, by simp, by omega⟩ ?_
 rintro i t o ⟨h0, hi1, ho1, ho2, hl1, hl2⟩ IH
 have hol : o.length ≤ 60 := by omega
 have hrl := rowsB_length o
 conv => whnf
 refine br_intro (fun hc => ?_) (fun hc => ?_)
 ·have hc := lt_of_decE hsl hc
  have IH0 := IH (i + 1)
  clear IH
  rw [List.drop_eq_getElem_cons hc] at ho1 ho2
  rw [newsP] at ho1
  rw [List.foldl_cons] at ho2
  (conv => whnf); (repeat ((with_reducible refine must_intro ?_ ?_); exact decide_eq_true (by omega); (conv => whnf)))
  refine idxK_map_intro (show (i : Int).toNat < m.length by simpa using hc) ?_
  rw [show m[(i : Int).toNat]'(by simpa using hc) = m[i] from by congr 1]
  have h64s := h64 m[i] (List.getElem_mem hc)
  generalize m[i] = s at ho1 ho2 h64s ⊢
  have eB := byteA_ofB s
  have hsl2 := bel_length s
  by_cases hs : s ∈ t
  ·have IH := IH0 t o ⟨by omega, by omega, by rw [if_pos hs] at ho1; exact ho1, by rw [tblP_some hs] at ho2; exact ho2, by omega, by omega⟩ (by omega)
   conv => whnf
   refine ID_old t s hs fun j => ?_
   conv => whnf
   rw [i64_nat (by omega)]
   exact IH
  ·have IH := IH0 (t ++ [s]) (o ++ [defP s]) ⟨by omega, by omega, by rw [if_neg hs] at ho1; rw [← ho1]; simp, by rw [tblP_none hs] at ho2; exact ho2, by simp; omega, by simp; omega⟩ (by omega)
   rw [rowsB_append] at IH
   conv => whnf
   refine ID_more t s (by omega) hs fun j => ?_
   conv => whnf
   refine ⟨rfl, by rw [bel_bytes]; rw [eB]; simp only [List.length_append, hsl2, List.length_cons, List.length_nil]; omega, ?_⟩
   rw [eB, def_els]
   conv => whnf
   refine ⟨hrl.symm, by rw [hrl, bytes_bytes]; simp; omega, ?_⟩
   conv => whnf
   rw [i64_nat (by omega), hrl]
   rw [show (o ++ [defP s]).length = o.length + 1 by simp] at IH
   exact IH
 ·have hc := ge_of_decE hsl hc
  have e : i = m.length := by omega
  subst e
  rw [List.drop_length] at ho1 ho2
  rw [show newsP t [] = [] from rfl, List.map_nil, List.append_nil] at ho1
  rw [List.foldl_nil] at ho2
  rw [← eA] at ho2
  subst ho2
  rw [← ho1, rowsB_append] at h
  conv => whnf
  refine last_3 r t hM (by omega) hT1 hT2 hT3 ?_
  conv => whnf
  refine ⟨hrl.symm, by rw [hrl, bytes_bytes]; simp; omega, ?_⟩
  conv => whnf
  exact h
theorem sPut_3F (r : Rc) (hm : mayP 3 r = true) {R} (h : R (.tup [.sl none 1 (rowsB (payP 3 [] r)), vi 0]) [tblO 1 2 (addT 3 [] r), tblR (addT 3 [] r), tblM (addT 3 [] r)]) : ACalls Tryz.prog 147 [vi 3, .ptr 0 0, .agg r.enc] [tblF] R := by
 have hM := may_all hm
 have hd := hM.deps
 have hml := namesR_len r
 have hT1 := addT_mem (v := 3) (by decide) [] r (x := r.target) (by simp [textsR])
 have hT2 : ∀ d ∈ r.deps, d.name ∈ addT 3 [] r := fun d hd => addT_mem (by decide) [] r (List.mem_cons_of_mem _ (List.mem_append_left _ (List.mem_map_of_mem hd)))
 have hT3 : r.tag ≠ [] → r.tag ∈ addT 3 [] r := fun e => addT_mem (by decide) [] r (by simp [textsR, e])
 have hTl := addT_len 3 [] r
 have eA : addT 3 [] r = (namesR r).foldl tblP [] := addT_more (by decide) [] r
 have eP : payP 3 [] r = (newsP [] (namesR r)).map defP ++ [lastW 3 (addT 3 [] r) r] := by simp [payP, defsP]
 rw [eP] at h
 have hne := namesR_ne r
 have h64 : ∀ s ∈ namesR r, s.length ≤ 64 := fun s hs => (textsR_lens hM s (tblN_mem.1 hs)).2
 generalize hmr : namesR r = m at h hml eA eP hne h64
 generalize addT 3 [] r = T at h hT1 hT2 hT3 hTl eA eP
 refine acalls_of_xwp (an := an147) tab_ok Tryz.func147 ?_
 have hsl := strs_length m
 conv => whnf
 refine skn_3 ?_
 conv => whnf
 refine May_calls 3 r (by omega) fun p hp => ?_
 rw [hm] at hp
 subst hp
 conv => whnf
 refine rNames_calls r (by omega) ?_
 rw [hmr]
 conv => whnf
 obtain ⟨a, n, rfl⟩ := List.exists_cons_of_ne_nil hne
 refine LoopP.step ?_
 conv => whnf
 refine br_true (by rw [hsl]; simp <;> omega) ?_
 conv => whnf
 refine ID_new a ?_
 have eB := byteA_ofB a
 have hsl2 := bel_length a
 have ha64 := h64 a List.mem_cons_self
 conv => whnf
 refine ⟨rfl, by rw [bel_bytes]; rw [eB]; simp only [List.length_append, hsl2, List.length_cons, List.length_nil]; omega, ?_⟩
 rw [eB, def_els]
 conv => whnf
 refine ⟨rfl, by rw [bytes_bytes]; simp, ?_⟩
 conv => whnf
 refine LoopP.ind3 (fun (i : Nat) (t o : List B) => [(8, .sl (some (nameOf 8)) 1 (rowsB o)), (30, vi i)]) (fun i t o => [(0, tblO (freshN 37 0) (freshN 37 1) t), (nameOf 8, .row 151 1 o.length), (freshN 37 0, tblR t), (freshN 37 1, tblM t)]) (fun i _ _ => (a :: n).length - i) (fun i t o => i ≤ (a :: n).length ∧ 1 ≤ i ∧ o ++ (newsP t ((a :: n).drop i)).map defP = (newsP [] (a :: n)).map defP ∧ ((a :: n).drop i).foldl tblP t = (a :: n).foldl tblP [] ∧ o.length ≤ i ∧ t.length ≤ i) 1 [a] [defP a] rfl ⟨by simp, by omega, by simp [newsP], by simp [tblP], by simp, by simp⟩ ?_
 rintro i t o ⟨h0, hi1, ho1, ho2, hl1, hl2⟩ IH
 have hol : o.length ≤ 60 := by omega
 have hrl := rowsB_length o
 conv => whnf
 refine br_intro (fun hc => ?_) (fun hc => ?_)
 ·have hc := lt_of_decE hsl hc
  have IH0 := IH (i + 1)
  clear IH
  rw [List.drop_eq_getElem_cons hc] at ho1 ho2
  rw [newsP] at ho1
  rw [List.foldl_cons] at ho2
  (conv => whnf); (repeat ((with_reducible refine must_intro ?_ ?_); exact decide_eq_true (by omega); (conv => whnf)))
  refine idxK_map_intro (show (i : Int).toNat < (a :: n).length by simpa using hc) ?_
  rw [show (a :: n)[(i : Int).toNat]'(by simpa using hc) = (a :: n)[i] from by congr 1]
  have h64s := h64 (a :: n)[i] (List.getElem_mem hc)
  generalize (a :: n)[i] = s at ho1 ho2 h64s ⊢
  have eB := byteA_ofB s
  have hsl2 := bel_length s
  by_cases hs : s ∈ t
  ·have IH := IH0 t o ⟨by omega, by omega, by rw [if_pos hs] at ho1; exact ho1, by rw [tblP_some hs] at ho2; exact ho2, by omega, by omega⟩ (by omega)
   conv => whnf
   refine ID_old t s hs fun j => ?_
   conv => whnf
   rw [i64_nat (by omega)]
   exact IH
  ·have IH := IH0 (t ++ [s]) (o ++ [defP s]) ⟨by omega, by omega, by rw [if_neg hs] at ho1; rw [← ho1]; simp, by rw [tblP_none hs] at ho2; exact ho2, by simp; omega, by simp; omega⟩ (by omega)
   rw [rowsB_append] at IH
   conv => whnf
   refine ID_more t s (by omega) hs fun j => ?_
   conv => whnf
   refine ⟨rfl, by rw [bel_bytes]; rw [eB]; simp only [List.length_append, hsl2, List.length_cons, List.length_nil]; omega, ?_⟩
   rw [eB, def_els]
   conv => whnf
   refine ⟨hrl.symm, by rw [hrl, bytes_bytes]; simp; omega, ?_⟩
   conv => whnf
   rw [i64_nat (by omega), hrl]
   rw [show (o ++ [defP s]).length = o.length + 1 by simp] at IH
   exact IH
 ·have hc := ge_of_decE hsl hc
  have e : i = (a :: n).length := by omega
  subst e
  rw [List.drop_length] at ho1 ho2
  rw [show newsP t [] = [] from rfl, List.map_nil, List.append_nil] at ho1
  rw [List.foldl_nil] at ho2
  rw [← eA] at ho2
  subst ho2
  rw [← ho1, rowsB_append] at h
  conv => whnf
  refine last_3 r t hM (by omega) hT1 hT2 hT3 ?_
  conv => whnf
  refine ⟨hrl.symm, by rw [hrl, bytes_bytes]; simp; omega, ?_⟩
  conv => whnf
  exact h
theorem ne1 {v : Int} (hv : v = 2 ∨ v = 3) : v ≠ 1 := by omega
theorem sNo_vF {v : Int} (hv : v = 2 ∨ v = 3) (r : Rc) (hd : r.deps.length < 100000) (hm : mayP v r = false) {R} (h : R (.tup [.val (.slice none 0 0), vi 1]) [tblF]) : ACalls Tryz.prog 147 [vi v, .ptr 0 0, .agg r.enc] [tblF] R := by
 rcases hv with rfl | rfl
 ·exact sNo_2F r hd hm h
 ·exact sNo_3F r hd hm h
theorem sNo_vO {v : Int} (hv : v = 2 ∨ v = 3) (r : Rc) (l : List B) (hd : r.deps.length < 100000) (hm : mayP v r = false) {R} (h : R (.tup [.val (.slice none 0 0), vi 1]) [tblO 1 2 l, tblR l, tblM l]) : ACalls Tryz.prog 147 [vi v, .ptr 0 0, .agg r.enc] [tblO 1 2 l, tblR l, tblM l] R := by
 rcases hv with rfl | rfl
 ·exact sNo_2O r l hd hm h
 ·exact sNo_3O r l hd hm h
theorem sPut_vO {v : Int} (hv : v = 2 ∨ v = 3) (r : Rc) (l : List B) (hl : l.length < 90000) (hm : mayP v r = true) {R} (h : R (.tup [.sl none 1 (rowsB (payP v l r)), vi 0]) [tblO 1 2 (addT v l r), tblR (addT v l r), tblM (addT v l r)]) : ACalls Tryz.prog 147 [vi v, .ptr 0 0, .agg r.enc] [tblO 1 2 l, tblR l, tblM l] R := by
 rcases hv with rfl | rfl
 ·exact sPut_2O r l hl hm h
 ·exact sPut_3O r l hl hm h
theorem sPut_vF {v : Int} (hv : v = 2 ∨ v = 3) (r : Rc) (hm : mayP v r = true) {R} (h : R (.tup [.sl none 1 (rowsB (payP v [] r)), vi 0]) [tblO 1 2 (addT v [] r), tblR (addT v [] r), tblM (addT v [] r)]) : ACalls Tryz.prog 147 [vi v, .ptr 0 0, .agg r.enc] [tblF] R := by
 rcases hv with rfl | rfl
 ·exact sPut_2F r hm h
 ·exact sPut_3F r hm h
theorem placeI_mem {T : List B} {s : B} (h : s ∈ T) : placeI T s = ((T.idxOf s : Nat) : Int) := by
 have h1 : T[T.idxOf s]? = some s := by rw [List.getElem?_eq_getElem (List.idxOf_lt_length_of_mem h), List.getElem_idxOf]
 have h2 : ∀ j, j < T.idxOf s → T[j]? ≠ some s := fun j hj e => by
  obtain ⟨hl, e⟩ := List.getElem?_eq_some_iff.1 e
  have := List.not_of_lt_findIdx hj
  simp [e] at this
 unfold placeI
 rw [placeOf_of h1 h2]
theorem rPutT_calls (l : List B) (s : B) (hl : l.length < 1000000) {R} (h : R (.sl none 1 (strs (tblP l s))) []) : ACalls Tryz.prog 209 [.sl none 1 (strs l), vs s] [] R := by
 refine acalls_of_xwp (an := an209) tab_ok Tryz.func209 ?_
 have hsl := strs_length l
 conv => whnf
 refine Place_calls l s hl rfl fun p hp => ?_
 conv => whnf
 refine br_intro (fun g => ?_) (fun g => ?_)
 ·have hm : s ∈ l := by
   have : 0 ≤ p := by simpa using g
   rw [hp] at this
   exact Classical.byContradiction fun e => by have := placeI_neg.2 e; omega
  rw [tblP_some hm] at h
  conv => whnf
  exact h
 ·have hm : s ∉ l := by
   have : p < 0 := by simpa using g
   rw [hp] at this
   exact placeI_neg.1 this
  rw [tblP_none hm] at h
  conv => whnf
  refine ⟨rfl, (by rw [bytes_str, hsl]; simp only [List.length_nil]; omega), ?_⟩
  conv => whnf
  refine ⟨by simp, (by rw [bytes_str]; simp only [List.length_append, List.length_cons, List.length_nil, hsl]; omega), ?_⟩
  conv => whnf
  rw [show [] ++ strs l ++ [[AV.val (Value.string (ofB s))]] = strs (l ++ [s]) from by simp [strs, vs]]
  exact h
theorem tblN_calls (l : List B) (hl : l.length < 1000000) {R} (h : R (.sl none 1 (strs (tblN l))) []) : ACalls Tryz.prog 238 [.sl none 1 (strs l)] [] R := by
 refine acalls_of_xwp (an := an238) tab_ok Tryz.func238 ?_
 have hsl := strs_length l
 conv => whnf
 refine LoopP.ind2 (fun (i : Nat) (t : List B) => [(3, .sl none 1 (strs t)), (4, vi i)]) (fun i t => []) (fun i _ => l.length - i) (fun i t => i ≤ l.length ∧ t.length ≤ i ∧ t = tblN (l.take i)) 0 [] rfl ⟨by omega, by simp, rfl⟩ ?_
 rintro i t ⟨h0, h1, h2⟩ IH
 conv => whnf
 refine br_intro (fun hc => ?_) (fun hc => ?_)
 ·have hi := lt_of_decE hsl hc
  (conv => whnf); (repeat ((with_reducible refine must_intro ?_ ?_); exact decide_eq_true (by omega); (conv => whnf)))
  refine idxK_map_intro (show (i : Int).toNat < l.length by simpa using hi) ?_
  rw [show l[(i : Int).toNat]'(by simpa using hi) = l[i] from by congr 1]
  conv => whnf
  refine rPutT_calls t l[i] (by omega) ?_
  have hn : tblP t l[i] = tblN (l.take (i + 1)) := by
   rw [h2, List.take_succ_eq_append_getElem hi]
   unfold tblN
   rw [List.foldl_append]
   rfl
  have IH := IH (i + 1) (tblP t l[i]) ⟨hi, by have := tblP_len t l[i]; omega, hn⟩ (by omega)
  conv => whnf
  rw [i64_nat (by omega)]
  exact IH
 ·have hi := ge_of_decE hsl hc
  rw [List.take_of_length_le hi] at h2
  subst h2
  conv => whnf
  exact h
theorem refNames_calls (r : Rc) (hd : r.deps.length < 50000) {R} (h : R (.sl none 1 (strs (namesR r))) []) : ACalls Tryz.prog 207 [.agg r.enc] [] R := by
 refine acalls_of_xwp (an := an207) tab_ok Tryz.func207 ?_
 have hsl := dpsA_length r.deps
 have hN : namesR r = tblN (textsR r) := rfl
 conv => whnf
 refine LoopP.ind1 (fun (i : Nat) => [(3, .sl (some (nameOf 7)) 1 (strs (r.target :: (r.deps.take i).map (·.name)))), (4, vi i)]) (fun i => [(nameOf 7, .row 9 1 (i + 1))]) (fun i => r.deps.length - i) (fun i => i ≤ r.deps.length) 0 rfl (by omega) ?_
 rintro i h0 IH
 have hnl : (strs (r.target :: (r.deps.take i).map (·.name))).length = i + 1 := by rw [strs_length]; simp; omega
 conv => whnf
 refine br_intro (fun hc => ?_) (fun hc => ?_)
 ·have hc := lt_of_decE hsl hc
  have IH := IH (i + 1) hc (by omega)
  have e1 : strs (r.target :: (r.deps.take i).map (·.name)) ++ [[vs r.deps[i].name]] = strs (r.target :: (r.deps.take (i + 1)).map (·.name)) := by rw [← textsR_take r i hc, strs_append]; rfl
  rw [← e1] at IH
  (conv => whnf); (repeat ((with_reducible refine must_intro ?_ ?_); exact decide_eq_true (by omega); (conv => whnf)))
  refine idxK_map_intro (show (i : Int).toNat < r.deps.length by simpa using hc) ?_
  rw [show r.deps[(i : Int).toNat]'(by simpa using hc) = r.deps[i] from by congr 1]
  generalize r.deps[i] = d at IH e1 ⊢
  conv => whnf
  refine ⟨hnl.symm, by rw [hnl, bytes_str]; simp; omega, ?_⟩
  conv => whnf
  rw [i64_nat (by omega), hnl]
  exact IH
 ·have hc := ge_of_decE hsl hc
  have e : i = r.deps.length := by omega
  subst e
  rw [List.take_length] at hnl ⊢
  have hdl : (r.deps.map (·.name)).length = r.deps.length := by simp
  conv => whnf
  refine br_intro (fun g => ?_) (fun g => ?_)
  ·have g : r.tag ≠ [] := by
    have g : (!decide (ofB r.tag = ofB [])) = true := g
    intro e
    rw [e] at g
    simp at g
   have hT : textsR r = r.target :: (r.deps.map (·.name) ++ [r.tag]) := by simp [textsR, g]
   have e1 : strs (r.target :: r.deps.map (·.name)) ++ [[vs r.tag]] = strs (textsR r) := by
    rw [hT, ← List.cons_append, strs_append]; rfl
   have htl := textsR_len r
   conv => whnf
   refine ⟨hnl.symm, by rw [hnl, bytes_str]; simp; omega, ?_⟩
   conv => whnf
   refine (show ACalls Tryz.prog 238 [.sl none 1 (strs (r.target :: r.deps.map (·.name)) ++ [[vs r.tag]])] [] _ from ?_)
   rw [e1]
   refine tblN_calls (textsR r) (by omega) ?_
   conv => whnf
   exact h
  ·have g : r.tag = [] := by
    have g : (!decide (ofB r.tag = ofB [])) = false := g
    have g : ofB r.tag = ofB [] := by simpa using g
    exact ofB_inj g
   have hT : textsR r = r.target :: r.deps.map (·.name) := by simp [textsR, g]
   rw [← hT]
   have htl := textsR_len r
   conv => whnf
   refine tblN_calls (textsR r) (by omega) ?_
   conv => whnf
   exact h
theorem refText_calls {v : Int} (T : List B) (hT : T.length < 1000000) (s : B) (hs : v ≠ 1 → s ∈ T) (hl : s.length < 1000000) {R} (h : R (vs (textW v T s)) []) : ACalls Tryz.prog 211 [vi v, .sl none 1 (strs T), vs s] [] R := by
 refine acalls_of_xwp (an := an211) tab_ok Tryz.func211 ?_
 unfold textW at h
 by_cases hv : v = 1
 ·subst hv
  rw [if_pos rfl] at h
  conv => whnf
  refine ref2Put_calls s (by omega) ?_
  conv => whnf
  exact h
 ·rw [if_neg hv] at h
  have hi := List.idxOf_lt_length_of_mem (hs hv)
  conv => whnf
  refine br_false (by simpa using hv) ?_
  conv => whnf
  refine Place_calls T s hT rfl fun p hp => ?_
  rw [placeI_mem (hs hv)] at hp
  subst hp
  conv => whnf
  rw [u64_n (by omega)]
  refine ref1Put_calls _ (by omega) ?_
  conv => whnf
  exact h
theorem wz0 (n : U) : ((n.toNat : Int) == 0) = decide (n = 0) := by
 by_cases e : n = 0
 ·simp [e]
 ·have : n.toNat ≠ 0 := fun x => e (BitVec.eq_of_toNat_eq (by simpa using x))
  rw [decide_eq_false e]; simp; omega
theorem wz1 (n : U) : ((n.toNat : Int) != 0) = decide (n ≠ 0) := by
 show (!((n.toNat : Int) == 0)) = _
 rw [wz0]; by_cases e : n = 0 <;> simp [e]
theorem dz0 (l : List Dp) : ((((dpsA l).length : Nat) : Int) == 0) = decide (l = []) := by
 rw [dpsA_length]
 cases l with
 | nil => rfl
 | cons a l => simp; omega
def preN (r : Rc) (i : Nat) : List B := r.target :: (r.deps.take i).map (·.name)
theorem preN_mem (r : Rc) {i : Nat} (hi : i ≤ r.deps.length) (s : B) : s ∉ preN r i ↔ s ≠ r.target ∧ ∀ (j : Nat) (hj : j < r.deps.length), j < i → r.deps[j].name ≠ s := by
 unfold preN
 simp only [List.mem_cons, List.mem_map, not_or, not_exists, not_and]
 refine and_congr Iff.rfl ⟨fun h j hj hji e => h r.deps[j] ?_ e, fun h d hd e => ?_⟩
 ·have : (r.deps.take i)[j]'(by simp; omega) = r.deps[j] := by simp
  rw [← this]; exact List.getElem_mem _
 ·obtain ⟨j, hj, rfl⟩ := List.getElem_of_mem hd
  simp only [List.length_take] at hj
  rw [List.getElem_take] at e
  exact h j (by omega) (by omega) e
theorem preN_succ (r : Rc) {i : Nat} (hi : i < r.deps.length) : preN r (i + 1) = preN r i ++ [r.deps[i].name] := by
 unfold preN
 rw [List.take_succ_eq_append_getElem hi, List.map_append, List.cons_append]
 rfl
theorem refMay_calls (v : Int) (r : Rc) (hd : r.deps.length < 100000) {R} (h : ∀ p, p = mayP v r → R (.val (.bool p)) []) : ACalls Tryz.prog 41 [vi v, .agg r.enc] [] R := by
 refine acalls_of_xwp (an := an41) tab_ok Tryz.func41 ?_
 have hst := size_ofB r.tag
 have hsl := dpsA_length r.deps
 conv => whnf
 refine br_intro (fun g1 => ?_) (fun g1 => ?_)
 ·conv => whnf
  exact h false (by rw [mayP, if_pos (by rw [g1]; rfl)])
 conv => whnf
 refine br_intro (fun g2 => ?_) (fun g2 => ?_)
 ·have g2 : 3 < v := by simpa using g2
  conv => whnf
  exact h false (by rw [mayP, if_pos (by rw [g1, decide_eq_true g2]; rfl)])
 have g2 : ¬ 3 < v := by simpa using g2
 have g1' : ¬ v < 1 := by simpa using g1
 conv => whnf
 refine refName_calls r.target ?_
 conv => whnf
 refine br_intro (fun g3 => ?_) (fun g3 => ?_)
 ·conv => whnf
  exact h false (by rw [mayP, if_pos (by rw [g3]; simp)])
 have hm : mayP v r = if r.kind = 1 then !earlyP v r && (decide (r.tag.length ≤ 64) && depsP v r) else if r.kind = 2 then decide (r = goneR r) else false := by
  rw [mayP, if_neg (by rw [g1, decide_eq_false g2, g3]; simp)]
 conv => whnf
 refine br_intro (fun k2 => ?_) (fun k2 => ?_)
 ·have k2 : r.kind = 2 := by simpa using k2
  have hm2 : mayP v r = (decide (r.rule = 0) && (decide (r.deps = []) && (decide (r.out = 0) && (decide (r.wen = 0) && decide (r.tag = []))))) := by
   rw [hm, if_neg (by rw [k2]; decide), if_pos k2]
   have : (r = goneR r) ↔ (r.rule = 0 ∧ r.deps = [] ∧ r.out = 0 ∧ r.wen = 0 ∧ r.tag = []) := by
    constructor
    ·intro e
     have := congrArg Rc.rule e
     have := congrArg Rc.deps e
     have := congrArg Rc.out e
     have := congrArg Rc.wen e
     have := congrArg Rc.tag e
     simp only [goneR] at *
     refine ⟨?_, ?_, ?_, ?_, ?_⟩ <;> assumption
    ·rintro ⟨h1, h2, h3, h4, h5⟩
     cases r
     simp only [goneR] at *
     subst k2 h1 h2 h3 h4 h5
     rfl
   by_cases e : r = goneR r
   ·obtain ⟨a1, a2, a3, a4, a5⟩ := this.1 e
    rw [decide_eq_true e, decide_eq_true a1, decide_eq_true a2, decide_eq_true a3, decide_eq_true a4, decide_eq_true a5]; rfl
   ·rw [decide_eq_false e]
    refine (Bool.eq_false_iff.2 fun hx => e (this.2 ?_)).symm
    simpa using hx
  clear hm
  conv => whnf
  rw [wz0]
  refine br_intro (fun e1 => ?_) (fun e1 => ?_)
  ·rw [e1, Bool.true_and] at hm2
   conv => whnf
   rw [dz0]
   refine br_intro (fun e2 => ?_) (fun e2 => ?_)
   ·rw [e2, Bool.true_and] at hm2
    conv => whnf
    rw [wz0]
    refine br_intro (fun e3 => ?_) (fun e3 => ?_)
    ·rw [e3, Bool.true_and] at hm2
     conv => whnf
     rw [wz0]
     refine br_intro (fun e4 => ?_) (fun e4 => ?_)
     ·rw [e4, Bool.true_and] at hm2
      conv => whnf
      refine h _ ?_
      rw [hm2]
      exact decide_eq_decide.2 ⟨fun e => ofB_inj e, fun e => by rw [e]; rfl⟩
     ·conv => whnf
      exact h false (by rw [hm2, e4]; rfl)
    ·conv => whnf
     exact h false (by rw [hm2, e3]; rfl)
   ·conv => whnf
    exact h false (by rw [hm2, e2]; rfl)
  ·conv => whnf
   exact h false (by rw [hm2, e1]; rfl)
 have k2 : ¬ r.kind = 2 := by simpa using k2
 rw [if_neg k2] at hm
 conv => whnf
 refine br_intro (fun k1 => ?_) (fun k1 => ?_)
 ·have k1 : ¬ r.kind = 1 := by simpa using k1
  conv => whnf
  exact h false (by rw [hm, if_neg k1])
 have k1 : r.kind = 1 := by simpa using k1
 rw [if_pos k1] at hm
 conv => whnf
 rw [hsl]
 refine br_intro (fun q1 => ?_) (fun q1 => ?_)
 ·have hbad : decide (r.deps.length ≤ 16) = false := by simp at q1 ⊢; omega
  conv => whnf
  exact h false (by rw [hm, depsP, hbad]; simp)
 have hdl : decide (r.deps.length ≤ 16) = true := by simp at q1 ⊢; omega
 conv => whnf
 rw [hst]
 refine br_intro (fun q2 => ?_) (fun q2 => ?_)
 ·have hbad : decide (r.tag.length ≤ 64) = false := by simp at q2 ⊢; omega
  conv => whnf
  exact h false (by rw [hm, hbad]; simp)
 have htl : decide (r.tag.length ≤ 64) = true := by simp at q2 ⊢; omega
 rw [htl, Bool.true_and, depsP, hdl, Bool.and_true] at hm
 have hv12 : v = 1 ↔ v < 2 := by omega
 conv => whnf
 refine br_intro (fun v1 => ?_) (fun v1 => ?_)
 ·have v1 : v = 1 := by simpa using v1
  have e1 : decide (v < 2) = true := decide_eq_true (by omega)
  have e3 : decide (v < 3) = true := decide_eq_true (by omega)
  conv => whnf
  rw [wz1]
  refine br_intro (fun w1 => ?_) (fun w1 => ?_)
  ·conv => whnf
   exact h false (by rw [hm, earlyP, e1, w1]; rfl)
  ·conv => whnf
   refine br_true e3 ?_
   conv => whnf
   refine br_intro (fun t1 => ?_) (fun t1 => ?_)
   ·have t1 : r.tag ≠ [] := by intro e; rw [e] at t1; simp [ofB] at t1
    have t1 : decide (r.tag ≠ []) = true := decide_eq_true t1
    conv => whnf
    exact h false (by rw [hm, earlyP, e3, t1]; simp)
   ·have t1 : r.tag = [] := by
     have : ofB r.tag = { data := #[] } := by simpa using t1
     exact ofB_inj (this.trans nilB.symm)
    have he : earlyP v r = false := by rw [earlyP, w1, t1]; simp
    rw [he, Bool.not_false, Bool.true_and] at hm
    rw [hm] at h
    conv => whnf
    refine LoopP.ind1 (fun (i : Nat) => [(5, vi i)]) (fun _ => []) (fun i => r.deps.length - i) (fun i => i ≤ r.deps.length ∧ depsGo v (r.deps.drop i) (preN r i) = depsGo v r.deps [r.target]) 0 rfl ⟨by omega, rfl⟩ ?_
    rintro i ⟨h0, hD⟩ IH
    conv => whnf
    refine br_intro (fun hc => ?_) (fun hc => ?_)
    ·have hc := lt_of_decE hsl hc
     have hIH := IH (i + 1)
     clear IH
     rw [List.drop_eq_getElem_cons hc, depsGo] at hD
     rw [preN_succ r hc] at hIH
     have hmem := preN_mem r h0 r.deps[i].name
     (conv => whnf); (repeat ((with_reducible refine must_intro ?_ ?_); exact decide_eq_true (by omega); (conv => whnf)))
     refine idxK_map_intro (show (i : Int).toNat < r.deps.length by simpa using hc) ?_
     rw [show r.deps[(i : Int).toNat]'(by simpa using hc) = r.deps[i] from by congr 1]
     generalize r.deps[i] = d at hD hIH hmem ⊢
     conv => whnf
     refine refName_calls d.name ?_
     conv => whnf
     refine br_intro (fun n1 => ?_) (fun n1 => ?_)
     ·have n1 : nameOk d.name = false := by simpa using n1
      conv => whnf
      exact h false (by rw [← hD, n1]; rfl)
     have n1 : nameOk d.name = true := by simpa using n1
     rw [n1, Bool.true_and] at hD
     conv => whnf
     refine br_intro (fun n2 => ?_) (fun n2 => ?_)
     ·have n2 : d.name = r.target := by simpa [ofB_eq] using n2
      have hb : decide (d.name ∉ preN r i) = false := decide_eq_false fun hx => (hmem.1 hx).1 n2
      conv => whnf
      exact h false (by rw [← hD, hb]; rfl)
     have n2 : d.name ≠ r.target := by simpa [ofB_eq] using n2
     conv => whnf
     refine br_intro (fun o1 => ?_) (fun o1 => ?_)
     ·rw [o1, Bool.true_and] at hD
      conv => whnf
      refine br_intro (fun o2 => ?_) (fun o2 => ?_)
      ·rw [o2] at hD
       conv => whnf
       exact h false (by rw [← hD]; simp)
      ·rw [o2, Bool.not_false, Bool.true_and] at hD
       conv => whnf
       refine LoopP.ind1 (fun (k : Nat) => [(7, vi k)]) (fun _ => []) (fun k => i - k) (fun k => k ≤ i ∧ ∀ (j : Nat) (hj : j < r.deps.length), j < k → r.deps[j].name ≠ d.name) 0 rfl ⟨by omega, fun j hj h => by omega⟩ ?_
       rintro k ⟨hk0, hk1⟩ IH2
       conv => whnf
       refine br_intro (fun hk => ?_) (fun hk => ?_)
       ·have hk : k < i := by simp at hk; omega
        have hkl : k < r.deps.length := by omega
        (conv => whnf); (repeat ((with_reducible refine must_intro ?_ ?_); exact decide_eq_true (by omega); (conv => whnf)))
        refine idxK_map_intro (show (k : Int).toNat < r.deps.length by simpa using hkl) ?_
        rw [show r.deps[(k : Int).toNat]'(by simpa using hkl) = r.deps[k] from by congr 1]
        conv => whnf
        refine br_intro (fun q => ?_) (fun q => ?_)
        ·have q : r.deps[k].name = d.name := by simpa [ofB_eq] using q
         have hb : decide (d.name ∉ preN r i) = false := decide_eq_false fun hx => (hmem.1 hx).2 k hkl hk q
         conv => whnf
         exact h false (by rw [← hD, hb]; rfl)
        ·have q : r.deps[k].name ≠ d.name := by simpa [ofB_eq] using q
         have IH3 := IH2 (k + 1) ⟨by omega, fun j hj hjk => (Nat.lt_succ_iff_lt_or_eq.1 hjk).elim (fun e => hk1 j hj e) (fun e => by subst e; exact q)⟩ (by omega)
         conv => whnf
         rw [i64_nat (by omega)]
         exact IH3
       ·have hk : k = i := by simp at hk; omega
        have hb : decide (d.name ∉ preN r i) = true := decide_eq_true (hmem.2 ⟨n2, fun j hj hji => hk1 j hj (by omega)⟩)
        rw [hb, Bool.true_and] at hD
        conv => whnf
        rw [i64_nat (by omega)]
        exact hIH ⟨by omega, hD⟩ (by omega)
     ·rw [o1, Bool.false_and, Bool.not_false, Bool.true_and] at hD
      conv => whnf
      refine LoopP.ind1 (fun (k : Nat) => [(7, vi k)]) (fun _ => []) (fun k => i - k) (fun k => k ≤ i ∧ ∀ (j : Nat) (hj : j < r.deps.length), j < k → r.deps[j].name ≠ d.name) 0 rfl ⟨by omega, fun j hj h => by omega⟩ ?_
      rintro k ⟨hk0, hk1⟩ IH2
      conv => whnf
      refine br_intro (fun hk => ?_) (fun hk => ?_)
      ·have hk : k < i := by simp at hk; omega
       have hkl : k < r.deps.length := by omega
       (conv => whnf); (repeat ((with_reducible refine must_intro ?_ ?_); exact decide_eq_true (by omega); (conv => whnf)))
       refine idxK_map_intro (show (k : Int).toNat < r.deps.length by simpa using hkl) ?_
       rw [show r.deps[(k : Int).toNat]'(by simpa using hkl) = r.deps[k] from by congr 1]
       conv => whnf
       refine br_intro (fun q => ?_) (fun q => ?_)
       ·have q : r.deps[k].name = d.name := by simpa [ofB_eq] using q
        have hb : decide (d.name ∉ preN r i) = false := decide_eq_false fun hx => (hmem.1 hx).2 k hkl hk q
        conv => whnf
        exact h false (by rw [← hD, hb]; rfl)
       ·have q : r.deps[k].name ≠ d.name := by simpa [ofB_eq] using q
        have IH3 := IH2 (k + 1) ⟨by omega, fun j hj hjk => (Nat.lt_succ_iff_lt_or_eq.1 hjk).elim (fun e => hk1 j hj e) (fun e => by subst e; exact q)⟩ (by omega)
        conv => whnf
        rw [i64_nat (by omega)]
        exact IH3
      ·have hk : k = i := by simp at hk; omega
       have hb : decide (d.name ∉ preN r i) = true := decide_eq_true (hmem.2 ⟨n2, fun j hj hji => hk1 j hj (by omega)⟩)
       rw [hb, Bool.true_and] at hD
       conv => whnf
       rw [i64_nat (by omega)]
       exact hIH ⟨by omega, hD⟩ (by omega)
    ·have hc := ge_of_decE hsl hc
     rw [List.drop_eq_nil_of_le hc, depsGo] at hD
     conv => whnf
     exact h true hD
 ·have v1 : ¬ v = 1 := by simpa using v1
  have e1 : decide (v < 2) = false := decide_eq_false (by omega)
  conv => whnf
  refine br_intro (fun e3 => ?_) (fun e3 => ?_)
  ·conv => whnf
   refine br_intro (fun t1 => ?_) (fun t1 => ?_)
   ·have t1 : r.tag ≠ [] := by intro e; rw [e] at t1; simp [ofB] at t1
    have t1 : decide (r.tag ≠ []) = true := decide_eq_true t1
    conv => whnf
    exact h false (by rw [hm, earlyP, e3, t1]; simp)
   ·have t1 : r.tag = [] := by
     have : ofB r.tag = { data := #[] } := by simpa using t1
     exact ofB_inj (this.trans nilB.symm)
    have he : earlyP v r = false := by rw [earlyP, e1, t1]; simp
    rw [he, Bool.not_false, Bool.true_and] at hm
    rw [hm] at h
    conv => whnf
    refine LoopP.ind1 (fun (i : Nat) => [(5, vi i)]) (fun _ => []) (fun i => r.deps.length - i) (fun i => i ≤ r.deps.length ∧ depsGo v (r.deps.drop i) (preN r i) = depsGo v r.deps [r.target]) 0 rfl ⟨by omega, rfl⟩ ?_
    rintro i ⟨h0, hD⟩ IH
    conv => whnf
    refine br_intro (fun hc => ?_) (fun hc => ?_)
    ·have hc := lt_of_decE hsl hc
     have hIH := IH (i + 1)
     clear IH
     rw [List.drop_eq_getElem_cons hc, depsGo] at hD
     rw [preN_succ r hc] at hIH
     have hmem := preN_mem r h0 r.deps[i].name
     (conv => whnf); (repeat ((with_reducible refine must_intro ?_ ?_); exact decide_eq_true (by omega); (conv => whnf)))
     refine idxK_map_intro (show (i : Int).toNat < r.deps.length by simpa using hc) ?_
     rw [show r.deps[(i : Int).toNat]'(by simpa using hc) = r.deps[i] from by congr 1]
     generalize r.deps[i] = d at hD hIH hmem ⊢
     conv => whnf
     refine refName_calls d.name ?_
     conv => whnf
     refine br_intro (fun n1 => ?_) (fun n1 => ?_)
     ·have n1 : nameOk d.name = false := by simpa using n1
      conv => whnf
      exact h false (by rw [← hD, n1]; rfl)
     have n1 : nameOk d.name = true := by simpa using n1
     rw [n1, Bool.true_and] at hD
     conv => whnf
     refine br_intro (fun n2 => ?_) (fun n2 => ?_)
     ·have n2 : d.name = r.target := by simpa [ofB_eq] using n2
      have hb : decide (d.name ∉ preN r i) = false := decide_eq_false fun hx => (hmem.1 hx).1 n2
      conv => whnf
      exact h false (by rw [← hD, hb]; rfl)
     have n2 : d.name ≠ r.target := by simpa [ofB_eq] using n2
     conv => whnf
     refine br_intro (fun o1 => ?_) (fun o1 => ?_)
     ·rw [o1, Bool.true_and] at hD
      conv => whnf
      refine br_intro (fun o2 => ?_) (fun o2 => ?_)
      ·rw [o2] at hD
       conv => whnf
       exact h false (by rw [← hD]; simp)
      ·rw [o2, Bool.not_false, Bool.true_and] at hD
       conv => whnf
       refine LoopP.ind1 (fun (k : Nat) => [(7, vi k)]) (fun _ => []) (fun k => i - k) (fun k => k ≤ i ∧ ∀ (j : Nat) (hj : j < r.deps.length), j < k → r.deps[j].name ≠ d.name) 0 rfl ⟨by omega, fun j hj h => by omega⟩ ?_
       rintro k ⟨hk0, hk1⟩ IH2
       conv => whnf
       refine br_intro (fun hk => ?_) (fun hk => ?_)
       ·have hk : k < i := by simp at hk; omega
        have hkl : k < r.deps.length := by omega
        (conv => whnf); (repeat ((with_reducible refine must_intro ?_ ?_); exact decide_eq_true (by omega); (conv => whnf)))
        refine idxK_map_intro (show (k : Int).toNat < r.deps.length by simpa using hkl) ?_
        rw [show r.deps[(k : Int).toNat]'(by simpa using hkl) = r.deps[k] from by congr 1]
        conv => whnf
        refine br_intro (fun q => ?_) (fun q => ?_)
        ·have q : r.deps[k].name = d.name := by simpa [ofB_eq] using q
         have hb : decide (d.name ∉ preN r i) = false := decide_eq_false fun hx => (hmem.1 hx).2 k hkl hk q
         conv => whnf
         exact h false (by rw [← hD, hb]; rfl)
        ·have q : r.deps[k].name ≠ d.name := by simpa [ofB_eq] using q
         have IH3 := IH2 (k + 1) ⟨by omega, fun j hj hjk => (Nat.lt_succ_iff_lt_or_eq.1 hjk).elim (fun e => hk1 j hj e) (fun e => by subst e; exact q)⟩ (by omega)
         conv => whnf
         rw [i64_nat (by omega)]
         exact IH3
       ·have hk : k = i := by simp at hk; omega
        have hb : decide (d.name ∉ preN r i) = true := decide_eq_true (hmem.2 ⟨n2, fun j hj hji => hk1 j hj (by omega)⟩)
        rw [hb, Bool.true_and] at hD
        conv => whnf
        rw [i64_nat (by omega)]
        exact hIH ⟨by omega, hD⟩ (by omega)
     ·rw [o1, Bool.false_and, Bool.not_false, Bool.true_and] at hD
      conv => whnf
      refine LoopP.ind1 (fun (k : Nat) => [(7, vi k)]) (fun _ => []) (fun k => i - k) (fun k => k ≤ i ∧ ∀ (j : Nat) (hj : j < r.deps.length), j < k → r.deps[j].name ≠ d.name) 0 rfl ⟨by omega, fun j hj h => by omega⟩ ?_
      rintro k ⟨hk0, hk1⟩ IH2
      conv => whnf
      refine br_intro (fun hk => ?_) (fun hk => ?_)
      ·have hk : k < i := by simp at hk; omega
       have hkl : k < r.deps.length := by omega
       (conv => whnf); (repeat ((with_reducible refine must_intro ?_ ?_); exact decide_eq_true (by omega); (conv => whnf)))
       refine idxK_map_intro (show (k : Int).toNat < r.deps.length by simpa using hkl) ?_
       rw [show r.deps[(k : Int).toNat]'(by simpa using hkl) = r.deps[k] from by congr 1]
       conv => whnf
       refine br_intro (fun q => ?_) (fun q => ?_)
       ·have q : r.deps[k].name = d.name := by simpa [ofB_eq] using q
        have hb : decide (d.name ∉ preN r i) = false := decide_eq_false fun hx => (hmem.1 hx).2 k hkl hk q
        conv => whnf
        exact h false (by rw [← hD, hb]; rfl)
       ·have q : r.deps[k].name ≠ d.name := by simpa [ofB_eq] using q
        have IH3 := IH2 (k + 1) ⟨by omega, fun j hj hjk => (Nat.lt_succ_iff_lt_or_eq.1 hjk).elim (fun e => hk1 j hj e) (fun e => by subst e; exact q)⟩ (by omega)
        conv => whnf
        rw [i64_nat (by omega)]
        exact IH3
      ·have hk : k = i := by simp at hk; omega
       have hb : decide (d.name ∉ preN r i) = true := decide_eq_true (hmem.2 ⟨n2, fun j hj hji => hk1 j hj (by omega)⟩)
       rw [hb, Bool.true_and] at hD
       conv => whnf
       rw [i64_nat (by omega)]
       exact hIH ⟨by omega, hD⟩ (by omega)
    ·have hc := ge_of_decE hsl hc
     rw [List.drop_eq_nil_of_le hc, depsGo] at hD
     conv => whnf
     exact h true hD
  ·have he : earlyP v r = false := by rw [earlyP, e1, e3]; simp
   rw [he, Bool.not_false, Bool.true_and] at hm
   rw [hm] at h
   conv => whnf
   refine LoopP.ind1 (fun (i : Nat) => [(5, vi i)]) (fun _ => []) (fun i => r.deps.length - i) (fun i => i ≤ r.deps.length ∧ depsGo v (r.deps.drop i) (preN r i) = depsGo v r.deps [r.target]) 0 rfl ⟨by omega, rfl⟩ ?_
   rintro i ⟨h0, hD⟩ IH
   conv => whnf
   refine br_intro (fun hc => ?_) (fun hc => ?_)
   ·have hc := lt_of_decE hsl hc
    have hIH := IH (i + 1)
    clear IH
    rw [List.drop_eq_getElem_cons hc, depsGo] at hD
    rw [preN_succ r hc] at hIH
    have hmem := preN_mem r h0 r.deps[i].name
    (conv => whnf); (repeat ((with_reducible refine must_intro ?_ ?_); exact decide_eq_true (by omega); (conv => whnf)))
    refine idxK_map_intro (show (i : Int).toNat < r.deps.length by simpa using hc) ?_
    rw [show r.deps[(i : Int).toNat]'(by simpa using hc) = r.deps[i] from by congr 1]
    generalize r.deps[i] = d at hD hIH hmem ⊢
    conv => whnf
    refine refName_calls d.name ?_
    conv => whnf
    refine br_intro (fun n1 => ?_) (fun n1 => ?_)
    ·have n1 : nameOk d.name = false := by simpa using n1
     conv => whnf
     exact h false (by rw [← hD, n1]; rfl)
    have n1 : nameOk d.name = true := by simpa using n1
    rw [n1, Bool.true_and] at hD
    conv => whnf
    refine br_intro (fun n2 => ?_) (fun n2 => ?_)
    ·have n2 : d.name = r.target := by simpa [ofB_eq] using n2
     have hb : decide (d.name ∉ preN r i) = false := decide_eq_false fun hx => (hmem.1 hx).1 n2
     conv => whnf
     exact h false (by rw [← hD, hb]; rfl)
    have n2 : d.name ≠ r.target := by simpa [ofB_eq] using n2
    conv => whnf
    refine br_intro (fun o1 => ?_) (fun o1 => ?_)
    ·rw [o1, Bool.true_and] at hD
     conv => whnf
     refine br_intro (fun o2 => ?_) (fun o2 => ?_)
     ·rw [o2] at hD
      conv => whnf
      exact h false (by rw [← hD]; simp)
     ·rw [o2, Bool.not_false, Bool.true_and] at hD
      conv => whnf
      refine LoopP.ind1 (fun (k : Nat) => [(7, vi k)]) (fun _ => []) (fun k => i - k) (fun k => k ≤ i ∧ ∀ (j : Nat) (hj : j < r.deps.length), j < k → r.deps[j].name ≠ d.name) 0 rfl ⟨by omega, fun j hj h => by omega⟩ ?_
      rintro k ⟨hk0, hk1⟩ IH2
      conv => whnf
      refine br_intro (fun hk => ?_) (fun hk => ?_)
      ·have hk : k < i := by simp at hk; omega
       have hkl : k < r.deps.length := by omega
       (conv => whnf); (repeat ((with_reducible refine must_intro ?_ ?_); exact decide_eq_true (by omega); (conv => whnf)))
       refine idxK_map_intro (show (k : Int).toNat < r.deps.length by simpa using hkl) ?_
       rw [show r.deps[(k : Int).toNat]'(by simpa using hkl) = r.deps[k] from by congr 1]
       conv => whnf
       refine br_intro (fun q => ?_) (fun q => ?_)
       ·have q : r.deps[k].name = d.name := by simpa [ofB_eq] using q
        have hb : decide (d.name ∉ preN r i) = false := decide_eq_false fun hx => (hmem.1 hx).2 k hkl hk q
        conv => whnf
        exact h false (by rw [← hD, hb]; rfl)
       ·have q : r.deps[k].name ≠ d.name := by simpa [ofB_eq] using q
        have IH3 := IH2 (k + 1) ⟨by omega, fun j hj hjk => (Nat.lt_succ_iff_lt_or_eq.1 hjk).elim (fun e => hk1 j hj e) (fun e => by subst e; exact q)⟩ (by omega)
        conv => whnf
        rw [i64_nat (by omega)]
        exact IH3
      ·have hk : k = i := by simp at hk; omega
       have hb : decide (d.name ∉ preN r i) = true := decide_eq_true (hmem.2 ⟨n2, fun j hj hji => hk1 j hj (by omega)⟩)
       rw [hb, Bool.true_and] at hD
       conv => whnf
       rw [i64_nat (by omega)]
       exact hIH ⟨by omega, hD⟩ (by omega)
    ·rw [o1, Bool.false_and, Bool.not_false, Bool.true_and] at hD
     conv => whnf
     refine LoopP.ind1 (fun (k : Nat) => [(7, vi k)]) (fun _ => []) (fun k => i - k) (fun k => k ≤ i ∧ ∀ (j : Nat) (hj : j < r.deps.length), j < k → r.deps[j].name ≠ d.name) 0 rfl ⟨by omega, fun j hj h => by omega⟩ ?_
     rintro k ⟨hk0, hk1⟩ IH2
     conv => whnf
     refine br_intro (fun hk => ?_) (fun hk => ?_)
     ·have hk : k < i := by simp at hk; omega
      have hkl : k < r.deps.length := by omega
      (conv => whnf); (repeat ((with_reducible refine must_intro ?_ ?_); exact decide_eq_true (by omega); (conv => whnf)))
      refine idxK_map_intro (show (k : Int).toNat < r.deps.length by simpa using hkl) ?_
      rw [show r.deps[(k : Int).toNat]'(by simpa using hkl) = r.deps[k] from by congr 1]
      conv => whnf
      refine br_intro (fun q => ?_) (fun q => ?_)
      ·have q : r.deps[k].name = d.name := by simpa [ofB_eq] using q
       have hb : decide (d.name ∉ preN r i) = false := decide_eq_false fun hx => (hmem.1 hx).2 k hkl hk q
       conv => whnf
       exact h false (by rw [← hD, hb]; rfl)
      ·have q : r.deps[k].name ≠ d.name := by simpa [ofB_eq] using q
       have IH3 := IH2 (k + 1) ⟨by omega, fun j hj hjk => (Nat.lt_succ_iff_lt_or_eq.1 hjk).elim (fun e => hk1 j hj e) (fun e => by subst e; exact q)⟩ (by omega)
       conv => whnf
       rw [i64_nat (by omega)]
       exact IH3
     ·have hk : k = i := by simp at hk; omega
      have hb : decide (d.name ∉ preN r i) = true := decide_eq_true (hmem.2 ⟨n2, fun j hj hji => hk1 j hj (by omega)⟩)
      rw [hb, Bool.true_and] at hD
      conv => whnf
      rw [i64_nat (by omega)]
      exact hIH ⟨by omega, hD⟩ (by omega)
   ·have hc := ge_of_decE hsl hc
    rw [List.drop_eq_nil_of_le hc, depsGo] at hD
    conv => whnf
    exact h true hD
theorem r9Put_1 (t : List B) (ht : t.length < 80000) (r : Rc) (hm : mayP 1 r = true) {R} (h : R (.tup [.sl none 1 (strs (payP 1 t r)), .sl none 1 (strs (addT 1 t r)), vi 0]) []) : ACalls Tryz.prog 159 [vi 1, .sl none 1 (strs t), .agg r.enc] [] R := by
 refine acalls_of_xwp (an := an159) tab_ok Tryz.func159 ?_
 have hMr := may_all hm
 have hsl := dpsA_length r.deps
 have hdl := hMr.deps
 have ht2 := hMr.t2
 conv => whnf
 refine refMay_calls 1 r (by omega) fun p hp => ?_
 rw [hm] at hp
 subst hp
 obtain ⟨T, hT⟩ : ∃ T, T = addT 1 t r := ⟨_, rfl⟩
 have hTt : t = T := by rw [hT, addT_one]
 have hTl : T.length < 90000 := by rw [← hTt]; omega
 obtain ⟨o, ho⟩ : ∃ o : List B, o = defsP 1 t r := ⟨_, rfl⟩
 have ho0 : o = [] := by rw [ho]; rfl
 have hol0 : o.length ≤ 30 := by rw [ho0]; simp
 have hol : (strs o).length = o.length := strs_length o
 subst ho0
 clear hol0
 have hol0 : ([] : List B).length ≤ 30 := by simp
 conv => whnf
 rw [hTt]
 have hP : strs (payP 1 t r) = strs [] ++ [[vs (lastW 1 T r)]] := by unfold payP; rw [← ho, strs_append, ← hT]; rfl
 have hTm : 1 ≠ (1 : Int) → ∀ x ∈ textsR r, x ∈ T := fun hv x hx => by rw [hT]; exact addT_mem hv t r hx
 rw [← hT] at h
 rcases hMr.kind with hk | hg
 ·conv => whnf
  rw [show IntKind.u64.wrap r.kind = ((1 : Nat) : Int) from by rw [hk]; rfl]
  refine ref1Put_calls 1 (by decide) ?_
  have hv0 : (vrn 1).length = 1 := vrn_one (by decide)
  conv => whnf
  refine refText_calls T (by omega) r.target (fun hv => hTm hv _ (by simp [textsR])) (by omega) ?_
  have hv1 := textW_len (v := 1) (t := T) hMr.t2 (by omega)
  conv => whnf
  refine must_intro (decide_eq_true (by rw [size_ofB, size_ofB]; (try simp only [List.length_append]); omega)) ?_
  rw [ofB_append]
  conv => whnf
  refine br_true (by rw [hk]; rfl) ?_
  conv => whnf
  refine ref1Put_calls r.rule.toNat (by have := r.rule.isLt; omega) ?_
  have hv2 := u64_vrn r.rule
  conv => whnf
  refine must_intro (decide_eq_true (by rw [size_ofB, size_ofB]; (try simp only [List.length_append]); omega)) ?_
  rw [ofB_append]
  conv => whnf
  rw [len_u64 hMr.deps]
  refine ref1Put_calls r.deps.length (by omega) ?_
  have hv3 : (vrn r.deps.length).length ≤ 10 := vrn_u64 (by omega)
  conv => whnf
  refine must_intro (decide_eq_true (by rw [size_ofB, size_ofB]; (try simp only [List.length_append]); omega)) ?_
  rw [ofB_append]
  conv => whnf
  obtain ⟨x0, hx0⟩ : ∃ x0, x0 = vrn 1 ++ textW 1 T r.target ++ vrn r.rule.toNat ++ vrn r.deps.length := ⟨_, rfl⟩
  have hx1 : x0 = frontW 1 T r := by rw [hx0, frontW, vrn_small (by decide)]; simp
  rw [← hx0]
  clear hx0 hv0 hv1 hv2 hv3
  have hfl := frontW_len (v := 1) (t := T) hMr (by omega)
  refine LoopP.ind2 (fun (i : Nat) (x : B) => [(12, vs x), (13, vi i)]) (fun i x => [(nameOf 16, .row 9 1 0)]) (fun i _ => r.deps.length - i) (fun i x => i ≤ r.deps.length ∧ x = frontW 1 T r ++ depsW 1 T (r.deps.take i)) 0 x0 rfl ⟨by omega, by rw [hx1]; simp [depsW]⟩ ?_
  rintro i x ⟨h0, hx⟩ IH
  have hdt := depsW_take (v := 1) (t := T) hMr (by omega) i
  have hxl : x.length ≤ 1300 := by rw [hx, List.length_append]; omega
  conv => whnf
  refine br_intro (fun hc => ?_) (fun hc => ?_)
  ·have hi := lt_of_decE hsl hc
   (conv => whnf); (repeat ((with_reducible refine must_intro ?_ ?_); exact decide_eq_true (by omega); (conv => whnf)))
   refine idxK_map_intro (show (i : Int).toNat < r.deps.length by simpa using hi) ?_
   rw [show r.deps[(i : Int).toNat]'(by simpa using hi) = r.deps[i] from by congr 1]
   have hdm : r.deps[i] ∈ r.deps := List.getElem_mem hi
   have hdn := hMr.names _ hdm
   generalize hd : r.deps[i] = d at hdm hdn
   have hd : r.deps[i] = d := hd
   conv => whnf
   refine refText_calls T (by omega) d.name (fun hv => hTm hv _ (by unfold textsR; exact List.mem_cons_of_mem _ (List.mem_append_left _ (List.mem_map_of_mem hdm)))) (by omega) ?_
   have hv2 := textW_len (v := 1) (t := T) (hMr.names d hdm).2 (by omega)
   conv => whnf
   refine must_intro (decide_eq_true (by rw [size_ofB, size_ofB]; (try simp only [List.length_append]); omega)) ?_
   rw [ofB_append]
   conv => whnf
   refine ref1Put_calls d.hash.toNat (by have := d.hash.isLt; omega) ?_
   have hv3 := u64_vrn d.hash
   conv => whnf
   refine must_intro (decide_eq_true (by rw [size_ofB, size_ofB]; (try simp only [List.length_append]); omega)) ?_
   rw [ofB_append]
   conv => whnf
   have IH := IH (i + 1) (x ++ textW 1 T d.name ++ vrn d.hash.toNat) ⟨hi, by rw [depsW_snoc hi, hx, hd]; simp [depW, List.append_assoc]⟩ (by omega)
   rw [i64_nat (by omega)]
   exact IH
  ·have hi := ge_of_decE hsl hc
   rw [List.take_of_length_le hi] at hx
   clear IH
   conv => whnf
   refine ref1Put_calls r.out.toNat (by have := r.out.isLt; omega) ?_
   have hv4 := u64_vrn r.out
   conv => whnf
   refine must_intro (decide_eq_true (by rw [size_ofB, size_ofB]; (try simp only [List.length_append]); omega)) ?_
   rw [ofB_append]
   conv => whnf
   have hW : lastW 1 T r = x ++ vrn r.out.toNat := by
    rw [lastW_trace hk, hx]
    simp [endW, List.append_assoc]
   refine ⟨rfl, by rw [bytes_str]; simp only [List.length_cons, List.length_nil]; omega, ?_⟩
   conv => whnf
   rw [hP, hW] at h
   exact h
 ·have hk := goneR_kind hg
  conv => whnf
  rw [show IntKind.u64.wrap r.kind = ((2 : Nat) : Int) from by rw [hk]; rfl]
  refine ref1Put_calls 2 (by decide) ?_
  have hv0 : (vrn 2).length = 1 := vrn_one (by decide)
  conv => whnf
  refine refText_calls T (by omega) r.target (fun hv => hTm hv _ (by simp [textsR])) (by omega) ?_
  have hv1 := textW_len (v := 1) (t := T) hMr.t2 (by omega)
  conv => whnf
  refine must_intro (decide_eq_true (by rw [size_ofB, size_ofB]; (try simp only [List.length_append]); omega)) ?_
  rw [ofB_append]
  conv => whnf
  refine br_false (by rw [hk]; rfl) ?_
  conv => whnf
  have hW : lastW 1 T r = vrn 2 ++ textW 1 T r.target := by rw [lastW_gone hk, vrn_small (by decide)]; rfl
  refine ⟨rfl, by rw [bytes_str]; simp only [List.length_cons, List.length_nil]; omega, ?_⟩
  conv => whnf
  rw [hP, hW] at h
  exact h
theorem r9Put_2 (t : List B) (ht : t.length < 80000) (r : Rc) (hm : mayP 2 r = true) {R} (h : R (.tup [.sl none 1 (strs (payP 2 t r)), .sl none 1 (strs (addT 2 t r)), vi 0]) []) : ACalls Tryz.prog 159 [vi 2, .sl none 1 (strs t), .agg r.enc] [] R := by
 refine acalls_of_xwp (an := an159) tab_ok Tryz.func159 ?_
 have hMr := may_all hm
 have hsl := dpsA_length r.deps
 have hdl := hMr.deps
 have ht2 := hMr.t2
 conv => whnf
 refine refMay_calls 2 r (by omega) fun p hp => ?_
 rw [hm] at hp
 subst hp
 conv => whnf
 have hnl := strs_length (namesR r)
 have hnr := namesR_len r
 refine refNames_calls r (by omega) ?_
 conv => whnf
 refine LoopP.ind3 (fun (i : Nat) (T o : List B) => [(1, .sl none 1 (strs T)), (9, .sl (some (nameOf 16)) 1 (strs o)), (11, vi i)]) (fun i T o => [(nameOf 16, .row 9 1 o.length)]) (fun i _ _ => (namesR r).length - i) (fun i T o => i ≤ (namesR r).length ∧ T.length ≤ t.length + i ∧ o.length ≤ i ∧ ((namesR r).drop i).foldl tblP T = addT 2 t r ∧ o ++ (newsP T ((namesR r).drop i)).map defP = defsP 2 t r) 0 t [] rfl ⟨by omega, by omega, by simp, (addT_more (by decide) t r).symm, by simp [defsP]⟩ ?_
 rintro i T o ⟨h0, hTl, hol0, hT, ho⟩ IH
 have hol : (strs o).length = o.length := strs_length o
 have hTs := strs_length T
 conv => whnf
 refine br_intro (fun hc => ?_) (fun hc => ?_)
 ·have hi := lt_of_decE hnl hc
  rw [List.drop_eq_getElem_cons hi, List.foldl_cons] at hT
  rw [List.drop_eq_getElem_cons hi, newsP] at ho
  have hnm : (namesR r)[i].length ≤ 64 := (textsR_lens hMr _ (tblN_mem.1 (List.getElem_mem hi))).2
  (conv => whnf); (repeat ((with_reducible refine must_intro ?_ ?_); exact decide_eq_true (by omega); (conv => whnf)))
  refine idxK_map_intro (show (i : Int).toNat < (namesR r).length by simpa using hi) ?_
  rw [show (namesR r)[(i : Int).toNat]'(by simpa using hi) = (namesR r)[i] from by congr 1]
  generalize hs : (namesR r)[i] = s at hT ho hnm
  conv => whnf
  refine Place_calls T s (by omega) rfl fun p hp => ?_
  conv => whnf
  refine br_intro (fun g => ?_) (fun g => ?_)
  ·have hns : s ∉ T := by
    have : p < 0 := of_decide_eq_true g
    rw [hp] at this
    exact placeI_neg.1 this
   rw [if_neg hns] at ho
   rw [tblP_none hns] at hT
   (conv => whnf); (repeat ((with_reducible refine must_intro ?_ ?_); exact decide_eq_true (by omega); (conv => whnf)))
   refine idxK_map_intro (show (i : Int).toNat < (namesR r).length by simpa using hi) ?_
   rw [show (namesR r)[(i : Int).toNat]'(by simpa using hi) = (namesR r)[i] from by congr 1, hs]
   conv => whnf
   have e3 : (⟨#[0]⟩ : ByteArray) = ofB [0] := rfl
   refine must_intro (decide_eq_true (by rw [size_ofB]; show 1 + s.length ≤ _; omega)) ?_
   rw [e3, ofB_append]
   conv => whnf
   refine ⟨hol.symm, by rw [hol, bytes_str]; simp only [List.length_cons, List.length_nil]; omega, ?_⟩
   (conv => whnf); (repeat ((with_reducible refine must_intro ?_ ?_); exact decide_eq_true (by omega); (conv => whnf)))
   refine idxK_map_intro (show (i : Int).toNat < (namesR r).length by simpa using hi) ?_
   rw [show (namesR r)[(i : Int).toNat]'(by simpa using hi) = (namesR r)[i] from by congr 1, hs]
   conv => whnf
   refine rPutT_calls T s (by omega) ?_
   rw [tblP_none hns]
   have IH := IH (i + 1) (T ++ [s]) (o ++ [defP s]) ⟨hi, by simp; omega, by simp; omega, hT, by rw [← ho]; simp⟩ (by omega)
   rw [strs_append o, List.length_append] at IH
   conv => whnf
   rw [i64_nat (by omega), hol]
   exact IH
  ·have hns : s ∈ T := by
    have : ¬ p < 0 := of_decide_eq_false g
    rw [hp] at this
    exact Classical.byContradiction fun e => this (placeI_neg.2 e)
   rw [if_pos hns] at ho
   rw [tblP_some hns] at hT
   have IH := IH (i + 1) T o ⟨hi, by omega, by omega, hT, ho⟩ (by omega)
   conv => whnf
   rw [i64_nat (by omega)]
   exact IH
 ·have hi := ge_of_decE hnl hc
  rw [List.drop_eq_nil_of_le hi, List.foldl_nil] at hT
  rw [List.drop_eq_nil_of_le hi, show newsP T [] = [] from rfl, List.map_nil, List.append_nil] at ho
  have hTl : T.length < 90000 := by omega
  have hol0 : o.length ≤ 30 := by omega
  clear IH hTs
  have hP : strs (payP 2 t r) = strs o ++ [[vs (lastW 2 T r)]] := by unfold payP; rw [← ho, strs_append, ← hT]; rfl
  have hTm : 2 ≠ (1 : Int) → ∀ x ∈ textsR r, x ∈ T := fun hv x hx => by rw [hT]; exact addT_mem hv t r hx
  rw [← hT] at h
  rcases hMr.kind with hk | hg
  ·conv => whnf
   rw [show IntKind.u64.wrap r.kind = ((1 : Nat) : Int) from by rw [hk]; rfl]
   refine ref1Put_calls 1 (by decide) ?_
   have hv0 : (vrn 1).length = 1 := vrn_one (by decide)
   conv => whnf
   refine refText_calls T (by omega) r.target (fun hv => hTm hv _ (by simp [textsR])) (by omega) ?_
   have hv1 := textW_len (v := 2) (t := T) hMr.t2 (by omega)
   conv => whnf
   refine must_intro (decide_eq_true (by rw [size_ofB, size_ofB]; (try simp only [List.length_append]); omega)) ?_
   rw [ofB_append]
   conv => whnf
   refine br_true (by rw [hk]; rfl) ?_
   conv => whnf
   refine ref1Put_calls r.rule.toNat (by have := r.rule.isLt; omega) ?_
   have hv2 := u64_vrn r.rule
   conv => whnf
   refine must_intro (decide_eq_true (by rw [size_ofB, size_ofB]; (try simp only [List.length_append]); omega)) ?_
   rw [ofB_append]
   conv => whnf
   rw [len_u64 hMr.deps]
   refine ref1Put_calls r.deps.length (by omega) ?_
   have hv3 : (vrn r.deps.length).length ≤ 10 := vrn_u64 (by omega)
   conv => whnf
   refine must_intro (decide_eq_true (by rw [size_ofB, size_ofB]; (try simp only [List.length_append]); omega)) ?_
   rw [ofB_append]
   conv => whnf
   obtain ⟨x0, hx0⟩ : ∃ x0, x0 = vrn 1 ++ textW 2 T r.target ++ vrn r.rule.toNat ++ vrn r.deps.length := ⟨_, rfl⟩
   have hx1 : x0 = frontW 2 T r := by rw [hx0, frontW, vrn_small (by decide)]; simp
   rw [← hx0]
   clear hx0 hv0 hv1 hv2 hv3
   have hfl := frontW_len (v := 2) (t := T) hMr (by omega)
   refine LoopP.ind2 (fun (i : Nat) (x : B) => [(12, vs x), (13, vi i)]) (fun i x => [(nameOf 16, .row 9 1 o.length)]) (fun i _ => r.deps.length - i) (fun i x => i ≤ r.deps.length ∧ x = frontW 2 T r ++ depsW 2 T (r.deps.take i)) 0 x0 rfl ⟨by omega, by rw [hx1]; simp [depsW]⟩ ?_
   rintro i x ⟨h0, hx⟩ IH
   have hdt := depsW_take (v := 2) (t := T) hMr (by omega) i
   have hxl : x.length ≤ 1300 := by rw [hx, List.length_append]; omega
   conv => whnf
   refine br_intro (fun hc => ?_) (fun hc => ?_)
   ·have hi := lt_of_decE hsl hc
    (conv => whnf); (repeat ((with_reducible refine must_intro ?_ ?_); exact decide_eq_true (by omega); (conv => whnf)))
    refine idxK_map_intro (show (i : Int).toNat < r.deps.length by simpa using hi) ?_
    rw [show r.deps[(i : Int).toNat]'(by simpa using hi) = r.deps[i] from by congr 1]
    have hdm : r.deps[i] ∈ r.deps := List.getElem_mem hi
    have hdn := hMr.names _ hdm
    generalize hd : r.deps[i] = d at hdm hdn
    have hd : r.deps[i] = d := hd
    conv => whnf
    refine refText_calls T (by omega) d.name (fun hv => hTm hv _ (by unfold textsR; exact List.mem_cons_of_mem _ (List.mem_append_left _ (List.mem_map_of_mem hdm)))) (by omega) ?_
    have hv2 := textW_len (v := 2) (t := T) (hMr.names d hdm).2 (by omega)
    conv => whnf
    refine must_intro (decide_eq_true (by rw [size_ofB, size_ofB]; (try simp only [List.length_append]); omega)) ?_
    rw [ofB_append]
    conv => whnf
    refine ref1Put_calls d.hash.toNat (by have := d.hash.isLt; omega) ?_
    have hv3 := u64_vrn d.hash
    conv => whnf
    refine must_intro (decide_eq_true (by rw [size_ofB, size_ofB]; (try simp only [List.length_append]); omega)) ?_
    rw [ofB_append]
    conv => whnf
    have IH := IH (i + 1) (x ++ textW 2 T d.name ++ vrn d.hash.toNat) ⟨hi, by rw [depsW_snoc hi, hx, hd]; simp [depW, List.append_assoc]⟩ (by omega)
    rw [i64_nat (by omega)]
    exact IH
   ·have hi := ge_of_decE hsl hc
    rw [List.take_of_length_le hi] at hx
    clear IH
    conv => whnf
    refine ref1Put_calls r.out.toNat (by have := r.out.isLt; omega) ?_
    have hv4 := u64_vrn r.out
    conv => whnf
    refine must_intro (decide_eq_true (by rw [size_ofB, size_ofB]; (try simp only [List.length_append]); omega)) ?_
    rw [ofB_append]
    conv => whnf
    refine ref1Put_calls r.wen.toNat (by have := r.wen.isLt; omega) ?_
    have hv5 := u64_vrn r.wen
    conv => whnf
    refine must_intro (decide_eq_true (by rw [size_ofB, size_ofB]; (try simp only [List.length_append]); omega)) ?_
    rw [ofB_append]
    conv => whnf
    have hW : lastW 2 T r = x ++ vrn r.out.toNat ++ vrn r.wen.toNat := by
     rw [lastW_trace hk, hx]
     simp [endW, List.append_assoc]
    refine ⟨hol.symm, by rw [hol, bytes_str]; simp only [List.length_cons, List.length_nil]; omega, ?_⟩
    conv => whnf
    rw [hP, hW] at h
    exact h
  ·have hk := goneR_kind hg
   conv => whnf
   rw [show IntKind.u64.wrap r.kind = ((2 : Nat) : Int) from by rw [hk]; rfl]
   refine ref1Put_calls 2 (by decide) ?_
   have hv0 : (vrn 2).length = 1 := vrn_one (by decide)
   conv => whnf
   refine refText_calls T (by omega) r.target (fun hv => hTm hv _ (by simp [textsR])) (by omega) ?_
   have hv1 := textW_len (v := 2) (t := T) hMr.t2 (by omega)
   conv => whnf
   refine must_intro (decide_eq_true (by rw [size_ofB, size_ofB]; (try simp only [List.length_append]); omega)) ?_
   rw [ofB_append]
   conv => whnf
   refine br_false (by rw [hk]; rfl) ?_
   conv => whnf
   have hW : lastW 2 T r = vrn 2 ++ textW 2 T r.target := by rw [lastW_gone hk, vrn_small (by decide)]; rfl
   refine ⟨hol.symm, by rw [hol, bytes_str]; simp only [List.length_cons, List.length_nil]; omega, ?_⟩
   conv => whnf
   rw [hP, hW] at h
   exact h
theorem r9Put_3 (t : List B) (ht : t.length < 80000) (r : Rc) (hm : mayP 3 r = true) {R} (h : R (.tup [.sl none 1 (strs (payP 3 t r)), .sl none 1 (strs (addT 3 t r)), vi 0]) []) : ACalls Tryz.prog 159 [vi 3, .sl none 1 (strs t), .agg r.enc] [] R := by
 refine acalls_of_xwp (an := an159) tab_ok Tryz.func159 ?_
 have hMr := may_all hm
 have hsl := dpsA_length r.deps
 have hdl := hMr.deps
 have ht2 := hMr.t2
 conv => whnf
 refine refMay_calls 3 r (by omega) fun p hp => ?_
 rw [hm] at hp
 subst hp
 conv => whnf
 have hnl := strs_length (namesR r)
 have hnr := namesR_len r
 refine refNames_calls r (by omega) ?_
 conv => whnf
 refine LoopP.ind3 (fun (i : Nat) (T o : List B) => [(1, .sl none 1 (strs T)), (9, .sl (some (nameOf 16)) 1 (strs o)), (11, vi i)]) (fun i T o => [(nameOf 16, .row 9 1 o.length)]) (fun i _ _ => (namesR r).length - i) (fun i T o => i ≤ (namesR r).length ∧ T.length ≤ t.length + i ∧ o.length ≤ i ∧ ((namesR r).drop i).foldl tblP T = addT 3 t r ∧ o ++ (newsP T ((namesR r).drop i)).map defP = defsP 3 t r) 0 t [] rfl ⟨by omega, by omega, by simp, (addT_more (by decide) t r).symm, by simp [defsP]⟩ ?_
 rintro i T o ⟨h0, hTl, hol0, hT, ho⟩ IH
 have hol : (strs o).length = o.length := strs_length o
 have hTs := strs_length T
 conv => whnf
 refine br_intro (fun hc => ?_) (fun hc => ?_)
 ·have hi := lt_of_decE hnl hc
  rw [List.drop_eq_getElem_cons hi, List.foldl_cons] at hT
  rw [List.drop_eq_getElem_cons hi, newsP] at ho
  have hnm : (namesR r)[i].length ≤ 64 := (textsR_lens hMr _ (tblN_mem.1 (List.getElem_mem hi))).2
  (conv => whnf); (repeat ((with_reducible refine must_intro ?_ ?_); exact decide_eq_true (by omega); (conv => whnf)))
  refine idxK_map_intro (show (i : Int).toNat < (namesR r).length by simpa using hi) ?_
  rw [show (namesR r)[(i : Int).toNat]'(by simpa using hi) = (namesR r)[i] from by congr 1]
  generalize hs : (namesR r)[i] = s at hT ho hnm
  conv => whnf
  refine Place_calls T s (by omega) rfl fun p hp => ?_
  conv => whnf
  refine br_intro (fun g => ?_) (fun g => ?_)
  ·have hns : s ∉ T := by
    have : p < 0 := of_decide_eq_true g
    rw [hp] at this
    exact placeI_neg.1 this
   rw [if_neg hns] at ho
   rw [tblP_none hns] at hT
   (conv => whnf); (repeat ((with_reducible refine must_intro ?_ ?_); exact decide_eq_true (by omega); (conv => whnf)))
   refine idxK_map_intro (show (i : Int).toNat < (namesR r).length by simpa using hi) ?_
   rw [show (namesR r)[(i : Int).toNat]'(by simpa using hi) = (namesR r)[i] from by congr 1, hs]
   conv => whnf
   have e3 : (⟨#[0]⟩ : ByteArray) = ofB [0] := rfl
   refine must_intro (decide_eq_true (by rw [size_ofB]; show 1 + s.length ≤ _; omega)) ?_
   rw [e3, ofB_append]
   conv => whnf
   refine ⟨hol.symm, by rw [hol, bytes_str]; simp only [List.length_cons, List.length_nil]; omega, ?_⟩
   (conv => whnf); (repeat ((with_reducible refine must_intro ?_ ?_); exact decide_eq_true (by omega); (conv => whnf)))
   refine idxK_map_intro (show (i : Int).toNat < (namesR r).length by simpa using hi) ?_
   rw [show (namesR r)[(i : Int).toNat]'(by simpa using hi) = (namesR r)[i] from by congr 1, hs]
   conv => whnf
   refine rPutT_calls T s (by omega) ?_
   rw [tblP_none hns]
   have IH := IH (i + 1) (T ++ [s]) (o ++ [defP s]) ⟨hi, by simp; omega, by simp; omega, hT, by rw [← ho]; simp⟩ (by omega)
   rw [strs_append o, List.length_append] at IH
   conv => whnf
   rw [i64_nat (by omega), hol]
   exact IH
  ·have hns : s ∈ T := by
    have : ¬ p < 0 := of_decide_eq_false g
    rw [hp] at this
    exact Classical.byContradiction fun e => this (placeI_neg.2 e)
   rw [if_pos hns] at ho
   rw [tblP_some hns] at hT
   have IH := IH (i + 1) T o ⟨hi, by omega, by omega, hT, ho⟩ (by omega)
   conv => whnf
   rw [i64_nat (by omega)]
   exact IH
 ·have hi := ge_of_decE hnl hc
  rw [List.drop_eq_nil_of_le hi, List.foldl_nil] at hT
  rw [List.drop_eq_nil_of_le hi, show newsP T [] = [] from rfl, List.map_nil, List.append_nil] at ho
  have hTl : T.length < 90000 := by omega
  have hol0 : o.length ≤ 30 := by omega
  clear IH hTs
  have hP : strs (payP 3 t r) = strs o ++ [[vs (lastW 3 T r)]] := by unfold payP; rw [← ho, strs_append, ← hT]; rfl
  have hTm : 3 ≠ (1 : Int) → ∀ x ∈ textsR r, x ∈ T := fun hv x hx => by rw [hT]; exact addT_mem hv t r hx
  rw [← hT] at h
  rcases hMr.kind with hk | hg
  ·conv => whnf
   rw [show IntKind.u64.wrap r.kind = ((1 : Nat) : Int) from by rw [hk]; rfl]
   refine ref1Put_calls 1 (by decide) ?_
   have hv0 : (vrn 1).length = 1 := vrn_one (by decide)
   conv => whnf
   refine refText_calls T (by omega) r.target (fun hv => hTm hv _ (by simp [textsR])) (by omega) ?_
   have hv1 := textW_len (v := 3) (t := T) hMr.t2 (by omega)
   conv => whnf
   refine must_intro (decide_eq_true (by rw [size_ofB, size_ofB]; (try simp only [List.length_append]); omega)) ?_
   rw [ofB_append]
   conv => whnf
   refine br_true (by rw [hk]; rfl) ?_
   conv => whnf
   refine ref1Put_calls r.rule.toNat (by have := r.rule.isLt; omega) ?_
   have hv2 := u64_vrn r.rule
   conv => whnf
   refine must_intro (decide_eq_true (by rw [size_ofB, size_ofB]; (try simp only [List.length_append]); omega)) ?_
   rw [ofB_append]
   conv => whnf
   rw [len_u64 hMr.deps]
   refine ref1Put_calls r.deps.length (by omega) ?_
   have hv3 : (vrn r.deps.length).length ≤ 10 := vrn_u64 (by omega)
   conv => whnf
   refine must_intro (decide_eq_true (by rw [size_ofB, size_ofB]; (try simp only [List.length_append]); omega)) ?_
   rw [ofB_append]
   conv => whnf
   obtain ⟨x0, hx0⟩ : ∃ x0, x0 = vrn 1 ++ textW 3 T r.target ++ vrn r.rule.toNat ++ vrn r.deps.length := ⟨_, rfl⟩
   have hx1 : x0 = frontW 3 T r := by rw [hx0, frontW, vrn_small (by decide)]; simp
   rw [← hx0]
   clear hx0 hv0 hv1 hv2 hv3
   have hfl := frontW_len (v := 3) (t := T) hMr (by omega)
   refine LoopP.ind2 (fun (i : Nat) (x : B) => [(12, vs x), (13, vi i)]) (fun i x => [(nameOf 16, .row 9 1 o.length)]) (fun i _ => r.deps.length - i) (fun i x => i ≤ r.deps.length ∧ x = frontW 3 T r ++ depsW 3 T (r.deps.take i)) 0 x0 rfl ⟨by omega, by rw [hx1]; simp [depsW]⟩ ?_
   rintro i x ⟨h0, hx⟩ IH
   have hdt := depsW_take (v := 3) (t := T) hMr (by omega) i
   have hxl : x.length ≤ 1300 := by rw [hx, List.length_append]; omega
   conv => whnf
   refine br_intro (fun hc => ?_) (fun hc => ?_)
   ·have hi := lt_of_decE hsl hc
    (conv => whnf); (repeat ((with_reducible refine must_intro ?_ ?_); exact decide_eq_true (by omega); (conv => whnf)))
    refine idxK_map_intro (show (i : Int).toNat < r.deps.length by simpa using hi) ?_
    rw [show r.deps[(i : Int).toNat]'(by simpa using hi) = r.deps[i] from by congr 1]
    have hdm : r.deps[i] ∈ r.deps := List.getElem_mem hi
    have hdn := hMr.names _ hdm
    generalize hd : r.deps[i] = d at hdm hdn
    have hd : r.deps[i] = d := hd
    conv => whnf
    have hdT : d.name ∈ T := hTm (by decide) _ (by unfold textsR; exact List.mem_cons_of_mem _ (List.mem_append_left _ (List.mem_map_of_mem hdm)))
    have hix := List.idxOf_lt_length_of_mem hdT
    refine Place_calls T d.name (by omega) rfl fun p hp => ?_
    rw [placeI_mem hdT] at hp
    subst hp
    have e2 : IntKind.u64.wrap (2 * IntKind.u64.wrap ((T.idxOf d.name : Nat) : Int)) = ((2 * T.idxOf d.name : Nat) : Int) := by
     rw [u64_n (by omega), show (2 : Int) * ((T.idxOf d.name : Nat) : Int) = ((2 * T.idxOf d.name : Nat) : Int) by omega, u64_n (by omega)]
    conv => whnf
    rw [e2]
    cases ho2 : d.order with
    | true =>
     have e3 : IntKind.u64.wrap (((2 * T.idxOf d.name : Nat) : Int) + 1) = ((depN T d : Nat) : Int) := by
      rw [show ((2 * T.idxOf d.name : Nat) : Int) + 1 = ((2 * T.idxOf d.name + 1 : Nat) : Int) by omega, u64_n (by omega)]
      unfold depN
      rw [ho2]
      rfl
     conv => whnf
     rw [e3]
     refine ref1Put_calls (depN T d) (by unfold depN; split <;> omega) ?_
     have hv2 : (vrn (depN T d)).length ≤ 10 := vrn_u64 (by unfold depN; split <;> omega)
     conv => whnf
     refine must_intro (decide_eq_true (by rw [size_ofB, size_ofB]; (try simp only [List.length_append]); omega)) ?_
     rw [ofB_append]
     conv => whnf
     refine ref1Put_calls d.hash.toNat (by have := d.hash.isLt; omega) ?_
     have hv3 := u64_vrn d.hash
     conv => whnf
     refine must_intro (decide_eq_true (by rw [size_ofB, size_ofB]; (try simp only [List.length_append]); omega)) ?_
     rw [ofB_append]
     conv => whnf
     have IH := IH (i + 1) (x ++ vrn (depN T d) ++ vrn d.hash.toNat) ⟨hi, by rw [depsW_snoc hi, hx, hd]; simp [depW, List.append_assoc]⟩ (by omega)
     rw [i64_nat (by omega)]
     exact IH
    | false =>
     have e3 : ((2 * T.idxOf d.name : Nat) : Int) = ((depN T d : Nat) : Int) := by
      unfold depN
      rw [ho2]
      rfl
     rw [e3]
     conv => whnf
     refine ref1Put_calls (depN T d) (by unfold depN; split <;> omega) ?_
     have hv2 : (vrn (depN T d)).length ≤ 10 := vrn_u64 (by unfold depN; split <;> omega)
     conv => whnf
     refine must_intro (decide_eq_true (by rw [size_ofB, size_ofB]; (try simp only [List.length_append]); omega)) ?_
     rw [ofB_append]
     conv => whnf
     refine ref1Put_calls d.hash.toNat (by have := d.hash.isLt; omega) ?_
     have hv3 := u64_vrn d.hash
     conv => whnf
     refine must_intro (decide_eq_true (by rw [size_ofB, size_ofB]; (try simp only [List.length_append]); omega)) ?_
     rw [ofB_append]
     conv => whnf
     have IH := IH (i + 1) (x ++ vrn (depN T d) ++ vrn d.hash.toNat) ⟨hi, by rw [depsW_snoc hi, hx, hd]; simp [depW, List.append_assoc]⟩ (by omega)
     rw [i64_nat (by omega)]
     exact IH
   ·have hi := ge_of_decE hsl hc
    rw [List.take_of_length_le hi] at hx
    clear IH
    conv => whnf
    refine ref1Put_calls r.out.toNat (by have := r.out.isLt; omega) ?_
    have hv4 := u64_vrn r.out
    conv => whnf
    refine must_intro (decide_eq_true (by rw [size_ofB, size_ofB]; (try simp only [List.length_append]); omega)) ?_
    rw [ofB_append]
    conv => whnf
    refine ref1Put_calls r.wen.toNat (by have := r.wen.isLt; omega) ?_
    have hv5 := u64_vrn r.wen
    conv => whnf
    refine must_intro (decide_eq_true (by rw [size_ofB, size_ofB]; (try simp only [List.length_append]); omega)) ?_
    rw [ofB_append]
    conv => whnf
    refine br_intro (fun g => ?_) (fun g => ?_)
    ·have g : r.tag = [] := ofB_inj (of_decide_eq_true g)
     conv => whnf
     refine ref1Put_calls 0 (by decide) ?_
     have hv6 : (vrn 0).length = 1 := vrn_one (by decide)
     conv => whnf
     refine must_intro (decide_eq_true (by rw [size_ofB, size_ofB]; (try simp only [List.length_append]); omega)) ?_
     rw [ofB_append]
     conv => whnf
     refine br_false (by rw [g]; rfl) ?_
     conv => whnf
     have hW : lastW 3 T r = x ++ vrn r.out.toNat ++ vrn r.wen.toNat ++ vrn 0 := by
      rw [lastW_trace hk, hx]
      simp [endW, tagW, g, List.append_assoc]
     refine ⟨hol.symm, by rw [hol, bytes_str]; simp only [List.length_cons, List.length_nil]; omega, ?_⟩
     conv => whnf
     rw [hP, hW] at h
     exact h
    ·have g : r.tag ≠ [] := fun e => by rw [e] at g; exact of_decide_eq_false g rfl
     have htT : r.tag ∈ T := hTm (by decide) _ (by simp [textsR, g])
     have hix := List.idxOf_lt_length_of_mem htT
     conv => whnf
     refine br_true (by show (!decide (ofB r.tag = ofB [])) = true; rw [decide_eq_false (fun e => g (ofB_inj e))]; rfl) ?_
     conv => whnf
     refine Place_calls T r.tag (by omega) rfl fun p hp => ?_
     rw [placeI_mem htT] at hp
     subst hp
     have e2 : IntKind.u64.wrap (IntKind.u64.wrap ((T.idxOf r.tag : Nat) : Int) + 1) = ((T.idxOf r.tag + 1 : Nat) : Int) := by
      rw [u64_n (by omega), show ((T.idxOf r.tag : Nat) : Int) + 1 = ((T.idxOf r.tag + 1 : Nat) : Int) by omega, u64_n (by omega)]
     conv => whnf
     rw [e2]
     refine ref1Put_calls (T.idxOf r.tag + 1) (by omega) ?_
     have hv6 := vrn_u64 (n := T.idxOf r.tag + 1) (by omega)
     conv => whnf
     refine must_intro (decide_eq_true (by rw [size_ofB, size_ofB]; (try simp only [List.length_append]); omega)) ?_
     rw [ofB_append]
     conv => whnf
     have hW : lastW 3 T r = x ++ vrn r.out.toNat ++ vrn r.wen.toNat ++ vrn (T.idxOf r.tag + 1) := by
      rw [lastW_trace hk, hx]
      simp [endW, tagW, g, List.append_assoc]
     refine ⟨hol.symm, by rw [hol, bytes_str]; simp only [List.length_cons, List.length_nil]; omega, ?_⟩
     conv => whnf
     rw [hP, hW] at h
     exact h
  ·have hk := goneR_kind hg
   conv => whnf
   rw [show IntKind.u64.wrap r.kind = ((2 : Nat) : Int) from by rw [hk]; rfl]
   refine ref1Put_calls 2 (by decide) ?_
   have hv0 : (vrn 2).length = 1 := vrn_one (by decide)
   conv => whnf
   refine refText_calls T (by omega) r.target (fun hv => hTm hv _ (by simp [textsR])) (by omega) ?_
   have hv1 := textW_len (v := 3) (t := T) hMr.t2 (by omega)
   conv => whnf
   refine must_intro (decide_eq_true (by rw [size_ofB, size_ofB]; (try simp only [List.length_append]); omega)) ?_
   rw [ofB_append]
   conv => whnf
   refine br_false (by rw [hk]; rfl) ?_
   conv => whnf
   have hW : lastW 3 T r = vrn 2 ++ textW 3 T r.target := by rw [lastW_gone hk, vrn_small (by decide)]; rfl
   refine ⟨hol.symm, by rw [hol, bytes_str]; simp only [List.length_cons, List.length_nil]; omega, ?_⟩
   conv => whnf
   rw [hP, hW] at h
   exact h
def cO (b : B) (at_ : Nat) : AObj := .cells 354 [.sl none 1 (byteEls b), vi (at_ : Int), vi 0]
theorem cNew_calls (b : B) (hb : b.length < 1000000) {R} (h : R (.ptr 0 0) [cO b 0]) : ACalls Tryz.prog 234 [.sl none 1 (byteEls b), vi 0] [] R := by
 refine acalls_of_xwp (an := an234) tab_ok Tryz.func234 ?_
 have hbl := bel_length b
 conv => whnf
 refine bClone_calls b (by omega) ?_
 conv => whnf
 exact h
theorem one_u64 (p q : B) (n : Nat) (hn : n < 18446744073709551616) (hl : p.length + q.length < 10000000) {R} (h : R (un n) [cO (p ++ vrn n ++ q) (p.length + (vrn n).length)]) :
  ACalls Tryz.prog 262 [.ptr 0 0, .fn (.func 258) [] []] [cO (p ++ vrn n ++ q) p.length] R := by
 refine acalls_of_xwp (an := an262) tab_ok Tryz.func262 ?_
 conv => whnf
 refine vGet_calls p q n hn (by omega) ?_
 conv => whnf
 exact h
theorem Number_calls (p q : B) (n : Nat) (hn : n < 18446744073709551616) (hl : p.length + q.length < 10000000) {R} (h : R (un n) [cO (p ++ vrn n ++ q) (p.length + (vrn n).length)]) :
  ACalls Tryz.prog 251 [.ptr 0 0] [cO (p ++ vrn n ++ q) p.length] R := by
 refine acalls_of_xwp (an := an251) tab_ok Tryz.func251 ?_
 conv => whnf
 refine one_u64 p q n hn hl ?_
 conv => whnf
 exact h
theorem byte1 (c : UInt8) (q : B) {R} (h : R (.tup [.val (.int .u8 (c.toNat : Int)), vi 1, vi 0]) []) (hq : q.length < 1000000) :
  ACalls Tryz.prog 261 [.sl none 1 (byteEls (c :: q)), vi 0] [] R := by
 refine acalls_of_xwp (an := an261) tab_ok Tryz.func261 ?_
 have hbl := bel_length (c :: q)
 conv => whnf
 exact h
theorem Byte_calls (c : UInt8) (q : B) (hq : q.length < 1000000) {R} (h : R (.val (.int .u8 (c.toNat : Int))) [cO (c :: q) 1]) :
  ACalls Tryz.prog 250 [.ptr 0 0] [cO (c :: q) 0] R := by
 refine acalls_of_xwp (an := an250) tab_ok Tryz.func250 ?_
 conv => whnf
 refine acalls_of_xwp (an := an260) tab_ok Tryz.func260 ?_
 conv => whnf
 refine byte1 c q ?_ hq
 conv => whnf
 exact h
theorem text1 (p q s : B) (hs : s.length ≤ 64) (hl : p.length + q.length < 10000000) {R} (h : R (.tup [vs s, vi ((p.length + (blobP s).length : Nat) : Int), vi 0]) []) :
  ACalls Tryz.prog 266 [.sl none 1 (byteEls (p ++ blobP s ++ q)), vi (p.length : Int), .cptr [vi 64] 0] [] R := by
 refine acalls_of_xwp (an := an266) tab_ok Tryz.func266 ?_
 conv => whnf
 refine (show ACalls Tryz.prog 247 [.sl none 1 (byteEls (p ++ blobP s ++ q)), vi (p.length : Int), vi ((64 : Nat) : Int)] [] _ from ?_)
 refine bGet_calls p q s 64 hs (by omega) (by omega) ?_
 conv => whnf
 exact h
theorem cText_calls (p q s : B) (hs : s.length ≤ 64) (hl : p.length + q.length < 10000000) {R} (h : R (vs s) [cO (p ++ blobP s ++ q) (p.length + (blobP s).length)]) :
  ACalls Tryz.prog 259 [.ptr 0 0, vi 64] [cO (p ++ blobP s ++ q) p.length] R := by
 refine acalls_of_xwp (an := an259) tab_ok Tryz.func259 ?_
 conv => whnf
 refine acalls_of_xwp (an := an265) tab_ok Tryz.func265 ?_
 conv => whnf
 refine text1 p q s hs hl ?_
 conv => whnf
 exact h
theorem Err_calls (b : B) (n : Nat) {R} (h : R (vi 0) [cO b n]) : ACalls Tryz.prog 252 [.ptr 0 0] [cO b n] R := by
 refine acalls_of_xwp (an := an252) tab_ok Tryz.func252 ?_
 conv => whnf
 exact h
theorem num_at {P A Q : B} {n : Nat} (hP : P = A ++ vrn n ++ Q) (hn : n < 18446744073709551616) (hl : P.length < 1000000) {R} (h : R (un n) [cO P (A ++ vrn n).length]) :
  ACalls Tryz.prog 251 [.ptr 0 0] [cO P A.length] R := by
 subst hP
 rw [show (A ++ vrn n).length = A.length + (vrn n).length from List.length_append] at h
 exact Number_calls A Q n hn (by simp at hl; omega) h
def rdr : AV := .agg [.ptr 0 0, .ptr 1 0]
theorem rtext_O (b : B) (l : List B) (a i : Nat) (hi : i < l.length) (hl : l.length < 1000000) {R} (h : R (vs l[i]) [cO b a, tblO 2 3 l, tblR l, tblM l]) :
  ACalls Tryz.prog 254 [rdr, un i] [cO b a, tblO 2 3 l, tblR l, tblM l] R := by
 refine acalls_of_xwp (an := an254) tab_ok Tryz.func254 ?_
 conv => whnf
 refine tText_calls l i hi hl ?_
 conv => whnf
 exact h
theorem at_idx {l : List B} {s : B} (hs : s ∈ l) : ∃ h : l.idxOf s < l.length, l[l.idxOf s] = s := ⟨List.idxOf_lt_length_of_mem hs, List.getElem_idxOf (List.idxOf_lt_length_of_mem hs)⟩
theorem rknown_O {P A Q : B} {l : List B} {s : B} (hs : s ∈ l) (hP : P = A ++ vrn (l.idxOf s) ++ Q) (hl : P.length < 1000000) (hll : l.length < 1000000) {R} (h : R (vs s) [cO P (A ++ vrn (l.idxOf s)).length, tblO 2 3 l, tblR l, tblM l]) :
  ACalls Tryz.prog 248 [rdr] [cO P A.length, tblO 2 3 l, tblR l, tblM l] R := by
 refine acalls_of_xwp (an := an248) tab_ok Tryz.func248 ?_
 obtain ⟨hi, he⟩ := at_idx hs
 conv => whnf
 refine ⟨?_, ?_, trivial⟩
 ·conv => whnf
  refine ⟨?_, trivial⟩
  conv => whnf
  refine ⟨?_, trivial⟩
  conv => whnf
  refine num_at hP (by omega) hl ?_
  conv => whnf
  refine ⟨?_, trivial⟩
  conv => whnf
  refine rtext_O P l _ (l.idxOf s) hi hll ?_
  rw [he]
  conv => whnf
  exact h
 ·conv => whnf
  refine ⟨?_, ?_, trivial⟩
  ·conv => whnf
   refine ⟨?_, trivial⟩
   conv => whnf
   refine num_at hP (by omega) hl ?_
   conv => whnf
   refine ⟨?_, trivial⟩
   conv => whnf
   refine rtext_O P l _ (l.idxOf s) hi hll ?_
   rw [he]
   conv => whnf
   exact h
  ·conv => whnf
   refine num_at hP (by omega) hl ?_
   conv => whnf
   refine ⟨?_, trivial⟩
   conv => whnf
   refine ⟨?_, trivial⟩
   conv => whnf
   refine rtext_O P l _ (l.idxOf s) hi hll ?_
   rw [he]
   conv => whnf
   exact h
theorem rblob_F {P A Q s : B} (hs : s.length ≤ 64) (hP : P = A ++ blobP s ++ Q) (hl : P.length < 1000000) {R} (h : R (vs s) [cO P (A ++ blobP s).length, tblF]) :
  ACalls Tryz.prog 249 [rdr] [cO P A.length, tblF] R := by
 refine acalls_of_xwp (an := an249) tab_ok Tryz.func249 ?_
 subst hP
 rw [show (A ++ blobP s).length = A.length + (blobP s).length from List.length_append] at h
 conv => whnf
 refine cText_calls A Q s hs (by simp at hl; omega) ?_
 conv => whnf
 exact h
theorem rdep_1 {P A Q : B} {d : Dp} (hs : d.name.length ≤ 64) (ho : d.order = false) (hP : P = A ++ blobP d.name ++ Q) (hl : P.length < 1000000) {R} (h : R (.agg [vs d.name, un 0, .val (.bool d.order)]) [cO P (A ++ blobP d.name).length, tblF]) :
  ACalls Tryz.prog 253 [rdr, vi 1, .fn (.func 249) [rdr] []] [cO P A.length, tblF] R := by
 refine acalls_of_xwp (an := an253) tab_ok Tryz.func253 ?_
 rw [ho] at h
 conv => whnf
 refine rblob_F hs hP hl ?_
 conv => whnf
 exact h
theorem rdep_2 {P A Q : B} {l : List B} {d : Dp} (hs : d.name ∈ l) (ho : d.order = false) (hP : P = A ++ vrn (l.idxOf d.name) ++ Q) (hl : P.length < 1000000) (hll : l.length < 1000000) {R} (h : R (.agg [vs d.name, un 0, .val (.bool d.order)]) [cO P (A ++ vrn (l.idxOf d.name)).length, tblO 2 3 l, tblR l, tblM l]) :
  ACalls Tryz.prog 253 [rdr, vi 2, .fn (.func 248) [rdr] []] [cO P A.length, tblO 2 3 l, tblR l, tblM l] R := by
 refine acalls_of_xwp (an := an253) tab_ok Tryz.func253 ?_
 rw [ho] at h
 conv => whnf
 refine rknown_O hs hP hl hll ?_
 conv => whnf
 exact h
theorem rdep_3 {P A Q : B} {l : List B} {d : Dp} (hs : d.name ∈ l) (hP : P = A ++ vrn (depN l d) ++ Q) (hl : P.length < 1000000) (hll : l.length < 1000000) {R} (h : R (.agg [vs d.name, un 0, .val (.bool d.order)]) [cO P (A ++ vrn (depN l d)).length, tblO 2 3 l, tblR l, tblM l]) :
  ACalls Tryz.prog 253 [rdr, vi 3, .fn (.func 248) [rdr] []] [cO P A.length, tblO 2 3 l, tblR l, tblM l] R := by
 refine acalls_of_xwp (an := an253) tab_ok Tryz.func253 ?_
 obtain ⟨hi, he⟩ := at_idx hs
 have hN : depN l d < 18446744073709551616 := by unfold depN; split <;> omega
 have e1 : IntKind.u64.wrap (((depN l d : Nat) : Int).tdiv 2) = ((l.idxOf d.name : Nat) : Int) := by
  rw [Int.tdiv_eq_ediv_of_nonneg (Int.natCast_nonneg _)]
  show (((depN l d : Nat) : Int) / 2) % 18446744073709551616 = _
  unfold depN
  split <;> omega
 have e2 : (((depN l d : Nat) : Int).tmod 2 == 1) = d.order := by
  rw [Int.tmod_eq_emod_of_nonneg (Int.natCast_nonneg _)]
  unfold depN
  cases d.order <;> simp <;> omega
 conv => whnf
 refine num_at hP hN hl ?_
 conv => whnf
 rw [e1]
 refine rtext_O P l _ (l.idxOf d.name) hi hll ?_
 rw [he]
 conv => whnf
 rw [e2]
 exact h
end Go.Abs
end
